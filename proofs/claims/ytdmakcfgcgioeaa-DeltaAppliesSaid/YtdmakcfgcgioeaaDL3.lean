/- Delta: the walk of DeltaApplies. -/
import Derived.Test.YtdmakcfgcgioeaaDAwake
import Derived.Test.YtdmakcfgcgioeaaDLap
namespace Go.Proofs.Ytdmakcfgcgioeaa
open Go.RowKit Go.Maps
set_option linter.unusedSimpArgs false
set_option linter.unusedVariables false
set_option maxRecDepth 100000
theorem Rd.take {W : World} {o : Option Addr} {n cap : Nat} {l : List Ed} (h : Rd W o n cap (l.flatMap ceE)) (hl : l.length = n) (k : Nat) (hk : k ≤ n) (hk0 : 0 < k) : Rd W o k cap ((l.take k).flatMap ceE) := by
  obtain ⟨h1, h2, b, off, h3, h4⟩ := h
  refine ⟨by omega, h2, b, off, fun _ => h3 (by omega), fun j u hu => ?_⟩
  rw [flat_take lenE _ _ (by omega), List.getElem?_take] at hu
  split at hu
  · exact h4 j u hu
  · cases hu
set_option maxHeartbeats 4000000 in
theorem applies_c (w : World) {C : Cf} {vp ve vw vt : Value} (h : RC w C vp ve vw vt) (hbd : Bd C) {K : Nat} (hbt : BT K C.tb) {ol : Option Addr} {cl : Nat} {l : List Ed} (hr : Rd w ol l.length cl (l.flatMap ceE)) (hK : K + 30 ≤ 1466015503701) :
    Calls Try.prog 3 #[.agg #[vp, .int .i64 C.ten, ve, vw, vt], .slice ol l.length cl] w fun e w' => e = .returned (.bool true) ∧ RowKit.Below w.heap.size w w' := by
  obtain ⟨op, cp, oe, ce, ow, cw, ot, ct, rfl, rfl, rfl, rfl⟩ := h.forms
  obtain ⟨W, hW⟩ : ∃ W, Hid (W = w.alloc (.cells #[.slice op C.pt.length cp, .int .i64 C.ten, .slice oe C.pe.length ce, .slice ow C.wy.length cw, .slice ot C.tb.length ct] 31)) := ⟨_, Lib.hid rfl⟩
  have hbx : RowKit.Below w.heap.size w W := by rw [hW.out]; exact below_al (Below.refl _ _) _
  have hm0 : W.heap[w.heap.size]? = some (.cells #[.slice op C.pt.length cp, .int .i64 C.ten, .slice oe C.pe.length ce, .slice ow C.wy.length cw, .slice ot C.tb.length ct] 31 (0, 0)) := by rw [hW.out]; exact heap_alloc_new w _
  have HM0 := Lib.hid hm0
  have hrc := h.below hbx
  have hltW : w.heap.size < W.heap.size := by rw [hW.out]; simp
  obtain ⟨n, hn⟩ : ∃ n, Hid (l.length = n) := ⟨_, Lib.hid rfl⟩
  rw [hn.out] at hr ⊢
  have hr1 := hr.1
  have hr2 := hr.2.1
  simp only [maxLen] at hr2
  have HR := Lib.hid hr
  have HRC := Lib.hid hrc
  have HBD := Lib.hid hbd
  have HBT := Lib.hid hbt
  clear h hrc hr hbd hbt
  go_enter Try.func3, Try.ntmps3
  refine wp_hide ?_
  intro ZZ HZZ
  go_upto_if 12 with (fail)
  rw [← hW.out]
  go_cut [1] from 10 to 14 (fun v1 wx => ∃ L : List Ed, v1 = .slice ol L.length cl ∧ L.length ≤ 30 ∧ Rd W ol L.length cl (L.flatMap ceE) ∧ wx = W)
  case first =>
    by_cases hgt : 30 < n
    · have hgI : (30 : Int) < (n : Int) := by omega
      have hgB : decide ((30 : Int) < (n : Int)) = true := decide_eq_true hgI
      have hgN : decide (30 < n) = true := decide_eq_true hgt
      go_wp2_with fail
      go_meet
      case rel =>
        have ht : (l.take 30).length = 30 := by rw [List.length_take, hn.out]; omega
        refine ⟨l.take 30, by rw [ht], by omega, ?_, rfl⟩
        rw [ht]
        exact (HR.out.take hn.out 30 (by omega) (by decide)).below hbx
    · have hgI : ¬ (30 : Int) < (n : Int) := by omega
      have hgB : decide ((30 : Int) < (n : Int)) = false := decide_eq_false hgI
      have hgN : decide (30 < n) = false := decide_eq_false hgt
      go_wp2_with fail
      go_meet
      case rel => exact ⟨l, by rw [hn.out], by rw [hn.out]; omega, by rw [hn.out]; exact HR.out.below hbx, rfl⟩
  case rest =>
  obtain ⟨L, rfl, hL, hrd, hwW⟩ := hcut
  rename_i Kc hKc
  refine hKc _ _ ?_
  clear hKc HR
  rw [hwW]
  clear hwW
  have HRD := Lib.hid hrd
  have hcp := copy_c W HRC.out HBD.out
  have HCP := Lib.hid hcp
  clear hrd hcp
  have y0 : W.cell? ⟨w.heap.size, 0, none⟩ = some (.slice op C.pt.length cp) := (cell_b HM0.out).trans rfl
  have y1 : W.cell? ⟨w.heap.size, 1, none⟩ = some (.int .i64 C.ten) := (cell_b HM0.out).trans rfl
  have y2 : W.cell? ⟨w.heap.size, 2, none⟩ = some (.slice oe C.pe.length ce) := (cell_b HM0.out).trans rfl
  have y3 : W.cell? ⟨w.heap.size, 3, none⟩ = some (.slice ow C.wy.length cw) := (cell_b HM0.out).trans rfl
  have y4 : W.cell? ⟨w.heap.size, 4, none⟩ = some (.slice ot C.tb.length ct) := (cell_b HM0.out).trans rfl
  go_wp2_with fail
  refine HCP.out.mono ?_
  rintro e w1 ⟨vp, ve, vw, vt, m, rfl, hoc, hb1⟩
  have hro := hoc.rc
  obtain ⟨o1, c1, o2, c2, o3, c3, o4, c4, rfl, rfl, rfl, rfl⟩ := hro.forms
  have HRO := Lib.hid hro
  have m0 := (hb1.block _ hltW).trans HM0.out
  have hs1 := hb1.size
  clear hoc hro HCP y0 y1 y2 y3 y4
  go_upto_region 4 with (fail)
  refine wp_world (fun V => V.heap[w.heap.size]? = some (.cells #[.slice op C.pt.length cp, .int .i64 C.ten, .slice oe C.pe.length ce, .slice ow C.wy.length cw, .slice ot C.tb.length ct] 31 (0, 0)) ∧ V.heap[w1.heap.size]? = some (.cells #[.slice o1 C.pt.length c1, .int .i64 C.ten, .slice o2 C.pe.length c2, .slice o3 C.wy.length c3, .slice o4 C.tb.length c4] 31 (0, 0)) ∧ RowKit.Below w1.heap.size w1 V ∧ w1.heap.size < V.heap.size) ⟨(al_lt' (by omega)).trans m0, heap_alloc_new w1 _, below_al (Below.refl _ _) _, by simp⟩ ?_
  clear m0
  rintro W1 ⟨m0, m1, hbW1, hlt1⟩
  have hbA1 := below_st hb1 hbW1
  have HM1 := Lib.hid m1
  have HM01 := Lib.hid m0
  obtain ⟨D, hD⟩ : ∃ D, Hid (applyF C L = D) := ⟨_, Lib.hid rfl⟩
  obtain ⟨en, hen⟩ : ∃ en, Hid ((runF C.tb L).1 = en) := ⟨_, Lib.hid rfl⟩
  have hap := apply_c W1 (HRC.out.below hbA1) HBD.out HBT.out (HRD.out.below hbA1) (by omega)
  rw [hD.out, hen.out] at hap
  have HAP := Lib.hid hap
  clear hap m1
  have y0 : W1.cell? ⟨w.heap.size, 0, none⟩ = some (.slice op C.pt.length cp) := (cell_b m0).trans rfl
  have y1 : W1.cell? ⟨w.heap.size, 1, none⟩ = some (.int .i64 C.ten) := (cell_b m0).trans rfl
  have y2 : W1.cell? ⟨w.heap.size, 2, none⟩ = some (.slice oe C.pe.length ce) := (cell_b m0).trans rfl
  have y3 : W1.cell? ⟨w.heap.size, 3, none⟩ = some (.slice ow C.wy.length cw) := (cell_b m0).trans rfl
  have y4 : W1.cell? ⟨w.heap.size, 4, none⟩ = some (.slice ot C.tb.length ct) := (cell_b m0).trans rfl
  go_wp2_with fail
  refine HAP.out.mono ?_
  rintro e w2 ⟨vp, ve, vw, vt, m, rfl, hoc, hb2⟩
  have hrx := hoc.rc
  obtain ⟨p1, q1, p2, q2, p3, q3, p4, q4, rfl, rfl, rfl, rfl⟩ := hrx.forms
  have HRX := Lib.hid hrx
  have m0 := (hb2.block _ (by omega)).trans HM01.out
  have m1 := (hb2.block _ hlt1).trans HM1.out
  have hs2 := hb2.size
  clear hoc hrx HAP y0 y1 y2 y3 y4
  go_upto_region 5 with (fail)
  refine wp_world (fun V => V.heap[w.heap.size]? = some (.cells #[.slice op C.pt.length cp, .int .i64 C.ten, .slice oe C.pe.length ce, .slice ow C.wy.length cw, .slice ot C.tb.length ct] 31 (0, 0)) ∧ V.heap[w1.heap.size]? = some (.cells #[.slice o1 C.pt.length c1, .int .i64 C.ten, .slice o2 C.pe.length c2, .slice o3 C.wy.length c3, .slice o4 C.tb.length c4] 31 (0, 0)) ∧ V.heap[w2.heap.size]? = some (.cells #[.slice p1 D.pt.length q1, .int .i64 D.ten, .slice p2 D.pe.length q2, .slice p3 D.wy.length q3, .slice p4 D.tb.length q4] 31 (0, 0)) ∧ RowKit.Below w2.heap.size w2 V ∧ w2.heap.size < V.heap.size) ⟨(al_lt' (by omega)).trans m0, (al_lt' (by omega)).trans m1, heap_alloc_new w2 _, below_al (Below.refl _ _) _, by simp⟩ ?_
  clear m0 m1
  rintro W2 ⟨m0, m1, m2, hbW2, hlt2⟩
  have hb22 := below_st hb2 hbW2
  have hbA2 := below_st hbA1 hb22
  have HM02 := Lib.hid m0
  have HM12 := Lib.hid m1
  have HM22 := Lib.hid m2
  have hap := lapply_c W2 (HRC.out.below hbA2) HBD.out HBT.out (HRD.out.below hbA2) (by omega)
  rw [hD.out, hen.out] at hap
  have HAP := Lib.hid hap
  clear hap m1 m2
  have y0 : W2.cell? ⟨w.heap.size, 0, none⟩ = some (.slice op C.pt.length cp) := (cell_b m0).trans rfl
  have y1 : W2.cell? ⟨w.heap.size, 1, none⟩ = some (.int .i64 C.ten) := (cell_b m0).trans rfl
  have y2 : W2.cell? ⟨w.heap.size, 2, none⟩ = some (.slice oe C.pe.length ce) := (cell_b m0).trans rfl
  have y3 : W2.cell? ⟨w.heap.size, 3, none⟩ = some (.slice ow C.wy.length cw) := (cell_b m0).trans rfl
  have y4 : W2.cell? ⟨w.heap.size, 4, none⟩ = some (.slice ot C.tb.length ct) := (cell_b m0).trans rfl
  go_wp2_with fail
  refine HAP.out.mono ?_
  rintro e w3 ⟨vp, ve, vw, vt, m, rfl, hoc, hb3⟩
  have hry := hoc.rc
  obtain ⟨r1, s1, r2, s2, r3, s3, r4, s4, rfl, rfl, rfl, rfl⟩ := hry.forms
  have HRY := Lib.hid hry
  have m0 := (hb3.block _ (by omega)).trans HM02.out
  have m1 := (hb3.block _ (by omega)).trans HM12.out
  have m2 := (hb3.block _ hlt2).trans HM22.out
  have hs3 := hb3.size
  clear hoc hry HAP y0 y1 y2 y3 y4
  go_upto_region 6 with (fail)
  refine wp_world (fun V => V.heap[w.heap.size]? = some (.cells #[.slice op C.pt.length cp, .int .i64 C.ten, .slice oe C.pe.length ce, .slice ow C.wy.length cw, .slice ot C.tb.length ct] 31 (0, 0)) ∧ V.heap[w1.heap.size]? = some (.cells #[.slice o1 C.pt.length c1, .int .i64 C.ten, .slice o2 C.pe.length c2, .slice o3 C.wy.length c3, .slice o4 C.tb.length c4] 31 (0, 0)) ∧ V.heap[w2.heap.size]? = some (.cells #[.slice p1 D.pt.length q1, .int .i64 D.ten, .slice p2 D.pe.length q2, .slice p3 D.wy.length q3, .slice p4 D.tb.length q4] 31 (0, 0)) ∧ V.heap[w3.heap.size]? = some (.cells #[.slice r1 D.pt.length s1, .int .i64 D.ten, .slice r2 D.pe.length s2, .slice r3 D.wy.length s3, .slice r4 D.tb.length s4] 31 (0, 0)) ∧ RowKit.Below w3.heap.size w3 V ∧ w3.heap.size < V.heap.size) ⟨(al_lt' (by omega)).trans m0, (al_lt' (by omega)).trans m1, (al_lt' (by omega)).trans m2, heap_alloc_new w3 _, below_al (Below.refl _ _) _, by simp⟩ ?_
  clear m0 m1 m2
  rintro W3 ⟨m0, m1, m2, m3, hbW3, hlt3⟩
  have hb33 := below_st hb3 hbW3
  have hbA3 := below_st hbA2 hb33
  have HM03 := Lib.hid m0
  have HM13 := Lib.hid m1
  have HM23 := Lib.hid m2
  have HM33 := Lib.hid m3
  have haw := awake_c W3
  have HAW := Lib.hid haw
  clear haw m0 m1 m2 m3
  go_wp2_with fail
  refine HAW.out.mono ?_
  rintro e w4 ⟨rfl, hb4⟩
  have m2 := (hb4.block _ (by omega)).trans HM23.out
  have m3 := (hb4.block _ hlt3).trans HM33.out
  have x0 : w4.cell? ⟨w2.heap.size, 0, none⟩ = some (.slice p1 D.pt.length q1) := (cell_b m2).trans rfl
  have x1 : w4.cell? ⟨w2.heap.size, 1, none⟩ = some (.int .i64 D.ten) := (cell_b m2).trans rfl
  have x2 : w4.cell? ⟨w2.heap.size, 2, none⟩ = some (.slice p2 D.pe.length q2) := (cell_b m2).trans rfl
  have x3 : w4.cell? ⟨w2.heap.size, 3, none⟩ = some (.slice p3 D.wy.length q3) := (cell_b m2).trans rfl
  have x4 : w4.cell? ⟨w2.heap.size, 4, none⟩ = some (.slice p4 D.tb.length q4) := (cell_b m2).trans rfl
  have z0 : w4.cell? ⟨w3.heap.size, 0, none⟩ = some (.slice r1 D.pt.length s1) := (cell_b m3).trans rfl
  have z1 : w4.cell? ⟨w3.heap.size, 1, none⟩ = some (.int .i64 D.ten) := (cell_b m3).trans rfl
  have z2 : w4.cell? ⟨w3.heap.size, 2, none⟩ = some (.slice r2 D.pe.length s2) := (cell_b m3).trans rfl
  have z3 : w4.cell? ⟨w3.heap.size, 3, none⟩ = some (.slice r3 D.wy.length s3) := (cell_b m3).trans rfl
  have z4 : w4.cell? ⟨w3.heap.size, 4, none⟩ = some (.slice r4 D.tb.length s4) := (cell_b m3).trans rfl
  have hee : (en == en) = true := by simp
  have hsa := same_c w4 (HRX.out.below (below_st hbW2 (below_st hb33 hb4))) (HRY.out.below (below_st hbW3 hb4))
  rw [show decide (D = D) = true from by simp] at hsa
  have HSA := Lib.hid hsa
  clear m2 m3 hsa HAW
  go_wp2_with fail
  refine HSA.out.mono ?_
  rintro e w5 ⟨rfl, hb5⟩
  have hb45 := below_st hb4 hb5
  have m0 := (hb45.block _ (by omega)).trans HM03.out
  have m1 := (hb45.block _ (by omega)).trans HM13.out
  clear x0 x1 x2 x3 x4 z0 z1 z2 z3 z4
  have y0 : w5.cell? ⟨w.heap.size, 0, none⟩ = some (.slice op C.pt.length cp) := (cell_b m0).trans rfl
  have y1 : w5.cell? ⟨w.heap.size, 1, none⟩ = some (.int .i64 C.ten) := (cell_b m0).trans rfl
  have y2 : w5.cell? ⟨w.heap.size, 2, none⟩ = some (.slice oe C.pe.length ce) := (cell_b m0).trans rfl
  have y3 : w5.cell? ⟨w.heap.size, 3, none⟩ = some (.slice ow C.wy.length cw) := (cell_b m0).trans rfl
  have y4 : w5.cell? ⟨w.heap.size, 4, none⟩ = some (.slice ot C.tb.length ct) := (cell_b m0).trans rfl
  have z0 : w5.cell? ⟨w1.heap.size, 0, none⟩ = some (.slice o1 C.pt.length c1) := (cell_b m1).trans rfl
  have z1 : w5.cell? ⟨w1.heap.size, 1, none⟩ = some (.int .i64 C.ten) := (cell_b m1).trans rfl
  have z2 : w5.cell? ⟨w1.heap.size, 2, none⟩ = some (.slice o2 C.pe.length c2) := (cell_b m1).trans rfl
  have z3 : w5.cell? ⟨w1.heap.size, 3, none⟩ = some (.slice o3 C.wy.length c3) := (cell_b m1).trans rfl
  have z4 : w5.cell? ⟨w1.heap.size, 4, none⟩ = some (.slice o4 C.tb.length c4) := (cell_b m1).trans rfl
  have hsa := same_c w5 (HRC.out.below (below_st hbA3 hb45)) (HRO.out.below (below_st hbW1 (below_st hb22 (below_st hb33 hb45))))
  rw [show decide (C = C) = true from by simp] at hsa
  have HSB := Lib.hid hsa
  clear m0 m1 hsa HSA
  go_wp2_with fail
  refine HSB.out.mono ?_
  rintro e w6 ⟨rfl, hb6⟩
  go_wp2_with fail
  (try simp only [Exit.inBlock, Exit.then])
  rw [HZZ.out]
  refine bodyPost_ret (results_tmp rfl _ _ _) rfl ?_
  exact ⟨rfl, below_st (below_st hbx (below_st hbA3 hb45)) hb6⟩
end Go.Proofs.Ytdmakcfgcgioeaa
