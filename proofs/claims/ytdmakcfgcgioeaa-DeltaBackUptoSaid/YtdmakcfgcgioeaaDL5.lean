/- Delta: the walk of DeltaBack. -/
import Derived.Test.YtdmakcfgcgioeaaDL3
import Derived.Test.YtdmakcfgcgioeaaDL6
import Derived.Test.YtdmakcfgcgioeaaDPl3
namespace Go.Proofs.Ytdmakcfgcgioeaa
open Go.RowKit Go.Maps
set_option linter.unusedSimpArgs false
set_option linter.unusedVariables false
set_option maxRecDepth 100000
theorem four_cells {w : World} {g : Nat} {t : TypeId} {fr : Nat × Nat} {a b c d e : Value} (a' b' c' d' : Value) (h : w.heap[g]? = some (.cells #[a, b, c, d, e] t fr)) :
    ((((w.setCell ⟨g, 0, none⟩ a').setCell ⟨g, 1, none⟩ b').setCell ⟨g, 2, none⟩ c').setCell ⟨g, 3, none⟩ d').heap[g]? = some (.cells #[a', b', c', d', e] t fr) :=
  (sc_at9 (o := 3) (v := d') (sc_at9 (o := 2) (v := c') (sc_at9 (o := 1) (v := b') (sc_at9 (o := 0) (v := a') h)))).trans rfl
theorem BT.run {K : Nat} : ∀ {l : List Ed} {T : List (List (List Ru))}, BT K T → BT (K + l.length) (runF T l).2
  | [], T, h => h
  | x :: l, T, h => by
    simp only [runF]
    split
    · have := BT.run (l := l) (h.one x)
      rw [show K + (x :: l).length = K + 1 + l.length by simp; omega]
      exact this
    · exact ⟨h.n, h.ns, fun t ht l' hl => Nat.le_trans (h.nl t ht l' hl) (Nat.le_add_right _ _)⟩
theorem backF_code (T : List (List (List Ru))) (l : List Ed) : (backF T l).1 = (runF T l).1 := by
  unfold backF
  by_cases h : (runF T l).1 = 0
  · rw [if_pos h]; exact h.symm
  · rw [if_neg h]
set_option maxHeartbeats 8000000 in
theorem back5_c (w : World) {C D : Cf} {va vb vc vd ua ub uc ud : Value} (ha : RC w C va vb vc vd) (hb : RC w D ua ub uc ud) (hbdC : Bd C) (hbdD : Bd D) {K : Nat} (hbt : BT K C.tb) (hK : K ≤ 2000000) (hbA : Bt C.tb) (hbB : Bt D.tb) (hsz : szT C.tb ≤ 2000000 ∧ szT D.tb ≤ 2000000) {ol : Option Addr} {cl : Nat} {l : List Ed} (hr : Rd w ol l.length cl (l.flatMap ceE)) :
    Calls Try.prog 5 #[.agg #[va, .int .i64 C.ten, vb, vc, vd], .agg #[ua, .int .i64 D.ten, ub, uc, ud], .slice ol l.length cl] w fun e w' => e = .returned (.bool true) ∧ RowKit.Below w.heap.size w w' := by
  obtain ⟨o1, c1, o2, c2, o3, c3, o4, c4, rfl, rfl, rfl, rfl⟩ := ha.forms
  obtain ⟨p1, d1, p2, d2, p3, d3, p4, d4, rfl, rfl, rfl, rfl⟩ := hb.forms
  obtain ⟨sA, sB⟩ := hsz
  obtain ⟨W, hW⟩ : ∃ W, Hid (W = (w.alloc (.cells #[.slice o1 C.pt.length c1, .int .i64 C.ten, .slice o2 C.pe.length c2, .slice o3 C.wy.length c3, .slice o4 C.tb.length c4] 31)).alloc (.cells #[.slice p1 D.pt.length d1, .int .i64 D.ten, .slice p2 D.pe.length d2, .slice p3 D.wy.length d3, .slice p4 D.tb.length d4] 31)) := ⟨_, Lib.hid rfl⟩
  have hbx : RowKit.Below w.heap.size w W := by rw [hW.out]; exact below2 _ _ _
  have hm0 : W.heap[w.heap.size]? = some (.cells #[.slice o1 C.pt.length c1, .int .i64 C.ten, .slice o2 C.pe.length c2, .slice o3 C.wy.length c3, .slice o4 C.tb.length c4] 31 (0, 0)) := by rw [hW.out]; exact hpm1 w _ _
  have hm1 : W.heap[w.heap.size + 1]? = some (.cells #[.slice p1 D.pt.length d1, .int .i64 D.ten, .slice p2 D.pe.length d2, .slice p3 D.wy.length d3, .slice p4 D.tb.length d4] 31 (0, 0)) := by rw [hW.out]; exact hpm2 w _ _
  have hltW : w.heap.size + 1 < W.heap.size := by rw [hW.out]; simp
  have HM0 := Lib.hid hm0
  have HM1 := Lib.hid hm1
  have HA := Lib.hid (ha.below hbx)
  have HB := Lib.hid (hb.below hbx)
  have HBC := Lib.hid hbdC
  have HBD := Lib.hid hbdD
  have HBT := Lib.hid hbt
  have HBA := Lib.hid hbA
  have HBB := Lib.hid hbB
  obtain ⟨n, hn⟩ : ∃ n, Hid (l.length = n) := ⟨_, Lib.hid rfl⟩
  rw [hn.out] at hr ⊢
  have hr1 := hr.1
  have hr2 := hr.2.1
  simp only [maxLen] at hr2
  have HR := Lib.hid hr
  clear ha hb hbdC hbdD hbt hbA hbB hr hm0 hm1
  go_enter Try.func5, Try.ntmps5
  refine wp_hide ?_
  intro ZZ HZZ
  go_upto_if 19 with (fail)
  rw [← hW.out]
  go_cut [2] from 17 to 21 (fun v2 wx => ∃ L : List Ed, v2 = .slice ol L.length cl ∧ L.length ≤ 30 ∧ Rd W ol L.length cl (L.flatMap ceE) ∧ wx = W)
  case first =>
    by_cases hgt : 30 < n
    · have hgI : (30 : Int) < (n : Int) := by omega
      have hgB : decide ((30 : Int) < (n : Int)) = true := decide_eq_true hgI
      have hgN : decide (30 < n) = true := decide_eq_true hgt
      go_wp2_with fail
      go_meet
      case rel =>
        have ht : (l.take 30).length = 30 := by rw [List.length_take, hn.out]; omega
        refine ⟨l.take 30, by rw [ht], by omega, ?_, rfl⟩
        rw [ht]
        exact (HR.out.take hn.out 30 (by omega) (by decide)).below hbx
    · have hgI : ¬ (30 : Int) < (n : Int) := by omega
      have hgB : decide ((30 : Int) < (n : Int)) = false := decide_eq_false hgI
      have hgN : decide (30 < n) = false := decide_eq_false hgt
      go_wp2_with fail
      go_meet
      case rel => exact ⟨l, by rw [hn.out], by rw [hn.out]; omega, by rw [hn.out]; exact HR.out.below hbx, rfl⟩
  case rest =>
  obtain ⟨L, rfl, hL, hrd, hwW⟩ := hcut
  rename_i Kc hKc
  refine hKc _ _ ?_
  clear hKc HR
  rw [hwW]
  clear hwW
  have HRD := Lib.hid hrd
  obtain ⟨X, hX⟩ : ∃ X, Hid (applyF C L = X) := ⟨_, Lib.hid rfl⟩
  obtain ⟨en, hen⟩ : ∃ en, Hid ((runF C.tb L).1 = en) := ⟨_, Lib.hid rfl⟩
  obtain ⟨lb, hlb⟩ : ∃ lb, Hid ((backF C.tb L).2 = lb) := ⟨_, Lib.hid rfl⟩
  obtain ⟨nb, hnb⟩ : ∃ nb, Hid (lb.length = nb) := ⟨_, Lib.hid rfl⟩
  obtain ⟨nL, hnL⟩ : ∃ nL, Hid (L.length = nL) := ⟨_, Lib.hid rfl⟩
  have hap := apply_c W HA.out HBC.out HBT.out hrd (by omega)
  rw [hX.out, hen.out, hnL.out] at hap
  have HAP := Lib.hid hap
  rw [hnL.out] at hL HRD ⊢
  clear hrd hap
  have y0 : W.cell? ⟨w.heap.size, 0, none⟩ = some (.slice o1 C.pt.length c1) := (cell_b HM0.out).trans rfl
  have y1 : W.cell? ⟨w.heap.size, 1, none⟩ = some (.int .i64 C.ten) := (cell_b HM0.out).trans rfl
  have y2 : W.cell? ⟨w.heap.size, 2, none⟩ = some (.slice o2 C.pe.length c2) := (cell_b HM0.out).trans rfl
  have y3 : W.cell? ⟨w.heap.size, 3, none⟩ = some (.slice o3 C.wy.length c3) := (cell_b HM0.out).trans rfl
  have y4 : W.cell? ⟨w.heap.size, 4, none⟩ = some (.slice o4 C.tb.length c4) := (cell_b HM0.out).trans rfl
  go_wp2_with fail
  refine HAP.out.mono ?_
  rintro e w1 ⟨va, vb, vc, vd, m, rfl, hoc, hb1⟩
  have hrx := hoc.rc
  obtain ⟨r1, s1, r2, s2, r3, s3, r4, s4, rfl, rfl, rfl, rfl⟩ := hrx.forms
  have HRX := Lib.hid hrx
  have hs1 := hb1.size
  have m0 := (hb1.block _ (by omega)).trans HM0.out
  have m1 := (hb1.block _ (by omega)).trans HM1.out
  clear hoc hrx HAP y0 y1 y2 y3 y4
  go_upto_region 4 with (fail)
  refine wp_world (fun V => V.heap[w.heap.size]? = some (.cells #[.slice o1 C.pt.length c1, .int .i64 C.ten, .slice o2 C.pe.length c2, .slice o3 C.wy.length c3, .slice o4 C.tb.length c4] 31 (0, 0)) ∧ V.heap[w.heap.size + 1]? = some (.cells #[.slice p1 D.pt.length d1, .int .i64 D.ten, .slice p2 D.pe.length d2, .slice p3 D.wy.length d3, .slice p4 D.tb.length d4] 31 (0, 0)) ∧ V.heap[w1.heap.size]? = some (.cells #[.slice r1 X.pt.length s1, .int .i64 X.ten, .slice r2 X.pe.length s2, .slice r3 X.wy.length s3, .slice r4 X.tb.length s4] 31 (0, 0)) ∧ RowKit.Below w1.heap.size w1 V ∧ w1.heap.size < V.heap.size) ⟨(al_lt' (by omega)).trans m0, (al_lt' (by omega)).trans m1, heap_alloc_new w1 _, below_al (Below.refl _ _) _, by simp⟩ ?_
  clear m0 m1
  rintro W1 ⟨m0, m1, m2, hbW1, hlt1⟩
  have hbA1 := below_st hb1 hbW1
  have HM01 := Lib.hid m0
  have HM11 := Lib.hid m1
  have HM21 := Lib.hid m2
  have y0 : W1.cell? ⟨w.heap.size, 0, none⟩ = some (.slice o1 C.pt.length c1) := (cell_b m0).trans rfl
  have y1 : W1.cell? ⟨w.heap.size, 1, none⟩ = some (.int .i64 C.ten) := (cell_b m0).trans rfl
  have y2 : W1.cell? ⟨w.heap.size, 2, none⟩ = some (.slice o2 C.pe.length c2) := (cell_b m0).trans rfl
  have y3 : W1.cell? ⟨w.heap.size, 3, none⟩ = some (.slice o3 C.wy.length c3) := (cell_b m0).trans rfl
  have y4 : W1.cell? ⟨w.heap.size, 4, none⟩ = some (.slice o4 C.tb.length c4) := (cell_b m0).trans rfl
  have hbk : Calls Try.prog 13 #[.agg #[.slice o1 C.pt.length c1, .int .i64 C.ten, .slice o2 C.pe.length c2, .slice o3 C.wy.length c3, .slice o4 C.tb.length c4], .slice ol nL cl] W1 fun e w' => ∃ o c, e = .returned (.tuple #[.slice o nb c, .int .i64 en]) ∧ Rd w' o nb c (lb.flatMap ceE) ∧ RowKit.Below W1.heap.size W1 w' := by
    have h0 := back_c W1 (HA.out.below hbA1) HBC.out HBT.out (l := L) (ol := ol) (cl := cl) (by rw [hnL.out]; exact HRD.out.below hbA1) (by rw [hnL.out]; omega)
    rw [backF_code, hen.out, hlb.out, hnL.out] at h0
    refine Calls.mono h0 ?_
    rintro e w' ⟨v, rfl, h1, h2⟩
    obtain ⟨o, c, rfl⟩ := Ow.form h1
    have h3 := Ow.rd h1
    rw [hnb.out] at h3
    exact ⟨o, c, by rw [hnb.out], h3, h2⟩
  have HBK := Lib.hid hbk
  clear hbk m0 m1 m2
  go_wp2_with fail
  refine HBK.out.mono ?_
  rintro e w2 ⟨ob, cb, rfl, hrb, hb2⟩
  have HRB := Lib.hid hrb
  have hrb1 := hrb.1
  have hs2 := hb2.size
  have htst : ((en = 0 ∧ nb = nL) ∨ en ≠ 0) := by
    by_cases he : en = 0
    · refine .inl ⟨he, ?_⟩
      rw [← hnb.out, ← hlb.out]
      unfold backF
      rw [if_pos (by rw [hen.out]; exact he), List.length_reverse, turns_len, hnL.out]
    · exact .inr he
  have HTST := Lib.hid htst
  clear hrb htst HBK y0 y1 y2 y3 y4
  go_upto_region 5 with (fail)
  go_cut [51] from 34 to 51 (fun v51 wx => v51 = .bool false ∧ RowKit.Below w2.heap.size w2 wx)
  case first =>
    have haw := awake_c w2
    have HAW := Lib.hid haw
    clear haw
    go_wp2_with fail
    refine HAW.out.mono ?_
    rintro e w3 ⟨rfl, hb3⟩
    have hee : (en != en) = false := by simp
    by_cases hbb : nb = nL
    · have hB : ((nb : Int) != (nL : Int)) = false := by simp; omega
      clear hbb
      go_wp2_with fail
      go_meet
      case rel => exact ⟨rfl, hb3⟩
    · have hB : ((nb : Int) != (nL : Int)) = true := by simp; omega
      have hE : (en == 0) = false := by
        rcases HTST.out with h | h
        · exact absurd h.2 hbb
        · simp; exact h
      clear hbb
      go_wp2_with fail
      go_meet
      case rel => exact ⟨rfl, hb3⟩
  case rest =>
  obtain ⟨rfl, hb3⟩ := hcut
  rename_i Kc hKc
  refine hKc _ _ ?_
  clear hKc
  refine wp_world (fun V => V = wc) rfl ?_
  rintro W3 rfl
  have hb13 := below_st hb2 hb3
  go_upto_if 53 with (fail)
  go_cut [11, 12] from 53 to 67 (fun v11 v12 wx => RowKit.Below W3.heap.size W3 wx)
  case first =>
    by_cases he : en = 0
    rotate_left
    · have hE : (en == 0) = false := by simp; exact he
      clear he
      go_wp2_with fail
      go_meet
      case rel => exact Below.refl _ _
    · have hE : (en == 0) = true := by simp; exact he
      have hx : X = { C with tb := (runF C.tb L).2 } := by rw [← hX.out]; unfold applyF; rw [if_pos (by rw [hen.out]; exact he)]
      have hl : lb = (turns C.tb L).reverse := by rw [← hlb.out]; unfold backF; rw [if_pos (by rw [hen.out]; exact he)]
      have hrun : runF X.tb lb = (0, C.tb) := by
        rw [hx, hl]
        exact run_back (T := C.tb) (l := L) (Prod.ext (by rw [hen.out]; exact he) rfl)
      have hbk : applyF X lb = C := by
        unfold applyF
        rw [hrun, if_pos rfl, hx]
      have hbt2 := HBT.out.run (l := L)
      rw [hnL.out] at hbt2
      have hxt : X.tb = (runF C.tb L).2 := by rw [hx]
      rw [← hxt] at hbt2
      have hbdX : Bd X := by
        have hq := HBC.out
        refine ⟨?_, ?_, ?_, ?_, hbt2.n, hbt2.ns, fun t ht l hl => Nat.le_trans (hbt2.nl t ht l hl) (by omega)⟩ <;> rw [hx]
        · exact hq.pt
        · exact hq.pts
        · exact hq.pe
        · exact hq.wy
      have hap := apply_c W3 (l := lb) (ol := ob) (cl := cb) (HRX.out.below (below_st hbW1 hb13)) hbdX hbt2 (by rw [hnb.out]; exact HRB.out.below hb3) (by rw [hnb.out]; rcases HTST.out with h | h; omega; exact absurd he h)
      rw [hbk, hrun, hnb.out] at hap
      have HAP := Lib.hid hap
      have m0 := (hb13.block _ (by omega)).trans HM01.out
      have m2 := (hb13.block _ hlt1).trans HM21.out
      have x0 : W3.cell? ⟨w1.heap.size, 0, none⟩ = some (.slice r1 X.pt.length s1) := (cell_b m2).trans rfl
      have x1 : W3.cell? ⟨w1.heap.size, 1, none⟩ = some (.int .i64 X.ten) := (cell_b m2).trans rfl
      have x2 : W3.cell? ⟨w1.heap.size, 2, none⟩ = some (.slice r2 X.pe.length s2) := (cell_b m2).trans rfl
      have x3 : W3.cell? ⟨w1.heap.size, 3, none⟩ = some (.slice r3 X.wy.length s3) := (cell_b m2).trans rfl
      have x4 : W3.cell? ⟨w1.heap.size, 4, none⟩ = some (.slice r4 X.tb.length s4) := (cell_b m2).trans rfl
      clear he hx hl hrun hbk hbt2 hxt hbdX hap m2
      go_wp2_with fail
      refine HAP.out.mono ?_
      rintro e w4 ⟨va, vb, vc, vd, m, rfl, hoc, hb4⟩
      have hry := hoc.rc
      obtain ⟨t1, u1, t2, u2, t3, u3, t4, u4, rfl, rfl, rfl, rfl⟩ := hry.forms
      have HRY := Lib.hid hry
      have hs4 := hb4.size
      have hs13 := hb13.size
      have m3 := (hb4.block _ (by omega)).trans m0
      clear hoc hry m0 x0 x1 x2 x3 x4 HAP
      go_upto_region 9 with (fail)
      refine wp_world (fun V => V.heap[w.heap.size]? = some (.cells #[.slice o1 C.pt.length c1, .int .i64 C.ten, .slice o2 C.pe.length c2, .slice o3 C.wy.length c3, .slice o4 C.tb.length c4] 31 (0, 0)) ∧ V.heap[w4.heap.size]? = some (.cells #[.slice t1 C.pt.length u1, .int .i64 C.ten, .slice t2 C.pe.length u2, .slice t3 C.wy.length u3, .slice t4 C.tb.length u4] 31 (0, 0)) ∧ RowKit.Below w4.heap.size w4 V) ⟨(al_lt' (by omega)).trans m3, heap_alloc_new w4 _, below_al (Below.refl _ _) _⟩ ?_
      clear m3
      rintro W4 ⟨m0, m3, hbW4⟩
      have x0 : W4.cell? ⟨w4.heap.size, 0, none⟩ = some (.slice t1 C.pt.length u1) := (cell_b m3).trans rfl
      have x1 : W4.cell? ⟨w4.heap.size, 1, none⟩ = some (.int .i64 C.ten) := (cell_b m3).trans rfl
      have x2 : W4.cell? ⟨w4.heap.size, 2, none⟩ = some (.slice t2 C.pe.length u2) := (cell_b m3).trans rfl
      have x3 : W4.cell? ⟨w4.heap.size, 3, none⟩ = some (.slice t3 C.wy.length u3) := (cell_b m3).trans rfl
      have x4 : W4.cell? ⟨w4.heap.size, 4, none⟩ = some (.slice t4 C.tb.length u4) := (cell_b m3).trans rfl
      have y0 : W4.cell? ⟨w.heap.size, 0, none⟩ = some (.slice o1 C.pt.length c1) := (cell_b m0).trans rfl
      have y1 : W4.cell? ⟨w.heap.size, 1, none⟩ = some (.int .i64 C.ten) := (cell_b m0).trans rfl
      have y2 : W4.cell? ⟨w.heap.size, 2, none⟩ = some (.slice o2 C.pe.length c2) := (cell_b m0).trans rfl
      have y3 : W4.cell? ⟨w.heap.size, 3, none⟩ = some (.slice o3 C.wy.length c3) := (cell_b m0).trans rfl
      have y4 : W4.cell? ⟨w.heap.size, 4, none⟩ = some (.slice o4 C.tb.length c4) := (cell_b m0).trans rfl
      have hb34 := below_st hb4 hbW4
      have hsa := same_c W4 (HRY.out.below hbW4) (HA.out.below (below_st hbA1 (below_st hb13 hb34)))
      rw [show decide (C = C) = true from by simp] at hsa
      have HSA := Lib.hid hsa
      clear hsa m0 m3
      go_wp2_with fail
      refine HSA.out.mono ?_
      rintro e w5 ⟨rfl, hb5⟩
      go_wp2_with fail
      go_meet
      case rel => exact below_st hb34 hb5
  case rest =>
  rename_i Kc hKc
  refine hKc _ _ ?_
  clear hKc
  have hb4 := hcut
  refine wp_world (fun V => V = wc) rfl ?_
  rintro W4 rfl
  have hb14 := below_st hb13 hb4
  have hbA4 := below_st hbA1 hb14
  have hs14 := hb14.size
  have m0 := (hb14.block _ (by omega)).trans HM01.out
  have m1 := (hb14.block _ (by omega)).trans HM11.out
  have hd := diff_cf W4 (HA.out.below hbA4) (HB.out.below hbA4) HBA.out HBB.out (by omega)
  by_cases hs : C.tb.map List.length = D.tb.map List.length
  rotate_left
  · have hR : diffR C.tb D.tb = (1, []) := by unfold diffR; rw [if_neg hs]
    rw [hR] at hd
    have HD := Lib.hid hd
    have y0 : W4.cell? ⟨w.heap.size, 0, none⟩ = some (.slice o1 C.pt.length c1) := (cell_b m0).trans rfl
    have y1 : W4.cell? ⟨w.heap.size, 1, none⟩ = some (.int .i64 C.ten) := (cell_b m0).trans rfl
    have y2 : W4.cell? ⟨w.heap.size, 2, none⟩ = some (.slice o2 C.pe.length c2) := (cell_b m0).trans rfl
    have y3 : W4.cell? ⟨w.heap.size, 3, none⟩ = some (.slice o3 C.wy.length c3) := (cell_b m0).trans rfl
    have y4 : W4.cell? ⟨w.heap.size, 4, none⟩ = some (.slice o4 C.tb.length c4) := (cell_b m0).trans rfl
    have z0 : W4.cell? ⟨w.heap.size + 1, 0, none⟩ = some (.slice p1 D.pt.length d1) := (cell_b m1).trans rfl
    have z1 : W4.cell? ⟨w.heap.size + 1, 1, none⟩ = some (.int .i64 D.ten) := (cell_b m1).trans rfl
    have z2 : W4.cell? ⟨w.heap.size + 1, 2, none⟩ = some (.slice p2 D.pe.length d2) := (cell_b m1).trans rfl
    have z3 : W4.cell? ⟨w.heap.size + 1, 3, none⟩ = some (.slice p3 D.wy.length d3) := (cell_b m1).trans rfl
    have z4 : W4.cell? ⟨w.heap.size + 1, 4, none⟩ = some (.slice p4 D.tb.length d4) := (cell_b m1).trans rfl
    clear hs hR hd m0 m1
    go_wp2_with fail
    refine HD.out.mono ?_
    rintro e w5 ⟨om, cm, rfl, _, hb5⟩
    go_wp2_with fail
    (try simp only [Exit.inBlock, Exit.then])
    rw [HZZ.out]
    refine bodyPost_ret (results_tmp rfl _ _ _) rfl ?_
    exact ⟨rfl, below_st (below_st hbx hbA4) hb5⟩
  · have hR : diffR C.tb D.tb = (0, diffF C.tb D.tb) := by unfold diffR; rw [if_pos hs]
    rw [hR] at hd
    obtain ⟨lm, hlm⟩ : ∃ lm, Hid (diffF C.tb D.tb = lm) := ⟨_, Lib.hid rfl⟩
    obtain ⟨nm, hnm⟩ : ∃ nm, Hid (lm.length = nm) := ⟨_, Lib.hid rfl⟩
    simp only [hlm.out, hnm.out] at hd
    have hle := diffF_len_le C.tb D.tb
    rw [hlm.out, hnm.out] at hle
    have hrun : runF C.tb lm = (0, D.tb) := by rw [← hlm.out]; exact diff_run hs
    have HRUN := Lib.hid hrun
    have HD := Lib.hid hd
    have y0 : W4.cell? ⟨w.heap.size, 0, none⟩ = some (.slice o1 C.pt.length c1) := (cell_b m0).trans rfl
    have y1 : W4.cell? ⟨w.heap.size, 1, none⟩ = some (.int .i64 C.ten) := (cell_b m0).trans rfl
    have y2 : W4.cell? ⟨w.heap.size, 2, none⟩ = some (.slice o2 C.pe.length c2) := (cell_b m0).trans rfl
    have y3 : W4.cell? ⟨w.heap.size, 3, none⟩ = some (.slice o3 C.wy.length c3) := (cell_b m0).trans rfl
    have y4 : W4.cell? ⟨w.heap.size, 4, none⟩ = some (.slice o4 C.tb.length c4) := (cell_b m0).trans rfl
    have z0 : W4.cell? ⟨w.heap.size + 1, 0, none⟩ = some (.slice p1 D.pt.length d1) := (cell_b m1).trans rfl
    have z1 : W4.cell? ⟨w.heap.size + 1, 1, none⟩ = some (.int .i64 D.ten) := (cell_b m1).trans rfl
    have z2 : W4.cell? ⟨w.heap.size + 1, 2, none⟩ = some (.slice p2 D.pe.length d2) := (cell_b m1).trans rfl
    have z3 : W4.cell? ⟨w.heap.size + 1, 3, none⟩ = some (.slice p3 D.wy.length d3) := (cell_b m1).trans rfl
    have z4 : W4.cell? ⟨w.heap.size + 1, 4, none⟩ = some (.slice p4 D.tb.length d4) := (cell_b m1).trans rfl
    clear hs hR hd hrun m0 m1
    go_wp2_with fail
    refine HD.out.mono ?_
    rintro e w5 ⟨om, cm, rfl, hrm, hb5⟩
    have hb15 := below_st hb14 hb5
    have hbA5 := below_st hbA1 hb15
    have m0 := (hb15.block _ (by omega)).trans HM01.out
    have m1 := (hb15.block _ (by omega)).trans HM11.out
    have hap := apply_c w5 (l := lm) (ol := om) (cl := cm) (HA.out.below hbA5) HBC.out HBT.out (by rw [hnm.out]; exact hrm) (by rw [hnm.out]; omega)
    rw [HRUN.out, hnm.out] at hap
    have hz : applyF C lm = { C with tb := D.tb } := by unfold applyF; rw [HRUN.out]; rfl
    rw [hz] at hap
    have hap2 : Calls Try.prog 8 #[.agg #[.slice o1 C.pt.length c1, .int .i64 C.ten, .slice o2 C.pe.length c2, .slice o3 C.wy.length c3, .slice o4 C.tb.length c4], .slice om nm cm] w5 fun e w' => ∃ v1 v2 v3 v4, e = .returned (.tuple #[.agg #[v1, .int .i64 C.ten, v2, v3, v4], .int .i64 0]) ∧ RC w' { C with tb := D.tb } v1 v2 v3 v4 ∧ RowKit.Below w5.heap.size w5 w' := by
      refine Calls.mono hap ?_
      rintro e w' ⟨a, b, c, d, m, h1, h2, h3⟩
      exact ⟨a, b, c, d, h1, h2.rc, h3⟩
    have HAP := Lib.hid hap2
    clear hrm hap hap2 hz y0 y1 y2 y3 y4 z0 z1 z2 z3 z4 HD
    have y0 : w5.cell? ⟨w.heap.size, 0, none⟩ = some (.slice o1 C.pt.length c1) := (cell_b m0).trans rfl
    have y1 : w5.cell? ⟨w.heap.size, 1, none⟩ = some (.int .i64 C.ten) := (cell_b m0).trans rfl
    have y2 : w5.cell? ⟨w.heap.size, 2, none⟩ = some (.slice o2 C.pe.length c2) := (cell_b m0).trans rfl
    have y3 : w5.cell? ⟨w.heap.size, 3, none⟩ = some (.slice o3 C.wy.length c3) := (cell_b m0).trans rfl
    have y4 : w5.cell? ⟨w.heap.size, 4, none⟩ = some (.slice o4 C.tb.length c4) := (cell_b m0).trans rfl
    clear m0
    go_wp2_with fail
    refine HAP.out.mono ?_
    rintro e w6 ⟨v1, v2, v3, v4, rfl, hrz, hb6⟩
    obtain ⟨y1', z1', y2', z2', y3', z3', y4', z4', g1, g2, g3, g4⟩ := hrz.forms
    change v1 = .slice y1' C.pt.length z1' at g1
    change v2 = .slice y2' C.pe.length z2' at g2
    change v3 = .slice y3' C.wy.length z3' at g3
    change v4 = .slice y4' D.tb.length z4' at g4
    subst g1 g2 g3 g4
    have HRZ := Lib.hid hrz
    have hs6 := hb6.size
    have hs15 := hb15.size
    have m2 := (hb6.block _ (by omega)).trans m1
    clear hrz m1 y0 y1 y2 y3 y4 HAP
    go_upto_region 15 with (fail)
    refine wp_world (fun V => V.heap[w.heap.size + 1]? = some (.cells #[.slice p1 D.pt.length d1, .int .i64 D.ten, .slice p2 D.pe.length d2, .slice p3 D.wy.length d3, .slice p4 D.tb.length d4] 31 (0, 0)) ∧ V.heap[w6.heap.size]? = some (.cells #[.slice y1' C.pt.length z1', .int .i64 C.ten, .slice y2' C.pe.length z2', .slice y3' C.wy.length z3', .slice y4' D.tb.length z4'] 31 (0, 0)) ∧ RowKit.Below w6.heap.size w6 V ∧ w6.heap.size < V.heap.size) ⟨(al_lt' (by omega)).trans m2, heap_alloc_new w6 _, below_al (Below.refl _ _) _, by simp⟩ ?_
    clear m2
    rintro W6 ⟨m1, m3, hbW6, hlt6⟩
    have HM16 := Lib.hid m1
    have HM36 := Lib.hid m3
    have y0 : W6.cell? ⟨w.heap.size + 1, 0, none⟩ = some (.slice p1 D.pt.length d1) := (cell_b m1).trans rfl
    have y1 : W6.cell? ⟨w.heap.size + 1, 1, none⟩ = some (.int .i64 D.ten) := (cell_b m1).trans rfl
    have y2 : W6.cell? ⟨w.heap.size + 1, 2, none⟩ = some (.slice p2 D.pe.length d2) := (cell_b m1).trans rfl
    have y3 : W6.cell? ⟨w.heap.size + 1, 3, none⟩ = some (.slice p3 D.wy.length d3) := (cell_b m1).trans rfl
    have y4 : W6.cell? ⟨w.heap.size + 1, 4, none⟩ = some (.slice p4 D.tb.length d4) := (cell_b m1).trans rfl
    have z0 : W6.cell? ⟨w6.heap.size, 0, none⟩ = some (.slice y1' C.pt.length z1') := (cell_b m3).trans rfl
    have z1 : W6.cell? ⟨w6.heap.size, 1, none⟩ = some (.int .i64 C.ten) := (cell_b m3).trans rfl
    have z2 : W6.cell? ⟨w6.heap.size, 2, none⟩ = some (.slice y2' C.pe.length z2') := (cell_b m3).trans rfl
    have z3 : W6.cell? ⟨w6.heap.size, 3, none⟩ = some (.slice y3' C.wy.length z3') := (cell_b m3).trans rfl
    have z4 : W6.cell? ⟨w6.heap.size, 4, none⟩ = some (.slice y4' D.tb.length z4') := (cell_b m3).trans rfl
    have q0 : W6.frozen? ⟨w6.heap.size, 0, none⟩ = false := by simp [World.frozen?, m3]
    have q1 : W6.frozen? ⟨w6.heap.size, 1, none⟩ = false := by simp [World.frozen?, m3]
    have q2 : W6.frozen? ⟨w6.heap.size, 2, none⟩ = false := by simp [World.frozen?, m3]
    have q3 : W6.frozen? ⟨w6.heap.size, 3, none⟩ = false := by simp [World.frozen?, m3]
    have FZ := Lib.hid (four_cells (w := W6.drew) (.slice p1 D.pt.length d1) (.int .i64 D.ten) (.slice p2 D.pe.length d2) (.slice p3 D.wy.length d3) m3)
    have hdr : Fr (fun g => g = w6.heap.size) W6 W6.drew := ⟨rfl, rfl, rfl, Nat.le_refl _, fun _ _ _ => rfl⟩
    have HDR := Lib.hid hdr
    clear m1 m3 hdr
    go_cut [] from 85 to 90 (fun wx => wx.heap[w6.heap.size]? = some (.cells #[.slice p1 D.pt.length d1, .int .i64 D.ten, .slice p2 D.pe.length d2, .slice p3 D.wy.length d3, .slice y4' D.tb.length z4'] 31 (0, 0)) ∧ Fr (fun g => g = w6.heap.size) W6 wx)
    case first =>
      rw [HZZ.out]
      go_region_with (fail)
      all_goals go_wp2_with fail
      all_goals go_meet
      all_goals exact ⟨FZ.out, Fr.sc (Fr.sc (Fr.sc (Fr.sc HDR.out _ _ rfl) _ _ rfl) _ _ rfl) _ _ rfl⟩
    case rest =>
    obtain ⟨m3, hfr⟩ := hcut
    rename_i Kc hKc
    refine hKc _ _ ?_
    clear hKc
    refine wp_world (fun V => V = wc) rfl ?_
    rintro W7 rfl
    have hb67 : RowKit.Below w6.heap.size w6 W7 := ⟨hfr.os.trans hbW6.os, hfr.tape.trans hbW6.tape, hfr.output.trans hbW6.output, Nat.le_trans hbW6.size hfr.size, fun g hg => (hfr.same g (by omega) (fun e => by have e' : g = w6.heap.size := e; omega)).trans (hbW6.block g hg)⟩
    have hb57 := below_st hb6 hb67
    have m1 := (hfr.same (w.heap.size + 1) (by omega) (fun e => by have e' : w.heap.size + 1 = w6.heap.size := e; omega)).trans HM16.out
    have hrD := HB.out.below (below_st hbA5 hb57)
    have hrZ := HRZ.out.below hb67
    have hsa := same_c W7 (A := D) (B := D) ⟨hrD.pt, hrD.pe, hrD.wy, hrZ.tb⟩ hrD
    rw [show decide (D = D) = true from by simp] at hsa
    have HSA := Lib.hid hsa
    have y0 : W7.cell? ⟨w.heap.size + 1, 0, none⟩ = some (.slice p1 D.pt.length d1) := (cell_b m1).trans rfl
    have y1 : W7.cell? ⟨w.heap.size + 1, 1, none⟩ = some (.int .i64 D.ten) := (cell_b m1).trans rfl
    have y2 : W7.cell? ⟨w.heap.size + 1, 2, none⟩ = some (.slice p2 D.pe.length d2) := (cell_b m1).trans rfl
    have y3 : W7.cell? ⟨w.heap.size + 1, 3, none⟩ = some (.slice p3 D.wy.length d3) := (cell_b m1).trans rfl
    have y4 : W7.cell? ⟨w.heap.size + 1, 4, none⟩ = some (.slice p4 D.tb.length d4) := (cell_b m1).trans rfl
    have z0 : W7.cell? ⟨w6.heap.size, 0, none⟩ = some (.slice p1 D.pt.length d1) := (cell_b m3).trans rfl
    have z1 : W7.cell? ⟨w6.heap.size, 1, none⟩ = some (.int .i64 D.ten) := (cell_b m3).trans rfl
    have z2 : W7.cell? ⟨w6.heap.size, 2, none⟩ = some (.slice p2 D.pe.length d2) := (cell_b m3).trans rfl
    have z3 : W7.cell? ⟨w6.heap.size, 3, none⟩ = some (.slice p3 D.wy.length d3) := (cell_b m3).trans rfl
    have z4 : W7.cell? ⟨w6.heap.size, 4, none⟩ = some (.slice y4' D.tb.length z4') := (cell_b m3).trans rfl
    clear m1 m3 hfr hsa hrD hrZ
    go_wp2_with fail
    refine HSA.out.mono ?_
    rintro e w8 ⟨rfl, hb8⟩
    go_wp2_with fail
    (try simp only [Exit.inBlock, Exit.then])
    rw [HZZ.out]
    refine bodyPost_ret (results_tmp rfl _ _ _) rfl ?_
    exact ⟨rfl, below_st (below_st hbx (below_st hbA5 hb57)) hb8⟩
end Go.Proofs.Ytdmakcfgcgioeaa
