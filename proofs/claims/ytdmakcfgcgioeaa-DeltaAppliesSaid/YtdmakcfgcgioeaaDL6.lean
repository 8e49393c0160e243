/- Delta: the walk of DeltaNone. -/
import Derived.Test.YtdmakcfgcgioeaaDAwake
import Derived.Test.YtdmakcfgcgioeaaDPl
namespace Go.Proofs.Ytdmakcfgcgioeaa
open Go.RowKit Go.Maps
set_option linter.unusedSimpArgs false
set_option linter.unusedVariables false
set_option maxRecDepth 100000
/-- Diff of two configurations, as it is called. -/
theorem diff_cf (w : World) {A B : Cf} {o1 o2 o3 o4 p1 p2 p3 p4 : Option Addr} {c1 c2 c3 c4 d1 d2 d3 d4 : Nat} (ha : RC w A (.slice o1 A.pt.length c1) (.slice o2 A.pe.length c2) (.slice o3 A.wy.length c3) (.slice o4 A.tb.length c4)) (hb : RC w B (.slice p1 B.pt.length d1) (.slice p2 B.pe.length d2) (.slice p3 B.wy.length d3) (.slice p4 B.tb.length d4)) (hbA : Bt A.tb) (hbB : Bt B.tb) (hlen : szT A.tb + szT B.tb ≤ 20000000) :
    Calls Try.prog 12 #[.agg #[.slice o1 A.pt.length c1, .int .i64 A.ten, .slice o2 A.pe.length c2, .slice o3 A.wy.length c3, .slice o4 A.tb.length c4], .agg #[.slice p1 B.pt.length d1, .int .i64 B.ten, .slice p2 B.pe.length d2, .slice p3 B.wy.length d3, .slice p4 B.tb.length d4]] w fun e w' => ∃ o c, e = .returned (.tuple #[.slice o (diffR A.tb B.tb).2.length c, .int .i64 (diffR A.tb B.tb).1]) ∧ Rd w' o (diffR A.tb B.tb).2.length c ((diffR A.tb B.tb).2.flatMap ceE) ∧ RowKit.Below w.heap.size w w' := by
  refine (diff_c w (x := A.ten) (y := B.ten) ha.tb hb.tb hbA hbB (Nat.le_trans (diffF_len_le _ _) hlen)).mono ?_
  rintro e w' ⟨v, rfl, h1, h2⟩
  obtain ⟨o, c, rfl⟩ := Ow.form h1
  exact ⟨o, c, rfl, Ow.rd h1, h2⟩
set_option maxHeartbeats 4000000 in
theorem none_c (w : World) {A B : Cf} {va vb vc vd ua ub uc ud : Value} (ha : RC w A va vb vc vd) (hb : RC w B ua ub uc ud) (hbd : Bd A) {K : Nat} (hbt : BT K A.tb) (hK : K ≤ 9000000) (hbA : Bt A.tb) (hbB : Bt B.tb) (hsz : szT A.tb ≤ 9000000 ∧ szT B.tb ≤ 9000000) :
    Calls Try.prog 6 #[.agg #[va, .int .i64 A.ten, vb, vc, vd], .agg #[ua, .int .i64 B.ten, ub, uc, ud]] w fun e w' => e = .returned (.bool true) ∧ RowKit.Below w.heap.size w w' := by
  obtain ⟨o1, c1, o2, c2, o3, c3, o4, c4, rfl, rfl, rfl, rfl⟩ := ha.forms
  obtain ⟨p1, d1, p2, d2, p3, d3, p4, d4, rfl, rfl, rfl, rfl⟩ := hb.forms
  obtain ⟨sA, sB⟩ := hsz
  obtain ⟨W, hW⟩ : ∃ W, Hid (W = (w.alloc (.cells #[.slice o1 A.pt.length c1, .int .i64 A.ten, .slice o2 A.pe.length c2, .slice o3 A.wy.length c3, .slice o4 A.tb.length c4] 31)).alloc (.cells #[.slice p1 B.pt.length d1, .int .i64 B.ten, .slice p2 B.pe.length d2, .slice p3 B.wy.length d3, .slice p4 B.tb.length d4] 31)) := ⟨_, Lib.hid rfl⟩
  have hbx : RowKit.Below w.heap.size w W := by rw [hW.out]; exact below2 _ _ _
  have hm0 : W.heap[w.heap.size]? = some (.cells #[.slice o1 A.pt.length c1, .int .i64 A.ten, .slice o2 A.pe.length c2, .slice o3 A.wy.length c3, .slice o4 A.tb.length c4] 31 (0, 0)) := by rw [hW.out]; exact hpm1 w _ _
  have hm1 : W.heap[w.heap.size + 1]? = some (.cells #[.slice p1 B.pt.length d1, .int .i64 B.ten, .slice p2 B.pe.length d2, .slice p3 B.wy.length d3, .slice p4 B.tb.length d4] 31 (0, 0)) := by rw [hW.out]; exact hpm2 w _ _
  have hltW : w.heap.size + 1 < W.heap.size := by rw [hW.out]; simp
  have HM0 := Lib.hid hm0
  have HM1 := Lib.hid hm1
  have HA := Lib.hid (ha.below hbx)
  have HB := Lib.hid (hb.below hbx)
  have HBD := Lib.hid hbd
  have HBT := Lib.hid hbt
  have HBA := Lib.hid hbA
  have HBB := Lib.hid hbB
  have h1 := diff_cf W HA.out HA.out hbA hbA (by omega)
  rw [diffR_self] at h1
  have H1 := Lib.hid h1
  obtain ⟨en, hen⟩ : ∃ en, Hid ((diffR A.tb B.tb).1 = en) := ⟨_, Lib.hid rfl⟩
  obtain ⟨len, hln⟩ : ∃ n, Hid ((diffR A.tb B.tb).2.length = n) := ⟨_, Lib.hid rfl⟩
  have hen2 : Hid ((diffR B.tb A.tb).1 = en) := Lib.hid ((diffR_comm B.tb A.tb).1.trans hen.out)
  have hln2 : Hid ((diffR B.tb A.tb).2.length = len) := Lib.hid ((diffR_comm B.tb A.tb).2.trans hln.out)
  clear ha hb hbd hbt hbA hbB h1
  have y0 : W.cell? ⟨w.heap.size, 0, none⟩ = some (.slice o1 A.pt.length c1) := (cell_b hm0).trans rfl
  have y1 : W.cell? ⟨w.heap.size, 1, none⟩ = some (.int .i64 A.ten) := (cell_b hm0).trans rfl
  have y2 : W.cell? ⟨w.heap.size, 2, none⟩ = some (.slice o2 A.pe.length c2) := (cell_b hm0).trans rfl
  have y3 : W.cell? ⟨w.heap.size, 3, none⟩ = some (.slice o3 A.wy.length c3) := (cell_b hm0).trans rfl
  have y4 : W.cell? ⟨w.heap.size, 4, none⟩ = some (.slice o4 A.tb.length c4) := (cell_b hm0).trans rfl
  clear hm0 hm1
  go_enter Try.func6, Try.ntmps6
  refine wp_hide ?_
  intro ZZ HZZ
  go_upto_region 1 with (fail)
  rw [← hW.out]
  go_wp2_with fail
  refine H1.out.mono ?_
  rintro e w1 ⟨ox, cx, rfl, _, hb1⟩
  have m0 := (hb1.block _ (by omega)).trans HM0.out
  clear y0 y1 y2 y3 y4 H1
  have y0 : w1.cell? ⟨w.heap.size, 0, none⟩ = some (.slice o1 A.pt.length c1) := (cell_b m0).trans rfl
  have y1 : w1.cell? ⟨w.heap.size, 1, none⟩ = some (.int .i64 A.ten) := (cell_b m0).trans rfl
  have y2 : w1.cell? ⟨w.heap.size, 2, none⟩ = some (.slice o2 A.pe.length c2) := (cell_b m0).trans rfl
  have y3 : w1.cell? ⟨w.heap.size, 3, none⟩ = some (.slice o3 A.wy.length c3) := (cell_b m0).trans rfl
  have y4 : w1.cell? ⟨w.heap.size, 4, none⟩ = some (.slice o4 A.tb.length c4) := (cell_b m0).trans rfl
  have hap := apply_c w1 (l := []) (ol := none) (cl := 0) (HA.out.below hb1) HBD.out HBT.out ⟨Nat.le_refl _, Nat.zero_le _, 0, 0, fun h => absurd h (by simp), fun j u hu => by simp at hu⟩ (by simp; omega)
  rw [applyF_nil, show (runF A.tb []).1 = 0 from rfl] at hap
  have HAP := Lib.hid hap
  clear hap m0
  go_wp2_with fail
  refine HAP.out.mono ?_
  rintro e w2 ⟨va, vb, vc, vd, m, rfl, hoc, hb2⟩
  have hrx := hoc.rc
  obtain ⟨r1, s1, r2, s2, r3, s3, r4, s4, rfl, rfl, rfl, rfl⟩ := hrx.forms
  have HRX := Lib.hid hrx
  have hb02 := below_st hb1 hb2
  have hs2 := hb02.size
  have m0 := (hb02.block _ (by omega)).trans HM0.out
  have m1 := (hb02.block _ (by omega)).trans HM1.out
  clear hoc hrx HAP y0 y1 y2 y3 y4
  go_upto_region 3 with (fail)
  refine wp_world (fun V => V.heap[w.heap.size]? = some (.cells #[.slice o1 A.pt.length c1, .int .i64 A.ten, .slice o2 A.pe.length c2, .slice o3 A.wy.length c3, .slice o4 A.tb.length c4] 31 (0, 0)) ∧ V.heap[w.heap.size + 1]? = some (.cells #[.slice p1 B.pt.length d1, .int .i64 B.ten, .slice p2 B.pe.length d2, .slice p3 B.wy.length d3, .slice p4 B.tb.length d4] 31 (0, 0)) ∧ V.heap[w2.heap.size]? = some (.cells #[.slice r1 A.pt.length s1, .int .i64 A.ten, .slice r2 A.pe.length s2, .slice r3 A.wy.length s3, .slice r4 A.tb.length s4] 31 (0, 0)) ∧ RowKit.Below w2.heap.size w2 V ∧ w2.heap.size < V.heap.size) ⟨(al_lt' (by omega)).trans m0, (al_lt' (by omega)).trans m1, heap_alloc_new w2 _, below_al (Below.refl _ _) _, by simp⟩ ?_
  clear m0 m1
  rintro W2 ⟨m0, m1, m2, hbW2, hlt2⟩
  have hbA2 := below_st hb02 hbW2
  have HM02 := Lib.hid m0
  have HM12 := Lib.hid m1
  have HM22 := Lib.hid m2
  have y0 : W2.cell? ⟨w.heap.size, 0, none⟩ = some (.slice o1 A.pt.length c1) := (cell_b m0).trans rfl
  have y1 : W2.cell? ⟨w.heap.size, 1, none⟩ = some (.int .i64 A.ten) := (cell_b m0).trans rfl
  have y2 : W2.cell? ⟨w.heap.size, 2, none⟩ = some (.slice o2 A.pe.length c2) := (cell_b m0).trans rfl
  have y3 : W2.cell? ⟨w.heap.size, 3, none⟩ = some (.slice o3 A.wy.length c3) := (cell_b m0).trans rfl
  have y4 : W2.cell? ⟨w.heap.size, 4, none⟩ = some (.slice o4 A.tb.length c4) := (cell_b m0).trans rfl
  have z0 : W2.cell? ⟨w.heap.size + 1, 0, none⟩ = some (.slice p1 B.pt.length d1) := (cell_b m1).trans rfl
  have z1 : W2.cell? ⟨w.heap.size + 1, 1, none⟩ = some (.int .i64 B.ten) := (cell_b m1).trans rfl
  have z2 : W2.cell? ⟨w.heap.size + 1, 2, none⟩ = some (.slice p2 B.pe.length d2) := (cell_b m1).trans rfl
  have z3 : W2.cell? ⟨w.heap.size + 1, 3, none⟩ = some (.slice p3 B.wy.length d3) := (cell_b m1).trans rfl
  have z4 : W2.cell? ⟨w.heap.size + 1, 4, none⟩ = some (.slice p4 B.tb.length d4) := (cell_b m1).trans rfl
  have hd := diff_cf W2 (HA.out.below hbA2) (HB.out.below hbA2) HBA.out HBB.out (by omega)
  rw [hen.out, hln.out] at hd
  have HD := Lib.hid hd
  clear hd m0 m1 m2
  go_wp2_with fail
  refine HD.out.mono ?_
  rintro e w3 ⟨oy, cy, rfl, _, hb3⟩
  have m0 := (hb3.block _ (by omega)).trans HM02.out
  have m1 := (hb3.block _ (by omega)).trans HM12.out
  have hbA3 := below_st hbA2 hb3
  clear y0 y1 y2 y3 y4 z0 z1 z2 z3 z4 HD
  have y0 : w3.cell? ⟨w.heap.size, 0, none⟩ = some (.slice o1 A.pt.length c1) := (cell_b m0).trans rfl
  have y1 : w3.cell? ⟨w.heap.size, 1, none⟩ = some (.int .i64 A.ten) := (cell_b m0).trans rfl
  have y2 : w3.cell? ⟨w.heap.size, 2, none⟩ = some (.slice o2 A.pe.length c2) := (cell_b m0).trans rfl
  have y3 : w3.cell? ⟨w.heap.size, 3, none⟩ = some (.slice o3 A.wy.length c3) := (cell_b m0).trans rfl
  have y4 : w3.cell? ⟨w.heap.size, 4, none⟩ = some (.slice o4 A.tb.length c4) := (cell_b m0).trans rfl
  have z0 : w3.cell? ⟨w.heap.size + 1, 0, none⟩ = some (.slice p1 B.pt.length d1) := (cell_b m1).trans rfl
  have z1 : w3.cell? ⟨w.heap.size + 1, 1, none⟩ = some (.int .i64 B.ten) := (cell_b m1).trans rfl
  have z2 : w3.cell? ⟨w.heap.size + 1, 2, none⟩ = some (.slice p2 B.pe.length d2) := (cell_b m1).trans rfl
  have z3 : w3.cell? ⟨w.heap.size + 1, 3, none⟩ = some (.slice p3 B.wy.length d3) := (cell_b m1).trans rfl
  have z4 : w3.cell? ⟨w.heap.size + 1, 4, none⟩ = some (.slice p4 B.tb.length d4) := (cell_b m1).trans rfl
  have hd := diff_cf w3 (HB.out.below hbA3) (HA.out.below hbA3) HBB.out HBA.out (by omega)
  rw [hen2.out, hln2.out] at hd
  have HD := Lib.hid hd
  clear hd m0 m1
  go_wp2_with fail
  refine HD.out.mono ?_
  rintro e w4 ⟨oz, cz, rfl, _, hb4⟩
  have hb34 := below_st hb3 hb4
  have haw := awake_c w4
  have HAW := Lib.hid haw
  clear haw HD y0 y1 y2 y3 y4 z0 z1 z2 z3 z4
  go_wp2_with fail
  refine HAW.out.mono ?_
  rintro e w5 ⟨rfl, hb5⟩
  have hb25 := below_st hb34 hb5
  have m0 := (hb25.block _ (by omega)).trans HM02.out
  have m2 := (hb25.block _ hlt2).trans HM22.out
  have y0 : w5.cell? ⟨w.heap.size, 0, none⟩ = some (.slice o1 A.pt.length c1) := (cell_b m0).trans rfl
  have y1 : w5.cell? ⟨w.heap.size, 1, none⟩ = some (.int .i64 A.ten) := (cell_b m0).trans rfl
  have y2 : w5.cell? ⟨w.heap.size, 2, none⟩ = some (.slice o2 A.pe.length c2) := (cell_b m0).trans rfl
  have y3 : w5.cell? ⟨w.heap.size, 3, none⟩ = some (.slice o3 A.wy.length c3) := (cell_b m0).trans rfl
  have y4 : w5.cell? ⟨w.heap.size, 4, none⟩ = some (.slice o4 A.tb.length c4) := (cell_b m0).trans rfl
  have x0 : w5.cell? ⟨w2.heap.size, 0, none⟩ = some (.slice r1 A.pt.length s1) := (cell_b m2).trans rfl
  have x1 : w5.cell? ⟨w2.heap.size, 1, none⟩ = some (.int .i64 A.ten) := (cell_b m2).trans rfl
  have x2 : w5.cell? ⟨w2.heap.size, 2, none⟩ = some (.slice r2 A.pe.length s2) := (cell_b m2).trans rfl
  have x3 : w5.cell? ⟨w2.heap.size, 3, none⟩ = some (.slice r3 A.wy.length s3) := (cell_b m2).trans rfl
  have x4 : w5.cell? ⟨w2.heap.size, 4, none⟩ = some (.slice r4 A.tb.length s4) := (cell_b m2).trans rfl
  have hee : (en == en) = true := by simp
  have hll : ((len : Int) == (len : Int)) = true := by simp
  have hsa := same_c w5 (HRX.out.below (below_st hbW2 hb25)) (HA.out.below (below_st hbA2 hb25))
  rw [show decide (A = A) = true from by simp] at hsa
  have HSA := Lib.hid hsa
  clear m0 m2 hsa HAW
  go_wp2_with fail
  refine HSA.out.mono ?_
  rintro e w6 ⟨rfl, hb6⟩
  go_wp2_with fail
  (try simp only [Exit.inBlock, Exit.then])
  rw [HZZ.out]
  refine bodyPost_ret (results_tmp rfl _ _ _) rfl ?_
  exact ⟨rfl, below_st (below_st hbx (below_st hbA2 hb25)) hb6⟩
end Go.Proofs.Ytdmakcfgcgioeaa
