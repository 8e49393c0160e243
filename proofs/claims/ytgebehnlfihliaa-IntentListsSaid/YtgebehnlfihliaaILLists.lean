/- Intent: the walk of IntentLists. -/
import Derived.Test.YtgebehnlfihliaaILPlain
import Derived.Deep.RegionHeldLaw
namespace Go.Proofs.Ytgebehnlfihliaa
open Go.RowKit Go.Maps
set_option linter.unusedSimpArgs false
set_option linter.unusedVariables false
set_option maxRecDepth 100000
theorem cvA0 {V C : BitVec 128} (f : Nat → Ac) : ∀ k, k < 5 → (#[.int .u64 ((Plain.hiOf V).toNat : Int), .int .u64 ((Plain.loOf V).toNat : Int), .int .u64 ((Plain.hiOf C).toNat : Int), .int .u64 ((Plain.loOf C).toNat : Int), .bool false] : Array Value)[k]? = some (cvA (fun k => if k = 0 then ⟨V, C, false⟩ else f (k - 1)) 0 k) := by
  intro k hk
  have : k = 0 ∨ k = 1 ∨ k = 2 ∨ k = 3 ∨ k = 4 := by omega
  rcases this with rfl | rfl | rfl | rfl | rfl <;> rfl
set_option maxHeartbeats 8000000 in
theorem lists19 {r : Ir} {I : In} {w : World} (h : NA w r I) (hw : WfI I) (hb : I.na * 40 ≤ 140737488351232) (V C : BitVec 128) (sw po : Int) (X : BitVec 128) : Calls Try.prog 12 #[.agg (I.cells r), .agg #[.int .u64 ((Plain.hiOf V).toNat : Int), .int .u64 ((Plain.loOf V).toNat : Int), .int .u64 ((Plain.hiOf C).toNat : Int), .int .u64 ((Plain.loOf C).toNat : Int)], .agg #[.int .i64 sw, .int .i64 po], .agg #[.int .u64 ((Plain.hiOf (X)).toNat : Int), .int .u64 ((Plain.loOf (X)).toNat : Int)]] w fun e w' => e = .returned (.bool true) ∧ RowKit.Below w.heap.size w w' := by
  have ic : Hid (I.cells r = #[.slice r.o I.T.n r.c, .int .i64 I.ten, .slice r.op I.np r.cp, .slice r.ow I.nw r.cw, .slice r.oe I.ne r.ce, .slice r.oa I.na r.ca]) := rfl
  rw [ic.out]
  have hcv := cvA0 (V := V) (C := C) I.ac
  obtain ⟨x, hx⟩ : ∃ x : Int, x = (Plain.hiOf X).toNat := ⟨_, rfl⟩
  obtain ⟨y, hy⟩ : ∃ y : Int, y = (Plain.loOf X).toNat := ⟨_, rfl⟩
  rw [← hx, ← hy]
  have hzero : Hid ((((Plain.hiOf V).toNat : Int) = 0 ∧ ((Plain.loOf V).toNat : Int) = 0) ∧ (((Plain.hiOf C).toNat : Int) = 0 ∧ ((Plain.loOf C).toNat : Int) = 0) → V = 0 ∧ C = 0) := fun ⟨⟨h1, h2⟩, h3, h4⟩ => by
    have hV := bv_zero V
    have hC := bv_zero C
    rw [decide_eq_true h1, decide_eq_true h2] at hV
    rw [decide_eq_true h3, decide_eq_true h4] at hC
    exact ⟨of_decide_eq_true hV.symm, of_decide_eq_true hC.symm⟩
  generalize ((Plain.hiOf V).toNat : Int) = c1 at *
  generalize ((Plain.loOf V).toNat : Int) = c2 at *
  generalize ((Plain.hiOf C).toNat : Int) = c3 at *
  generalize ((Plain.loOf C).toNat : Int) = c4 at *
  obtain ⟨W, hW⟩ : ∃ W, Hid (W = (((w.alloc (.cells #[.slice r.o I.T.n r.c, .int .i64 I.ten, .slice r.op I.np r.cp, .slice r.ow I.nw r.cw, .slice r.oe I.ne r.ce, .slice r.oa I.na r.ca] 56)).alloc (.cells #[.int .u64 c1, .int .u64 c2, .int .u64 c3, .int .u64 c4] 73)).alloc (.cells #[.int .i64 sw, .int .i64 po] 26)).alloc (.cells #[.int .u64 x, .int .u64 y] 61)) := ⟨_, rfl⟩
  have hbx : RowKit.Below w.heap.size w W := by rw [hW.out]; exact below_al (below_al (below2 _ _ _) _) _
  have kp : Hid (∀ V, RowKit.Below W.heap.size W V → (V.cell? ⟨w.heap.size, 0, none⟩ = some (.slice r.o I.T.n r.c) ∧ V.cell? ⟨w.heap.size, 1, none⟩ = some (.int .i64 I.ten) ∧ V.cell? ⟨w.heap.size, 2, none⟩ = some (.slice r.op I.np r.cp) ∧ V.cell? ⟨w.heap.size, 3, none⟩ = some (.slice r.ow I.nw r.cw) ∧ V.cell? ⟨w.heap.size, 4, none⟩ = some (.slice r.oe I.ne r.ce) ∧ V.cell? ⟨w.heap.size, 5, none⟩ = some (.slice r.oa I.na r.ca)) ∧ (V.cell? ⟨w.heap.size + 1, 0, none⟩ = some (.int .u64 c1) ∧ V.cell? ⟨w.heap.size + 1, 1, none⟩ = some (.int .u64 c2) ∧ V.cell? ⟨w.heap.size + 1, 2, none⟩ = some (.int .u64 c3) ∧ V.cell? ⟨w.heap.size + 1, 3, none⟩ = some (.int .u64 c4)) ∧ (V.cell? ⟨w.heap.size + 1 + 1, 0, none⟩ = some (.int .i64 sw) ∧ V.cell? ⟨w.heap.size + 1 + 1, 1, none⟩ = some (.int .i64 po)) ∧ (V.cell? ⟨w.heap.size + 1 + 1 + 1, 0, none⟩ = some (.int .u64 x) ∧ V.cell? ⟨w.heap.size + 1 + 1 + 1, 1, none⟩ = some (.int .u64 y)) ∧ RowKit.Below w.heap.size w V) := by
    intro V hV
    have hh := heap4 w (.cells #[.slice r.o I.T.n r.c, .int .i64 I.ten, .slice r.op I.np r.cp, .slice r.ow I.nw r.cw, .slice r.oe I.ne r.ce, .slice r.oa I.na r.ca] 56) (.cells #[.int .u64 c1, .int .u64 c2, .int .u64 c3, .int .u64 c4] 73) (.cells #[.int .i64 sw, .int .i64 po] 26) (.cells #[.int .u64 x, .int .u64 y] 61)
    rw [← hW.out] at hh
    obtain ⟨b0, b1, b2, b3⟩ := hh
    exact ⟨⟨cell_below hV ((cell_b b0).trans rfl), cell_below hV ((cell_b b0).trans rfl), cell_below hV ((cell_b b0).trans rfl), cell_below hV ((cell_b b0).trans rfl), cell_below hV ((cell_b b0).trans rfl), cell_below hV ((cell_b b0).trans rfl)⟩, ⟨cell_below hV ((cell_b b1).trans rfl), cell_below hV ((cell_b b1).trans rfl), cell_below hV ((cell_b b1).trans rfl), cell_below hV ((cell_b b1).trans rfl)⟩, ⟨cell_below hV ((cell_b b2).trans rfl), cell_below hV ((cell_b b2).trans rfl)⟩, ⟨cell_below hV ((cell_b b3).trans rfl), cell_below hV ((cell_b b3).trans rfl)⟩, hbx.trans (hV.mono hbx.size)⟩
  have HNA : Hid (∀ V, RowKit.Below W.heap.size W V → NA V r I) := fun V hV => h.below (below_st hbx hV)
  have HA : Hid (∀ V, Calls Try.prog 24 #[] V fun e w' => e = .returned (.bool true) ∧ RowKit.Below V.heap.size V w') := fun V => iawake_c V
  have ww := h.wy.1
  have ww1 := h.wy.2.1
  simp only [maxLen] at ww1
  clear h
  obtain ⟨i0, hi, hz0, hz1, hz2⟩ := info_parts inf75
  have hp1 : 1 + I.na ≤ maxLen := by simp only [maxLen]; omega
  have hq1 : (1 + I.na) * 40 ≤ 140737488355328 := by omega
  have hB1 : RowKit.Below W.heap.size W (W.alloc (.cells #[.slice r.o I.T.n r.c, .int .i64 I.ten, .slice r.op I.np r.cp, .slice r.ow I.nw r.cw, .slice r.oe I.ne r.ce, .slice r.oa I.na r.ca] 56)) := below_al (Below.refl _ _) _
  obtain ⟨⟨x0, x1, x2, x3, x4, x5⟩, ⟨q0, q1, q2, q3⟩, ⟨y0, y1⟩, ⟨z0, z1⟩, hbw⟩ := kp.out W (Below.refl _ _)
  have l0 : w.heap.size < W.heap.size := World.block_lt_of_cell? W _ x0
  have l1 : w.heap.size + 1 < W.heap.size := World.block_lt_of_cell? W _ q0
  obtain ⟨W1, hW1⟩ : ∃ V, Hid (V = W.alloc (.cells #[.slice r.o I.T.n r.c, .int .i64 I.ten, .slice r.op I.np r.cp, .slice r.ow I.nw r.cw, .slice r.oe I.ne r.ce, .slice r.oa I.na r.ca] 56)) := ⟨_, rfl⟩
  have hm1 : W1.heap[W.heap.size]? = some (.cells #[.slice r.o I.T.n r.c, .int .i64 I.ten, .slice r.op I.np r.cp, .slice r.ow I.nw r.cw, .slice r.oe I.ne r.ce, .slice r.oa I.na r.ca] 56 (0, 0)) := by rw [hW1.out]; exact heap_alloc_new W _
  have hs1 : W1.heap.size = W.heap.size + 1 := by rw [hW1.out]; simp
  rw [← hW1.out] at hB1
  have hcvh := Lib.hid hcv
  have HX := Lib.hid hx
  have HY := Lib.hid hy
  have HS1 := Lib.hid hs1
  clear hcv hx hy hs1
  go_enter Try.func12, Try.ntmps12
  go_upto_region 1 with (fail)
  rw [← hW.out]
  go_upto_region 2 with (fail)
  rw [← hW1.out]
  have l9 : w.heap.size < W1.heap.size := by have := HS1.out; omega
  have x5' := cell_below hB1 x5
  have q0' := cell_below hB1 q0
  have q1' := cell_below hB1 q1
  have q2' := cell_below hB1 q2
  have q3' := cell_below hB1 q3
  go_upto_region 3 with (first | (at_builtin; refine wpList_app_src rfl _ _ 54 rfl W1.heap.size 75 i0 (.agg #[.int .u64 0, .int .u64 0, .int .u64 0, .int .u64 0, .bool false]) 5 40 und54 hi hz0 hz1 hz2 rfl (by decide) (.slice (some ⟨W1.heap.size, 0, none⟩) 1 1) 1 (#[.int .u64 c1, .int .u64 c2, .int .u64 c3, .int .u64 c4, .bool false] : Array Value).toList (by simp [Act.eval, Act.put]) r.oa I.na r.ca (flatR (cvA I.ac) 5 I.na) (by simp [Act.eval, Act.put]) (own_fresh (Nat.le_refl _) (heap_alloc_new _ _) rfl) (flatR_len _ _ _) ((HNA.out _ (below_al hB1 _)).ac.news (by decide)) (flatR_one (cvA_one _)) hp1 hq1 (by rw [World.size_alloc]; omega) ?_; intro o' c' w2 hown hg; have hb2 := below_grown (Nat.le_refl _) (below_al (Below.refl W1.heap.size W1) _) (own_fresh (Nat.le_refl _) (heap_alloc_new _ _) rfl) hg; have hm2 := (hb2.block W.heap.size (by have := HS1.out; omega)).trans hm1; have m5 := (cell_b (o := 5) hm2).trans rfl; have mf : w2.frozen? ⟨W.heap.size, 5, none⟩ = false := by simp [World.frozen?, hm2]))
  have hm3 := sc_at9 (o := 5) (v := .slice o' (1 + I.na) c') hm2
  have hbF : RowKit.Below W.heap.size W (w2.setCell ⟨W.heap.size, 5, none⟩ (.slice o' (1 + I.na) c')) := Below.setCell (below_st hB1 hb2) (Nat.le_refl _) _
  have hrw := own_rw (cv := cvA fun k => if k = 0 then ⟨V, C, false⟩ else I.ac (k - 1)) (own_sc hown (b := W.heap.size) (o := 5) (by have := HS1.out; omega) (.slice o' (1 + I.na) c')) (flat_cons rfl (fun i k hi _ => rfl) hcvh.out)
  refine wp_world (fun V' => (∀ V9, RowKit.Below V'.heap.size V' V9 → V9.cell? ⟨W.heap.size, 0, none⟩ = some (.slice r.o I.T.n r.c) ∧ V9.cell? ⟨W.heap.size, 1, none⟩ = some (.int .i64 I.ten) ∧ V9.cell? ⟨W.heap.size, 2, none⟩ = some (.slice r.op I.np r.cp) ∧ V9.cell? ⟨W.heap.size, 3, none⟩ = some (.slice r.ow I.nw r.cw) ∧ V9.cell? ⟨W.heap.size, 4, none⟩ = some (.slice r.oe I.ne r.ce) ∧ V9.cell? ⟨W.heap.size, 5, none⟩ = some (.slice o' (1 + I.na) c')) ∧ Rw V' o' (1 + I.na) c' 5 (cvA fun k => if k = 0 then ⟨V, C, false⟩ else I.ac (k - 1)) ∧ RowKit.Below W.heap.size W V') ⟨fun V9 h9 => ⟨cell_below h9 ((cell_b hm3).trans rfl), cell_below h9 ((cell_b hm3).trans rfl), cell_below h9 ((cell_b hm3).trans rfl), cell_below h9 ((cell_b hm3).trans rfl), cell_below h9 ((cell_b hm3).trans rfl), cell_below h9 ((cell_b hm3).trans rfl)⟩, hrw, hbF⟩ ?_
  clear hm3 hbF hrw hm2 hb2 hown hg m5 mf x5' q0' q1' q2' q3'
  rintro W3 ⟨hmm, hrw, hB3⟩
  have KM := Lib.hid hmm
  have hRW := Lib.hid hrw
  clear hmm hrw x0 x1 x2 x3 x4 x5 q0 q1 q2 q3 y0 y1 z0 z1 hbw l0 l1 hm1 hi hz0 hz1 hz2 HS1 hB1 hW1
  obtain ⟨M, hM⟩ : ∃ M, Hid (M = lined I V C) := ⟨_, rfl⟩
  have hmc : Hid (M.cells { r with oa := o', ca := c' } = #[.slice r.o I.T.n r.c, .int .i64 I.ten, .slice r.op I.np r.cp, .slice r.ow I.nw r.cw, .slice r.oe I.ne r.ce, .slice o' (1 + I.na) c']) := by
    show M.cells _ = _
    rw [hM.out]; rfl
  have HNM : Hid (∀ V', RowKit.Below W3.heap.size W3 V' → NA V' { r with oa := o', ca := c' } M) := fun V' hV => by
    have := HNA.out V' (below_st hB3 hV)
    rw [hM.out]
    exact ⟨this.ta, this.pe, this.wy, this.en, hRW.out.below hV⟩
  have hwM : WfI M := by rw [hM.out]; exact ⟨hw.e, hw.w⟩
  obtain ⟨z, hz⟩ : ∃ z, Hid (soundI I = z) := ⟨_, rfl⟩
  obtain ⟨zm, hzm⟩ : ∃ z, Hid (soundI M = z) := ⟨_, rfl⟩
  obtain ⟨v1, v2, hv⟩ : ∃ v1 v2, Hid (wnt I sw po X = (v1, v2)) := ⟨_, _, rfl⟩
  obtain ⟨u1, u2, hu⟩ : ∃ v1 v2, Hid (wnt M sw po X = (v1, v2)) := ⟨_, _, rfl⟩
  have HS : Hid (∀ V', RowKit.Below W3.heap.size W3 V' → Calls Try.prog 25 #[.agg #[.slice r.o I.T.n r.c, .int .i64 I.ten, .slice r.op I.np r.cp, .slice r.ow I.nw r.cw, .slice r.oe I.ne r.ce, .slice r.oa I.na r.ca]] V' fun e w' => e = .returned (.int .i64 z) ∧ RowKit.Below V'.heap.size V' w') := fun V' hV => by
    have := isound_c (HNA.out V' (below_st hB3 hV)) hw
    rw [hz.out] at this
    exact this
  have HSM : Hid (∀ V', RowKit.Below W3.heap.size W3 V' → Calls Try.prog 25 #[.agg #[.slice r.o I.T.n r.c, .int .i64 I.ten, .slice r.op I.np r.cp, .slice r.ow I.nw r.cw, .slice r.oe I.ne r.ce, .slice o' (1 + I.na) c']] V' fun e w' => e = .returned (.int .i64 zm) ∧ RowKit.Below V'.heap.size V' w') := fun V' hV => by
    have := isound_c (HNM.out V' hV) hwM
    rw [hzm.out, hmc.out] at this
    exact this
  have HT : Hid (∀ V', RowKit.Below W3.heap.size W3 V' → Calls Try.prog 29 #[.agg #[.slice r.o I.T.n r.c, .int .i64 I.ten, .slice r.op I.np r.cp, .slice r.ow I.nw r.cw, .slice r.oe I.ne r.ce, .slice r.oa I.na r.ca], .agg #[.int .i64 sw, .int .i64 po], .agg #[.int .u64 x, .int .u64 y]] V' fun e w' => e = .returned (.tuple #[.int .i64 v1, .bool v2]) ∧ RowKit.Below V'.heap.size V' w') := fun V' hV => by
    have := wants_c (HNA.out V' (below_st hB3 hV)) hw sw po HX.out HY.out
    rw [hv.out] at this
    exact this
  have HTM : Hid (∀ V', RowKit.Below W3.heap.size W3 V' → Calls Try.prog 29 #[.agg #[.slice r.o I.T.n r.c, .int .i64 I.ten, .slice r.op I.np r.cp, .slice r.ow I.nw r.cw, .slice r.oe I.ne r.ce, .slice o' (1 + I.na) c'], .agg #[.int .i64 sw, .int .i64 po], .agg #[.int .u64 x, .int .u64 y]] V' fun e w' => e = .returned (.tuple #[.int .i64 u1, .bool u2]) ∧ RowKit.Below V'.heap.size V' w') := fun V' hV => by
    have := wants_c (HNM.out V' hV) hwM sw po HX.out HY.out
    rw [hu.out, hmc.out] at this
    exact this
  have KQ : Hid (∀ V', RowKit.Below W3.heap.size W3 V' → _) := fun V' hV => kp.out V' (below_st hB3 hV)
  have hlaw : Hid (zm = 0 → z = 0 → (u2 = true → v2 = true) ∧ (((c1 = 0 ∧ c2 = 0) ∧ c3 = 0 ∧ c4 = 0) → u2 = false)) := fun h1 h2 => by
    have h3 := hzm.out
    rw [h1, hM.out] at h3
    have h4 := hz.out
    rw [h2] at h4
    obtain ⟨h5, h6⟩ := lists_law h3 h4 sw po X
    have h7 := hu.out
    rw [hM.out] at h7
    rw [h7, hv.out] at h5
    rw [h7] at h6
    exact ⟨h5, fun hc => h6 (hzero.out hc).1 (hzero.out hc).2⟩
  clear hu hv hz hzm hM hmc HNM HNA kp hW hwM hw ww ww1 hb hp1 hq1 HX HY hcvh hRW hzero
  obtain ⟨m0, m1, m2, m3, m4, m5⟩ := KM.out W3 (Below.refl _ _)
  obtain ⟨⟨x0, x1, x2, x3, x4, x5⟩, ⟨q0, q1, q2, q3⟩, ⟨y0, y1⟩, ⟨z0, z1⟩, hbw⟩ := KQ.out W3 (Below.refl _ _)
  go_wp2_with fail
  refine (HTM.out _ (Below.refl _ _)).mono ?_
  rintro e w4 ⟨rfl, hb4⟩
  clear m0 m1 m2 m3 m4 m5 x0 x1 x2 x3 x4 x5 q0 q1 q2 q3 y0 y1 z0 z1 hbw
  obtain ⟨⟨x0, x1, x2, x3, x4, x5⟩, ⟨q0, q1, q2, q3⟩, ⟨y0, y1⟩, ⟨z0, z1⟩, hbw⟩ := KQ.out w4 hb4
  go_wp2_with fail
  refine (HT.out _ hb4).mono ?_
  rintro e w5 ⟨rfl, hb5⟩
  have hB5 := below_st hb4 hb5
  clear x0 x1 x2 x3 x4 x5 q0 q1 q2 q3 y0 y1 z0 z1 hbw
  go_wp2_with fail
  refine (HA.out _).mono ?_
  rintro e w6 ⟨rfl, hb6⟩
  have hB6 := below_st hB5 hb6
  obtain ⟨m0, m1, m2, m3, m4, m5⟩ := KM.out w6 hB6
  go_wp2_with fail
  refine (HSM.out _ hB6).mono ?_
  rintro e w7 ⟨rfl, hb7⟩
  have hB7 := below_st hB6 hb7
  clear m0 m1 m2 m3 m4 m5
  obtain ⟨⟨x0, x1, x2, x3, x4, x5⟩, ⟨q0, q1, q2, q3⟩, ⟨y0, y1⟩, ⟨z0, z1⟩, hbw⟩ := KQ.out w7 hB7
  by_cases hz0 : zm = 0
  rotate_left
  · have hzb : (zm != 0) = true := by simpa using hz0
    clear hz0
    go_wp2_with fail
    refine (HA.out _).mono ?_
    rintro e w8 ⟨rfl, hb8⟩
    have hbF := (KQ.out w8 (below_st hB7 hb8)).2.2.2.2
    go_wp2_with fail
    go_ret
    exact ⟨rfl, hbF⟩
  have hzb : (zm != 0) = false := by simpa using hz0
  have HL := Lib.hid (hlaw.out hz0)
  clear hz0 hlaw
  go_wp2_with fail
  refine (HS.out _ hB7).mono ?_
  rintro e w8 ⟨rfl, hb8⟩
  have hB8 := below_st hB7 hb8
  clear x0 x1 x2 x3 x4 x5 q0 q1 q2 q3 y0 y1 z0 z1 hbw
  by_cases hz1 : z = 0
  rotate_left
  · have hzc : (z != 0) = true := by simpa using hz1
    clear hz1
    go_wp2_with fail
    refine (HA.out _).mono ?_
    rintro e w9 ⟨rfl, hb9⟩
    have hbF := (KQ.out w9 (below_st hB8 hb9)).2.2.2.2
    go_wp2_with fail
    go_ret
    exact ⟨rfl, hbF⟩
  have hzc : (z != 0) = false := by simpa using hz1
  have HL2 := Lib.hid (HL.out hz1)
  clear hz1 HL
  obtain ⟨⟨x0, x1, x2, x3, x4, x5⟩, ⟨q0, q1, q2, q3⟩, ⟨y0, y1⟩, ⟨z0, z1⟩, hbw⟩ := KQ.out w8 hB8
  cases u2 with
  | false =>
    go_wp2_with fail
    all_goals go_ret
    all_goals exact ⟨rfl, hbw⟩
  | true =>
    obtain rfl : v2 = true := HL2.out.1 rfl
    have HN : Hid (¬ ((c1 = 0 ∧ c2 = 0) ∧ c3 = 0 ∧ c4 = 0)) := fun h => by have := HL2.out.2 h; cases this
    go_upto_region 8 with (fail)
    all_goals first
      | (go_wp2_with fail
         go_ret
         exact ⟨rfl, hbw⟩)
      | (exfalso
         apply HN.out
         simp_all)
end Go.Proofs.Ytgebehnlfihliaa
