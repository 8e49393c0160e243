/- Intent: the walk of IntentWants. -/
import Derived.Test.YtgebehnlfihliaaIn17
namespace Go.Proofs.Ytgebehnlfihliaa
open Go.RowKit Go.Maps
set_option linter.unusedSimpArgs false
set_option linter.unusedVariables false
set_option maxRecDepth 100000
set_option maxHeartbeats 4000000 in
theorem wants19 {r : Ir} {I : In} {w : World} (h : NA w r I) (hw : WfI I) (sw po : Int) (X : BitVec 128) : Calls Try.prog 10 #[.agg (I.cells r), .agg #[.int .i64 sw, .int .i64 po], .agg #[.int .u64 ((Plain.hiOf (X)).toNat : Int), .int .u64 ((Plain.loOf (X)).toNat : Int)]] w fun e w' => e = .returned (.bool true) ∧ RowKit.Below w.heap.size w w' := by
  have ic : Hid (I.cells r = #[.slice r.o I.T.n r.c, .int .i64 I.ten, .slice r.op I.np r.cp, .slice r.ow I.nw r.cw, .slice r.oe I.ne r.ce, .slice r.oa I.na r.ca]) := rfl
  rw [ic.out]
  obtain ⟨x, hx⟩ : ∃ x : Int, x = (Plain.hiOf X).toNat := ⟨_, rfl⟩
  obtain ⟨y, hy⟩ : ∃ y : Int, y = (Plain.loOf X).toNat := ⟨_, rfl⟩
  rw [← hx, ← hy]
  obtain ⟨W, hW⟩ : ∃ W, Hid (W = ((w.alloc (.cells #[.slice r.o I.T.n r.c, .int .i64 I.ten, .slice r.op I.np r.cp, .slice r.ow I.nw r.cw, .slice r.oe I.ne r.ce, .slice r.oa I.na r.ca] 56)).alloc (.cells #[.int .i64 sw, .int .i64 po] 26)).alloc (.cells #[.int .u64 x, .int .u64 y] 61)) := ⟨_, rfl⟩
  have hbx : RowKit.Below w.heap.size w W := by rw [hW.out]; exact below_al (below2 _ _ _) _
  have kp : Hid (∀ V, RowKit.Below W.heap.size W V → (V.cell? ⟨w.heap.size, 0, none⟩ = some (.slice r.o I.T.n r.c) ∧ V.cell? ⟨w.heap.size, 1, none⟩ = some (.int .i64 I.ten) ∧ V.cell? ⟨w.heap.size, 2, none⟩ = some (.slice r.op I.np r.cp) ∧ V.cell? ⟨w.heap.size, 3, none⟩ = some (.slice r.ow I.nw r.cw) ∧ V.cell? ⟨w.heap.size, 4, none⟩ = some (.slice r.oe I.ne r.ce) ∧ V.cell? ⟨w.heap.size, 5, none⟩ = some (.slice r.oa I.na r.ca)) ∧ (V.cell? ⟨w.heap.size + 1, 0, none⟩ = some (.int .i64 sw) ∧ V.cell? ⟨w.heap.size + 1, 1, none⟩ = some (.int .i64 po)) ∧ (V.cell? ⟨w.heap.size + 1 + 1, 0, none⟩ = some (.int .u64 x) ∧ V.cell? ⟨w.heap.size + 1 + 1, 1, none⟩ = some (.int .u64 y)) ∧ RowKit.Below w.heap.size w V) := by
    intro V hV
    have hh := heap3 w (.cells #[.slice r.o I.T.n r.c, .int .i64 I.ten, .slice r.op I.np r.cp, .slice r.ow I.nw r.cw, .slice r.oe I.ne r.ce, .slice r.oa I.na r.ca] 56) (.cells #[.int .i64 sw, .int .i64 po] 26) (.cells #[.int .u64 x, .int .u64 y] 61)
    rw [← hW.out] at hh
    obtain ⟨b0, b1, b2⟩ := hh
    exact ⟨⟨cell_below hV ((cell_b b0).trans rfl), cell_below hV ((cell_b b0).trans rfl), cell_below hV ((cell_b b0).trans rfl), cell_below hV ((cell_b b0).trans rfl), cell_below hV ((cell_b b0).trans rfl), cell_below hV ((cell_b b0).trans rfl)⟩, ⟨cell_below hV ((cell_b b1).trans rfl), cell_below hV ((cell_b b1).trans rfl)⟩, ⟨cell_below hV ((cell_b b2).trans rfl), cell_below hV ((cell_b b2).trans rfl)⟩, hbx.trans (hV.mono hbx.size)⟩
  have ne0 := h.en.1
  have ne1 := h.en.2.1
  have na0 := h.ac.1
  have na1 := h.ac.2.1
  simp only [maxLen] at ne1 na1
  have HA : Hid (∀ V, Calls Try.prog 24 #[] V fun e w' => e = .returned (.bool true) ∧ RowKit.Below V.heap.size V w') := fun V => iawake_c V
  by_cases hbig : 500 < I.ne ∨ 500 < I.na
  · by_cases n1 : 500 < I.ne
    · have n1b : decide (500 < (I.ne : Int)) = true := decide_eq_true (by omega)
      have n1c : decide (500 < I.ne) = true := decide_eq_true n1
      clear hx hy
      go_enter Try.func10, Try.ntmps10
      go_wp2_with fail
      refine (HA.out _).mono ?_
      rw [← hW.out]
      rintro e w1 ⟨rfl, hb1⟩
      go_wp2_with fail
      go_ret
      exact ⟨rfl, below_st hbx hb1⟩
    · have n1b : decide (500 < (I.ne : Int)) = false := decide_eq_false (by omega)
      have n1c : decide (500 < I.ne) = false := decide_eq_false n1
      have n2b : decide (500 < (I.na : Int)) = true := decide_eq_true (by omega)
      have n2c : decide (500 < I.na) = true := decide_eq_true (by omega)
      clear hx hy
      go_enter Try.func10, Try.ntmps10
      go_wp2_with fail
      refine (HA.out _).mono ?_
      rw [← hW.out]
      rintro e w1 ⟨rfl, hb1⟩
      go_wp2_with fail
      go_ret
      exact ⟨rfl, below_st hbx hb1⟩
  have n1b : decide (500 < (I.ne : Int)) = false := decide_eq_false (by omega)
  have n1c : decide (500 < I.ne) = false := decide_eq_false (by omega)
  have n2b : decide (500 < (I.na : Int)) = false := decide_eq_false (by omega)
  have n2c : decide (500 < I.na) = false := decide_eq_false (by omega)
  obtain ⟨v1, v2, hv⟩ : ∃ v1 v2, Hid (wnt I sw po X = (v1, v2)) := ⟨_, _, rfl⟩
  have HT : Hid (∀ V, RowKit.Below W.heap.size W V → Calls Try.prog 29 #[.agg #[.slice r.o I.T.n r.c, .int .i64 I.ten, .slice r.op I.np r.cp, .slice r.ow I.nw r.cw, .slice r.oe I.ne r.ce, .slice r.oa I.na r.ca], .agg #[.int .i64 sw, .int .i64 po], .agg #[.int .u64 x, .int .u64 y]] V fun e w' => e = .returned (.tuple #[.int .i64 v1, .bool v2]) ∧ RowKit.Below V.heap.size V w') := fun V hV => by
    have := wants_c (h.below (below_st hbx hV)) hw sw po hx hy
    rw [hv.out] at this
    exact this
  have HU : Hid (∀ V, RowKit.Below W.heap.size W V → Calls Try.prog 30 #[.agg #[.slice r.o I.T.n r.c, .int .i64 I.ten, .slice r.op I.np r.cp, .slice r.ow I.nw r.cw, .slice r.oe I.ne r.ce, .slice r.oa I.na r.ca], .agg #[.int .i64 sw, .int .i64 po], .agg #[.int .u64 x, .int .u64 y]] V fun e w' => e = .returned (.tuple #[.int .i64 v1, .bool v2]) ∧ RowKit.Below V.heap.size V w') := fun V hV => by
    have := riwants_c (h.below (below_st hbx hV)) hw sw po hx hy
    rw [hv.out] at this
    exact this
  clear hx hy
  have ht := HT.out W (Below.refl _ _)
  rw [hW.out] at ht
  have hzz : (v1 == v1) = true := by simp
  have hzz2 : (v2 == v2) = true := by simp
  go_enter Try.func10, Try.ntmps10
  go_wp2_with fail
  refine ht.mono ?_
  rw [← hW.out]
  rintro e w1 ⟨rfl, hb1⟩
  clear ht
  obtain ⟨⟨x0, x1, x2, x3, x4, x5⟩, ⟨y0, y1⟩, ⟨z0, z1⟩, hbw1⟩ := kp.out w1 hb1
  go_wp2_with fail
  refine (HU.out _ hb1).mono ?_
  rintro e w2 ⟨rfl, hb2⟩
  have hB2 := below_st hb1 hb2
  clear x0 x1 x2 x3 x4 x5 y0 y1 z0 z1 hbw1
  go_wp2_with fail
  refine (HA.out _).mono ?_
  rintro e w3 ⟨rfl, hb3⟩
  have hbw := (kp.out w3 (below_st hB2 hb3)).2.2.2
  cases v2
  all_goals go_wp2_with fail
  all_goals go_ret
  all_goals exact ⟨by simp [*], hbw⟩
end Go.Proofs.Ytgebehnlfihliaa
