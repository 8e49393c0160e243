/- Intent: the walk of IntentSound. -/
import Derived.Test.YtgebehnlfihliaaIn17
namespace Go.Proofs.Ytgebehnlfihliaa
open Go.RowKit Go.Maps
set_option linter.unusedSimpArgs false
set_option linter.unusedVariables false
set_option maxRecDepth 100000
set_option maxHeartbeats 4000000 in
theorem sound19 {r : Ir} {I : In} {w : World} (h : NA w r I) (hw : WfI I) : Calls Try.prog 8 #[.agg (I.cells r)] w fun e w' => e = .returned (.bool true) ∧ RowKit.Below w.heap.size w w' := by
  have ic : Hid (I.cells r = #[.slice r.o I.T.n r.c, .int .i64 I.ten, .slice r.op I.np r.cp, .slice r.ow I.nw r.cw, .slice r.oe I.ne r.ce, .slice r.oa I.na r.ca]) := rfl
  rw [ic.out]
  have hbx : RowKit.Below w.heap.size w (w.alloc (.cells #[.slice r.o I.T.n r.c, .int .i64 I.ten, .slice r.op I.np r.cp, .slice r.ow I.nw r.cw, .slice r.oe I.ne r.ce, .slice r.oa I.na r.ca] 56)) := below_al (Below.refl _ _) _
  have b0 := heap_alloc_new w (.cells #[.slice r.o I.T.n r.c, .int .i64 I.ten, .slice r.op I.np r.cp, .slice r.ow I.nw r.cw, .slice r.oe I.ne r.ce, .slice r.oa I.na r.ca] 56)
  have ne0 := h.en.1
  have ne1 := h.en.2.1
  have na0 := h.ac.1
  have na1 := h.ac.2.1
  simp only [maxLen] at ne1 na1
  by_cases hbig : 500 < I.ne ∨ 500 < I.na
  · have ha := iawake_c (w.alloc (.cells #[.slice r.o I.T.n r.c, .int .i64 I.ten, .slice r.op I.np r.cp, .slice r.ow I.nw r.cw, .slice r.oe I.ne r.ce, .slice r.oa I.na r.ca] 56))
    by_cases n1 : 500 < I.ne
    · have n1b : decide (500 < (I.ne : Int)) = true := decide_eq_true (by omega)
      have n1c : decide (500 < I.ne) = true := decide_eq_true n1
      go_enter Try.func8, Try.ntmps8
      go_wp2_with fail
      refine ha.mono ?_
      rintro e w1 ⟨rfl, hb1⟩
      go_wp2_with fail
      go_ret
      exact ⟨rfl, below_st hbx hb1⟩
    · have n1b : decide (500 < (I.ne : Int)) = false := decide_eq_false (by omega)
      have n1c : decide (500 < I.ne) = false := decide_eq_false n1
      have n2b : decide (500 < (I.na : Int)) = true := decide_eq_true (by omega)
      have n2c : decide (500 < I.na) = true := decide_eq_true (by omega)
      go_enter Try.func8, Try.ntmps8
      go_wp2_with fail
      refine ha.mono ?_
      rintro e w1 ⟨rfl, hb1⟩
      go_wp2_with fail
      go_ret
      exact ⟨rfl, below_st hbx hb1⟩
  have n1b : decide (500 < (I.ne : Int)) = false := decide_eq_false (by omega)
  have n1c : decide (500 < I.ne) = false := decide_eq_false (by omega)
  have n2b : decide (500 < (I.na : Int)) = false := decide_eq_false (by omega)
  have n2c : decide (500 < I.na) = false := decide_eq_false (by omega)
  obtain ⟨W, hW⟩ : ∃ W, Hid (W = w.alloc (.cells #[.slice r.o I.T.n r.c, .int .i64 I.ten, .slice r.op I.np r.cp, .slice r.ow I.nw r.cw, .slice r.oe I.ne r.ce, .slice r.oa I.na r.ca] 56)) := ⟨_, rfl⟩
  rw [← hW.out] at hbx b0
  have hA := fun p : Regrown => iawake_c (Sort.grow (redrawn W p.d) p.os)
  have hS := fun p : Regrown => isound_c (h.below (below_st hbx (below_regrown W p.d p.os))) hw
  have hR := fun p : Regrown => Hd.risound_c (h.below (below_st hbx (below_regrown W p.d p.os)))
  obtain ⟨z, hz⟩ : ∃ z, Hid (soundI I = z) := ⟨_, rfl⟩
  simp only [ic.out, hz.out] at hS hR
  have HA := Lib.hid hA
  have HS := Lib.hid hS
  have HR := Lib.hid hR
  clear hA hS hR
  have x0 := reg_c (show W.cell? ⟨w.heap.size, 0, none⟩ = some (.slice r.o I.T.n r.c) from (cell_b b0).trans rfl)
  have x1 := reg_c (show W.cell? ⟨w.heap.size, 1, none⟩ = some (.int .i64 I.ten) from (cell_b b0).trans rfl)
  have x2 := reg_c (show W.cell? ⟨w.heap.size, 2, none⟩ = some (.slice r.op I.np r.cp) from (cell_b b0).trans rfl)
  have x3 := reg_c (show W.cell? ⟨w.heap.size, 3, none⟩ = some (.slice r.ow I.nw r.cw) from (cell_b b0).trans rfl)
  have x4 := reg_c (show W.cell? ⟨w.heap.size, 4, none⟩ = some (.slice r.oe I.ne r.ce) from (cell_b b0).trans rfl)
  have x5 := reg_c (show W.cell? ⟨w.heap.size, 5, none⟩ = some (.slice r.oa I.na r.ca) from (cell_b b0).trans rfl)
  have hzz : (z == z) = true := by simp
  go_enter Try.func8, Try.ntmps8
  go_upto_region 3 with (fail)
  rw [← hW.out]
  refine wp_region_quiet_below (by kernel_rfl) (by kernel_rfl) ?_; (repeat (go_big_quiet_step ((first | (go_at_call 24; exact Calls.regrown_of (HA.out _)) | (go_at_call 25; exact Calls.regrown_of (HS.out _)) | (go_at_call 26; exact Calls.regrown_of (HR.out _)))))); refine wpQuiet_nil ?_; intro _ hw'; obtain ⟨⟨dq, osq⟩, hw''⟩ := hw'; subst hw''
  go_wp2_with fail
  go_ret
  exact ⟨by simp [*], hbx.trans ((below_regrown W dq osq).mono hbx.size)⟩
end Go.Proofs.Ytgebehnlfihliaa
