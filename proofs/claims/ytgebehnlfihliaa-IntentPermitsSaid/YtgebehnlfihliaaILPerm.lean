/- Intent: the walk of IntentPermits. -/
import Derived.Test.YtgebehnlfihliaaIn17
namespace Go.Proofs.Ytgebehnlfihliaa
open Go.RowKit Go.Maps
set_option linter.unusedSimpArgs false
set_option linter.unusedVariables false
set_option maxRecDepth 100000
set_option maxHeartbeats 4000000 in
theorem permits19 {r : Ir} {I : In} {w : World} (h : NA w r I) (X : BitVec 128) : Calls Try.prog 9 #[.agg (I.cells r), .agg #[.int .u64 ((Plain.hiOf (X)).toNat : Int), .int .u64 ((Plain.loOf (X)).toNat : Int)]] w fun e w' => e = .returned (.bool true) ∧ RowKit.Below w.heap.size w w' := by
  have ic : Hid (I.cells r = #[.slice r.o I.T.n r.c, .int .i64 I.ten, .slice r.op I.np r.cp, .slice r.ow I.nw r.cw, .slice r.oe I.ne r.ce, .slice r.oa I.na r.ca]) := rfl
  rw [ic.out]
  obtain ⟨x, hx⟩ : ∃ x : Int, x = (Plain.hiOf X).toNat := ⟨_, rfl⟩
  obtain ⟨y, hy⟩ : ∃ y : Int, y = (Plain.loOf X).toNat := ⟨_, rfl⟩
  rw [← hx, ← hy]
  obtain ⟨W, hW⟩ : ∃ W, Hid (W = (w.alloc (.cells #[.slice r.o I.T.n r.c, .int .i64 I.ten, .slice r.op I.np r.cp, .slice r.ow I.nw r.cw, .slice r.oe I.ne r.ce, .slice r.oa I.na r.ca] 56)).alloc (.cells #[.int .u64 x, .int .u64 y] 61)) := ⟨_, rfl⟩
  have hbx : RowKit.Below w.heap.size w W := by rw [hW.out]; exact below_al (below_al (Below.refl _ _) _) _
  have b0 : W.heap[w.heap.size]? = some (.cells #[.slice r.o I.T.n r.c, .int .i64 I.ten, .slice r.op I.np r.cp, .slice r.ow I.nw r.cw, .slice r.oe I.ne r.ce, .slice r.oa I.na r.ca] 56 (0, 0)) := by
    rw [hW.out, al_lt' (by simp)]; exact heap_alloc_new w _
  have b1 : W.heap[w.heap.size + 1]? = some (.cells #[.int .u64 x, .int .u64 y] 61 (0, 0)) := by
    rw [hW.out]
    have := heap_alloc_new (w.alloc (.cells #[.slice r.o I.T.n r.c, .int .i64 I.ten, .slice r.op I.np r.cp, .slice r.ow I.nw r.cw, .slice r.oe I.ne r.ce, .slice r.oa I.na r.ca] 56)) (.cells #[.int .u64 x, .int .u64 y] 61)
    rwa [World.size_alloc] at this
  have hA := fun p : Regrown => iawake_c (Sort.grow (redrawn W p.d) p.os)
  have hS := fun p : Regrown => Hd.permits_c (h.below (below_st hbx (below_regrown W p.d p.os))) hx hy
  have hR := fun p : Regrown => Hd.ripermits_c (h.below (below_st hbx (below_regrown W p.d p.os))) hx hy
  obtain ⟨z, hz⟩ : ∃ z, Hid (Hd.perB I X = z) := ⟨_, rfl⟩
  simp only [ic.out, hz.out] at hS hR
  have HA := Lib.hid hA
  have HS := Lib.hid hS
  have HR := Lib.hid hR
  clear hA hS hR hx hy
  have x0 := reg_c (show W.cell? ⟨w.heap.size, 0, none⟩ = some (.slice r.o I.T.n r.c) from (cell_b b0).trans rfl)
  have x1 := reg_c (show W.cell? ⟨w.heap.size, 1, none⟩ = some (.int .i64 I.ten) from (cell_b b0).trans rfl)
  have x2 := reg_c (show W.cell? ⟨w.heap.size, 2, none⟩ = some (.slice r.op I.np r.cp) from (cell_b b0).trans rfl)
  have x3 := reg_c (show W.cell? ⟨w.heap.size, 3, none⟩ = some (.slice r.ow I.nw r.cw) from (cell_b b0).trans rfl)
  have x4 := reg_c (show W.cell? ⟨w.heap.size, 4, none⟩ = some (.slice r.oe I.ne r.ce) from (cell_b b0).trans rfl)
  have x5 := reg_c (show W.cell? ⟨w.heap.size, 5, none⟩ = some (.slice r.oa I.na r.ca) from (cell_b b0).trans rfl)
  have y0 := reg_c (show W.cell? ⟨w.heap.size + 1, 0, none⟩ = some (.int .u64 x) from (cell_b b1).trans rfl)
  have y1 := reg_c (show W.cell? ⟨w.heap.size + 1, 1, none⟩ = some (.int .u64 y) from (cell_b b1).trans rfl)
  have hzz : (z == z) = true := by simp
  go_enter Try.func9, Try.ntmps9
  go_upto_region 1 with (fail)
  rw [← hW.out]
  cases z
  all_goals refine wp_region_quiet_below (by kernel_rfl) (by kernel_rfl) ?_; (repeat (go_big_quiet_step ((first | (go_at_call 24; exact Calls.regrown_of (HA.out _)) | (go_at_call 27; exact Calls.regrown_of (HS.out _)) | (go_at_call 28; exact Calls.regrown_of (HR.out _)))))); refine wpQuiet_nil ?_; intro _ hw'; obtain ⟨⟨dq, osq⟩, hw''⟩ := hw'; subst hw''
  all_goals go_wp2_with fail
  all_goals go_ret
  all_goals exact ⟨rfl, hbx.trans ((below_regrown W dq osq).mono hbx.size)⟩
end Go.Proofs.Ytgebehnlfihliaa
