/- Topo: Other. -/
import Derived.Test.YtgebehnlfihliaaTop5
import Derived.Laws.ResultCell
import Derived.Laws.NewBlocks
namespace Go.Proofs.Ytgebehnlfihliaa
open Go.RowKit
set_option linter.unusedSimpArgs false
set_option linter.unusedVariables false
set_option maxRecDepth 100000
/-- where the link at a spot leads. -/
def otherF (T : Tp) (sw po : Int) : Int × Int × Bool :=
  if soundE T = 0 ∧ 0 ≤ sw ∧ sw < T.n ∧ 0 ≤ po ∧ po < T.ln sw.toNat ∧ (T.pt sw.toNat po.toNat).kind = 2 then ((T.pt sw.toNat po.toNat).peer, (T.pt sw.toNat po.toNat).at_, true) else (0, 0, false)
theorem sc_at {w : World} {b o : Nat} {v : Value} {c : Array Value} {t : TypeId} {f : Nat × Nat} (h : w.heap[b]? = some (.cells c t f)) : (w.setCell ⟨b, o, none⟩ v).heap[b]? = some (.cells (c.setIfInBounds o v) t f) := by
  simp [World.setCell, Array.getElem?_modify, h]
theorem st26 : ∃ d, Try.prog.underlying 26 = some d ∧ (match d with | .struct _ | .array _ _ => true | _ => false) = true := by
  have h : (Try.prog.underlying 26).map (fun d => match d with | .struct _ | .array _ _ => true | _ => false) = some true := by kernel_rfl
  obtain ⟨d, h1, h2⟩ := Option.map_eq_some_iff.1 h
  exact ⟨d, h1, h2⟩
theorem sz26 : (Try.prog.info? 26).map (·.size) = some 2 := by kernel_rfl
theorem results_cell2 {fn : Func} {p u : Tmp} (h : fn.results = #[.cell p 26, .tmp u]) (tmps : Array Value) (w : World) (g : Nat) (x y : Value) (t : TypeId) (hp : tmps.getD p undef = .pointer (some ⟨g, 0, none⟩)) (hg : w.heap[g]? = some (.cells #[x, y] t (0, 0))) :
    (results fn tmps).run Try.prog w = .ok (.tuple #[.agg #[x, y], tmps.getD u undef]) w := by
  obtain ⟨d, h1, h2⟩ := st26
  have hl : (loadVar 26 ⟨g, 0, none⟩).run Try.prog w = .ok (.agg #[x, y]) w := by
    cases d with
    | struct fs => exact run_loadVar_row w g t 26 #[x, y] (0, 0) _ hg h1 rfl sz26
    | array n e => exact run_loadVar_row w g t 26 #[x, y] (0, 0) _ hg h1 rfl sz26
    | _ => cases h2
  rw [results_cell_tmp h, hp]
  simp only [asAddr, Sem.run_pure, Result.andThen_ok, hl]
theorem below3 (w : World) (x y z : Obj) : RowKit.Below w.heap.size w (((w.alloc x).alloc y).alloc z) := (below2 w x y).alloc (by rw [World.size_alloc, World.size_alloc]; omega) _
set_option maxHeartbeats 16000000 in
theorem other_c {o : Option Addr} {cap : Nat} {T : Tp} {w : World} (h : TA w o cap T) (sw po : Int) :
    Calls Try.prog 18 #[.agg #[.slice o T.n cap], .agg #[.int .i64 sw, .int .i64 po]] w fun e w' => e = .returned (.tuple #[.agg #[.int .i64 (otherF T sw po).1, .int .i64 (otherF T sw po).2.1], .bool (otherF T sw po).2.2]) ∧ RowKit.Below w.heap.size w w' := by
  obtain ⟨b, off, ro, rc, rb, rf, h1, h2, h3, h4, h5⟩ := h.ex
  have H4 := Lib.hid h4
  have H5 := Lib.hid h5
  have H1 := Lib.hid h1
  clear h4 h5 h1
  go_enter Try.func18, Try.ntmps18
  go_wp2_with fail
  refine wp_world (fun W => W.heap[w.heap.size]? = some (.cells #[.slice o T.n cap] 24 (0, 0)) ∧ W.heap[w.heap.size + 1]? = some (.cells #[.int .i64 sw, .int .i64 po] 26 (0, 0)) ∧ W.heap[w.heap.size + 2]? = some (.cells #[.int .i64 0, .int .i64 0] 26 (0, 0)) ∧ RowKit.Below w.heap.size w W) ?_ ?_
  · refine ⟨?_, ?_, ?_, below3 _ _ _ _⟩
    · rw [al_lt' (by simp only [World.size_alloc]; omega), al_lt' (by simp only [World.size_alloc]; omega)]
      exact heap_alloc_new w _
    · rw [al_lt' (by simp only [World.size_alloc]; omega)]
      have := heap_alloc_new (w.alloc (.cells #[.slice o T.n cap] 24)) (.cells #[.int .i64 sw, .int .i64 po] 26)
      rw [World.size_alloc] at this
      exact this
    · have := heap_alloc_new ((w.alloc (.cells #[.slice o T.n cap] 24)).alloc (.cells #[.int .i64 sw, .int .i64 po] 26)) (.cells #[.int .i64 0, .int .i64 0] 26)
      rw [World.size_alloc, World.size_alloc] at this
      exact this
  obtain ⟨gb, hgb⟩ : ∃ gb, Hid (gb = w.heap.size) := ⟨_, rfl⟩
  rw [← hgb.out]
  rintro W ⟨hW0, hW1, hW2, hbW⟩
  rw [hgb.out] at hbW
  have x0 := reg_c (show W.cell? ⟨gb, 0, none⟩ = some (.slice o T.n cap) from by rw [cell_b hW0]; rfl)
  have y0 := reg_c (show W.cell? ⟨gb + 1, 0, none⟩ = some (.int .i64 sw) from by rw [cell_b hW1]; rfl)
  have y1 := reg_c (show W.cell? ⟨gb + 1, 1, none⟩ = some (.int .i64 po) from by rw [cell_b hW1]; rfl)
  have hs := fun p : Regrown => tsound_c ((h.below hbW).below (below_regrown W p.d p.os))
  have HS := Lib.hid hs
  clear hs
  by_cases s0 : soundE T = 0
  rotate_left
  · have s0b : (soundE T != 0) = true := by simpa using s0
    have he : Hid (otherF T sw po = (0, 0, false)) := if_neg (fun hh => s0 hh.1)
    refine wp_region_quiet_below (by kernel_rfl) (by kernel_rfl) ?_; (repeat (go_big_quiet_step ((first | (go_at_call 17; exact Calls.regrown_of (HS.out _)))))); refine wpQuiet_nil ?_; intro _ hw'; obtain ⟨⟨dq, osq⟩, hw''⟩ := hw'; subst hw''
    have hbq := hbW.trans ((below_regrown W dq osq).mono hbW.size)
    have hq2 : (Sort.grow (redrawn W dq) osq).heap[gb + 1 + 1]? = some (.cells #[.int .i64 0, .int .i64 0] 26 (0, 0)) := ((below_regrown W dq osq).block _ (Array.getElem?_eq_some_iff.1 hW2).1).trans hW2
    have hgr : w.heap.size ≤ gb + 1 + 1 := by have := hgb.out; omega
    have c0 : (Sort.grow (redrawn W dq) osq).cell? ⟨gb + 1 + 1, 0, none⟩ = some (.int .i64 0) := by rw [cell_b hq2]; rfl
    have c1 : (Sort.grow (redrawn W dq) osq).cell? ⟨gb + 1 + 1, 1, none⟩ = some (.int .i64 0) := by rw [cell_b hq2]; rfl
    have f0 : (Sort.grow (redrawn W dq) osq).frozen? ⟨gb + 1 + 1, 0, none⟩ = false := by simp [World.frozen?, hq2]
    have f1 : (Sort.grow (redrawn W dq) osq).frozen? ⟨gb + 1 + 1, 1, none⟩ = false := by simp [World.frozen?, hq2]
    go_wp2_with fail
    refine bodyPost_ret_by (results_cell2 rfl _ _ (gb + 1 + 1) (.int .i64 0) (.int .i64 0) 26 rfl (sc_at (sc_at hq2))) rfl ?_
    exact ⟨by rw [he.out]; rfl, (hbq.setCell hgr _).setCell hgr _⟩
  have HS0 : Hid (∀ p : Regrown, Calls Try.prog 17 #[.agg #[.slice o T.n cap]] (Sort.grow (redrawn W p.d) p.os) fun e w' => e = .returned (.int .i64 0) ∧ RowKit.Below (Sort.grow (redrawn W p.d) p.os).heap.size (Sort.grow (redrawn W p.d) p.os) w') := by
    intro p
    have := HS.out p
    rw [s0] at this
    exact this
  by_cases a1 : 0 ≤ sw
  rotate_left
  · have he : Hid (otherF T sw po = (0, 0, false)) := if_neg (fun hh => a1 hh.2.1)
    have a1b : decide (sw < 0) = true := decide_eq_true (by omega)
    refine wp_region_quiet_below (by kernel_rfl) (by kernel_rfl) ?_; (repeat (go_big_quiet_step ((first | (go_at_call 17; exact Calls.regrown_of (HS0.out _)))))); refine wpQuiet_nil ?_; intro _ hw'; obtain ⟨⟨dq, osq⟩, hw''⟩ := hw'; subst hw''
    have hbq := hbW.trans ((below_regrown W dq osq).mono hbW.size)
    have hq2 : (Sort.grow (redrawn W dq) osq).heap[gb + 1 + 1]? = some (.cells #[.int .i64 0, .int .i64 0] 26 (0, 0)) := ((below_regrown W dq osq).block _ (Array.getElem?_eq_some_iff.1 hW2).1).trans hW2
    have hgr : w.heap.size ≤ gb + 1 + 1 := by have := hgb.out; omega
    have c0 : (Sort.grow (redrawn W dq) osq).cell? ⟨gb + 1 + 1, 0, none⟩ = some (.int .i64 0) := by rw [cell_b hq2]; rfl
    have c1 : (Sort.grow (redrawn W dq) osq).cell? ⟨gb + 1 + 1, 1, none⟩ = some (.int .i64 0) := by rw [cell_b hq2]; rfl
    have f0 : (Sort.grow (redrawn W dq) osq).frozen? ⟨gb + 1 + 1, 0, none⟩ = false := by simp [World.frozen?, hq2]
    have f1 : (Sort.grow (redrawn W dq) osq).frozen? ⟨gb + 1 + 1, 1, none⟩ = false := by simp [World.frozen?, hq2]
    go_wp2_with fail
    refine bodyPost_ret_by (results_cell2 rfl _ _ (gb + 1 + 1) (.int .i64 0) (.int .i64 0) 26 rfl (sc_at (sc_at hq2))) rfl ?_
    exact ⟨by rw [he.out]; rfl, (hbq.setCell hgr _).setCell hgr _⟩
  obtain ⟨sn, rfl⟩ : ∃ sn : Nat, sw = (sn : Int) := ⟨sw.toNat, by omega⟩
  have a1f : decide ((sn : Int) < 0) = false := decide_eq_false (by omega)
  by_cases a2 : sn < T.n
  rotate_left
  · have he : Hid (otherF T (sn : Int) po = (0, 0, false)) := if_neg (fun hh => a2 (by have := hh.2.2.1; omega))
    have a2b : decide (T.n ≤ sn) = true := decide_eq_true (by omega)
    have a2c : decide ((T.n : Int) ≤ (sn : Int)) = true := decide_eq_true (by omega)
    refine wp_region_quiet_below (by kernel_rfl) (by kernel_rfl) ?_; (repeat (go_big_quiet_step ((first | (go_at_call 17; exact Calls.regrown_of (HS0.out _)))))); refine wpQuiet_nil ?_; intro _ hw'; obtain ⟨⟨dq, osq⟩, hw''⟩ := hw'; subst hw''
    have hbq := hbW.trans ((below_regrown W dq osq).mono hbW.size)
    have hq2 : (Sort.grow (redrawn W dq) osq).heap[gb + 1 + 1]? = some (.cells #[.int .i64 0, .int .i64 0] 26 (0, 0)) := ((below_regrown W dq osq).block _ (Array.getElem?_eq_some_iff.1 hW2).1).trans hW2
    have hgr : w.heap.size ≤ gb + 1 + 1 := by have := hgb.out; omega
    have c0 : (Sort.grow (redrawn W dq) osq).cell? ⟨gb + 1 + 1, 0, none⟩ = some (.int .i64 0) := by rw [cell_b hq2]; rfl
    have c1 : (Sort.grow (redrawn W dq) osq).cell? ⟨gb + 1 + 1, 1, none⟩ = some (.int .i64 0) := by rw [cell_b hq2]; rfl
    have f0 : (Sort.grow (redrawn W dq) osq).frozen? ⟨gb + 1 + 1, 0, none⟩ = false := by simp [World.frozen?, hq2]
    have f1 : (Sort.grow (redrawn W dq) osq).frozen? ⟨gb + 1 + 1, 1, none⟩ = false := by simp [World.frozen?, hq2]
    go_wp2_with fail
    refine bodyPost_ret_by (results_cell2 rfl _ _ (gb + 1 + 1) (.int .i64 0) (.int .i64 0) 26 rfl (sc_at (sc_at hq2))) rfl ?_
    exact ⟨by rw [he.out]; rfl, (hbq.setCell hgr _).setCell hgr _⟩
  have a2f : decide (T.n ≤ sn) = false := decide_eq_false (by omega)
  have a2g : decide ((T.n : Int) ≤ (sn : Int)) = false := decide_eq_false (by omega)
  have a2I : (sn : Int) < (T.n : Int) := by omega
  obtain rfl := H1.out (by omega)
  obtain ⟨r1, r2, r3, r4⟩ := H4.out sn a2
  have z0 := reg_c (cell_below hbW r1)
  by_cases a3 : 0 ≤ po
  rotate_left
  · have he : Hid (otherF T (sn : Int) po = (0, 0, false)) := if_neg (fun hh => a3 hh.2.2.2.1)
    have a3b : decide (po < 0) = true := decide_eq_true (by omega)
    refine wp_region_quiet_below (by kernel_rfl) (by kernel_rfl) ?_; (repeat (go_big_quiet_step ((first | (go_at_call 17; exact Calls.regrown_of (HS0.out _)))))); refine wpQuiet_nil ?_; intro _ hw'; obtain ⟨⟨dq, osq⟩, hw''⟩ := hw'; subst hw''
    have hbq := hbW.trans ((below_regrown W dq osq).mono hbW.size)
    have hq2 : (Sort.grow (redrawn W dq) osq).heap[gb + 1 + 1]? = some (.cells #[.int .i64 0, .int .i64 0] 26 (0, 0)) := ((below_regrown W dq osq).block _ (Array.getElem?_eq_some_iff.1 hW2).1).trans hW2
    have hgr : w.heap.size ≤ gb + 1 + 1 := by have := hgb.out; omega
    have c0 : (Sort.grow (redrawn W dq) osq).cell? ⟨gb + 1 + 1, 0, none⟩ = some (.int .i64 0) := by rw [cell_b hq2]; rfl
    have c1 : (Sort.grow (redrawn W dq) osq).cell? ⟨gb + 1 + 1, 1, none⟩ = some (.int .i64 0) := by rw [cell_b hq2]; rfl
    have f0 : (Sort.grow (redrawn W dq) osq).frozen? ⟨gb + 1 + 1, 0, none⟩ = false := by simp [World.frozen?, hq2]
    have f1 : (Sort.grow (redrawn W dq) osq).frozen? ⟨gb + 1 + 1, 1, none⟩ = false := by simp [World.frozen?, hq2]
    go_wp2_with fail
    refine bodyPost_ret_by (results_cell2 rfl _ _ (gb + 1 + 1) (.int .i64 0) (.int .i64 0) 26 rfl (sc_at (sc_at hq2))) rfl ?_
    exact ⟨by rw [he.out]; rfl, (hbq.setCell hgr _).setCell hgr _⟩
  obtain ⟨pn, rfl⟩ : ∃ pn : Nat, po = (pn : Int) := ⟨po.toNat, by omega⟩
  have a3f : decide ((pn : Int) < 0) = false := decide_eq_false (by omega)
  by_cases a4 : pn < T.ln sn
  rotate_left
  · have he : Hid (otherF T (sn : Int) (pn : Int) = (0, 0, false)) := if_neg (fun hh => a4 (by have := hh.2.2.2.2.1; simp at this; omega))
    have a4b : decide (T.ln sn ≤ pn) = true := decide_eq_true (by omega)
    have a4c : decide ((T.ln sn : Int) ≤ (pn : Int)) = true := decide_eq_true (by omega)
    refine wp_region_quiet_below (by kernel_rfl) (by kernel_rfl) ?_; (repeat (go_big_quiet_step ((first | (go_at_call 17; exact Calls.regrown_of (HS0.out _)))))); refine wpQuiet_nil ?_; intro _ hw'; obtain ⟨⟨dq, osq⟩, hw''⟩ := hw'; subst hw''
    have hbq := hbW.trans ((below_regrown W dq osq).mono hbW.size)
    have hq2 : (Sort.grow (redrawn W dq) osq).heap[gb + 1 + 1]? = some (.cells #[.int .i64 0, .int .i64 0] 26 (0, 0)) := ((below_regrown W dq osq).block _ (Array.getElem?_eq_some_iff.1 hW2).1).trans hW2
    have hgr : w.heap.size ≤ gb + 1 + 1 := by have := hgb.out; omega
    have c0 : (Sort.grow (redrawn W dq) osq).cell? ⟨gb + 1 + 1, 0, none⟩ = some (.int .i64 0) := by rw [cell_b hq2]; rfl
    have c1 : (Sort.grow (redrawn W dq) osq).cell? ⟨gb + 1 + 1, 1, none⟩ = some (.int .i64 0) := by rw [cell_b hq2]; rfl
    have f0 : (Sort.grow (redrawn W dq) osq).frozen? ⟨gb + 1 + 1, 0, none⟩ = false := by simp [World.frozen?, hq2]
    have f1 : (Sort.grow (redrawn W dq) osq).frozen? ⟨gb + 1 + 1, 1, none⟩ = false := by simp [World.frozen?, hq2]
    go_wp2_with fail
    refine bodyPost_ret_by (results_cell2 rfl _ _ (gb + 1 + 1) (.int .i64 0) (.int .i64 0) 26 rfl (sc_at (sc_at hq2))) rfl ?_
    exact ⟨by rw [he.out]; rfl, (hbq.setCell hgr _).setCell hgr _⟩
  have a4f : decide (T.ln sn ≤ pn) = false := decide_eq_false (by omega)
  have a4g : decide ((T.ln sn : Int) ≤ (pn : Int)) = false := decide_eq_false (by omega)
  have a4I : (pn : Int) < (T.ln sn : Int) := by omega
  rw [r4 (by omega)] at z0
  obtain ⟨p0, p1, p2, p3, p4⟩ := H5.out sn pn a2 a4
  obtain ⟨P, hP⟩ : ∃ P, Hid (T.pt sn pn = P) := ⟨_, rfl⟩
  rw [hP.out] at p0 p1 p2 p3 p4
  obtain ⟨kind, ten, peer, at_, cost⟩ := P
  simp only at p0 p1 p2 p3 p4
  refine wp_region_quiet_below (by kernel_rfl) (by kernel_rfl) ?_; (repeat (go_big_quiet_step ((first | (go_at_call 17; exact Calls.regrown_of (HS0.out _)))))); refine wpQuiet_nil ?_; intro _ hw'; obtain ⟨⟨dq, osq⟩, hw''⟩ := hw'; subst hw''
  have hbq := hbW.trans ((below_regrown W dq osq).mono hbW.size)
  have hq2 : (Sort.grow (redrawn W dq) osq).heap[gb + 1 + 1]? = some (.cells #[.int .i64 0, .int .i64 0] 26 (0, 0)) := ((below_regrown W dq osq).block _ (Array.getElem?_eq_some_iff.1 hW2).1).trans hW2
  have hgr : w.heap.size ≤ gb + 1 + 1 := by have := hgb.out; omega
  have c0 : (Sort.grow (redrawn W dq) osq).cell? ⟨gb + 1 + 1, 0, none⟩ = some (.int .i64 0) := by rw [cell_b hq2]; rfl
  have c1 : (Sort.grow (redrawn W dq) osq).cell? ⟨gb + 1 + 1, 1, none⟩ = some (.int .i64 0) := by rw [cell_b hq2]; rfl
  have f0 : (Sort.grow (redrawn W dq) osq).frozen? ⟨gb + 1 + 1, 0, none⟩ = false := by simp [World.frozen?, hq2]
  have f1 : (Sort.grow (redrawn W dq) osq).frozen? ⟨gb + 1 + 1, 1, none⟩ = false := by simp [World.frozen?, hq2]
  go_wp2_with fail
  refine wp_world (fun V => V.cell? ⟨gb, 0, none⟩ = some (.slice (some ⟨b, off, none⟩) T.n cap) ∧ V.cell? ⟨gb + 1, 0, none⟩ = some (.int .i64 (sn : Int)) ∧ V.cell? ⟨gb + 1, 1, none⟩ = some (.int .i64 (pn : Int)) ∧ V.cell? ⟨b, off + sn, none⟩ = some (.slice (some ⟨rb sn, rf sn, none⟩) (T.ln sn) (rc sn)) ∧ (V.cell? ⟨rb sn, rf sn + pn * 5, none⟩ = some (.int .i64 kind) ∧ V.cell? ⟨rb sn, rf sn + pn * 5 + 1, none⟩ = some (.int .i64 ten) ∧ V.cell? ⟨rb sn, rf sn + pn * 5 + 2, none⟩ = some (.int .i64 peer) ∧ V.cell? ⟨rb sn, rf sn + pn * 5 + 3, none⟩ = some (.int .i64 at_) ∧ V.cell? ⟨rb sn, rf sn + pn * 5 + 4, none⟩ = some (.int .i64 cost)) ∧ V.heap[gb + 1 + 1]? = some (.cells #[.int .i64 0, .int .i64 0] 26 (0, 0)) ∧ RowKit.Below w.heap.size w V) ?_ ?_
  · exact ⟨x0 ⟨dq, osq⟩, y0 ⟨dq, osq⟩, y1 ⟨dq, osq⟩, z0 ⟨dq, osq⟩, ⟨reg_c (cell_below hbW p0) ⟨dq, osq⟩, reg_c (cell_below hbW p1) ⟨dq, osq⟩, reg_c (cell_below hbW p2) ⟨dq, osq⟩, reg_c (cell_below hbW p3) ⟨dq, osq⟩, reg_c (cell_below hbW p4) ⟨dq, osq⟩⟩, hq2, hbq⟩
  clear x0 y0 y1 z0 c0 c1 f0 f1 hq2 hbq hW0 hW1 hW2 hbW HS HS0 p0 p1 p2 p3 p4 r1 r2 r3 r4
  rintro V ⟨x0, y0, y1, z0, ⟨t0, t1, t2, t3, t4⟩, hV2, hbV⟩
  have l0 := World.block_lt_of_cell? V _ x0
  have l1 := World.block_lt_of_cell? V _ y0
  have l2 := World.block_lt_of_cell? V _ t0
  have l3 := World.block_lt_of_cell? V _ z0
  simp only at l0 l1 l2 l3
  have l4 := (Array.getElem?_eq_some_iff.1 hV2).1
  have hgr : w.heap.size ≤ gb + 1 + 1 := by have := hgb.out; omega
  have c0 : V.cell? ⟨gb + 1 + 1, 0, none⟩ = some (.int .i64 0) := by rw [cell_b hV2]; rfl
  have c1 : V.cell? ⟨gb + 1 + 1, 1, none⟩ = some (.int .i64 0) := by rw [cell_b hV2]; rfl
  have f0 : V.frozen? ⟨gb + 1 + 1, 0, none⟩ = false := by simp [World.frozen?, hV2]
  have f1 : V.frozen? ⟨gb + 1 + 1, 1, none⟩ = false := by simp [World.frozen?, hV2]
  by_cases k2 : kind = 2
  · subst k2
    have he : Hid (otherF T (sn : Int) (pn : Int) = (peer, at_, true)) := by
      unfold otherF
      rw [if_pos ⟨s0, by omega, by omega, by omega, by simpa using a4, by simp [hP.out]⟩]
      simp [hP.out]
      exact trivial
    go_region
    go_wp2_with fail
    refine bodyPost_ret_by (results_cell2 rfl _ _ (gb + 1 + 1) (.int .i64 peer) (.int .i64 at_) 26 rfl ((al_lt' (by simp only [World.size_setCell]; exact l4)).trans (sc_at (sc_at hV2)))) rfl ?_
    exact ⟨by rw [he.out]; rfl, (((hbV.setCell hgr _).setCell hgr _).alloc (by simp only [World.size_setCell]; exact hbV.size) _).drew⟩
  · have k2b : (kind != 2) = true := by simpa using k2
    have he : Hid (otherF T (sn : Int) (pn : Int) = (0, 0, false)) := if_neg (fun hh => k2 (by have := hh.2.2.2.2.2; simp [hP.out] at this; exact this))
    go_region
    go_wp2_with fail
    refine bodyPost_ret_by (results_cell2 rfl _ _ (gb + 1 + 1) (.int .i64 0) (.int .i64 0) 26 rfl ((al_lt' (by simp only [World.size_setCell]; exact l4)).trans (sc_at (sc_at hV2)))) rfl ?_
    exact ⟨by rw [he.out]; rfl, (((hbV.setCell hgr _).setCell hgr _).alloc (by simp only [World.size_setCell]; exact hbV.size) _).drew⟩
end Go.Proofs.Ytgebehnlfihliaa
