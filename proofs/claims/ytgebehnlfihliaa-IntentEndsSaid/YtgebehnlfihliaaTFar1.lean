/- Topo: rows of numbers; Far where it tells an error. -/
import Derived.Test.YtgebehnlfihliaaTHeap4
import Derived.Test.YtgebehnlfihliaaTGraph2
import Derived.Deep.OwnRows
namespace Go.Proofs.Ytgebehnlfihliaa
open Go.RowKit Go.Maps
set_option linter.unusedSimpArgs false
set_option linter.unusedVariables false
set_option maxRecDepth 100000
/-- block g holds the n numbers f 0, f 1, .. -/
def IA (w : World) (g n : Nat) (f : Nat → Int) : Prop := ∃ cur : Array Value, w.heap[g]? = some (.cells cur 3 (0, 0)) ∧ cur.size = n ∧ ∀ j, j < n → cur[j]? = some (.int .i64 (f j))
theorem IA.lt {w : World} {g n : Nat} {f : Nat → Int} (h : IA w g n f) : g < w.heap.size := by
  obtain ⟨cur, h1, _⟩ := h; exact (Array.getElem?_eq_some_iff.1 h1).1
theorem ia_zero (w : World) (n : Nat) : IA (w.alloc (.cells (madeCells #[.int .i64 0] n) 3)) w.heap.size n (fun _ => 0) := by
  refine ⟨_, heap_alloc_new w _, size_madeCells _ _, fun j hj => ?_⟩
  simp [madeCells, hj]
  rw [Nat.mod_one]
  rfl
theorem IA.of {w w' : World} {g n : Nat} {f : Nat → Int} (h : IA w g n f) (he : w'.heap[g]? = w.heap[g]?) : IA w' g n f := by
  obtain ⟨cur, h1, h2⟩ := h; exact ⟨cur, he.trans h1, h2⟩
theorem IA.cell {w : World} {g n : Nat} {f : Nat → Int} (h : IA w g n f) {i : Nat} (hi : i < n) : w.cell? ⟨g, i, none⟩ = some (.int .i64 (f i)) := by
  obtain ⟨cur, h1, h2, h3⟩ := h; rw [cell_b h1]; exact h3 i hi
theorem IA.froz {w : World} {g n : Nat} {f : Nat → Int} (h : IA w g n f) (i : Nat) : w.frozen? ⟨g, i, none⟩ = false := by
  obtain ⟨cur, h1, h2, h3⟩ := h; exact froz_b h1
theorem IA.set {w : World} {g n : Nat} {f : Nat → Int} (h : IA w g n f) (i : Nat) (v : Int) : IA (w.setCell ⟨g, i, none⟩ (.int .i64 v)) g n (upd f i v) := by
  obtain ⟨cur, h1, h2, h3⟩ := h
  refine ⟨cur.setIfInBounds i (.int .i64 v), sc_at h1, by simpa using h2, fun j hj => ?_⟩
  by_cases e : i = j
  · subst e
    rw [Array.getElem?_setIfInBounds_self_of_lt (by omega), upd_at]
  · rw [Array.getElem?_setIfInBounds_ne e, h3 j hj, upd_ne _ _ (fun hh => e hh.symm)]
theorem IA.congr {w : World} {g n : Nat} {f f' : Nat → Int} (h : IA w g n f) (he : ∀ j, j < n → f' j = f j) : IA w g n f' := by
  obtain ⟨cur, h1, h2, h3⟩ := h; exact ⟨cur, h1, h2, fun j hj => by rw [h3 j hj, he j hj]⟩
theorem und38 : Try.prog.underlying 38 = some (.slice 3) := by kernel_rfl
theorem inf3 : (Try.prog.info? 3).map (fun i => (i.zero, i.size, i.bytes)) = some (some (.int .i64 0), 1, 8) := by kernel_rfl
theorem Fr.below {S : Nat → Prop} {w a b : World} {N : Nat} (hb : RowKit.Below N w a) (h : Fr S a b) (hN : N ≤ a.heap.size) (hS : ∀ x, S x → N ≤ x) : RowKit.Below N w b := by
  refine hb.trans ⟨h.ro.1, h.ro.2.1, h.ro.2.2, h.size, fun k hk => h.same k (by omega) (fun hh => by have := hS k hh; omega)⟩
set_option maxHeartbeats 4000000 in
theorem tfar_bad {o : Option Addr} {cap : Nat} {T : Tp} {w : World} (h : TA w o cap T) (a : Int) (hs : soundE T ≠ 0) :
    Calls Try.prog 20 #[.agg #[.slice o T.n cap], .int .i64 a] w fun e w' => e = .returned (.tuple #[.slice none 0 0, .int .i64 (soundE T)]) ∧ RowKit.Below w.heap.size w w' := by
  obtain ⟨z, hz⟩ : ∃ z, Hid (soundE T = z) := ⟨_, rfl⟩
  have hc := tsound_c (h.below ((Below.refl w.heap.size w).alloc (Nat.le_refl _) (.cells #[.slice o T.n cap] 24)))
  rw [hz.out] at hc hs ⊢
  have hsb : (z != 0) = true := by simpa using hs
  go_enter Try.func20, Try.ntmps20
  go_wp2_with fail
  refine hc.mono ?_
  rintro e w1 ⟨rfl, hb1⟩
  have hb := ((Below.refl w.heap.size w).alloc (Nat.le_refl _) _).trans (hb1.mono (by simp))
  go_wp2_with fail
  all_goals go_ret2
  all_goals exact ⟨rfl, hb⟩
/-- the argument's box, behind a call. -/
theorem box_c {w w1 : World} {v : Value} (hb1 : RowKit.Below (w.alloc (.cells #[v] 24)).heap.size (w.alloc (.cells #[v] 24)) w1) : w1.cell? ⟨w.heap.size, 0, none⟩ = some v :=
  cell_below hb1 (by rw [cell_b (heap_alloc_new w _)]; rfl)
set_option maxHeartbeats 4000000 in
theorem tfar_none {o : Option Addr} {cap : Nat} {T : Tp} {w : World} (h : TA w o cap T) (a : Int) (hs : soundE T = 0) (ha : a < 0 ∨ (T.n : Int) ≤ a) :
    Calls Try.prog 20 #[.agg #[.slice o T.n cap], .int .i64 a] w fun e w' => e = .returned (.tuple #[.slice none 0 0, .int .i64 7]) ∧ RowKit.Below w.heap.size w w' := by
  go_enter Try.func20, Try.ntmps20
  go_wp2_with fail
  have hc := tsound_c (h.below ((Below.refl w.heap.size w).alloc (Nat.le_refl _) (.cells #[.slice o T.n cap] 24)))
  rw [hs] at hc
  refine hc.mono ?_
  rintro e w1 ⟨rfl, hb1⟩
  have hb := ((Below.refl w.heap.size w).alloc (Nat.le_refl _) _).trans (hb1.mono (by simp))
  have x0 := box_c hb1
  by_cases a0 : a < 0
  · have a0b : decide (a < 0) = true := decide_eq_true a0
    go_wp2_with fail
    all_goals go_ret2
    all_goals exact ⟨rfl, hb⟩
  · have a0b : decide (a < 0) = false := decide_eq_false a0
    have a1 : (T.n : Int) ≤ a := by omega
    have a1b : decide ((T.n : Int) ≤ a) = true := decide_eq_true a1
    go_wp2_with fail
    all_goals go_ret2
    all_goals exact ⟨rfl, hb⟩
end Go.Proofs.Ytgebehnlfihliaa
