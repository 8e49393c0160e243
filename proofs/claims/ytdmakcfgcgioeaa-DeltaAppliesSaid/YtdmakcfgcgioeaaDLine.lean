/- Delta: the law's fixed configuration. -/
import Derived.Test.YtdmakcfgcgioeaaDBack
namespace Go.Proofs.Ytdmakcfgcgioeaa
open Go.RowKit Go.Maps
set_option linter.unusedSimpArgs false
set_option linter.unusedVariables false
set_option maxRecDepth 100000
theorem al_at9 {w : World} {o : Obj} {n : Nat} (h : n = w.heap.size) : (w.alloc o).heap[n]? = some o := by subst h; exact heap_alloc_new w o
theorem Sl.lie {α : Type} {ce : α → List Value} {W : World} {b : Nat} {l : List α} {t : TypeId} {fr : Nat × Nat} (h : W.heap[b]? = some (.cells (l.flatMap ce).toArray t fr)) (hl : l.length ≤ maxLen) : Sl ce W l (.slice (some ⟨b, 0, none⟩) l.length l.length) :=
  ⟨_, _, rfl, fun e => (by cases e), Nat.le_refl _, hl, b, 0, fun _ => rfl, fun j u hu => by rw [cell_b h, Nat.zero_add]; simpa using hu⟩
theorem Rows.lie {α : Type} {P : World → α → Value → Prop} {W : World} {b : Nat} {L : List α} (vs : List Value) {t : TypeId} {fr : Nat × Nat} (h : W.heap[b]? = some (.cells vs.toArray t fr)) (hl : L.length ≤ maxLen) (hv : vs.length = L.length) (hP : ∀ i (hi : i < L.length), ∃ u, vs[i]? = some u ∧ P W L[i] u) : Rows P W L (.slice (some ⟨b, 0, none⟩) L.length L.length) :=
  ⟨_, _, vs, rfl, fun e => (by cases e), ⟨Nat.le_refl _, hl, b, 0, fun _ => rfl, fun j u hu => by rw [cell_b h, Nat.zero_add]; simpa using hu⟩, hv, hP⟩
theorem Rows.lie1 {α : Type} {P : World → α → Value → Prop} {W : World} {b : Nat} {x : α} {u : Value} {t : TypeId} {fr : Nat × Nat} (h : W.heap[b]? = some (.cells #[u] t fr)) (hx : P W x u) : Rows P W [x] (.slice (some ⟨b, 0, none⟩) 1 1) :=
  Rows.lie [u] h (by simp [maxLen]) rfl fun i hi => by
    obtain rfl : i = 0 := by simp at hi; omega
    exact ⟨u, rfl, hx⟩
theorem Rows.lie2 {α : Type} {P : World → α → Value → Prop} {W : World} {b : Nat} {x y : α} {u v : Value} {t : TypeId} {fr : Nat × Nat} (h : W.heap[b]? = some (.cells #[u, v] t fr)) (hx : P W x u) (hy : P W y v) : Rows P W [x, y] (.slice (some ⟨b, 0, none⟩) 2 2) :=
  Rows.lie [u, v] h (by simp [maxLen]) rfl fun i hi => by
    rcases (show i = 0 ∨ i = 1 by simp at hi; omega) with rfl | rfl
    · exact ⟨u, rfl, hx⟩
    · exact ⟨v, rfl, hy⟩
theorem Sl.none {α : Type} {ce : α → List Value} {W : World} : Sl ce W [] (.slice none 0 0) :=
  ⟨_, _, rfl, fun _ => ⟨rfl, rfl⟩, Nat.le_refl _, by decide, 0, 0, fun h => absurd h (by simp), fun j u hu => by simp at hu⟩
def dropR : Ru := ⟨0, 0, 0, 0, 0, 1, 0, 0, 0, 0, 0, 0⟩
def lineT : List (List (List Ru)) := [[[⟨1, 0, 1, 0, 1, 3, 1, 0, 0, 0, 0, 0⟩, dropR]], [[⟨1, 0, 1, 0, 1, 2, 1, 0, 0, 0, 0, 0⟩, dropR]]]
def lineC : Cf := ⟨[[⟨1, 0, 0, 0, 0⟩, ⟨2, 0, 1, 0, 1⟩], [⟨2, 0, 0, 1, 1⟩, ⟨1, 0, 0, 0, 0⟩]], 1, [], [], lineT⟩
set_option maxHeartbeats 4000000 in
theorem line_c (w : World) :
    Calls Try.prog 16 #[] w fun e w' => ∃ vp ve vw vt, e = .returned (.agg #[vp, .int .i64 1, ve, vw, vt]) ∧ RC w' lineC vp ve vw vt ∧ RowKit.Below w.heap.size w w' := by
  go_enter Try.func16, Try.ntmps16
  refine wp_hide ?_
  intro ZZ HZZ
  go_upto_region 6 with (fail)
  refine wp_world (fun W => W.heap[w.heap.size]? = some (.cells #[.slice none 0 0, .int .i64 0, .slice none 0 0, .slice none 0 0, .slice none 0 0] 31 (0, 0)) ∧
    W.heap[w.heap.size + 1]? = some (.cells #[.slice (some ⟨w.heap.size + 1 + 1 + 1 + 1, 0, none⟩) 2 2, .int .i64 1, .slice none 0 0, .slice none 0 0, .slice (some ⟨w.heap.size + 1 + 1 + 1 + 1 + 1 + 1 + 1 + 1 + 1 + 1 + 1, 0, none⟩) 2 2] 31 (0, 0)) ∧
    (∀ V : World, (∀ g, w.heap.size < g → g < W.heap.size → V.heap[g]? = W.heap[g]?) → RC V lineC (.slice (some ⟨w.heap.size + 1 + 1 + 1 + 1, 0, none⟩) 2 2) (.slice none 0 0) (.slice none 0 0) (.slice (some ⟨w.heap.size + 1 + 1 + 1 + 1 + 1 + 1 + 1 + 1 + 1 + 1 + 1, 0, none⟩) 2 2)) ∧ RowKit.Below w.heap.size w W ∧ w.heap.size + 1 < W.heap.size) ⟨?_, ?_, fun V hV => ⟨?_, Sl.none, Sl.none, ?_⟩, ?_, ?_⟩ ?_
  · (repeat (first | exact al_at9 (by simp) | rw [al_lt' (by simp <;> omega)]))
  · (repeat (first | exact al_at9 (by simp) | rw [al_lt' (by simp <;> omega)]))
  · refine Rows.lie2 (b := w.heap.size + 1 + 1 + 1 + 1) (u := .slice (some ⟨w.heap.size + 1 + 1, 0, none⟩) 2 2) (v := .slice (some ⟨w.heap.size + 1 + 1 + 1, 0, none⟩) 2 2) (t := 58) (fr := (0, 0)) ?_ ?_ ?_
    · (refine (hV _ (by omega) (by simp <;> omega)).trans ?_; (repeat (first | exact al_at9 (by simp) | rw [al_lt' (by simp <;> omega)])))
    · refine Sl.lie (b := w.heap.size + 1 + 1) (l := ([⟨1, 0, 0, 0, 0⟩, ⟨2, 0, 1, 0, 1⟩] : List Pt)) (t := 73) (fr := (0, 0)) ?_ (by decide)
      (refine (hV _ (by omega) (by simp <;> omega)).trans ?_; (repeat (first | exact al_at9 (by simp) | rw [al_lt' (by simp <;> omega)])))
    · refine Sl.lie (b := w.heap.size + 1 + 1 + 1) (l := ([⟨2, 0, 0, 1, 1⟩, ⟨1, 0, 0, 0, 0⟩] : List Pt)) (t := 73) (fr := (0, 0)) ?_ (by decide)
      (refine (hV _ (by omega) (by simp <;> omega)).trans ?_; (repeat (first | exact al_at9 (by simp) | rw [al_lt' (by simp <;> omega)])))
  · refine Rows.lie2 (b := w.heap.size + 1 + 1 + 1 + 1 + 1 + 1 + 1 + 1 + 1 + 1 + 1) (u := .slice (some ⟨w.heap.size + 1 + 1 + 1 + 1 + 1 + 1 + 1 + 1, 0, none⟩) 1 1) (v := .slice (some ⟨w.heap.size + 1 + 1 + 1 + 1 + 1 + 1 + 1 + 1 + 1 + 1, 0, none⟩) 1 1) (t := 43) (fr := (0, 0)) ?_ ?_ ?_
    · (refine (hV _ (by omega) (by simp <;> omega)).trans ?_; (repeat (first | exact al_at9 (by simp) | rw [al_lt' (by simp <;> omega)])))
    · refine Rows.lie1 (b := w.heap.size + 1 + 1 + 1 + 1 + 1 + 1 + 1 + 1) (u := .slice (some ⟨w.heap.size + 1 + 1 + 1 + 1 + 1 + 1 + 1, 0, none⟩) 2 2) (t := 44) (fr := (0, 0)) ?_ ?_
      · (refine (hV _ (by omega) (by simp <;> omega)).trans ?_; (repeat (first | exact al_at9 (by simp) | rw [al_lt' (by simp <;> omega)])))
      · refine Sl.lie (b := w.heap.size + 1 + 1 + 1 + 1 + 1 + 1 + 1) (l := ([⟨1, 0, 1, 0, 1, 3, 1, 0, 0, 0, 0, 0⟩, dropR] : List Ru)) (t := 53) (fr := (0, 0)) ?_ (by decide)
        (refine (hV _ (by omega) (by simp <;> omega)).trans ?_; (repeat (first | exact al_at9 (by simp) | rw [al_lt' (by simp <;> omega)])))
    · refine Rows.lie1 (b := w.heap.size + 1 + 1 + 1 + 1 + 1 + 1 + 1 + 1 + 1 + 1) (u := .slice (some ⟨w.heap.size + 1 + 1 + 1 + 1 + 1 + 1 + 1 + 1 + 1, 0, none⟩) 2 2) (t := 44) (fr := (0, 0)) ?_ ?_
      · (refine (hV _ (by omega) (by simp <;> omega)).trans ?_; (repeat (first | exact al_at9 (by simp) | rw [al_lt' (by simp <;> omega)])))
      · refine Sl.lie (b := w.heap.size + 1 + 1 + 1 + 1 + 1 + 1 + 1 + 1 + 1) (l := ([⟨1, 0, 1, 0, 1, 2, 1, 0, 0, 0, 0, 0⟩, dropR] : List Ru)) (t := 53) (fr := (0, 0)) ?_ (by decide)
        (refine (hV _ (by omega) (by simp <;> omega)).trans ?_; (repeat (first | exact al_at9 (by simp) | rw [al_lt' (by simp <;> omega)])))
  · exact below_al (below_al (below_al (below_al (below_al (below_al (below_al (below_al (below_al (below_al (below_al (below_al (Below.refl _ _) _) _) _) _) _) _) _) _) _) _) _) _
  · simp
  rintro W ⟨m0, m1, hrc, hbW, hlt⟩
  have y0 : W.cell? ⟨w.heap.size + 1, 0, none⟩ = some (.slice (some ⟨w.heap.size + 1 + 1 + 1 + 1, 0, none⟩) 2 2) := (cell_b m1).trans rfl
  have y1 : W.cell? ⟨w.heap.size + 1, 1, none⟩ = some (.int .i64 1) := (cell_b m1).trans rfl
  have y2 : W.cell? ⟨w.heap.size + 1, 2, none⟩ = some (.slice none 0 0) := (cell_b m1).trans rfl
  have y3 : W.cell? ⟨w.heap.size + 1, 3, none⟩ = some (.slice none 0 0) := (cell_b m1).trans rfl
  have y4 : W.cell? ⟨w.heap.size + 1, 4, none⟩ = some (.slice (some ⟨w.heap.size + 1 + 1 + 1 + 1 + 1 + 1 + 1 + 1 + 1 + 1 + 1, 0, none⟩) 2 2) := (cell_b m1).trans rfl
  have r0 : W.cell? ⟨w.heap.size, 0, none⟩ = some (.slice none 0 0) := (cell_b m0).trans rfl
  have r1 : W.cell? ⟨w.heap.size, 1, none⟩ = some (.int .i64 0) := (cell_b m0).trans rfl
  have r2 : W.cell? ⟨w.heap.size, 2, none⟩ = some (.slice none 0 0) := (cell_b m0).trans rfl
  have r3 : W.cell? ⟨w.heap.size, 3, none⟩ = some (.slice none 0 0) := (cell_b m0).trans rfl
  have r4 : W.cell? ⟨w.heap.size, 4, none⟩ = some (.slice none 0 0) := (cell_b m0).trans rfl
  have g0 : W.frozen? ⟨w.heap.size, 0, none⟩ = false := by simp [World.frozen?, m0]
  have g1 : W.frozen? ⟨w.heap.size, 1, none⟩ = false := by simp [World.frozen?, m0]
  have g2 : W.frozen? ⟨w.heap.size, 2, none⟩ = false := by simp [World.frozen?, m0]
  have g3 : W.frozen? ⟨w.heap.size, 3, none⟩ = false := by simp [World.frozen?, m0]
  have g4 : W.frozen? ⟨w.heap.size, 4, none⟩ = false := by simp [World.frozen?, m0]
  have FZ := Lib.hid (five_cells (.slice (some ⟨w.heap.size + 1 + 1 + 1 + 1, 0, none⟩) 2 2) (.int .i64 1) (.slice none 0 0) (.slice none 0 0) (.slice (some ⟨w.heap.size + 1 + 1 + 1 + 1 + 1 + 1 + 1 + 1 + 1 + 1 + 1, 0, none⟩) 2 2) m0)
  have HRC := Lib.hid hrc
  clear hrc m0 m1
  go_wp2_with fail
  obtain ⟨d31, hu31, hd31⟩ := wide_of wide31
  (try simp only [Exit.inBlock, Exit.then])
  rw [HZZ.out]
  refine bodyPost_ret (results_cell_row (P := Try.prog) rfl _ _ w.heap.size 31 #[.slice (some ⟨w.heap.size + 1 + 1 + 1 + 1, 0, none⟩) 2 2, .int .i64 1, .slice none 0 0, .slice none 0 0, .slice (some ⟨w.heap.size + 1 + 1 + 1 + 1 + 1 + 1 + 1 + 1 + 1 + 1 + 1, 0, none⟩) 2 2] (0, 0) d31 rfl FZ.out hu31 (by cases d31 <;> first | rfl | (simp at hd31)) siz31) rfl ?_
  refine ⟨_, _, _, _, rfl, ?_, Below.setCell (Below.setCell (Below.setCell (Below.setCell (Below.setCell hbW (Nat.le_refl _) _) (Nat.le_refl _) _) (Nat.le_refl _) _) (Nat.le_refl _) _) (Nat.le_refl _) _⟩
  exact HRC.out _ fun g h1 h2 => (Below.heap_setCell _ _ _ _ (show g ≠ w.heap.size by omega)).trans ((Below.heap_setCell _ _ _ _ (show g ≠ w.heap.size by omega)).trans ((Below.heap_setCell _ _ _ _ (show g ≠ w.heap.size by omega)).trans ((Below.heap_setCell _ _ _ _ (show g ≠ w.heap.size by omega)).trans (Below.heap_setCell _ _ _ _ (show g ≠ w.heap.size by omega)))))
end Go.Proofs.Ytdmakcfgcgioeaa
