/- Small laws for regions that draw their order, and for a world under one name. -/
import Derived.Test.YtgebehnlfihliaaIRef2
import Derived.Lib.QuietBelow
import Derived.Deep.RegionHeld3
namespace Go.Proofs.Ytgebehnlfihliaa.Hd
open Go.RowKit Go.Sort

/-- a world under one name, with what is known of it -/
theorem wp_world {P : Program} {c : Code} {Q : Exit → Act → World → Prop} {a : Act} {w : World} (S : World → Prop) (h : S w) (H : ∀ W, S W → c.wp P Q a W) : c.wp P Q a w := H w h
/-- a block in every world of the class 'some draws, some blocks more' -/
theorem reg_heap {W : World} {k : Nat} {o : Obj} (h : W.heap[k]? = some o) : ∀ p : Regrown, (grow (redrawn W p.d) p.os).heap[k]? = some o := by
  intro p
  have hk : k < W.heap.size := (Array.getElem?_eq_some_iff.1 h).1
  rw [(below_regrown W p.d p.os).block k hk]; exact h
theorem reg_cell {W : World} {k : Nat} {c : Array Value} {t : TypeId} {fr : Nat × Nat} (h : W.heap[k]? = some (.cells c t fr)) : ∀ (p : Regrown) (o : Nat), (grow (redrawn W p.d) p.os).cell? ⟨k, o, none⟩ = c[o]? :=
  fun p o => cell_of_row _ k o c t fr (reg_heap h p)
theorem reg_ld33 {W : World} {k : Nat} {f : Nat → Bool} (h : W.heap[k]? = some (.cells (arr f) 105)) : ∀ p : Regrown, (ld33 (.pointer (some ⟨k, 0, none⟩))).run Try.prog (grow (redrawn W p.d) p.os) = .ok (.value (.agg (arr f))) (grow (redrawn W p.d) p.os) :=
  fun p => run_ld33 (reg_heap h p)
/-- a block's cells and marks -/
theorem blkW {W : World} {k : Nat} {c : Array Value} {t : TypeId} (h : W.heap[k]? = some (.cells c t)) :
    (∀ o, W.cell? ⟨k, o, none⟩ = c[o]?) ∧ (∀ o, W.frozen? ⟨k, o, none⟩ = false) ∧ k < W.heap.size :=
  ⟨fun o => cell_of_row W k o c t _ h, fun o => by simp [World.frozen?, h], (Array.getElem?_eq_some_iff.1 h).1⟩
theorem below_reg {B : Nat} {a W : World} (h : Below B a W) (hB : B ≤ W.heap.size) (d : Nat) (os : Array Obj) : Below B a (grow (redrawn W d) os) := h.trans ((below_regrown W d os).mono hB)
theorem cell_h {w : World} {k i : Nat} {c : Array Value} {t : TypeId} {v : Value} (h : w.heap[k]? = some (.cells c t)) (hv : c[i]? = some v) : w.cell? ⟨k, i, none⟩ = some v := (cell_of_row w k i c t _ h).trans hv
theorem cl_dr (w : World) (a : Addr) : w.drew.cell? a = w.cell? a := rfl
theorem cl_al {w : World} {o : Obj} {b i : Nat} (h : b < w.heap.size) : (w.alloc o).cell? ⟨b, i, none⟩ = w.cell? ⟨b, i, none⟩ := World.cell?_of_block (w := w) (Below.heap_alloc w o b h)
theorem cl_sc {w : World} {a : Addr} {v : Value} {b i : Nat} (h : b ≠ a.block) : (w.setCell a v).cell? ⟨b, i, none⟩ = w.cell? ⟨b, i, none⟩ :=
  World.cell?_of_block (w := w) (Below.heap_setCell w a v b h)
end Go.Proofs.Ytgebehnlfihliaa.Hd
