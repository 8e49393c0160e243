/- HeadBits: what holds before every round of its loop. -/
import Derived.Test.YtjbmhcjncldnhaaMulti3
import Derived.Deep.DeepCutAuto
namespace Go.Proofs.Ytjbmhcjncldnhaa
open Go.RowKit Go.Sort

/-- the first k places are g's -/
def mix (f g : Nat → Bool) (k : Nat) : Nat → Bool := fun i => if i < k then g i else f i
theorem mix_zero (f g : Nat → Bool) : mix f g 0 = f := by funext i; simp [mix]
theorem mix_set (f g : Nat → Bool) (k : Nat) : (arr (mix f g k)).setIfInBounds k (.bool (g k)) = arr (mix f g (k + 1)) := by
  rw [arr_set]
  congr 1
  funext i
  unfold mix
  by_cases h : i = k
  · subst h; simp
  · by_cases h2 : i < k
    · rw [if_neg h, if_pos h2, if_pos (by omega)]
    · rw [if_neg h, if_neg h2, if_neg (by omega)]
theorem sc_same {w : World} {x o : Nat} {v : Value} {c : Array Value} {t : TypeId} (h : w.heap[x]? = some (.cells c t)) : (w.setCell ⟨x, o, none⟩ v).heap[x]? = some (.cells (c.setIfInBounds o v) t) := by
  simp [World.setCell, Array.getElem?_modify, h]
structure BInv (w wr : World) (X Y : BitVec 128) (a b c d x7 x8 x9 x10 x11 x12 : Nat) : Prop where
  below : RowKit.Below w.heap.size w wr
  hx : wr.heap[w.heap.size]? = some (.cells #[.int .u64 ((Plain.hiOf X).toNat : Int), .int .u64 ((Plain.loOf X).toNat : Int)] 24)
  hy : wr.heap[w.heap.size + 1]? = some (.cells #[.int .u64 ((Plain.hiOf Y).toNat : Int), .int .u64 ((Plain.loOf Y).toNat : Int)] 24)
  m7 : wr.heap[x7]? = some (.cells (arr X.getLsbD) 33)
  m8 : wr.heap[x8]? = some (.cells (arr Y.getLsbD) 33)
  m9 : wr.heap[x9]? = some (.cells (arr (mix X.getLsbD (X &&& Y).getLsbD a)) 33)
  m10 : wr.heap[x10]? = some (.cells (arr (mix X.getLsbD (X ||| Y).getLsbD b)) 33)
  m11 : wr.heap[x11]? = some (.cells (arr (mix X.getLsbD (X ^^^ Y).getLsbD c)) 33)
  m12 : wr.heap[x12]? = some (.cells (arr (mix X.getLsbD (X &&& ~~~Y).getLsbD d)) 33)
/-- the blocks are each another -/
structure BApart (w : World) (x7 x8 x9 x10 x11 x12 : Nat) : Prop where
  l9 : w.heap.size + 2 ≤ x9
  l10 : w.heap.size + 2 ≤ x10
  l11 : w.heap.size + 2 ≤ x11
  l12 : w.heap.size + 2 ≤ x12
  d79 : x7 < x9
  d710 : x7 < x10
  d711 : x7 < x11
  d712 : x7 < x12
  d89 : x8 < x9
  d810 : x8 < x10
  d811 : x8 < x11
  d812 : x8 < x12
  d910 : x9 ≠ x10
  d911 : x9 ≠ x11
  d912 : x9 ≠ x12
  d1011 : x10 ≠ x11
  d1012 : x10 ≠ x12
  d1112 : x11 ≠ x12
section
variable {w wr : World} {X Y : BitVec 128} {a b c d x7 x8 x9 x10 x11 x12 : Nat}
theorem BInv.drew (h : BInv w wr X Y a b c d x7 x8 x9 x10 x11 x12) : BInv w wr.drew X Y a b c d x7 x8 x9 x10 x11 x12 := ⟨h.below.drew, h.hx, h.hy, h.m7, h.m8, h.m9, h.m10, h.m11, h.m12⟩
theorem sc_far {W : World} {x o y : Nat} {v : Value} {ob : Obj} (h : W.heap[y]? = some ob) (hne : y ≠ x) : (W.setCell ⟨x, o, none⟩ v).heap[y]? = some ob := (Below.heap_setCell W ⟨x, o, none⟩ v y hne).trans h
theorem BInv.set9 (D : BApart w x7 x8 x9 x10 x11 x12) (h : BInv w wr X Y a b c d x7 x8 x9 x10 x11 x12) {v : Bool} (hv : v = (X &&& Y).getLsbD a) : BInv w (wr.setCell ⟨x9, a, none⟩ (.bool v)) X Y (a + 1) b c d x7 x8 x9 x10 x11 x12 := by
  obtain ⟨l9, l10, l11, l12, d79, d710, d711, d712, d89, d810, d811, d812, d910, d911, d912, d1011, d1012, d1112⟩ := D
  exact ⟨h.below.setCell (by simp; omega) _, sc_far h.hx (by omega), sc_far h.hy (by omega), sc_far h.m7 (by omega), sc_far h.m8 (by omega), by rw [hv, ← mix_set]; exact sc_same h.m9, sc_far h.m10 (by omega), sc_far h.m11 (by omega), sc_far h.m12 (by omega)⟩
theorem BInv.set10 (D : BApart w x7 x8 x9 x10 x11 x12) (h : BInv w wr X Y a b c d x7 x8 x9 x10 x11 x12) {v : Bool} (hv : v = (X ||| Y).getLsbD b) : BInv w (wr.setCell ⟨x10, b, none⟩ (.bool v)) X Y a (b + 1) c d x7 x8 x9 x10 x11 x12 := by
  obtain ⟨l9, l10, l11, l12, d79, d710, d711, d712, d89, d810, d811, d812, d910, d911, d912, d1011, d1012, d1112⟩ := D
  exact ⟨h.below.setCell (by simp; omega) _, sc_far h.hx (by omega), sc_far h.hy (by omega), sc_far h.m7 (by omega), sc_far h.m8 (by omega), sc_far h.m9 (by omega), by rw [hv, ← mix_set]; exact sc_same h.m10, sc_far h.m11 (by omega), sc_far h.m12 (by omega)⟩
theorem BInv.set11 (D : BApart w x7 x8 x9 x10 x11 x12) (h : BInv w wr X Y a b c d x7 x8 x9 x10 x11 x12) {v : Bool} (hv : v = (X ^^^ Y).getLsbD c) : BInv w (wr.setCell ⟨x11, c, none⟩ (.bool v)) X Y a b (c + 1) d x7 x8 x9 x10 x11 x12 := by
  obtain ⟨l9, l10, l11, l12, d79, d710, d711, d712, d89, d810, d811, d812, d910, d911, d912, d1011, d1012, d1112⟩ := D
  exact ⟨h.below.setCell (by simp; omega) _, sc_far h.hx (by omega), sc_far h.hy (by omega), sc_far h.m7 (by omega), sc_far h.m8 (by omega), sc_far h.m9 (by omega), sc_far h.m10 (by omega), by rw [hv, ← mix_set]; exact sc_same h.m11, sc_far h.m12 (by omega)⟩
theorem BInv.set12 (D : BApart w x7 x8 x9 x10 x11 x12) (h : BInv w wr X Y a b c d x7 x8 x9 x10 x11 x12) {v : Bool} (hv : v = (X &&& ~~~Y).getLsbD d) : BInv w (wr.setCell ⟨x12, d, none⟩ (.bool v)) X Y a b c (d + 1) x7 x8 x9 x10 x11 x12 := by
  obtain ⟨l9, l10, l11, l12, d79, d710, d711, d712, d89, d810, d811, d812, d910, d911, d912, d1011, d1012, d1112⟩ := D
  exact ⟨h.below.setCell (by simp; omega) _, sc_far h.hx (by omega), sc_far h.hy (by omega), sc_far h.m7 (by omega), sc_far h.m8 (by omega), sc_far h.m9 (by omega), sc_far h.m10 (by omega), sc_far h.m11 (by omega), by rw [hv, ← mix_set]; exact sc_same h.m12⟩
end
theorem mix_all (X Z : BitVec 128) : Plain.ofBits (mix X.getLsbD Z.getLsbD 128) = Z := by
  apply BitVec.eq_of_getLsbD_eq
  intro i hi
  rw [Plain.ofBits_bit _ _ hi]
  simp [mix, hi]
end Go.Proofs.Ytjbmhcjncldnhaa
