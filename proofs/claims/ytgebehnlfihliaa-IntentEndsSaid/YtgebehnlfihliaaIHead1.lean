/- Contracts of the functions of package head on a header's bits: each returns what the plain operation on 128 bits gives, and writes nothing that was there. No conditions beyond those in each statement. -/
import Derived.Test.YtgebehnlfihliaaProg
import Derived.Test.YtgebehnlfihliaaPlain
import Derived.WalkKit
import Derived.WalkLawsBesides
import Derived.Lib.Hide
namespace Go.Proofs.Ytgebehnlfihliaa.Hd
open Go.RowKit
set_option linter.unusedSimpArgs false
set_option linter.unusedVariables false

theorem ret_agg2 {a b c d : Int} (h1 : a = c) (h2 : b = d) : Ending.returned (.agg #[.int .u64 a, .int .u64 b]) = Ending.returned (.agg #[.int .u64 c, .int .u64 d]) := by rw [h1, h2]
theorem ret_int {k : IntKind} {a b : Int} (h : a = b) : Ending.returned (.int k a) = Ending.returned (.int k b) := by rw [h]

set_option maxHeartbeats 400000 in
theorem and_core (a b c d : Int) (w : World) : Calls Try.prog 89 #[.agg #[.int .u64 a, .int .u64 b], .agg #[.int .u64 c, .int .u64 d]] w fun e w' => e = .returned (.agg #[.int .u64 (bits .and .u64 a c), .int .u64 (bits .and .u64 b d)]) ∧ Below w.heap.size w w' := by
  go_enter Try.func89, Try.ntmps89
  go_wp2
  refine bodyPost_ret (v := .agg #[.int .u64 (bits .and .u64 a c), .int .u64 (bits .and .u64 b d)]) (by simp [results, Try.results89, go_sem]) rfl ⟨rfl, ?_⟩
  exact (((Below.refl _ _).alloc (Nat.le_refl _) _).alloc (by simp) _).alloc (by simp; omega) _
theorem and_c {a b c d : Int} {X Y : BitVec 128} (ha : a = (Plain.hiOf X).toNat) (hb : b = (Plain.loOf X).toNat) (hc : c = (Plain.hiOf Y).toNat) (hd : d = (Plain.loOf Y).toNat) (w : World) :
    Calls Try.prog 89 #[.agg #[.int .u64 a, .int .u64 b], .agg #[.int .u64 c, .int .u64 d]] w fun e w' => e = .returned (.agg #[.int .u64 ((Plain.hiOf (X &&& Y)).toNat : Int), .int .u64 ((Plain.loOf (X &&& Y)).toNat : Int)]) ∧ Below w.heap.size w w' :=
  (and_core a b c d w).mono fun e w' ⟨he, hw⟩ => ⟨by rw [he]; subst ha hb hc hd; exact ret_agg2 (by rw [Plain.bits_and, Plain.hi_and]) (by rw [Plain.bits_and, Plain.lo_and]), hw⟩
set_option maxHeartbeats 400000 in
theorem less_core (a b c d : Int) (w : World) : Calls Try.prog 100 #[.agg #[.int .u64 a, .int .u64 b], .agg #[.int .u64 c, .int .u64 d]] w fun e w' => e = .returned (.agg #[.int .u64 (bits .andNot .u64 a c), .int .u64 (bits .andNot .u64 b d)]) ∧ Below w.heap.size w w' := by
  go_enter Try.func100, Try.ntmps100
  go_wp2
  refine bodyPost_ret (v := .agg #[.int .u64 (bits .andNot .u64 a c), .int .u64 (bits .andNot .u64 b d)]) (by simp [results, Try.results100, go_sem]) rfl ⟨rfl, ?_⟩
  exact (((Below.refl _ _).alloc (Nat.le_refl _) _).alloc (by simp) _).alloc (by simp; omega) _
theorem less_c {a b c d : Int} {X Y : BitVec 128} (ha : a = (Plain.hiOf X).toNat) (hb : b = (Plain.loOf X).toNat) (hc : c = (Plain.hiOf Y).toNat) (hd : d = (Plain.loOf Y).toNat) (w : World) :
    Calls Try.prog 100 #[.agg #[.int .u64 a, .int .u64 b], .agg #[.int .u64 c, .int .u64 d]] w fun e w' => e = .returned (.agg #[.int .u64 ((Plain.hiOf (X &&& ~~~Y)).toNat : Int), .int .u64 ((Plain.loOf (X &&& ~~~Y)).toNat : Int)]) ∧ Below w.heap.size w w' :=
  (less_core a b c d w).mono fun e w' ⟨he, hw⟩ => ⟨by rw [he]; subst ha hb hc hd; exact ret_agg2 (by rw [Plain.bits_andNot, Plain.hi_and, Plain.hi_not]) (by rw [Plain.bits_andNot, Plain.lo_and, Plain.lo_not]), hw⟩

/-- what a contract that ends in 'Below' leaves of a block that was there: its cells, its marks -/
theorem blk {W w1 : World} {k : Nat} {c : Array Value} {t : TypeId} (hb : Below W.heap.size W w1) (h : W.heap[k]? = some (.cells c t)) :
    (∀ o, w1.cell? ⟨k, o, none⟩ = c[o]?) ∧ (∀ o, w1.frozen? ⟨k, o, none⟩ = false) ∧ k < w1.heap.size ∧ Hid (w1.heap[k]? = some (.cells c t)) := by
  have hk : k < W.heap.size := (Array.getElem?_eq_some_iff.1 h).1
  have h1 : w1.heap[k]? = some (.cells c t) := (hb.block k hk).trans h
  refine ⟨fun o => cell_of_row w1 k o c t _ h1, fun o => ?_, (Array.getElem?_eq_some_iff.1 h1).1, h1⟩
  simp [World.frozen?, h1]
theorem below_via {B : Nat} {a W w1 : World} (hb : Below W.heap.size W w1) (hB : B ≤ W.heap.size) (h : Below B a W) : Below B a w1 := h.trans (hb.mono hB)

theorem al_at {w : World} {o : Obj} {n : Nat} (hn : n = w.heap.size) : (w.alloc o).heap[n]? = some o := by subst hn; exact heap_alloc_new w o
theorem sc_ne {w : World} {a : Addr} {v : Value} {n : Nat} (hn : n ≠ a.block) : (w.setCell a v).heap[n]? = w.heap[n]? := Below.heap_setCell w a v n hn
theorem al_lt {w : World} {o : Obj} {n : Nat} (hn : n < w.heap.size) : (w.alloc o).heap[n]? = w.heap[n]? := Below.heap_alloc w o n hn

set_option maxHeartbeats 400000 in
theorem both_and {a b c d : Int} {X Y : BitVec 128} (ha : a = (Plain.hiOf X).toNat) (hb : b = (Plain.loOf X).toNat) (hc : c = (Plain.hiOf Y).toNat) (hd : d = (Plain.loOf Y).toNat) (w : World) :
    Calls Try.prog 99 #[.func (.func 89) #[] #[], .agg #[.int .u64 a, .int .u64 b], .agg #[.int .u64 c, .int .u64 d]] w fun e w' => e = .returned (.agg #[.int .u64 ((Plain.hiOf (X &&& Y)).toNat : Int), .int .u64 ((Plain.loOf (X &&& Y)).toNat : Int)]) ∧ Below w.heap.size w w' := by
  have H1 := Lib.hid ha
  have H2 := Lib.hid hb
  have H3 := Lib.hid hc
  have H4 := Lib.hid hd
  clear ha hb hc hd
  go_enter Try.func99, Try.ntmps99
  go_wp2_with (go_at_call 89; refine (and_c H1.out H2.out H3.out H4.out _).mono ?_; rintro e w1 ⟨rfl, hb⟩; obtain ⟨c5, f5, g5, _⟩ := blk (k := w.heap.size + 1 + 1) (c := #[.int .u64 0, .int .u64 0]) (t := 61) hb (by repeat (first | exact al_at (by simp) | exact e1.out | exact e2.out | exact e3.out | exact e4.out | exact e5.out | exact e6.out | exact e7.out | exact e8.out | exact e9.out | exact e10.out | exact e11.out | exact e12.out | exact e13.out | exact e14.out | exact e15.out | exact e16.out | exact e17.out | exact e18.out | exact e19.out | rw [al_lt (by first | omega | (simp <;> omega))] | rw [sc_ne (by first | omega | (simp <;> omega))])); have hz := hb.size; simp only [World.size_alloc] at hz; have hb1 := Lib.hid hb; clear hb)
  refine bodyPost_ret (v := .agg #[.int .u64 ((Plain.hiOf (X &&& Y)).toNat : Int), .int .u64 ((Plain.loOf (X &&& Y)).toNat : Int)]) (by simp [results, Try.results99, go_sem, c5]) rfl ⟨rfl, ?_⟩
  exact ((below_via hb1.out (by simp; omega) ((((Below.refl _ _).alloc (Nat.le_refl _) _).alloc (by simp) _).alloc (by simp; omega) _)).setCell (by simp; omega) _).setCell (by simp; omega) _
set_option maxHeartbeats 400000 in
theorem And_c {a b c d : Int} {X Y : BitVec 128} (ha : a = (Plain.hiOf X).toNat) (hb : b = (Plain.loOf X).toNat) (hc : c = (Plain.hiOf Y).toNat) (hd : d = (Plain.loOf Y).toNat) (w : World) :
    Calls Try.prog 85 #[.agg #[.int .u64 a, .int .u64 b], .agg #[.int .u64 c, .int .u64 d]] w fun e w' => e = .returned (.agg #[.int .u64 ((Plain.hiOf (X &&& Y)).toNat : Int), .int .u64 ((Plain.loOf (X &&& Y)).toNat : Int)]) ∧ Below w.heap.size w w' := by
  have H1 := Lib.hid ha
  have H2 := Lib.hid hb
  have H3 := Lib.hid hc
  have H4 := Lib.hid hd
  clear ha hb hc hd
  go_enter Try.func85, Try.ntmps85
  go_wp2_with (go_at_call 99; refine (both_and H1.out H2.out H3.out H4.out _).mono ?_; rintro e w1 ⟨rfl, hb⟩; obtain ⟨c5, f5, g5, _⟩ := blk (k := w.heap.size + 1 + 1) (c := #[.int .u64 0, .int .u64 0]) (t := 61) hb (by repeat (first | exact al_at (by simp) | exact e1.out | exact e2.out | exact e3.out | exact e4.out | exact e5.out | exact e6.out | exact e7.out | exact e8.out | exact e9.out | exact e10.out | exact e11.out | exact e12.out | exact e13.out | exact e14.out | exact e15.out | exact e16.out | exact e17.out | exact e18.out | exact e19.out | rw [al_lt (by first | omega | (simp <;> omega))] | rw [sc_ne (by first | omega | (simp <;> omega))])); have hz := hb.size; simp only [World.size_alloc] at hz; have hb1 := Lib.hid hb; clear hb)
  refine bodyPost_ret (v := .agg #[.int .u64 ((Plain.hiOf (X &&& Y)).toNat : Int), .int .u64 ((Plain.loOf (X &&& Y)).toNat : Int)]) (by simp [results, Try.results85, go_sem, c5]) rfl ⟨rfl, ?_⟩
  exact ((below_via hb1.out (by simp; omega) ((((Below.refl _ _).alloc (Nat.le_refl _) _).alloc (by simp) _).alloc (by simp; omega) _)).setCell (by simp; omega) _).setCell (by simp; omega) _

set_option maxHeartbeats 400000 in
theorem both_less {a b c d : Int} {X Y : BitVec 128} (ha : a = (Plain.hiOf X).toNat) (hb : b = (Plain.loOf X).toNat) (hc : c = (Plain.hiOf Y).toNat) (hd : d = (Plain.loOf Y).toNat) (w : World) :
    Calls Try.prog 99 #[.func (.func 100) #[] #[], .agg #[.int .u64 a, .int .u64 b], .agg #[.int .u64 c, .int .u64 d]] w fun e w' => e = .returned (.agg #[.int .u64 ((Plain.hiOf (X &&& ~~~Y)).toNat : Int), .int .u64 ((Plain.loOf (X &&& ~~~Y)).toNat : Int)]) ∧ Below w.heap.size w w' := by
  have H1 := Lib.hid ha
  have H2 := Lib.hid hb
  have H3 := Lib.hid hc
  have H4 := Lib.hid hd
  clear ha hb hc hd
  go_enter Try.func99, Try.ntmps99
  go_wp2_with (go_at_call 100; refine (less_c H1.out H2.out H3.out H4.out _).mono ?_; rintro e w1 ⟨rfl, hb⟩; obtain ⟨c5, f5, g5, _⟩ := blk (k := w.heap.size + 1 + 1) (c := #[.int .u64 0, .int .u64 0]) (t := 61) hb (by repeat (first | exact al_at (by simp) | exact e1.out | exact e2.out | exact e3.out | exact e4.out | exact e5.out | exact e6.out | exact e7.out | exact e8.out | exact e9.out | exact e10.out | exact e11.out | exact e12.out | exact e13.out | exact e14.out | exact e15.out | exact e16.out | exact e17.out | exact e18.out | exact e19.out | rw [al_lt (by first | omega | (simp <;> omega))] | rw [sc_ne (by first | omega | (simp <;> omega))])); have hz := hb.size; simp only [World.size_alloc] at hz; have hb1 := Lib.hid hb; clear hb)
  refine bodyPost_ret (v := .agg #[.int .u64 ((Plain.hiOf (X &&& ~~~Y)).toNat : Int), .int .u64 ((Plain.loOf (X &&& ~~~Y)).toNat : Int)]) (by simp [results, Try.results99, go_sem, c5]) rfl ⟨rfl, ?_⟩
  exact ((below_via hb1.out (by simp; omega) ((((Below.refl _ _).alloc (Nat.le_refl _) _).alloc (by simp) _).alloc (by simp; omega) _)).setCell (by simp; omega) _).setCell (by simp; omega) _
set_option maxHeartbeats 400000 in
theorem Less_c {a b c d : Int} {X Y : BitVec 128} (ha : a = (Plain.hiOf X).toNat) (hb : b = (Plain.loOf X).toNat) (hc : c = (Plain.hiOf Y).toNat) (hd : d = (Plain.loOf Y).toNat) (w : World) :
    Calls Try.prog 83 #[.agg #[.int .u64 a, .int .u64 b], .agg #[.int .u64 c, .int .u64 d]] w fun e w' => e = .returned (.agg #[.int .u64 ((Plain.hiOf (X &&& ~~~Y)).toNat : Int), .int .u64 ((Plain.loOf (X &&& ~~~Y)).toNat : Int)]) ∧ Below w.heap.size w w' := by
  have H1 := Lib.hid ha
  have H2 := Lib.hid hb
  have H3 := Lib.hid hc
  have H4 := Lib.hid hd
  clear ha hb hc hd
  go_enter Try.func83, Try.ntmps83
  go_wp2_with (go_at_call 99; refine (both_less H1.out H2.out H3.out H4.out _).mono ?_; rintro e w1 ⟨rfl, hb⟩; obtain ⟨c5, f5, g5, _⟩ := blk (k := w.heap.size + 1 + 1) (c := #[.int .u64 0, .int .u64 0]) (t := 61) hb (by repeat (first | exact al_at (by simp) | exact e1.out | exact e2.out | exact e3.out | exact e4.out | exact e5.out | exact e6.out | exact e7.out | exact e8.out | exact e9.out | exact e10.out | exact e11.out | exact e12.out | exact e13.out | exact e14.out | exact e15.out | exact e16.out | exact e17.out | exact e18.out | exact e19.out | rw [al_lt (by first | omega | (simp <;> omega))] | rw [sc_ne (by first | omega | (simp <;> omega))])); have hz := hb.size; simp only [World.size_alloc] at hz; have hb1 := Lib.hid hb; clear hb)
  refine bodyPost_ret (v := .agg #[.int .u64 ((Plain.hiOf (X &&& ~~~Y)).toNat : Int), .int .u64 ((Plain.loOf (X &&& ~~~Y)).toNat : Int)]) (by simp [results, Try.results83, go_sem, c5]) rfl ⟨rfl, ?_⟩
  exact ((below_via hb1.out (by simp; omega) ((((Below.refl _ _).alloc (Nat.le_refl _) _).alloc (by simp) _).alloc (by simp; omega) _)).setCell (by simp; omega) _).setCell (by simp; omega) _
end Go.Proofs.Ytgebehnlfihliaa.Hd
