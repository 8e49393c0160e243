/- HeadFields: Mask, Get and Put answer as one bit by the other: for every header, every place and size, every number. -/
import Derived.Test.YtjbmhcjncldnhaaLBack
import Derived.Deep.DeepCutAuto
namespace Go.Proofs.Ytjbmhcjncldnhaa
open Go.RowKit Go.Sort
set_option linter.unusedSimpArgs false
set_option linter.unusedVariables false
attribute [local go_sem ↓] execOp_ld33 execOp_st33

def bnd (p k : Nat) : Nat → Bool := fun i => decide (p ≤ i) && decide (i < p + k)
theorem bnd_zero (p : Nat) : bnd p 0 = fun _ => false := by
  funext i; unfold bnd
  by_cases h : p ≤ i
  · simp [h]
  · simp [h]
theorem bnd_set (p k : Nat) : (arr (bnd p k)).setIfInBounds (p + k) (.bool true) = arr (bnd p (k + 1)) := by
  rw [arr_set]; congr 1; funext i; unfold bnd
  by_cases h : i = p + k
  · subst h; simp
  · by_cases h2 : i < p + k
    · simp [h, h2, show i < p + (k + 1) by omega]
    · simp [h, h2, show ¬ i < p + (k + 1) by omega]
theorem bnd_all (p s : Nat) (h : p + s ≤ 128) : Plain.ofBits (bnd p s) = Plain.fm p s := by
  apply BitVec.eq_of_getLsbD_eq
  intro i hi
  rw [Plain.ofBits_bit _ _ hi, Plain.fm_bit p s i h]; rfl

theorem sc_at {w : World} {x o : Nat} {v : Value} {c : Array Value} {t : TypeId} (h : w.heap[x]? = some (.cells c t)) : (w.setCell ⟨x, o, none⟩ v).heap[x]? = some (.cells (c.setIfInBounds o v) t) := by
  simp [World.setCell, Array.getElem?_modify, h]
theorem bit_v (V : BitVec 64) (k : Nat) (h : k < 64) : (((V.toNat : Int) / 2 ^ k).tmod 2 == 1) = V.getLsbD k := by
  have := bit_lo (Plain.mk 0 V) k h
  rw [Plain.loOf_mk, Plain.mk0_bit] at this; exact this
/-- the bits with k of the number's bits laid in at p -/
def laid (A : BitVec 128) (V : BitVec 64) (p k : Nat) : Nat → Bool := fun i => if p ≤ i ∧ i < p + k then V.getLsbD (i - p) else A.getLsbD i
theorem laid_zero (A : BitVec 128) (V : BitVec 64) (p : Nat) : laid A V p 0 = A.getLsbD := by
  funext i; unfold laid; rw [if_neg (by omega)]
theorem laid_set (A : BitVec 128) (V : BitVec 64) (p k : Nat) : (arr (laid A V p k)).setIfInBounds (p + k) (.bool (V.getLsbD k)) = arr (laid A V p (k + 1)) := by
  rw [arr_set]; congr 1; funext i; unfold laid
  by_cases h : i = p + k
  · subst h; rw [if_pos rfl, if_pos (by omega), show p + k - p = k by omega]
  · by_cases h2 : p ≤ i ∧ i < p + k
    · rw [if_neg h, if_pos h2, if_pos (by omega)]
    · rw [if_neg h, if_neg h2, if_neg (by omega)]
theorem laid_all (A : BitVec 128) (V : BitVec 64) (p s : Nat) (h : p + s ≤ 128) (hv : V.toNat < 2 ^ s) : Plain.ofBits (laid A V p s) = Plain.put A p s V := by
  apply BitVec.eq_of_getLsbD_eq
  intro i hi
  rw [Plain.ofBits_bit _ _ hi]
  simp only [Plain.put, laid, BitVec.getLsbD_and, BitVec.getLsbD_or, BitVec.getLsbD_not, BitVec.getLsbD_shiftLeft, Plain.mk0_bit, hi, decide_true, Bool.true_and, Plain.fm_bit p s i h]
  by_cases h1 : p ≤ i
  · by_cases h2 : i < p + s
    · simp [h1, h2, show ¬ i < p by omega]
    · rw [Plain.put_fits_bit V s hv (i - p) (by omega)]; simp [h1, h2]
  · simp [h1, show i < p by omega]
theorem shr_over (V : BitVec 64) (s : Nat) (h : 2 ^ s ≤ V.toNat) : ((V.toNat : Int) / 2 ^ s != 0) = true := by
  have h1 : 1 ≤ V.toNat / 2 ^ s := Nat.div_pos h (Nat.two_pow_pos s)
  have h2 : (V.toNat : Int) / 2 ^ s = ((V.toNat / 2 ^ s : Nat) : Int) := by rw [Int.natCast_ediv, Int.natCast_pow]; rfl
  rw [h2, bne_iff_ne]; omega
theorem shr_fits (V : BitVec 64) (s : Nat) (h : V.toNat < 2 ^ s) : ((V.toNat : Int) / 2 ^ s != 0) = false := by
  have h1 : V.toNat / 2 ^ s = 0 := Nat.div_eq_of_lt h
  have h2 : (V.toNat : Int) / 2 ^ s = ((V.toNat / 2 ^ s : Nat) : Int) := by rw [Int.natCast_ediv, Int.natCast_pow]; rfl
  rw [h2, h1]; rfl

set_option maxRecDepth 100000 in
set_option maxHeartbeats 1000000 in
theorem fields_no (ah al a s v : Int) (h : fieldB a s 128 = false) (w : World) :
    Calls Try.prog 3 #[.agg #[.int .u64 ah, .int .u64 al], .int .i64 a, .int .i64 s, .int .u64 v] w fun e w' => e = .returned (.bool true) ∧ RowKit.Below w.heap.size w w' := by
  have h64 : fieldB a s 64 = false := by
    rw [← Bool.not_eq_true] at h ⊢
    intro h'; apply h
    simp only [fieldB, Bool.and_eq_true, decide_eq_true_eq] at h' ⊢
    omega
  have H1 := Lib.hid h
  have H2 := Lib.hid h64
  clear h h64
  go_enter Try.func3, Try.ntmps3
  go_wp2_with fail
  refine (Mask_no a s H1.out _).mono ?_
  rintro e w1 ⟨rfl, hb⟩
  obtain ⟨c1, f1, g1, e1⟩ := blk (k := w.heap.size) (c := (#[.int .u64 ah, .int .u64 al])) (t := 24) hb (by repeat (first | exact al_at (by simp) | exact e1.out | exact e2.out | exact e3.out | exact e4.out | exact e5.out | exact e6.out | exact e7.out | exact e8.out | exact e9.out | exact e10.out | exact e11.out | exact e12.out | exact e13.out | exact e14.out | exact e15.out | exact e16.out | exact e17.out | exact e18.out | exact e19.out | rw [al_lt (by first | omega | (simp <;> omega))] | rw [sc_ne (by first | omega | (simp <;> omega))]))
  have hz1 := hb.size; (try simp only [World.size_alloc, World.size_setCell, World.size_drew] at hz1); have hb1 := Lib.hid hb; clear hb
  go_wp2_with fail
  refine (Get_no _ _ a s H2.out _).mono ?_
  rintro e w2 ⟨rfl, hb⟩
  obtain ⟨c2, f2, g2, e2⟩ := blk (k := w.heap.size) (c := (#[.int .u64 ah, .int .u64 al])) (t := 24) hb (by repeat (first | exact al_at (by simp) | exact e1.out | exact e2.out | exact e3.out | exact e4.out | exact e5.out | exact e6.out | exact e7.out | exact e8.out | exact e9.out | exact e10.out | exact e11.out | exact e12.out | exact e13.out | exact e14.out | exact e15.out | exact e16.out | exact e17.out | exact e18.out | exact e19.out | rw [al_lt (by first | omega | (simp <;> omega))] | rw [sc_ne (by first | omega | (simp <;> omega))]))
  obtain ⟨c3, f3, g3, e3⟩ := blk (k := w1.heap.size) (c := #[.int .u64 0, .int .u64 0]) (t := 24) hb (by repeat (first | exact al_at (by simp) | exact e1.out | exact e2.out | exact e3.out | exact e4.out | exact e5.out | exact e6.out | exact e7.out | exact e8.out | exact e9.out | exact e10.out | exact e11.out | exact e12.out | exact e13.out | exact e14.out | exact e15.out | exact e16.out | exact e17.out | exact e18.out | exact e19.out | rw [al_lt (by first | omega | (simp <;> omega))] | rw [sc_ne (by first | omega | (simp <;> omega))]))
  have hz2 := hb.size; (try simp only [World.size_alloc, World.size_setCell, World.size_drew] at hz2); have hb2 := Lib.hid hb; clear hb
  go_wp2_with fail
  refine (Put_no _ _ v a s H2.out _).mono ?_
  rintro e w3 ⟨rfl, hb⟩
  obtain ⟨c4, f4, g4, e4⟩ := blk (k := w1.heap.size) (c := #[.int .u64 0, .int .u64 0]) (t := 24) hb (by repeat (first | exact al_at (by simp) | exact e1.out | exact e2.out | exact e3.out | exact e4.out | exact e5.out | exact e6.out | exact e7.out | exact e8.out | exact e9.out | exact e10.out | exact e11.out | exact e12.out | exact e13.out | exact e14.out | exact e15.out | exact e16.out | exact e17.out | exact e18.out | exact e19.out | rw [al_lt (by first | omega | (simp <;> omega))] | rw [sc_ne (by first | omega | (simp <;> omega))]))
  have hz3 := hb.size; (try simp only [World.size_alloc, World.size_setCell, World.size_drew] at hz3); have hb3 := Lib.hid hb; clear hb
  go_wp2_with fail
  refine (Field_no a s 128 H1.out (by omega) _).mono ?_
  rintro e w4 ⟨rfl, rfl⟩
  go_wp2_with fail
  refine (awake_c _).mono ?_
  rintro e w5 ⟨rfl, hb⟩
  obtain ⟨c5, f5, g5, e5⟩ := blk (k := w1.heap.size) (c := #[.int .u64 0, .int .u64 0]) (t := 24) hb (by repeat (first | exact al_at (by simp) | exact e1.out | exact e2.out | exact e3.out | exact e4.out | exact e5.out | exact e6.out | exact e7.out | exact e8.out | exact e9.out | exact e10.out | exact e11.out | exact e12.out | exact e13.out | exact e14.out | exact e15.out | exact e16.out | exact e17.out | exact e18.out | exact e19.out | rw [al_lt (by first | omega | (simp <;> omega))] | rw [sc_ne (by first | omega | (simp <;> omega))]))
  obtain ⟨c6, f6, g6, e6⟩ := blk (k := w3.heap.size) (c := #[.int .u64 0, .int .u64 0]) (t := 24) hb (by repeat (first | exact al_at (by simp) | exact e1.out | exact e2.out | exact e3.out | exact e4.out | exact e5.out | exact e6.out | exact e7.out | exact e8.out | exact e9.out | exact e10.out | exact e11.out | exact e12.out | exact e13.out | exact e14.out | exact e15.out | exact e16.out | exact e17.out | exact e18.out | exact e19.out | rw [al_lt (by first | omega | (simp <;> omega))] | rw [sc_ne (by first | omega | (simp <;> omega))]))
  have hz5 := hb.size; (try simp only [World.size_alloc, World.size_setCell, World.size_drew] at hz5); have hb5 := Lib.hid hb; clear hb
  go_wp2
  go_ret
  exact ⟨rfl, by (repeat (first | exact Below.refl _ _ | refine Below.drew ?_ | refine below_drewN ?_ _ | (refine Below.alloc ?_ ?_ _; rotate_left; focus (first | omega | (simp <;> omega))) | (refine Below.setCell ?_ ?_ _; rotate_left; focus (first | omega | (simp <;> omega))) | (refine below_via hb9.out ?_ ?_; focus (first | omega | (simp <;> omega))) | (refine below_via hb8.out ?_ ?_; focus (first | omega | (simp <;> omega))) | (refine below_via hb7.out ?_ ?_; focus (first | omega | (simp <;> omega))) | (refine below_via hb6.out ?_ ?_; focus (first | omega | (simp <;> omega))) | (refine below_via hb5.out ?_ ?_; focus (first | omega | (simp <;> omega))) | (refine below_via hb4.out ?_ ?_; focus (first | omega | (simp <;> omega))) | (refine below_via hb3.out ?_ ?_; focus (first | omega | (simp <;> omega))) | (refine below_via hb2.out ?_ ?_; focus (first | omega | (simp <;> omega))) | (refine below_via hb1.out ?_ ?_; focus (first | omega | (simp <;> omega)))))⟩

/-- what Get and Put have answered -/
inductive FCase (A : BitVec 128) (p s : Nat) (V : BitVec 64) (g eg ph pl ep : Int) : Prop where
  | wide (h : 64 < s) (h1 : eg = 1) (h2 : ep = 1) (h3 : g = 0) (h4 : ph = 0) (h5 : pl = 0)
  | over (h : s < 64) (h0 : 2 ^ s ≤ V.toNat) (h1 : eg = 0) (h2 : ep = 4) (h3 : g = ((Plain.tn A.getLsbD (p + s) s : Nat) : Int)) (h4 : ph = 0) (h5 : pl = 0)
  | fits (h : s ≤ 64) (h0 : V.toNat < 2 ^ s) (h1 : eg = 0) (h2 : ep = 0) (h3 : g = ((Plain.tn A.getLsbD (p + s) s : Nat) : Int)) (h4 : ph = ((Plain.hiOf (Plain.put A p s V)).toNat : Int)) (h5 : pl = ((Plain.loOf (Plain.put A p s V)).toNat : Int))

set_option maxRecDepth 100000 in
set_option maxHeartbeats 1000000 in
theorem fields_in (A : BitVec 128) (p s : Nat) (V : BitVec 64) (hs : p + s ≤ 128) (g eg ph pl ep : Int)
    (G : ∀ W, Calls Try.prog 9 #[.agg #[.int .u64 ((Plain.hiOf (A)).toNat : Int), .int .u64 ((Plain.loOf (A)).toNat : Int)], .int .i64 (p : Int), .int .i64 (s : Int)] W fun e w' => e = .returned (.tuple #[.int .u64 g, .int .i64 eg]) ∧ RowKit.Below W.heap.size W w')
    (P : ∀ W, Calls Try.prog 10 #[.agg #[.int .u64 ((Plain.hiOf (A)).toNat : Int), .int .u64 ((Plain.loOf (A)).toNat : Int)], .int .i64 (p : Int), .int .i64 (s : Int), .int .u64 (V.toNat : Int)] W fun e w' => e = .returned (.tuple #[.agg #[.int .u64 ph, .int .u64 pl], .int .i64 ep]) ∧ RowKit.Below W.heap.size W w')
    (hc : FCase A p s V g eg ph pl ep) (w : World) :
    Calls Try.prog 3 #[.agg #[.int .u64 ((Plain.hiOf (A)).toNat : Int), .int .u64 ((Plain.loOf (A)).toNat : Int)], .int .i64 (p : Int), .int .i64 (s : Int), .int .u64 (V.toNat : Int)] w fun e w' => e = .returned (.bool true) ∧ RowKit.Below w.heap.size w w' := by
  have hF : Hid (fieldB (p : Int) (s : Int) 128 = true) := Lib.hid (by simp only [fieldB, Bool.and_eq_true, decide_eq_true_eq]; omega)
  go_enter Try.func3, Try.ntmps3
  go_wp2_with fail
  refine (Mask_back p s hs _).mono ?_
  rintro e w1 ⟨rfl, hb⟩
  obtain ⟨c1, f1, g1, e1⟩ := blk (k := w.heap.size) (c := (#[.int .u64 ((Plain.hiOf (A)).toNat : Int), .int .u64 ((Plain.loOf (A)).toNat : Int)])) (t := 24) hb (by repeat (first | exact al_at (by simp) | exact e1.out | exact e2.out | exact e3.out | exact e4.out | exact e5.out | exact e6.out | exact e7.out | exact e8.out | exact e9.out | exact e10.out | exact e11.out | exact e12.out | exact e13.out | exact e14.out | exact e15.out | exact e16.out | exact e17.out | exact e18.out | exact e19.out | rw [al_lt (by first | omega | (simp <;> omega))] | rw [sc_ne (by first | omega | (simp <;> omega))]))
  have hz1 := hb.size; (try simp only [World.size_alloc, World.size_setCell, World.size_drew] at hz1); have hb1 := Lib.hid hb; clear hb
  go_wp2_with fail
  refine (G _).mono ?_
  rintro e w2 ⟨rfl, hb⟩
  obtain ⟨c2, f2, g2, e2⟩ := blk (k := w.heap.size) (c := (#[.int .u64 ((Plain.hiOf (A)).toNat : Int), .int .u64 ((Plain.loOf (A)).toNat : Int)])) (t := 24) hb (by repeat (first | exact al_at (by simp) | exact e1.out | exact e2.out | exact e3.out | exact e4.out | exact e5.out | exact e6.out | exact e7.out | exact e8.out | exact e9.out | exact e10.out | exact e11.out | exact e12.out | exact e13.out | exact e14.out | exact e15.out | exact e16.out | exact e17.out | exact e18.out | exact e19.out | rw [al_lt (by first | omega | (simp <;> omega))] | rw [sc_ne (by first | omega | (simp <;> omega))]))
  obtain ⟨c3, f3, g3, e3⟩ := blk (k := w1.heap.size) (c := (#[.int .u64 ((Plain.hiOf (Plain.fm p s)).toNat : Int), .int .u64 ((Plain.loOf (Plain.fm p s)).toNat : Int)])) (t := 24) hb (by repeat (first | exact al_at (by simp) | exact e1.out | exact e2.out | exact e3.out | exact e4.out | exact e5.out | exact e6.out | exact e7.out | exact e8.out | exact e9.out | exact e10.out | exact e11.out | exact e12.out | exact e13.out | exact e14.out | exact e15.out | exact e16.out | exact e17.out | exact e18.out | exact e19.out | rw [al_lt (by first | omega | (simp <;> omega))] | rw [sc_ne (by first | omega | (simp <;> omega))]))
  have hz2 := hb.size; (try simp only [World.size_alloc, World.size_setCell, World.size_drew] at hz2); have hb2 := Lib.hid hb; clear hb
  go_wp2_with fail
  refine (P _).mono ?_
  rintro e w3 ⟨rfl, hb⟩
  obtain ⟨c4, f4, g4, e4⟩ := blk (k := w.heap.size) (c := (#[.int .u64 ((Plain.hiOf (A)).toNat : Int), .int .u64 ((Plain.loOf (A)).toNat : Int)])) (t := 24) hb (by repeat (first | exact al_at (by simp) | exact e1.out | exact e2.out | exact e3.out | exact e4.out | exact e5.out | exact e6.out | exact e7.out | exact e8.out | exact e9.out | exact e10.out | exact e11.out | exact e12.out | exact e13.out | exact e14.out | exact e15.out | exact e16.out | exact e17.out | exact e18.out | exact e19.out | rw [al_lt (by first | omega | (simp <;> omega))] | rw [sc_ne (by first | omega | (simp <;> omega))]))
  obtain ⟨c5, f5, g5, e5⟩ := blk (k := w1.heap.size) (c := (#[.int .u64 ((Plain.hiOf (Plain.fm p s)).toNat : Int), .int .u64 ((Plain.loOf (Plain.fm p s)).toNat : Int)])) (t := 24) hb (by repeat (first | exact al_at (by simp) | exact e1.out | exact e2.out | exact e3.out | exact e4.out | exact e5.out | exact e6.out | exact e7.out | exact e8.out | exact e9.out | exact e10.out | exact e11.out | exact e12.out | exact e13.out | exact e14.out | exact e15.out | exact e16.out | exact e17.out | exact e18.out | exact e19.out | rw [al_lt (by first | omega | (simp <;> omega))] | rw [sc_ne (by first | omega | (simp <;> omega))]))
  have hz3 := hb.size; (try simp only [World.size_alloc, World.size_setCell, World.size_drew] at hz3); have hb3 := Lib.hid hb; clear hb
  go_wp2_with fail
  refine (Field_yes p s 128 hF.out (by omega) _).mono ?_
  rintro e w4 ⟨rfl, rfl⟩
  have hz := (zero_of_info zero33).1
  have hst := store33
  have hsz := arr_size
  go_wp2_with fail
  go_loopw [16] (fun i wr => ∃ k : Nat, k ≤ s ∧ i = .int .i64 k ∧ wr = (w3.alloc (.cells (#[.int .u64 ph, .int .u64 pl]) 24)).alloc (.cells (arr (bnd p k)) 33)) (fun i _ => s - (intOf i).toNat)
  case atStart => exact ⟨0, by omega, rfl, by rw [bnd_zero]⟩
  case round =>
    obtain ⟨k, hk, rfl, rfl⟩ := hrel
    by_cases hlt : k < s
    · have hi : (k : Int) < s := by omega
      have hc := arr_get (bnd p k) (p + k) (by omega)
      have hb1 : (p : Int) + k < 128 := by omega
      have ht : ((p : Int) + (k : Int)).toNat = p + k := by omega
      go_wp2_with fail
      refine ⟨⟨k + 1, by omega, by go_num, ?_⟩, by simp [intOf]; omega⟩
      rw [bnd_set]
    · have hi : ¬ (k : Int) < s := by omega
      obtain rfl : s = k := by omega
      go_wp2_with fail
      refine wp_world (fun W => RowKit.Below w.heap.size w W ∧ w.heap.size + 1 ≤ W.heap.size ∧ W.heap[w.heap.size]? = some (.cells (#[.int .u64 ((Plain.hiOf (A)).toNat : Int), .int .u64 ((Plain.loOf (A)).toNat : Int)]) 24) ∧ W.heap[w1.heap.size]? = some (.cells (#[.int .u64 ((Plain.hiOf (Plain.fm p s)).toNat : Int), .int .u64 ((Plain.loOf (Plain.fm p s)).toNat : Int)]) 24) ∧ W.heap[w3.heap.size]? = some (.cells (#[.int .u64 ph, .int .u64 pl]) 24) ∧ W.heap[w3.heap.size + 1]? = some (.cells (arr (bnd p s)) 33)) ?_ ?_
      · exact ⟨by (repeat (first | exact Below.refl _ _ | refine Below.drew ?_ | refine below_drewN ?_ _ | (refine Below.alloc ?_ ?_ _; rotate_left; focus (first | omega | (simp <;> omega))) | (refine Below.setCell ?_ ?_ _; rotate_left; focus (first | omega | (simp <;> omega))) | (refine below_via hb9.out ?_ ?_; focus (first | omega | (simp <;> omega))) | (refine below_via hb8.out ?_ ?_; focus (first | omega | (simp <;> omega))) | (refine below_via hb7.out ?_ ?_; focus (first | omega | (simp <;> omega))) | (refine below_via hb6.out ?_ ?_; focus (first | omega | (simp <;> omega))) | (refine below_via hb5.out ?_ ?_; focus (first | omega | (simp <;> omega))) | (refine below_via hb4.out ?_ ?_; focus (first | omega | (simp <;> omega))) | (refine below_via hb3.out ?_ ?_; focus (first | omega | (simp <;> omega))) | (refine below_via hb2.out ?_ ?_; focus (first | omega | (simp <;> omega))) | (refine below_via hb1.out ?_ ?_; focus (first | omega | (simp <;> omega))))), by simp; omega, (by repeat (first | exact al_at (by simp) | exact e1.out | exact e2.out | exact e3.out | exact e4.out | exact e5.out | exact e6.out | exact e7.out | exact e8.out | exact e9.out | exact e10.out | exact e11.out | exact e12.out | exact e13.out | exact e14.out | exact e15.out | exact e16.out | exact e17.out | exact e18.out | exact e19.out | rw [al_lt (by first | omega | (simp <;> omega))] | rw [sc_ne (by first | omega | (simp <;> omega))])), (by repeat (first | exact al_at (by simp) | exact e1.out | exact e2.out | exact e3.out | exact e4.out | exact e5.out | exact e6.out | exact e7.out | exact e8.out | exact e9.out | exact e10.out | exact e11.out | exact e12.out | exact e13.out | exact e14.out | exact e15.out | exact e16.out | exact e17.out | exact e18.out | exact e19.out | rw [al_lt (by first | omega | (simp <;> omega))] | rw [sc_ne (by first | omega | (simp <;> omega))])), (by repeat (first | exact al_at (by simp) | exact e1.out | exact e2.out | exact e3.out | exact e4.out | exact e5.out | exact e6.out | exact e7.out | exact e8.out | exact e9.out | exact e10.out | exact e11.out | exact e12.out | exact e13.out | exact e14.out | exact e15.out | exact e16.out | exact e17.out | exact e18.out | exact e19.out | rw [al_lt (by first | omega | (simp <;> omega))] | rw [sc_ne (by first | omega | (simp <;> omega))])), (by repeat (first | exact al_at (by simp) | exact e1.out | exact e2.out | exact e3.out | exact e4.out | exact e5.out | exact e6.out | exact e7.out | exact e8.out | exact e9.out | exact e10.out | exact e11.out | exact e12.out | exact e13.out | exact e14.out | exact e15.out | exact e16.out | exact e17.out | exact e18.out | exact e19.out | rw [al_lt (by first | omega | (simp <;> omega))] | rw [sc_ne (by first | omega | (simp <;> omega))]))⟩
      rintro W ⟨hbW, hsW, m1, m2, m3, m4⟩
      have r2 := reg_cell m2
      have r4 := reg_ld33 m4
      have HB := Lib.hid hbW
      have M1 := Lib.hid m1
      have M3 := Lib.hid m3
      have B1 : ∀ V, Calls Try.prog 13 #[.agg (arr (bnd p s))] V fun e w' => e = .returned (.agg #[.int .u64 ((Plain.hiOf (Plain.fm p s)).toNat : Int), .int .u64 ((Plain.loOf (Plain.fm p s)).toNat : Int)]) ∧ RowKit.Below V.heap.size V w' := fun V => by have := Head_c (bnd p s) V; rw [bnd_all p s hs] at this; exact this
      clear hbW m1 m2 m3 m4 hz hst hsz e1 e2 e3 e4 e5 hb1 hb2 hb3 hz1 hz2 hz3 c1 c2 c3 c4 c5 f1 f2 f3 f4 f5 g1 g2 g3 g4 g5
      generalize arr (bnd p s) = rb at *
      generalize ((Plain.hiOf (Plain.fm p s)).toNat : Int) = mh at *
      generalize ((Plain.loOf (Plain.fm p s)).toNat : Int) = ml at *
      refine wp_region_quiet_below (by kernel_rfl) (by kernel_rfl) ?_; (repeat (go_big_quiet_step ((go_at_call 13; exact Calls.regrown_of (B1 _))))); refine wpQuiet_nil ?_; intro _ hw'; obtain ⟨⟨dq, osq⟩, hw''⟩ := hw'; subst hw''
      have hb1 := Lib.hid (below_reg HB.out (Nat.le_trans (Nat.le_succ _) hsW) dq osq)
      have e1 : Hid ((grow (redrawn W dq) osq).heap[w.heap.size]? = some (.cells (#[.int .u64 ((Plain.hiOf (A)).toNat : Int), .int .u64 ((Plain.loOf (A)).toNat : Int)]) 24)) := Lib.hid (reg_heap M1.out ⟨dq, osq⟩)
      have e3 : Hid ((grow (redrawn W dq) osq).heap[w3.heap.size]? = some (.cells (#[.int .u64 ph, .int .u64 pl]) 24)) := Lib.hid (reg_heap M3.out ⟨dq, osq⟩)
      have q1 := (blkW e1.out).1
      have g1 := (blkW e1.out).2.2
      have g3 := (blkW e3.out).2.2
      clear HB M1 M3 r2 r4 B1 hsW
      generalize grow (redrawn W dq) osq = W2 at *
      rcases hc with ⟨h, h1, h2, h3, h4, h5⟩ | ⟨h, h0, h1, h2, h3, h4, h5⟩ | ⟨h, h0, h1, h2, h3, h4, h5⟩
      · subst h1 h2 h3 h4 h5
        have hi : (64 : Int) < s := by omega
        go_wp2_with fail
        refine (awake_c _).mono ?_
        rintro e w5 ⟨rfl, hb⟩
        obtain ⟨c6, f6, g6, e6⟩ := blk (k := w3.heap.size) (c := #[.int .u64 0, .int .u64 0]) (t := 24) hb (by repeat (first | exact al_at (by simp) | exact e1.out | exact e2.out | exact e3.out | exact e4.out | exact e5.out | exact e6.out | exact e7.out | exact e8.out | exact e9.out | exact e10.out | exact e11.out | exact e12.out | exact e13.out | exact e14.out | exact e15.out | exact e16.out | exact e17.out | exact e18.out | exact e19.out | rw [al_lt (by first | omega | (simp <;> omega))] | rw [sc_ne (by first | omega | (simp <;> omega))]))
        have hb2 := Lib.hid hb
        go_wp2
        go_ret
        exact ⟨rfl, hb1.out.trans (hb2.out.mono (by omega))⟩
      · subst h1 h2 h3 h4 h5
        have hi : ¬ (64 : Int) < s := by omega
        have hld := load33
        have hst := store33
        have hz := (zero_of_info zero33).1
        go_wp2_with fail
        refine (Bits_c A _).mono ?_
        rintro e w5 ⟨rfl, hb⟩
        obtain ⟨c6, f6, g6, e6⟩ := blk (k := w3.heap.size) (c := #[.int .u64 0, .int .u64 0]) (t := 24) hb (by repeat (first | exact al_at (by simp) | exact e1.out | exact e2.out | exact e3.out | exact e4.out | exact e5.out | exact e6.out | exact e7.out | exact e8.out | exact e9.out | exact e10.out | exact e11.out | exact e12.out | exact e13.out | exact e14.out | exact e15.out | exact e16.out | exact e17.out | exact e18.out | exact e19.out | rw [al_lt (by first | omega | (simp <;> omega))] | rw [sc_ne (by first | omega | (simp <;> omega))]))
        have hb2 := Lib.hid hb
        have hz2 := hb.size
        clear hb
        go_wp2_with fail
        refine (Number_c A.getLsbD p s (by omega) hs _).mono ?_
        rintro e w6 ⟨rfl, hb⟩
        obtain ⟨c7, f7, g7, e7⟩ := blk (k := w3.heap.size) (c := #[.int .u64 0, .int .u64 0]) (t := 24) hb (by repeat (first | exact al_at (by simp) | exact e1.out | exact e2.out | exact e3.out | exact e4.out | exact e5.out | exact e6.out | exact e7.out | exact e8.out | exact e9.out | exact e10.out | exact e11.out | exact e12.out | exact e13.out | exact e14.out | exact e15.out | exact e16.out | exact e17.out | exact e18.out | exact e19.out | rw [al_lt (by first | omega | (simp <;> omega))] | rw [sc_ne (by first | omega | (simp <;> omega))]))
        have hb3 := Lib.hid hb
        have hz3 := hb.size
        simp only [World.size_alloc] at hz3
        clear hb
        have hi2 : (s : Int) < 64 := by omega
        have hsh := shr_over V s h0
        go_wp2_with fail
        refine (awake_c _).mono ?_
        rintro e w7 ⟨rfl, hb⟩
        obtain ⟨c8, f8, g8, e8⟩ := blk (k := w3.heap.size) (c := #[.int .u64 0, .int .u64 0]) (t := 24) hb (by repeat (first | exact al_at (by simp) | exact e1.out | exact e2.out | exact e3.out | exact e4.out | exact e5.out | exact e6.out | exact e7.out | exact e8.out | exact e9.out | exact e10.out | exact e11.out | exact e12.out | exact e13.out | exact e14.out | exact e15.out | exact e16.out | exact e17.out | exact e18.out | exact e19.out | rw [al_lt (by first | omega | (simp <;> omega))] | rw [sc_ne (by first | omega | (simp <;> omega))]))
        have hb4 := Lib.hid hb
        go_wp2
        go_ret
        exact ⟨rfl, by (repeat (first | exact Below.refl _ _ | refine Below.drew ?_ | refine below_drewN ?_ _ | (refine Below.alloc ?_ ?_ _; rotate_left; focus (first | omega | (simp <;> omega))) | (refine Below.setCell ?_ ?_ _; rotate_left; focus (first | omega | (simp <;> omega))) | (refine below_via hb9.out ?_ ?_; focus (first | omega | (simp <;> omega))) | (refine below_via hb8.out ?_ ?_; focus (first | omega | (simp <;> omega))) | (refine below_via hb7.out ?_ ?_; focus (first | omega | (simp <;> omega))) | (refine below_via hb6.out ?_ ?_; focus (first | omega | (simp <;> omega))) | (refine below_via hb5.out ?_ ?_; focus (first | omega | (simp <;> omega))) | (refine below_via hb4.out ?_ ?_; focus (first | omega | (simp <;> omega))) | (refine below_via hb3.out ?_ ?_; focus (first | omega | (simp <;> omega))) | (refine below_via hb2.out ?_ ?_; focus (first | omega | (simp <;> omega))) | (refine below_via hb1.out ?_ ?_; focus (first | omega | (simp <;> omega)))))⟩
      · subst h1 h2 h3
        have hi : ¬ (64 : Int) < s := by omega
        have hld := load33
        have hst := store33
        have hsz := arr_size
        have hz := (zero_of_info zero33).1
        go_wp2_with fail
        refine (Bits_c A _).mono ?_
        rintro e w5 ⟨rfl, hb⟩
        obtain ⟨c6, f6, g6, e6⟩ := blk (k := w3.heap.size) (c := (#[.int .u64 ph, .int .u64 pl])) (t := 24) hb (by repeat (first | exact al_at (by simp) | exact e1.out | exact e2.out | exact e3.out | exact e4.out | exact e5.out | exact e6.out | exact e7.out | exact e8.out | exact e9.out | exact e10.out | exact e11.out | exact e12.out | exact e13.out | exact e14.out | exact e15.out | exact e16.out | exact e17.out | exact e18.out | exact e19.out | rw [al_lt (by first | omega | (simp <;> omega))] | rw [sc_ne (by first | omega | (simp <;> omega))]))
        have hb2 := Lib.hid hb
        have hz2 := hb.size
        clear hb
        go_wp2_with fail
        refine (Number_c A.getLsbD p s (by omega) hs _).mono ?_
        rintro e w6 ⟨rfl, hb⟩
        obtain ⟨c7, f7, g7, e7⟩ := blk (k := w3.heap.size) (c := (#[.int .u64 ph, .int .u64 pl])) (t := 24) hb (by repeat (first | exact al_at (by simp) | exact e1.out | exact e2.out | exact e3.out | exact e4.out | exact e5.out | exact e6.out | exact e7.out | exact e8.out | exact e9.out | exact e10.out | exact e11.out | exact e12.out | exact e13.out | exact e14.out | exact e15.out | exact e16.out | exact e17.out | exact e18.out | exact e19.out | rw [al_lt (by first | omega | (simp <;> omega))] | rw [sc_ne (by first | omega | (simp <;> omega))]))
        obtain ⟨c8, f8, g8, e8⟩ := blk (k := w5.heap.size) (c := arr A.getLsbD) (t := 33) hb (by repeat (first | exact al_at (by simp) | exact e1.out | exact e2.out | exact e3.out | exact e4.out | exact e5.out | exact e6.out | exact e7.out | exact e8.out | exact e9.out | exact e10.out | exact e11.out | exact e12.out | exact e13.out | exact e14.out | exact e15.out | exact e16.out | exact e17.out | exact e18.out | exact e19.out | rw [al_lt (by first | omega | (simp <;> omega))] | rw [sc_ne (by first | omega | (simp <;> omega))]))
        have hb3 := Lib.hid hb
        have hz3 := hb.size
        simp only [World.size_alloc] at hz3
        clear hb
        have hsh := shr_fits V s h0
        have HF := Lib.hid h0
        rcases Nat.lt_or_ge s 64 with hs64 | hs64
        · have hi2 : (s : Int) < 64 := by omega
          go_wp2_with fail
          refine wp_world (fun W => RowKit.Below w.heap.size w W ∧ w.heap.size + 1 ≤ W.heap.size ∧ w5.heap.size ≠ w3.heap.size ∧ w.heap.size ≤ w5.heap.size ∧ W.heap[w3.heap.size]? = some (.cells (#[.int .u64 ph, .int .u64 pl]) 24) ∧ W.heap[w5.heap.size]? = some (.cells (arr (laid A V p 0)) 33)) ?_ ?_
          · exact ⟨by (repeat (first | exact Below.refl _ _ | refine Below.drew ?_ | refine below_drewN ?_ _ | (refine Below.alloc ?_ ?_ _; rotate_left; focus (first | omega | (simp <;> omega))) | (refine Below.setCell ?_ ?_ _; rotate_left; focus (first | omega | (simp <;> omega))) | (refine below_via hb9.out ?_ ?_; focus (first | omega | (simp <;> omega))) | (refine below_via hb8.out ?_ ?_; focus (first | omega | (simp <;> omega))) | (refine below_via hb7.out ?_ ?_; focus (first | omega | (simp <;> omega))) | (refine below_via hb6.out ?_ ?_; focus (first | omega | (simp <;> omega))) | (refine below_via hb5.out ?_ ?_; focus (first | omega | (simp <;> omega))) | (refine below_via hb4.out ?_ ?_; focus (first | omega | (simp <;> omega))) | (refine below_via hb3.out ?_ ?_; focus (first | omega | (simp <;> omega))) | (refine below_via hb2.out ?_ ?_; focus (first | omega | (simp <;> omega))) | (refine below_via hb1.out ?_ ?_; focus (first | omega | (simp <;> omega))))), by omega, by omega, by omega, e7.out, by rw [laid_zero]; exact e8.out⟩
          rintro W ⟨HB, hsW, hne, hle, m3, m5⟩
          have HI : Hid (RowKit.Below w.heap.size w W ∧ W.heap[w3.heap.size]? = some (.cells (#[.int .u64 ph, .int .u64 pl]) 24) ∧ W.heap[w5.heap.size]? = some (.cells (arr (laid A V p 0)) 33)) := Lib.hid ⟨HB, m3, m5⟩
          clear HB m3 m5 hld hst hsz hz e1 e3 e6 e7 e8 c6 c7 c8 f6 f7 f8 g6 g7 g8 hb1 hb2 hb3 hz2 hz3 q1 g1 g3 hsh
          go_loopw [18] (fun i wr => ∃ k : Nat, k ≤ s ∧ i = .int .i64 k ∧ RowKit.Below w.heap.size w wr ∧ wr.heap[w3.heap.size]? = some (.cells (#[.int .u64 ph, .int .u64 pl]) 24) ∧ wr.heap[w5.heap.size]? = some (.cells (arr (laid A V p k)) 33)) (fun i _ => s - (intOf i).toNat)
          case atStart => exact ⟨0, by omega, rfl, HI.out⟩
          case round =>
            obtain ⟨k, hk, rfl, J⟩ := hrel
            have HJ := Lib.hid J
            by_cases hlt : k < s
            · have hi : (k : Int) < s := by omega
              have hb1 : (p : Int) + k < 128 := by omega
              have ht : ((p : Int) + (k : Int)).toNat = p + k := by omega
              have qc : wr.cell? ⟨w5.heap.size, p + k, none⟩ = _ := ((blkW J.2.2).1 (p + k)).trans (arr_get _ (p + k) (by omega))
              have qf : wr.frozen? ⟨w5.heap.size, p + k, none⟩ = _ := (blkW J.2.2).2.1 (p + k)
              have hv := bit_v V k (by omega)
              clear J
              go_wp2_with fail
              refine ⟨⟨k + 1, by omega, by go_num, HJ.out.1.setCell (by simp; omega) _, (Below.heap_setCell wr _ _ w3.heap.size (by simp; omega)).trans HJ.out.2.1, ?_⟩, by simp [intOf]; omega⟩
              rw [← laid_set]
              exact sc_at HJ.out.2.2
            · have hi : ¬ (k : Int) < s := by omega
              obtain rfl : s = k := by omega
              have r1 := reg_cell J.2.1
              have r2 := reg_ld33 J.2.2
              have hsz' := J.1.size
              have B1 : ∀ V', Calls Try.prog 13 #[.agg (arr (laid A V p s))] V' fun e w' => e = .returned (.agg #[.int .u64 ph, .int .u64 pl]) ∧ RowKit.Below V'.heap.size V' w' := fun V' => by have := Head_c (laid A V p s) V'; rw [laid_all A V p s hs HF.out, ← h4, ← h5] at this; exact this
              clear J h4 h5
              generalize arr (laid A V p s) = rb at *
              go_wp2_with fail
              refine wp_region_quiet_below (by kernel_rfl) (by kernel_rfl) ?_; (repeat (go_big_quiet_step ((first | (go_at_call 12; exact Calls.regrown_of (awake_c _)) | (go_at_call 13; exact Calls.regrown_of (B1 _)))))); refine wpQuiet_nil ?_; intro _ hw'; obtain ⟨⟨dq, osq⟩, hw''⟩ := hw'; subst hw''
              go_wp2
              go_ret
              exact ⟨rfl, below_reg HJ.out.1 hsz' dq osq⟩
        · have hi2 : ¬ (s : Int) < 64 := by omega
          go_wp2_with fail
          refine wp_world (fun W => RowKit.Below w.heap.size w W ∧ w.heap.size + 1 ≤ W.heap.size ∧ w5.heap.size ≠ w3.heap.size ∧ w.heap.size ≤ w5.heap.size ∧ W.heap[w3.heap.size]? = some (.cells (#[.int .u64 ph, .int .u64 pl]) 24) ∧ W.heap[w5.heap.size]? = some (.cells (arr (laid A V p 0)) 33)) ?_ ?_
          · exact ⟨by (repeat (first | exact Below.refl _ _ | refine Below.drew ?_ | refine below_drewN ?_ _ | (refine Below.alloc ?_ ?_ _; rotate_left; focus (first | omega | (simp <;> omega))) | (refine Below.setCell ?_ ?_ _; rotate_left; focus (first | omega | (simp <;> omega))) | (refine below_via hb9.out ?_ ?_; focus (first | omega | (simp <;> omega))) | (refine below_via hb8.out ?_ ?_; focus (first | omega | (simp <;> omega))) | (refine below_via hb7.out ?_ ?_; focus (first | omega | (simp <;> omega))) | (refine below_via hb6.out ?_ ?_; focus (first | omega | (simp <;> omega))) | (refine below_via hb5.out ?_ ?_; focus (first | omega | (simp <;> omega))) | (refine below_via hb4.out ?_ ?_; focus (first | omega | (simp <;> omega))) | (refine below_via hb3.out ?_ ?_; focus (first | omega | (simp <;> omega))) | (refine below_via hb2.out ?_ ?_; focus (first | omega | (simp <;> omega))) | (refine below_via hb1.out ?_ ?_; focus (first | omega | (simp <;> omega))))), by omega, by omega, by omega, e7.out, by rw [laid_zero]; exact e8.out⟩
          rintro W ⟨HB, hsW, hne, hle, m3, m5⟩
          have HI : Hid (RowKit.Below w.heap.size w W ∧ W.heap[w3.heap.size]? = some (.cells (#[.int .u64 ph, .int .u64 pl]) 24) ∧ W.heap[w5.heap.size]? = some (.cells (arr (laid A V p 0)) 33)) := Lib.hid ⟨HB, m3, m5⟩
          clear HB m3 m5 hld hst hsz hz e1 e3 e6 e7 e8 c6 c7 c8 f6 f7 f8 g6 g7 g8 hb1 hb2 hb3 hz2 hz3 q1 g1 g3 hsh
          go_loopw [18] (fun i wr => ∃ k : Nat, k ≤ s ∧ i = .int .i64 k ∧ RowKit.Below w.heap.size w wr ∧ wr.heap[w3.heap.size]? = some (.cells (#[.int .u64 ph, .int .u64 pl]) 24) ∧ wr.heap[w5.heap.size]? = some (.cells (arr (laid A V p k)) 33)) (fun i _ => s - (intOf i).toNat)
          case atStart => exact ⟨0, by omega, rfl, HI.out⟩
          case round =>
            obtain ⟨k, hk, rfl, J⟩ := hrel
            have HJ := Lib.hid J
            by_cases hlt : k < s
            · have hi : (k : Int) < s := by omega
              have hb1 : (p : Int) + k < 128 := by omega
              have ht : ((p : Int) + (k : Int)).toNat = p + k := by omega
              have qc : wr.cell? ⟨w5.heap.size, p + k, none⟩ = _ := ((blkW J.2.2).1 (p + k)).trans (arr_get _ (p + k) (by omega))
              have qf : wr.frozen? ⟨w5.heap.size, p + k, none⟩ = _ := (blkW J.2.2).2.1 (p + k)
              have hv := bit_v V k (by omega)
              clear J
              go_wp2_with fail
              refine ⟨⟨k + 1, by omega, by go_num, HJ.out.1.setCell (by simp; omega) _, (Below.heap_setCell wr _ _ w3.heap.size (by simp; omega)).trans HJ.out.2.1, ?_⟩, by simp [intOf]; omega⟩
              rw [← laid_set]
              exact sc_at HJ.out.2.2
            · have hi : ¬ (k : Int) < s := by omega
              obtain rfl : s = k := by omega
              have r1 := reg_cell J.2.1
              have r2 := reg_ld33 J.2.2
              have hsz' := J.1.size
              have B1 : ∀ V', Calls Try.prog 13 #[.agg (arr (laid A V p s))] V' fun e w' => e = .returned (.agg #[.int .u64 ph, .int .u64 pl]) ∧ RowKit.Below V'.heap.size V' w' := fun V' => by have := Head_c (laid A V p s) V'; rw [laid_all A V p s hs HF.out, ← h4, ← h5] at this; exact this
              clear J h4 h5
              generalize arr (laid A V p s) = rb at *
              go_wp2_with fail
              refine wp_region_quiet_below (by kernel_rfl) (by kernel_rfl) ?_; (repeat (go_big_quiet_step ((first | (go_at_call 12; exact Calls.regrown_of (awake_c _)) | (go_at_call 13; exact Calls.regrown_of (B1 _)))))); refine wpQuiet_nil ?_; intro _ hw'; obtain ⟨⟨dq, osq⟩, hw''⟩ := hw'; subst hw''
              go_wp2
              go_ret
              exact ⟨rfl, below_reg HJ.out.1 hsz' dq osq⟩
theorem get_tn (A : BitVec 128) (p s : Nat) (hs : s ≤ 64) (h : p + s ≤ 128) : (Plain.loOf (A >>> p &&& Plain.low s)).toNat = Plain.tn A.getLsbD (p + s) s := by
  apply Nat.eq_of_testBit_eq
  intro i
  rw [Plain.tn_bit _ _ s (by omega) i, ← BitVec.getLsbD, Plain.loOf_bit, BitVec.getLsbD_and, BitVec.getLsbD_ushiftRight, Plain.low_bit, show p + s - s + i = p + i by omega]
  by_cases hi : i < s
  · simp [hi, show i < 64 by omega, show i < 128 by omega]
  · simp [hi]
theorem over_lt (V : BitVec 64) (s : Nat) (h : overB V s = false) : s ≤ 64 → V.toNat < 2 ^ s := by
  intro hs
  unfold overB at h
  rw [bne_eq_false_iff_eq] at h
  apply Nat.lt_pow_two_of_testBit
  intro i hi
  by_cases h64 : i < 64
  · have := congrArg (fun x : BitVec 64 => x.getLsbD i) h
    simp only [BitVec.getLsbD_and, BitVec.getLsbD_not, Plain.loOf_bit, Plain.low_bit, h64, decide_true, Bool.true_and, BitVec.getLsbD_zero, show ¬ i < s by omega, decide_false, Bool.and_false, Bool.not_false, Bool.and_true] at this
    exact this
  · exact BitVec.getLsbD_of_ge V i (by omega)
theorem over_ge (V : BitVec 64) (s : Nat) (h : overB V s = true) : 2 ^ s ≤ V.toNat := by
  rcases Nat.lt_or_ge V.toNat (2 ^ s) with hlt | hge
  · exfalso
    unfold overB at h
    rw [bne_iff_ne] at h
    apply h
    apply BitVec.eq_of_getLsbD_eq
    intro i hi
    simp only [BitVec.getLsbD_and, BitVec.getLsbD_not, Plain.loOf_bit, Plain.low_bit, hi, decide_true, Bool.true_and, BitVec.getLsbD_zero]
    by_cases h2 : i < s
    · simp [h2, show i < 128 by omega]
    · rw [Plain.put_fits_bit V s hlt i (by omega)]; rfl
  · exact hge
theorem fields_lifted (A : BitVec 128) (a s v : Int) (ha : (Lit.int .i64 a).wf = true) (hs : (Lit.int .i64 s).wf = true) (hv : (Lit.int .u64 v).wf = true) (w : World) :
    Calls Try.prog 3 #[.agg #[.int .u64 ((Plain.hiOf (A)).toNat : Int), .int .u64 ((Plain.loOf (A)).toNat : Int)], .int .i64 a, .int .i64 s, .int .u64 v] w fun e w' => e = .returned (.bool true) ∧ RowKit.Below w.heap.size w w' := by
  obtain ⟨V, rfl⟩ := u64_bv hv
  by_cases h : fieldB a s 128 = true
  · have hh := h
    simp only [fieldB, Bool.and_eq_true, decide_eq_true_eq] at hh
    obtain ⟨p, rfl⟩ : ∃ p : Nat, a = p := ⟨a.toNat, by omega⟩
    obtain ⟨s, rfl⟩ : ∃ n : Nat, s = n := ⟨s.toNat, by omega⟩
    have hps : p + s ≤ 128 := by omega
    by_cases h64 : s ≤ 64
    · have hf : fieldB (p : Int) (s : Int) 64 = true := by
        simp only [fieldB, Bool.and_eq_true, decide_eq_true_eq]; omega
      have G := fun W => Get_yes (x := ((Plain.hiOf A).toNat : Int)) (y := ((Plain.loOf A).toNat : Int)) (X := A) rfl rfl (p : Int) (s : Int) hf W
      simp only [Int.toNat_natCast, get_tn A p s h64 hps] at G
      by_cases ho : overB V s = true
      · refine fields_in A p s V hps _ _ _ _ _ G (fun W => Put_over _ _ (p : Int) (s : Int) (V := V) rfl hf (by simpa using ho) W) (.over ?_ (over_ge V s ho) rfl rfl rfl rfl rfl) w
        have h1 := over_ge V s ho
        have h2 := V.isLt
        rcases Nat.lt_or_ge s 64 with h3 | h3
        · exact h3
        · have := Nat.pow_le_pow_right (show 0 < 2 by decide) h3; omega
      · have ho' : overB V s = false := by simpa using ho
        have P := fun W => Put_yes (x := ((Plain.hiOf A).toNat : Int)) (y := ((Plain.loOf A).toNat : Int)) (X := A) rfl rfl (p : Int) (s : Int) (v := (V.toNat : Int)) (V := V) rfl hf (by simpa using ho') W
        simp only [Int.toNat_natCast] at P
        exact fields_in A p s V hps _ _ _ _ _ G P (.fits h64 (over_lt V s ho' h64) rfl rfl rfl rfl rfl) w
    · have hf : fieldB (p : Int) (s : Int) 64 = false := by
        rw [← Bool.not_eq_true]; intro h'
        simp only [fieldB, Bool.and_eq_true, decide_eq_true_eq] at h'; omega
      exact fields_in A p s V hps _ _ _ _ _ (fun W => Get_no _ _ _ _ hf W) (fun W => Put_no _ _ _ _ _ hf W) (.wide (by omega) rfl rfl rfl rfl rfl) w
  · exact fields_no _ _ a s _ (by simpa using h) w
end Go.Proofs.Ytjbmhcjncldnhaa
