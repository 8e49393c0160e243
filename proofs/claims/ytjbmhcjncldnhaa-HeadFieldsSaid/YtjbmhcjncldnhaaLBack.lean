/- HeadBack: what is put into a field is got from it, and all else stays: for every header, every place and size, every value. -/
import Derived.Test.YtjbmhcjncldnhaaReg
import Derived.Test.YtjbmhcjncldnhaaOpen
namespace Go.Proofs.Ytjbmhcjncldnhaa
open Go.RowKit Go.Sort
set_option linter.unusedSimpArgs false
set_option linter.unusedVariables false

namespace Plain
/-- the field's mask -/
def fm (k n : Nat) : BitVec 128 := low n <<< k
theorem fm_bit (k n i : Nat) (h : k + n ≤ 128) : (fm k n).getLsbD i = (decide (k ≤ i) && decide (i < k + n)) := by
  rw [fm, BitVec.getLsbD_shiftLeft]
  by_cases hi : i < 128
  · by_cases hk : i < k
    · simp [hk, show ¬ k ≤ i by omega]
    · simp only [hi, hk, low_bit, decide_true, decide_false, Bool.not_false, Bool.true_and]
      rw [decide_eq_true (show i - k < 128 by omega), decide_eq_true (show k ≤ i by omega), Bool.true_and, Bool.true_and, decide_eq_decide]
      omega
  · rw [decide_eq_false hi, decide_eq_false (show ¬ i < k + n by omega)]; simp
/-- the header with the field set -/
def put (A : BitVec 128) (k n : Nat) (V : BitVec 64) : BitVec 128 := (A &&& ~~~(fm k n)) ||| (mk 0 V <<< k)
theorem put_fits_bit (V : BitVec 64) (n : Nat) (hv : V.toNat < 2 ^ n) (i : Nat) (hi : n ≤ i) : V.getLsbD i = false := by
  rw [BitVec.getLsbD]
  exact Nat.testBit_lt_two_pow (Nat.lt_of_lt_of_le hv (Nat.pow_le_pow_right (by decide) hi))
theorem mk0_bit (V : BitVec 64) (i : Nat) : (mk 0 V).getLsbD i = V.getLsbD i := by
  by_cases hi : i < 64
  · have := loOf_bit (mk 0 V) i
    rw [loOf_mk, decide_eq_true hi, Bool.true_and] at this; exact this.symm
  · rw [BitVec.getLsbD_of_ge V i (by omega)]
    by_cases h2 : i < 128
    · have := hiOf_bit (mk 0 V) (i - 64)
      rw [hiOf_mk, decide_eq_true (by omega), Bool.true_and, show 64 + (i - 64) = i by omega] at this
      rw [← this]; simp
    · rw [BitVec.getLsbD_of_ge _ _ (by omega)]
theorem put_less (A : BitVec 128) (k n : Nat) (V : BitVec 64) (hk : k + n ≤ 128) (hv : V.toNat < 2 ^ n) : put A k n V &&& ~~~(fm k n) = A &&& ~~~(fm k n) := by
  apply BitVec.eq_of_getLsbD_eq
  intro i hi
  simp only [put, BitVec.getLsbD_and, BitVec.getLsbD_or, BitVec.getLsbD_not, BitVec.getLsbD_shiftLeft, mk0_bit, hi, decide_true, Bool.true_and, fm_bit k n i hk]
  by_cases h1 : k ≤ i
  · by_cases h2 : i < k + n
    · simp [h1, h2]
    · rw [put_fits_bit V n hv (i - k) (by omega)]; simp [h1, h2]
  · simp [h1, show i < k by omega]
theorem put_get (A : BitVec 128) (k n : Nat) (V : BitVec 64) (hn : n ≤ 64) (hk : k + n ≤ 128) (hv : V.toNat < 2 ^ n) : loOf (put A k n V >>> k &&& low n) = V := by
  apply BitVec.eq_of_getLsbD_eq
  intro i hi
  simp only [put, loOf_bit, BitVec.getLsbD_and, BitVec.getLsbD_or, BitVec.getLsbD_not, BitVec.getLsbD_shiftLeft, BitVec.getLsbD_ushiftRight, mk0_bit, hi, decide_true, Bool.true_and, low_bit, fm_bit k n _ hk]
  by_cases h : i < n
  · simp [h, show k + i < 128 by omega, show i < 128 by omega]
  · rw [put_fits_bit V n hv i (by omega)]; simp [h]
theorem fm_ones (k n : Nat) (h : k + n ≤ 128) : sumTo (hbit (fm k n)) 128 = n := by
  have e : ∀ m, sumTo (hbit (fm k n)) m = min m (k + n) - min m k := by
    intro m
    induction m with
    | zero => simp [sumTo]
    | succ m ih =>
      rw [sumTo, ih, hbit, fm_bit k n m h]
      by_cases h1 : k ≤ m
      · by_cases h2 : m < k + n
        · simp [h1, h2]; omega
        · simp [h1, h2]; omega
      · simp [h1]; omega
  rw [e]; omega
theorem over_fits (V : BitVec 64) (n : Nat) (hv : V.toNat < 2 ^ n) : overB V n = false := by
  rw [overB, bne_eq_false_iff_eq]
  apply BitVec.eq_of_getLsbD_eq
  intro i hi
  simp only [BitVec.getLsbD_and, BitVec.getLsbD_not, loOf_bit, low_bit, hi, decide_true, Bool.true_and]
  by_cases h : i < n
  · simp [h]; omega
  · rw [put_fits_bit V n hv i (by omega)]; simp
end Plain

theorem fieldB_nat (k n m : Nat) (h1 : n ≤ m) (h2 : k + n ≤ 128) : fieldB (k : Int) (n : Int) (m : Int) = true := by
  simp only [fieldB, Bool.and_eq_true, decide_eq_true_eq]; omega
theorem Put_back (A : BitVec 128) (k n : Nat) (V : BitVec 64) (hn : n ≤ 64) (hk : k + n ≤ 128) (hv : V.toNat < 2 ^ n) (w : World) :
    Calls Try.prog 10 #[.agg #[.int .u64 ((Plain.hiOf (A)).toNat : Int), .int .u64 ((Plain.loOf (A)).toNat : Int)], .int .i64 (k : Int), .int .i64 (n : Int), .int .u64 (V.toNat : Int)] w fun e w' => e = .returned (.tuple #[.agg #[.int .u64 ((Plain.hiOf (Plain.put A k n V)).toNat : Int), .int .u64 ((Plain.loOf (Plain.put A k n V)).toNat : Int)], .int .i64 0]) ∧ Below w.heap.size w w' :=
  Put_yes rfl rfl (k : Int) (n : Int) rfl (fieldB_nat k n 64 hn hk) (Plain.over_fits V n hv) w
theorem Get_back (A : BitVec 128) (k n : Nat) (V : BitVec 64) (hn : n ≤ 64) (hk : k + n ≤ 128) (hv : V.toNat < 2 ^ n) (w : World) :
    Calls Try.prog 9 #[.agg #[.int .u64 ((Plain.hiOf (Plain.put A k n V)).toNat : Int), .int .u64 ((Plain.loOf (Plain.put A k n V)).toNat : Int)], .int .i64 (k : Int), .int .i64 (n : Int)] w fun e w' => e = .returned (.tuple #[.int .u64 (V.toNat : Int), .int .i64 0]) ∧ Below w.heap.size w w' := by
  have h := Get_yes (X := Plain.put A k n V) rfl rfl (k : Int) (n : Int) (fieldB_nat k n 64 hn hk) w
  rw [Int.toNat_natCast, Int.toNat_natCast, Plain.put_get A k n V hn hk hv] at h
  exact h
theorem Mask_back (k n : Nat) (hk : k + n ≤ 128) (w : World) :
    Calls Try.prog 8 #[.int .i64 (k : Int), .int .i64 (n : Int)] w fun e w' => e = .returned (.tuple #[.agg #[.int .u64 ((Plain.hiOf (Plain.fm k n)).toNat : Int), .int .u64 ((Plain.loOf (Plain.fm k n)).toNat : Int)], .int .i64 0]) ∧ Below w.heap.size w w' :=
  Mask_yes (k : Int) (n : Int) (fieldB_nat k n 128 (by omega) hk) w
theorem Less_back (A : BitVec 128) (k n : Nat) (V : BitVec 64) (hk : k + n ≤ 128) (hv : V.toNat < 2 ^ n) (w : World) :
    Calls Try.prog 17 #[.agg #[.int .u64 ((Plain.hiOf (Plain.put A k n V)).toNat : Int), .int .u64 ((Plain.loOf (Plain.put A k n V)).toNat : Int)], .agg #[.int .u64 ((Plain.hiOf (Plain.fm k n)).toNat : Int), .int .u64 ((Plain.loOf (Plain.fm k n)).toNat : Int)]] w fun e w' => e = .returned (.agg #[.int .u64 ((Plain.hiOf (A &&& ~~~(Plain.fm k n))).toNat : Int), .int .u64 ((Plain.loOf (A &&& ~~~(Plain.fm k n))).toNat : Int)]) ∧ Below w.heap.size w w' := by
  have h := Less_c (X := Plain.put A k n V) (Y := Plain.fm k n) rfl rfl rfl rfl w
  rw [Plain.put_less A k n V hk hv] at h
  exact h
theorem Ones_back (k n : Nat) (hk : k + n ≤ 128) (w : World) :
    Calls Try.prog 18 #[.agg #[.int .u64 ((Plain.hiOf (Plain.fm k n)).toNat : Int), .int .u64 ((Plain.loOf (Plain.fm k n)).toNat : Int)]] w fun e w' => e = .returned (.int .i64 (n : Int)) ∧ Below w.heap.size w w' := by
  have h := Ones_c (Plain.fm k n) w
  rw [Plain.fm_ones k n hk] at h
  exact h

set_option maxRecDepth 100000 in
set_option maxHeartbeats 1000000 in
theorem back_lt (A : BitVec 128) (p q : Nat) (hp : p ≤ 255) (hq : q ≤ 255) (V0 V : BitVec 64) (n k M : Nat) (hn : (q : Int) % 65 = (n : Int)) (hk : (p : Int) % (129 - (n : Int)) = (k : Int)) (hn64 : n < 64) (hkn : k + n ≤ 128)
    (hM : IntKind.u64.wrap (2 ^ n) = (M : Int)) (hM0 : ¬ (M : Int) = 0) (hV : (V0.toNat : Int) % (M : Int) = (V.toNat : Int)) (hfit : V.toNat < 2 ^ n) (w : World) :
    Calls Try.prog 5 #[.agg #[.int .u64 ((Plain.hiOf (A)).toNat : Int), .int .u64 ((Plain.loOf (A)).toNat : Int)], .int .u8 (p : Int), .int .u8 (q : Int), .int .u64 (V0.toNat : Int)] w fun e w' => e = .returned (.bool true) ∧ Below w.heap.size w w' := by
  have HV := Lib.hid hfit
  have hI : (n : Int) < 64 := by omega
  have hI2 : 0 ≤ (n : Int) := by omega
  clear hfit
  go_enter Try.func5, Try.ntmps5
  go_wp2_with fail
  refine (Put_back A k n V (by omega) hkn HV.out _).mono ?_
  rintro e w1 ⟨rfl, hb⟩
  obtain ⟨c1, f1, g1, e1⟩ := blk (k := w.heap.size) (c := (#[.int .u64 ((Plain.hiOf (A)).toNat : Int), .int .u64 ((Plain.loOf (A)).toNat : Int)])) (t := 24) hb (by repeat (first | exact al_at (by simp) | exact e1.out | exact e2.out | exact e3.out | exact e4.out | exact e5.out | exact e6.out | exact e7.out | exact e8.out | exact e9.out | exact e10.out | exact e11.out | exact e12.out | exact e13.out | exact e14.out | exact e15.out | exact e16.out | exact e17.out | exact e18.out | exact e19.out | rw [al_lt (by first | omega | (simp <;> omega))] | rw [sc_ne (by first | omega | (simp <;> omega))]))
  have hz1 := hb.size; (try simp only [World.size_alloc, World.size_setCell, World.size_drew] at hz1); have hb1 := Lib.hid hb; clear hb
  go_wp2_with fail
  refine (Get_back A k n V (by omega) hkn HV.out _).mono ?_
  rintro e w2 ⟨rfl, hb⟩
  obtain ⟨c2, f2, g2, e2⟩ := blk (k := w.heap.size) (c := (#[.int .u64 ((Plain.hiOf (A)).toNat : Int), .int .u64 ((Plain.loOf (A)).toNat : Int)])) (t := 24) hb (by repeat (first | exact al_at (by simp) | exact e1.out | exact e2.out | exact e3.out | exact e4.out | exact e5.out | exact e6.out | exact e7.out | exact e8.out | exact e9.out | exact e10.out | exact e11.out | exact e12.out | exact e13.out | exact e14.out | exact e15.out | exact e16.out | exact e17.out | exact e18.out | exact e19.out | rw [al_lt (by first | omega | (simp <;> omega))] | rw [sc_ne (by first | omega | (simp <;> omega))]))
  obtain ⟨c3, f3, g3, e3⟩ := blk (k := w1.heap.size) (c := (#[.int .u64 ((Plain.hiOf (Plain.put A k n V)).toNat : Int), .int .u64 ((Plain.loOf (Plain.put A k n V)).toNat : Int)])) (t := 24) hb (by repeat (first | exact al_at (by simp) | exact e1.out | exact e2.out | exact e3.out | exact e4.out | exact e5.out | exact e6.out | exact e7.out | exact e8.out | exact e9.out | exact e10.out | exact e11.out | exact e12.out | exact e13.out | exact e14.out | exact e15.out | exact e16.out | exact e17.out | exact e18.out | exact e19.out | rw [al_lt (by first | omega | (simp <;> omega))] | rw [sc_ne (by first | omega | (simp <;> omega))]))
  have hz2 := hb.size; (try simp only [World.size_alloc, World.size_setCell, World.size_drew] at hz2); have hb2 := Lib.hid hb; clear hb
  go_wp2_with fail
  refine (Mask_back k n hkn _).mono ?_
  rintro e w3 ⟨rfl, hb⟩
  obtain ⟨c4, f4, g4, e4⟩ := blk (k := w.heap.size) (c := (#[.int .u64 ((Plain.hiOf (A)).toNat : Int), .int .u64 ((Plain.loOf (A)).toNat : Int)])) (t := 24) hb (by repeat (first | exact al_at (by simp) | exact e1.out | exact e2.out | exact e3.out | exact e4.out | exact e5.out | exact e6.out | exact e7.out | exact e8.out | exact e9.out | exact e10.out | exact e11.out | exact e12.out | exact e13.out | exact e14.out | exact e15.out | exact e16.out | exact e17.out | exact e18.out | exact e19.out | rw [al_lt (by first | omega | (simp <;> omega))] | rw [sc_ne (by first | omega | (simp <;> omega))]))
  obtain ⟨c5, f5, g5, e5⟩ := blk (k := w1.heap.size) (c := (#[.int .u64 ((Plain.hiOf (Plain.put A k n V)).toNat : Int), .int .u64 ((Plain.loOf (Plain.put A k n V)).toNat : Int)])) (t := 24) hb (by repeat (first | exact al_at (by simp) | exact e1.out | exact e2.out | exact e3.out | exact e4.out | exact e5.out | exact e6.out | exact e7.out | exact e8.out | exact e9.out | exact e10.out | exact e11.out | exact e12.out | exact e13.out | exact e14.out | exact e15.out | exact e16.out | exact e17.out | exact e18.out | exact e19.out | rw [al_lt (by first | omega | (simp <;> omega))] | rw [sc_ne (by first | omega | (simp <;> omega))]))
  have hz3 := hb.size; (try simp only [World.size_alloc, World.size_setCell, World.size_drew] at hz3); have hb3 := Lib.hid hb; clear hb
  go_wp2_with fail
  refine wp_world (fun W => RowKit.Below w.heap.size w W ∧ w.heap.size ≤ W.heap.size ∧ W.heap[w.heap.size]? = some (.cells (#[.int .u64 ((Plain.hiOf (A)).toNat : Int), .int .u64 ((Plain.loOf (A)).toNat : Int)]) 24) ∧ W.heap[w1.heap.size]? = some (.cells (#[.int .u64 ((Plain.hiOf (Plain.put A k n V)).toNat : Int), .int .u64 ((Plain.loOf (Plain.put A k n V)).toNat : Int)]) 24) ∧ W.heap[w3.heap.size]? = some (.cells (#[.int .u64 ((Plain.hiOf (Plain.fm k n)).toNat : Int), .int .u64 ((Plain.loOf (Plain.fm k n)).toNat : Int)]) 24)) ?_ ?_
  · exact ⟨by (repeat (first | exact Below.refl _ _ | refine Below.drew ?_ | refine below_drewN ?_ _ | (refine Below.alloc ?_ ?_ _; rotate_left; focus (first | omega | (simp <;> omega))) | (refine Below.setCell ?_ ?_ _; rotate_left; focus (first | omega | (simp <;> omega))) | (refine below_via hb9.out ?_ ?_; focus (first | omega | (simp <;> omega))) | (refine below_via hb8.out ?_ ?_; focus (first | omega | (simp <;> omega))) | (refine below_via hb7.out ?_ ?_; focus (first | omega | (simp <;> omega))) | (refine below_via hb6.out ?_ ?_; focus (first | omega | (simp <;> omega))) | (refine below_via hb5.out ?_ ?_; focus (first | omega | (simp <;> omega))) | (refine below_via hb4.out ?_ ?_; focus (first | omega | (simp <;> omega))) | (refine below_via hb3.out ?_ ?_; focus (first | omega | (simp <;> omega))) | (refine below_via hb2.out ?_ ?_; focus (first | omega | (simp <;> omega))) | (refine below_via hb1.out ?_ ?_; focus (first | omega | (simp <;> omega))))), by simp; omega, (by repeat (first | exact al_at (by simp) | exact e1.out | exact e2.out | exact e3.out | exact e4.out | exact e5.out | exact e6.out | exact e7.out | exact e8.out | exact e9.out | exact e10.out | exact e11.out | exact e12.out | exact e13.out | exact e14.out | exact e15.out | exact e16.out | exact e17.out | exact e18.out | exact e19.out | rw [al_lt (by first | omega | (simp <;> omega))] | rw [sc_ne (by first | omega | (simp <;> omega))])), (by repeat (first | exact al_at (by simp) | exact e1.out | exact e2.out | exact e3.out | exact e4.out | exact e5.out | exact e6.out | exact e7.out | exact e8.out | exact e9.out | exact e10.out | exact e11.out | exact e12.out | exact e13.out | exact e14.out | exact e15.out | exact e16.out | exact e17.out | exact e18.out | exact e19.out | rw [al_lt (by first | omega | (simp <;> omega))] | rw [sc_ne (by first | omega | (simp <;> omega))])), (by repeat (first | exact al_at (by simp) | exact e1.out | exact e2.out | exact e3.out | exact e4.out | exact e5.out | exact e6.out | exact e7.out | exact e8.out | exact e9.out | exact e10.out | exact e11.out | exact e12.out | exact e13.out | exact e14.out | exact e15.out | exact e16.out | exact e17.out | exact e18.out | exact e19.out | rw [al_lt (by first | omega | (simp <;> omega))] | rw [sc_ne (by first | omega | (simp <;> omega))]))⟩
  rintro W ⟨hbW, hsW, m1, m2, m3⟩
  have r1 := reg_cell m1
  have r2 := reg_cell m2
  have r3 := reg_cell m3
  clear m1 m2 m3 c1 c2 c3 c4 c5 f1 f2 f3 f4 f5 g1 g2 g3 g4 g5 e1 e2 e3 e4 e5 hb1 hb2 hb3 hz1 hz2 hz3
  have HB := Lib.hid hbW
  clear hbW
  refine wp_region_quiet_below (by kernel_rfl) (by kernel_rfl) ?_; (repeat (go_big_quiet_step ((first | (go_at_call 12; exact Calls.regrown_of (awake_c _)) | (go_at_call_of 17 (Plain.put A k n V); exact Calls.regrown_of (Less_back A k n V hkn HV.out _)) | (go_at_call 17; exact Calls.regrown_of (Less_c (X := A) (Y := Plain.fm k n) rfl rfl rfl rfl _)) | (go_at_call 18; exact Calls.regrown_of (Ones_back k n hkn _)))))); refine wpQuiet_nil ?_; intro _ hw'; obtain ⟨⟨dq, osq⟩, hw''⟩ := hw'; subst hw''
  go_wp2
  go_ret
  exact ⟨rfl, below_reg HB.out hsW dq osq⟩
set_option maxRecDepth 100000 in
set_option maxHeartbeats 1000000 in
theorem back_64 (A : BitVec 128) (p q : Nat) (hp : p ≤ 255) (hq : q ≤ 255) (V : BitVec 64) (n k : Nat) (hn : (q : Int) % 65 = (n : Int)) (hk : (p : Int) % (129 - (n : Int)) = (k : Int)) (hn64 : n = 64) (hkn : k + n ≤ 128)
    (hfit : V.toNat < 2 ^ n) (w : World) :
    Calls Try.prog 5 #[.agg #[.int .u64 ((Plain.hiOf (A)).toNat : Int), .int .u64 ((Plain.loOf (A)).toNat : Int)], .int .u8 (p : Int), .int .u8 (q : Int), .int .u64 (V.toNat : Int)] w fun e w' => e = .returned (.bool true) ∧ Below w.heap.size w w' := by
  have HV := Lib.hid hfit
  have hI : ¬ (n : Int) < 64 := by omega
  have hI3 : (n : Int) ≤ 64 := by omega
  have hn65 : n ≤ 64 := by omega
  clear hn64
  have hI2 : 0 ≤ (n : Int) := by omega
  clear hfit
  go_enter Try.func5, Try.ntmps5
  go_wp2_with fail
  refine (Put_back A k n V (by omega) hkn HV.out _).mono ?_
  rintro e w1 ⟨rfl, hb⟩
  obtain ⟨c1, f1, g1, e1⟩ := blk (k := w.heap.size) (c := (#[.int .u64 ((Plain.hiOf (A)).toNat : Int), .int .u64 ((Plain.loOf (A)).toNat : Int)])) (t := 24) hb (by repeat (first | exact al_at (by simp) | exact e1.out | exact e2.out | exact e3.out | exact e4.out | exact e5.out | exact e6.out | exact e7.out | exact e8.out | exact e9.out | exact e10.out | exact e11.out | exact e12.out | exact e13.out | exact e14.out | exact e15.out | exact e16.out | exact e17.out | exact e18.out | exact e19.out | rw [al_lt (by first | omega | (simp <;> omega))] | rw [sc_ne (by first | omega | (simp <;> omega))]))
  have hz1 := hb.size; (try simp only [World.size_alloc, World.size_setCell, World.size_drew] at hz1); have hb1 := Lib.hid hb; clear hb
  go_wp2_with fail
  refine (Get_back A k n V (by omega) hkn HV.out _).mono ?_
  rintro e w2 ⟨rfl, hb⟩
  obtain ⟨c2, f2, g2, e2⟩ := blk (k := w.heap.size) (c := (#[.int .u64 ((Plain.hiOf (A)).toNat : Int), .int .u64 ((Plain.loOf (A)).toNat : Int)])) (t := 24) hb (by repeat (first | exact al_at (by simp) | exact e1.out | exact e2.out | exact e3.out | exact e4.out | exact e5.out | exact e6.out | exact e7.out | exact e8.out | exact e9.out | exact e10.out | exact e11.out | exact e12.out | exact e13.out | exact e14.out | exact e15.out | exact e16.out | exact e17.out | exact e18.out | exact e19.out | rw [al_lt (by first | omega | (simp <;> omega))] | rw [sc_ne (by first | omega | (simp <;> omega))]))
  obtain ⟨c3, f3, g3, e3⟩ := blk (k := w1.heap.size) (c := (#[.int .u64 ((Plain.hiOf (Plain.put A k n V)).toNat : Int), .int .u64 ((Plain.loOf (Plain.put A k n V)).toNat : Int)])) (t := 24) hb (by repeat (first | exact al_at (by simp) | exact e1.out | exact e2.out | exact e3.out | exact e4.out | exact e5.out | exact e6.out | exact e7.out | exact e8.out | exact e9.out | exact e10.out | exact e11.out | exact e12.out | exact e13.out | exact e14.out | exact e15.out | exact e16.out | exact e17.out | exact e18.out | exact e19.out | rw [al_lt (by first | omega | (simp <;> omega))] | rw [sc_ne (by first | omega | (simp <;> omega))]))
  have hz2 := hb.size; (try simp only [World.size_alloc, World.size_setCell, World.size_drew] at hz2); have hb2 := Lib.hid hb; clear hb
  go_wp2_with fail
  refine (Mask_back k n hkn _).mono ?_
  rintro e w3 ⟨rfl, hb⟩
  obtain ⟨c4, f4, g4, e4⟩ := blk (k := w.heap.size) (c := (#[.int .u64 ((Plain.hiOf (A)).toNat : Int), .int .u64 ((Plain.loOf (A)).toNat : Int)])) (t := 24) hb (by repeat (first | exact al_at (by simp) | exact e1.out | exact e2.out | exact e3.out | exact e4.out | exact e5.out | exact e6.out | exact e7.out | exact e8.out | exact e9.out | exact e10.out | exact e11.out | exact e12.out | exact e13.out | exact e14.out | exact e15.out | exact e16.out | exact e17.out | exact e18.out | exact e19.out | rw [al_lt (by first | omega | (simp <;> omega))] | rw [sc_ne (by first | omega | (simp <;> omega))]))
  obtain ⟨c5, f5, g5, e5⟩ := blk (k := w1.heap.size) (c := (#[.int .u64 ((Plain.hiOf (Plain.put A k n V)).toNat : Int), .int .u64 ((Plain.loOf (Plain.put A k n V)).toNat : Int)])) (t := 24) hb (by repeat (first | exact al_at (by simp) | exact e1.out | exact e2.out | exact e3.out | exact e4.out | exact e5.out | exact e6.out | exact e7.out | exact e8.out | exact e9.out | exact e10.out | exact e11.out | exact e12.out | exact e13.out | exact e14.out | exact e15.out | exact e16.out | exact e17.out | exact e18.out | exact e19.out | rw [al_lt (by first | omega | (simp <;> omega))] | rw [sc_ne (by first | omega | (simp <;> omega))]))
  have hz3 := hb.size; (try simp only [World.size_alloc, World.size_setCell, World.size_drew] at hz3); have hb3 := Lib.hid hb; clear hb
  go_wp2_with fail
  refine wp_world (fun W => RowKit.Below w.heap.size w W ∧ w.heap.size ≤ W.heap.size ∧ W.heap[w.heap.size]? = some (.cells (#[.int .u64 ((Plain.hiOf (A)).toNat : Int), .int .u64 ((Plain.loOf (A)).toNat : Int)]) 24) ∧ W.heap[w1.heap.size]? = some (.cells (#[.int .u64 ((Plain.hiOf (Plain.put A k n V)).toNat : Int), .int .u64 ((Plain.loOf (Plain.put A k n V)).toNat : Int)]) 24) ∧ W.heap[w3.heap.size]? = some (.cells (#[.int .u64 ((Plain.hiOf (Plain.fm k n)).toNat : Int), .int .u64 ((Plain.loOf (Plain.fm k n)).toNat : Int)]) 24)) ?_ ?_
  · exact ⟨by (repeat (first | exact Below.refl _ _ | refine Below.drew ?_ | refine below_drewN ?_ _ | (refine Below.alloc ?_ ?_ _; rotate_left; focus (first | omega | (simp <;> omega))) | (refine Below.setCell ?_ ?_ _; rotate_left; focus (first | omega | (simp <;> omega))) | (refine below_via hb9.out ?_ ?_; focus (first | omega | (simp <;> omega))) | (refine below_via hb8.out ?_ ?_; focus (first | omega | (simp <;> omega))) | (refine below_via hb7.out ?_ ?_; focus (first | omega | (simp <;> omega))) | (refine below_via hb6.out ?_ ?_; focus (first | omega | (simp <;> omega))) | (refine below_via hb5.out ?_ ?_; focus (first | omega | (simp <;> omega))) | (refine below_via hb4.out ?_ ?_; focus (first | omega | (simp <;> omega))) | (refine below_via hb3.out ?_ ?_; focus (first | omega | (simp <;> omega))) | (refine below_via hb2.out ?_ ?_; focus (first | omega | (simp <;> omega))) | (refine below_via hb1.out ?_ ?_; focus (first | omega | (simp <;> omega))))), by simp; omega, (by repeat (first | exact al_at (by simp) | exact e1.out | exact e2.out | exact e3.out | exact e4.out | exact e5.out | exact e6.out | exact e7.out | exact e8.out | exact e9.out | exact e10.out | exact e11.out | exact e12.out | exact e13.out | exact e14.out | exact e15.out | exact e16.out | exact e17.out | exact e18.out | exact e19.out | rw [al_lt (by first | omega | (simp <;> omega))] | rw [sc_ne (by first | omega | (simp <;> omega))])), (by repeat (first | exact al_at (by simp) | exact e1.out | exact e2.out | exact e3.out | exact e4.out | exact e5.out | exact e6.out | exact e7.out | exact e8.out | exact e9.out | exact e10.out | exact e11.out | exact e12.out | exact e13.out | exact e14.out | exact e15.out | exact e16.out | exact e17.out | exact e18.out | exact e19.out | rw [al_lt (by first | omega | (simp <;> omega))] | rw [sc_ne (by first | omega | (simp <;> omega))])), (by repeat (first | exact al_at (by simp) | exact e1.out | exact e2.out | exact e3.out | exact e4.out | exact e5.out | exact e6.out | exact e7.out | exact e8.out | exact e9.out | exact e10.out | exact e11.out | exact e12.out | exact e13.out | exact e14.out | exact e15.out | exact e16.out | exact e17.out | exact e18.out | exact e19.out | rw [al_lt (by first | omega | (simp <;> omega))] | rw [sc_ne (by first | omega | (simp <;> omega))]))⟩
  rintro W ⟨hbW, hsW, m1, m2, m3⟩
  have r1 := reg_cell m1
  have r2 := reg_cell m2
  have r3 := reg_cell m3
  clear m1 m2 m3 c1 c2 c3 c4 c5 f1 f2 f3 f4 f5 g1 g2 g3 g4 g5 e1 e2 e3 e4 e5 hb1 hb2 hb3 hz1 hz2 hz3
  have HB := Lib.hid hbW
  clear hbW
  refine wp_region_quiet_below (by kernel_rfl) (by kernel_rfl) ?_; (repeat (go_big_quiet_step ((first | (go_at_call 12; exact Calls.regrown_of (awake_c _)) | (go_at_call_of 17 (Plain.put A k n V); exact Calls.regrown_of (Less_back A k n V hkn HV.out _)) | (go_at_call 17; exact Calls.regrown_of (Less_c (X := A) (Y := Plain.fm k n) rfl rfl rfl rfl _)) | (go_at_call 18; exact Calls.regrown_of (Ones_back k n hkn _)))))); refine wpQuiet_nil ?_; intro _ hw'; obtain ⟨⟨dq, osq⟩, hw''⟩ := hw'; subst hw''
  go_wp2
  go_ret
  exact ⟨rfl, below_reg HB.out hsW dq osq⟩

theorem back_walk (A : BitVec 128) (p q : Nat) (hp : p ≤ 255) (hq : q ≤ 255) (V0 : BitVec 64) (w : World) :
    Calls Try.prog 5 #[.agg #[.int .u64 ((Plain.hiOf (A)).toNat : Int), .int .u64 ((Plain.loOf (A)).toNat : Int)], .int .u8 (p : Int), .int .u8 (q : Int), .int .u64 (V0.toNat : Int)] w fun e w' => e = .returned (.bool true) ∧ Below w.heap.size w w' := by
  have hk0 : p % (129 - q % 65) < 129 - q % 65 := Nat.mod_lt _ (by omega)
  have hkI : ∀ p n : Nat, n ≤ 129 → (p : Int) % (129 - (n : Int)) = ((p % (129 - n) : Nat) : Int) := fun p n h => by rw [show (129 - (n : Int)) = ((129 - n : Nat) : Int) by omega]; exact (Int.natCast_emod _ _).symm
  by_cases h64 : q % 65 < 64
  · have h0 : 0 < 2 ^ (q % 65) := Nat.two_pow_pos _
    have h1 : 2 ^ (q % 65) < 2 ^ 64 := Nat.pow_lt_pow_right (by decide) h64
    have hm : V0.toNat % 2 ^ (q % 65) < 2 ^ (q % 65) := Nat.mod_lt _ h0
    have hv : (BitVec.ofNat 64 (V0.toNat % 2 ^ (q % 65))).toNat = V0.toNat % 2 ^ (q % 65) := by rw [BitVec.toNat_ofNat, Nat.mod_eq_of_lt (by omega)]
    refine back_lt A p q hp hq V0 (BitVec.ofNat 64 (V0.toNat % 2 ^ (q % 65))) (q % 65) (p % (129 - q % 65)) (2 ^ (q % 65)) (by omega) (hkI _ _ (by omega)) h64 (by omega) ?_ (by omega) ?_ (by rw [hv]; exact hm) w
    · rw [show ((2 : Int) ^ (q % 65)) = ((2 ^ (q % 65) : Nat) : Int) by rw [Int.natCast_pow]; rfl]
      exact IntWalk.u64_in _ ⟨by omega, by omega⟩
    · rw [hv]; exact (Int.natCast_emod _ _).symm
  · exact back_64 A p q hp hq V0 (q % 65) (p % (129 - q % 65)) (by omega) (hkI _ _ (by omega)) (by omega) (by omega) (by rw [show q % 65 = 64 by omega]; exact V0.isLt) w

theorem back_lifted (A : BitVec 128) (p q v : Int) (hp : (Lit.int .u8 p).wf = true) (hq : (Lit.int .u8 q).wf = true) (hv : (Lit.int .u64 v).wf = true) (w : World) :
    Calls Try.prog 5 #[.agg #[.int .u64 ((Plain.hiOf (A)).toNat : Int), .int .u64 ((Plain.loOf (A)).toNat : Int)], .int .u8 p, .int .u8 q, .int .u64 v] w fun e w' => e = .returned (.bool true) ∧ RowKit.Below w.heap.size w w' := by
  obtain ⟨x, rfl⟩ := u64_bv hv
  have h1 := bounds_u8 hp
  have h2 := bounds_u8 hq
  have h := back_walk A p.toNat q.toNat (by omega) (by omega) x w
  rw [show ((p.toNat : Nat) : Int) = p by omega, show ((q.toNat : Nat) : Int) = q by omega] at h
  exact h
end Go.Proofs.Ytjbmhcjncldnhaa
