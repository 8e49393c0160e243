/- Plain laws on headers as bit vectors of 128 bits: no program in sight. -/
import Derived.WalkKit
namespace Go.Proofs.Ytgebehnlfihliaa.Plain

/-- the upper and the lower half of a header -/
def hiOf (X : BitVec 128) : BitVec 64 := X.extractLsb' 64 64
def loOf (X : BitVec 128) : BitVec 64 := X.extractLsb' 0 64
theorem hiOf_bit (X : BitVec 128) (i : Nat) : (hiOf X).getLsbD i = (decide (i < 64) && X.getLsbD (64 + i)) := by simp [hiOf]
theorem loOf_bit (X : BitVec 128) (i : Nat) : (loOf X).getLsbD i = (decide (i < 64) && X.getLsbD i) := by simp [loOf]
theorem ext2 {X Y : BitVec 128} (h1 : hiOf X = hiOf Y) (h2 : loOf X = loOf Y) : X = Y := by
  apply BitVec.eq_of_getLsbD_eq
  intro i hi
  by_cases h : i < 64
  · have := congrArg (fun z => z.getLsbD i) h2
    simp only [loOf_bit, h, decide_true, Bool.true_and] at this; exact this
  · have := congrArg (fun z => z.getLsbD (i - 64)) h1
    simp only [hiOf_bit, show 64 + (i - 64) = i by omega, show i - 64 < 64 by omega, decide_true, Bool.true_and] at this; exact this
/-- a header out of its halves -/
def mk (a b : BitVec 64) : BitVec 128 := a ++ b
theorem hiOf_mk (a b : BitVec 64) : hiOf (mk a b) = a := by
  apply BitVec.eq_of_getLsbD_eq; intro i hi
  simp only [hiOf_bit, mk, BitVec.getLsbD_append, hi, decide_true, Bool.true_and]
  rw [if_neg (by omega), show 64 + i - 64 = i by omega]
theorem loOf_mk (a b : BitVec 64) : loOf (mk a b) = b := by
  apply BitVec.eq_of_getLsbD_eq; intro i hi
  simp only [loOf_bit, mk, BitVec.getLsbD_append, hi, decide_true, Bool.true_and]
  rw [if_pos trivial]
theorem mk_eta (X : BitVec 128) : mk (hiOf X) (loOf X) = X := ext2 (hiOf_mk _ _) (loOf_mk _ _)

/-! # the operations on one uint64 -/
theorem bits_and (x y : BitVec 64) : bits .and .u64 (x.toNat : Int) (y.toNat : Int) = ((x &&& y).toNat : Int) := by
  rw [u64_and_nat _ _ x.isLt y.isLt, BitVec.toNat_and]
theorem bits_or (x y : BitVec 64) : bits .or .u64 (x.toNat : Int) (y.toNat : Int) = ((x ||| y).toNat : Int) := by
  rw [u64_or_nat _ _ x.isLt y.isLt, BitVec.toNat_or]
theorem bits_xor (x y : BitVec 64) : bits .xor .u64 (x.toNat : Int) (y.toNat : Int) = ((x ^^^ y).toNat : Int) := by
  rw [u64_xor_nat _ _ x.isLt y.isLt, BitVec.toNat_xor]
theorem bits_andNot (x y : BitVec 64) : bits .andNot .u64 (x.toNat : Int) (y.toNat : Int) = ((x &&& ~~~y).toNat : Int) := by
  rw [u64_andNot_nat _ _ x.isLt y.isLt, BitVec.toNat_and, BitVec.toNat_not]
theorem wrap_shl (x : BitVec 64) (n : Nat) : IntKind.u64.wrap ((x.toNat : Int) * 2 ^ n) = ((x <<< n).toNat : Int) := by
  rw [IntKind.wrap_u64, BitVec.toNat_shiftLeft, Nat.shiftLeft_eq]
  rw [show ((x.toNat : Int) * 2 ^ n) = ((x.toNat * 2 ^ n : Nat) : Int) by rw [Int.natCast_mul, Int.natCast_pow]; rfl]
  exact (Int.natCast_emod _ _).symm
theorem fdiv_shr (x : BitVec 64) (n : Nat) : (x.toNat : Int).fdiv (2 ^ n) = ((x >>> n).toNat : Int) := by
  rw [BitVec.toNat_ushiftRight, Nat.shiftRight_eq_div_pow, show ((2 : Int) ^ n) = ((2 ^ n : Nat) : Int) by rw [Int.natCast_pow]; rfl, Int.fdiv_eq_ediv_of_nonneg _ (Int.natCast_nonneg _)]
  exact (Int.natCast_ediv _ _).symm

theorem ediv_shr (x : BitVec 64) (n : Nat) : (x.toNat : Int) / 2 ^ n = ((x >>> n).toNat : Int) := by
  rw [← fdiv_shr, Int.fdiv_eq_ediv_of_nonneg _ (Int.pow_nonneg (by decide))]

/-! # halves of shifted headers -/
theorem hi_and (X Y : BitVec 128) : hiOf (X &&& Y) = hiOf X &&& hiOf Y := by
  apply BitVec.eq_of_getLsbD_eq; intro i hi; simp only [hiOf_bit, BitVec.getLsbD_and, hi, decide_true, Bool.true_and]
theorem lo_and (X Y : BitVec 128) : loOf (X &&& Y) = loOf X &&& loOf Y := by
  apply BitVec.eq_of_getLsbD_eq; intro i hi; simp only [loOf_bit, BitVec.getLsbD_and, hi, decide_true, Bool.true_and]
theorem hi_or (X Y : BitVec 128) : hiOf (X ||| Y) = hiOf X ||| hiOf Y := by
  apply BitVec.eq_of_getLsbD_eq; intro i hi; simp only [hiOf_bit, BitVec.getLsbD_or, hi, decide_true, Bool.true_and]
theorem lo_or (X Y : BitVec 128) : loOf (X ||| Y) = loOf X ||| loOf Y := by
  apply BitVec.eq_of_getLsbD_eq; intro i hi; simp only [loOf_bit, BitVec.getLsbD_or, hi, decide_true, Bool.true_and]
theorem hi_xor (X Y : BitVec 128) : hiOf (X ^^^ Y) = hiOf X ^^^ hiOf Y := by
  apply BitVec.eq_of_getLsbD_eq; intro i hi; simp only [hiOf_bit, BitVec.getLsbD_xor, hi, decide_true, Bool.true_and]
theorem lo_xor (X Y : BitVec 128) : loOf (X ^^^ Y) = loOf X ^^^ loOf Y := by
  apply BitVec.eq_of_getLsbD_eq; intro i hi; simp only [loOf_bit, BitVec.getLsbD_xor, hi, decide_true, Bool.true_and]
theorem hi_not (X : BitVec 128) : hiOf (~~~X) = ~~~hiOf X := by
  apply BitVec.eq_of_getLsbD_eq; intro i hi; simp only [hiOf_bit, BitVec.getLsbD_not, hi, decide_true, Bool.true_and]
  rw [decide_eq_true (by omega), Bool.true_and]
theorem lo_not (X : BitVec 128) : loOf (~~~X) = ~~~loOf X := by
  apply BitVec.eq_of_getLsbD_eq; intro i hi; simp only [loOf_bit, BitVec.getLsbD_not, hi, decide_true, Bool.true_and]
  rw [decide_eq_true (by omega), Bool.true_and]
theorem hi_shl_ge (X : BitVec 128) (n : Nat) (h : 64 ≤ n) : hiOf (X <<< n) = loOf X <<< (n - 64) := by
  apply BitVec.eq_of_getLsbD_eq; intro i hi
  simp only [hiOf_bit, loOf_bit, BitVec.getLsbD_shiftLeft, hi]
  by_cases h2 : i < n - 64
  · simp [h2, show 64 + i < n by omega]
  · simp [h2, show ¬ 64 + i < n by omega, show i - (n - 64) < 64 by omega, show 64 + i < 128 by omega, show 64 + i - n = i - (n - 64) by omega]
theorem lo_shl_ge (X : BitVec 128) (n : Nat) (h : 64 ≤ n) : loOf (X <<< n) = 0 := by
  apply BitVec.eq_of_getLsbD_eq; intro i hi
  simp only [loOf_bit, BitVec.getLsbD_shiftLeft, hi, show i < n by omega]
  simp
theorem hi_shl_lt (X : BitVec 128) (n : Nat) (h : n < 64) : hiOf (X <<< n) = (hiOf X <<< n) ||| (loOf X >>> (64 - n)) := by
  apply BitVec.eq_of_getLsbD_eq; intro i hi
  simp only [hiOf_bit, loOf_bit, BitVec.getLsbD_shiftLeft, BitVec.getLsbD_or, BitVec.getLsbD_ushiftRight, hi]
  by_cases h2 : i < n
  · simp [h2, show ¬ 64 + i < n by omega, show 64 - n + i < 64 by omega, show 64 + i < 128 by omega, show 64 + i - n = 64 - n + i by omega]
  · simp [h2, show ¬ 64 + i < n by omega, show ¬ 64 - n + i < 64 by omega, show 64 + i < 128 by omega, show i - n < 64 by omega, show 64 + i - n = 64 + (i - n) by omega]
theorem lo_shl_lt (X : BitVec 128) (n : Nat) (_ : n < 64) : loOf (X <<< n) = loOf X <<< n := by
  apply BitVec.eq_of_getLsbD_eq; intro i hi
  simp only [loOf_bit, BitVec.getLsbD_shiftLeft, hi]
  by_cases h2 : i < n
  · simp [h2]
  · simp [h2, show i < 128 by omega, show i - n < 64 by omega]
theorem hi_shr_ge (X : BitVec 128) (n : Nat) (h : 64 ≤ n) : hiOf (X >>> n) = 0 := by
  apply BitVec.eq_of_getLsbD_eq; intro i hi
  simp only [hiOf_bit, BitVec.getLsbD_ushiftRight, hi]
  rw [BitVec.getLsbD_of_ge _ _ (by omega)]; simp
theorem lo_shr_ge (X : BitVec 128) (n : Nat) (h : 64 ≤ n) : loOf (X >>> n) = hiOf X >>> (n - 64) := by
  apply BitVec.eq_of_getLsbD_eq; intro i hi
  simp only [loOf_bit, hiOf_bit, BitVec.getLsbD_ushiftRight, hi, decide_true, Bool.true_and]
  by_cases h2 : n - 64 + i < 64
  · simp [h2, show 64 + (n - 64 + i) = n + i by omega]
  · rw [BitVec.getLsbD_of_ge _ _ (by omega)]; simp [h2]
theorem hi_shr_lt (X : BitVec 128) (n : Nat) (_ : n < 64) : hiOf (X >>> n) = hiOf X >>> n := by
  apply BitVec.eq_of_getLsbD_eq; intro i hi
  simp only [hiOf_bit, BitVec.getLsbD_ushiftRight, hi, decide_true, Bool.true_and]
  by_cases h2 : n + i < 64
  · simp [h2, show n + (64 + i) = 64 + (n + i) by omega]
  · rw [BitVec.getLsbD_of_ge _ _ (by omega)]; simp [h2]
theorem lo_shr_lt (X : BitVec 128) (n : Nat) (h : n < 64) : loOf (X >>> n) = (loOf X >>> n) ||| (hiOf X <<< (64 - n)) := by
  apply BitVec.eq_of_getLsbD_eq; intro i hi
  simp only [loOf_bit, hiOf_bit, BitVec.getLsbD_ushiftRight, BitVec.getLsbD_or, BitVec.getLsbD_shiftLeft, hi, decide_true, Bool.true_and]
  by_cases h2 : n + i < 64
  · simp [h2, show i < 64 - n by omega]
  · simp [h2, show ¬ i < 64 - n by omega, show i - (64 - n) < 64 by omega, show 64 + (i - (64 - n)) = n + i by omega]

/-! # the lowest bits; numbers of halves -/
def low (n : Nat) : BitVec 128 := BitVec.ofNat 128 (2 ^ n - 1)
theorem low_bit (n i : Nat) : (low n).getLsbD i = (decide (i < 128) && decide (i < n)) := by
  simp only [low, BitVec.getLsbD_ofNat, Nat.testBit_two_pow_sub_one]
theorem hi_nat (X : BitVec 128) : (hiOf X).toNat = X.toNat / 18446744073709551616 := by
  rw [hiOf, BitVec.extractLsb'_toNat, Nat.shiftRight_eq_div_pow]
  have := X.isLt
  rw [Nat.mod_eq_of_lt (by omega)]
theorem lo_nat (X : BitVec 128) : (loOf X).toNat = X.toNat % 18446744073709551616 := by
  rw [loOf, BitVec.extractLsb'_toNat, Nat.shiftRight_zero]
/-- x - 1 on 64 bits, and its borrow -/
def sub1 (x : Nat) : Int := (((x + 18446744073709551616 - 1 - 0) % 18446744073709551616 : Nat) : Int)
def bor1 (x : Nat) : Int := ((if x < 1 + 0 then 1 else 0 : Nat) : Int)
theorem one_shl (n : Nat) (h : n < 128) : (1#128 <<< n).toNat = 2 ^ n := by
  rw [BitVec.toNat_shiftLeft, Nat.shiftLeft_eq]
  have : (2 : Nat) ^ n < 2 ^ 128 := Nat.pow_lt_pow_right (by decide) h
  rw [Nat.mod_eq_of_lt (by simpa using this)]; simp
theorem low_nat (n : Nat) (h : n ≤ 128) : (low n).toNat = 2 ^ n - 1 := by
  have : (2 : Nat) ^ n ≤ 2 ^ 128 := Nat.pow_le_pow_right (by decide) h
  have : 0 < (2 : Nat) ^ n := Nat.two_pow_pos n
  rw [low, BitVec.toNat_ofNat, Nat.mod_eq_of_lt (by omega)]
theorem low_lo (n : Nat) (h : n < 128) : sub1 (loOf (1#128 <<< n)).toNat = ((loOf (low n)).toNat : Int) := by
  rw [sub1, lo_nat, lo_nat, one_shl n h, low_nat n (by omega)]
  have h0 : 0 < (2 : Nat) ^ n := Nat.two_pow_pos n
  by_cases h1 : n < 64
  · have : (2 : Nat) ^ n < 2 ^ 64 := Nat.pow_lt_pow_right (by decide) h1
    omega
  · have e : (2 : Nat) ^ n = 2 ^ (n - 64) * 18446744073709551616 := by
      rw [show (18446744073709551616 : Nat) = 2 ^ 64 by rfl, ← Nat.pow_add, show n - 64 + 64 = n by omega]
    generalize (2 : Nat) ^ (n - 64) = q at e
    omega
theorem low_hi (n : Nat) (h : n < 128) : IntKind.u64.wrap (((hiOf (1#128 <<< n)).toNat : Int) - bor1 (loOf (1#128 <<< n)).toNat) = ((hiOf (low n)).toNat : Int) := by
  rw [bor1, lo_nat, hi_nat, hi_nat, one_shl n h, low_nat n (by omega), IntKind.wrap_u64]
  have h0 : 0 < (2 : Nat) ^ n := Nat.two_pow_pos n
  by_cases h1 : n < 64
  · have : (2 : Nat) ^ n < 2 ^ 64 := Nat.pow_lt_pow_right (by decide) h1
    rw [if_neg (by omega)]; omega
  · have e : (2 : Nat) ^ n = 2 ^ (n - 64) * 18446744073709551616 := by
      rw [show (18446744073709551616 : Nat) = 2 ^ 64 by rfl, ← Nat.pow_add, show n - 64 + 64 = n by omega]
    have h3 : (2 : Nat) ^ (n - 64) < 2 ^ 64 := Nat.pow_lt_pow_right (by decide) (by omega)
    have h4 : 0 < (2 : Nat) ^ (n - 64) := Nat.two_pow_pos _
    generalize (2 : Nat) ^ (n - 64) = q at e h3 h4
    rw [if_pos (by omega)]; omega
theorem low_all (n : Nat) (h : 128 ≤ n) : hiOf (low n) = BitVec.allOnes 64 ∧ loOf (low n) = BitVec.allOnes 64 := by
  constructor <;> (apply BitVec.eq_of_getLsbD_eq; intro i hi; simp only [hiOf_bit, loOf_bit, low_bit, hi, BitVec.getLsbD_allOnes, decide_true, Bool.true_and])
  · rw [decide_eq_true (by omega), decide_eq_true (by omega)]; rfl
  · rw [decide_eq_true (by omega), decide_eq_true (by omega)]; rfl
end Go.Proofs.Ytgebehnlfihliaa.Plain
