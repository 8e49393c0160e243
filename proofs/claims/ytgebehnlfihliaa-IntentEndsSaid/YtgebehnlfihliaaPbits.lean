/- Numbers out of bits, the highest first: no program in sight. -/
import Derived.Test.YtgebehnlfihliaaPop
namespace Go.Proofs.Ytgebehnlfihliaa.Plain

/-- the number that the m bits below place T are, the highest first -/
def tn (f : Nat → Bool) (T : Nat) : Nat → Nat
  | 0 => 0
  | m + 1 => tn f T m * 2 + (f (T - (m + 1))).toNat
theorem tn_succ (f : Nat → Bool) (T m : Nat) : tn f T (m + 1) = tn f T m * 2 + (f (T - (m + 1))).toNat := rfl
theorem tn_lt (f : Nat → Bool) (T : Nat) : ∀ m, tn f T m < 2 ^ m
  | 0 => by simp [tn]
  | m + 1 => by
    have h := tn_lt f T m
    have hb : (f (T - (m + 1))).toNat ≤ 1 := by cases f (T - (m + 1)) <;> simp
    rw [tn, Nat.pow_succ]; omega
theorem tn_bit (f : Nat → Bool) (T : Nat) : ∀ m, m ≤ T → ∀ i, (tn f T m).testBit i = (decide (i < m) && f (T - m + i))
  | 0, _, i => by simp [tn]
  | m + 1, hm, i => by
    rw [tn]
    cases i with
    | zero =>
      rw [Nat.testBit_zero]
      cases f (T - (m + 1)) <;> simp <;> omega
    | succ i =>
      rw [Nat.testBit_succ]
      have : (tn f T m * 2 + (f (T - (m + 1))).toNat) / 2 = tn f T m := by
        have hb : (f (T - (m + 1))).toNat ≤ 1 := by cases f (T - (m + 1)) <;> simp
        omega
      rw [this, tn_bit f T m (by omega) i]
      have e1 : decide (i + 1 < m + 1) = decide (i < m) := by rw [decide_eq_decide]; omega
      have e2 : T - (m + 1) + (i + 1) = T - m + i := by omega
      rw [e1, e2]
theorem tn_congr {f g : Nat → Bool} (T : Nat) : ∀ m, m ≤ T → (∀ j, T - m ≤ j → j < T → f j = g j) → tn f T m = tn g T m
  | 0, _, _ => rfl
  | m + 1, hm, h => by rw [tn, tn, tn_congr T m (by omega) (fun j h1 h2 => h j (by omega) h2), h (T - (m + 1)) (by omega) (by omega)]
/-- the header of 128 bits -/
def ofBits (f : Nat → Bool) : BitVec 128 := mk (BitVec.ofNat 64 (tn f 128 64)) (BitVec.ofNat 64 (tn f 64 64))
theorem hi_ofBits (f : Nat → Bool) : (hiOf (ofBits f)).toNat = tn f 128 64 := by
  rw [ofBits, hiOf_mk, BitVec.toNat_ofNat, Nat.mod_eq_of_lt (tn_lt f 128 64)]
theorem lo_ofBits (f : Nat → Bool) : (loOf (ofBits f)).toNat = tn f 64 64 := by
  rw [ofBits, loOf_mk, BitVec.toNat_ofNat, Nat.mod_eq_of_lt (tn_lt f 64 64)]
theorem ofBits_bit (f : Nat → Bool) (i : Nat) (h : i < 128) : (ofBits f).getLsbD i = f i := by
  by_cases h64 : i < 64
  · have e := loOf_bit (ofBits f) i
    rw [decide_eq_true h64, Bool.true_and] at e
    rw [← e, BitVec.getLsbD, lo_ofBits, tn_bit f 64 64 (by omega) i, decide_eq_true h64, Bool.true_and, show 64 - 64 + i = i by omega]
  · have e := hiOf_bit (ofBits f) (i - 64)
    rw [decide_eq_true (by omega), Bool.true_and, show 64 + (i - 64) = i by omega] at e
    rw [← e, BitVec.getLsbD, hi_ofBits, tn_bit f 128 64 (by omega) (i - 64), decide_eq_true (by omega), Bool.true_and, show 128 - 64 + (i - 64) = i by omega]
theorem ofBits_eq {f : Nat → Bool} {X : BitVec 128} (h : ∀ i, i < 128 → f i = X.getLsbD i) : ofBits f = X := by
  apply BitVec.eq_of_getLsbD_eq
  intro i hi
  rw [ofBits_bit f i hi, h i hi]
end Go.Proofs.Ytgebehnlfihliaa.Plain
