/- Comparing by the highest bit that differs: no program in sight. -/
import Derived.Test.YtjbmhcjncldnhaaRef2
namespace Go.Proofs.Ytjbmhcjncldnhaa

/-- the comparison of the lowest k bits -/
def cmpTo (X Y : BitVec 128) (k : Nat) : Int := cmpN (X.toNat % 2 ^ k) (Y.toNat % 2 ^ k)
theorem cmpTo_zero (X Y : BitVec 128) : cmpTo X Y 0 = 0 := by simp [cmpTo, cmpN, Nat.mod_one]
theorem cmpTo_all (X Y : BitVec 128) (k : Nat) (h : k = 128) : cmpTo X Y k = cmpN X.toNat Y.toNat := by
  subst h
  rw [cmpTo, Nat.mod_eq_of_lt X.isLt, Nat.mod_eq_of_lt Y.isLt]
theorem cmpN_swap (x y : Nat) : cmpN y x = - cmpN x y := by
  unfold cmpN
  by_cases h1 : x < y
  · rw [if_pos h1, if_neg (by omega), if_pos h1]; rfl
  · by_cases h2 : y < x
    · rw [if_pos h2, if_neg h1, if_pos h2]
    · rw [if_neg h1, if_neg h2, if_neg h2, if_neg h1]; rfl
theorem mod_bit (x k : Nat) : x % 2 ^ (k + 1) = x % 2 ^ k + 2 ^ k * (x.testBit k).toNat := by
  rw [Nat.mod_pow_succ, ← Plain.nb_bit]; rfl
theorem cmpTo_succ (X Y : BitVec 128) (k : Nat) : cmpTo X Y (k + 1) = if X.getLsbD k = true ∧ Y.getLsbD k = false then 1 else if X.getLsbD k = false ∧ Y.getLsbD k = true then -1 else cmpTo X Y k := by
  have hx := mod_bit X.toNat k
  have hy := mod_bit Y.toNat k
  have lx : X.toNat % 2 ^ k < 2 ^ k := Nat.mod_lt _ (Nat.two_pow_pos k)
  have ly : Y.toNat % 2 ^ k < 2 ^ k := Nat.mod_lt _ (Nat.two_pow_pos k)
  unfold cmpTo
  rw [hx, hy, ← BitVec.getLsbD, ← BitVec.getLsbD]
  generalize X.toNat % 2 ^ k = x at *
  generalize Y.toNat % 2 ^ k = y at *
  generalize 2 ^ k = t at *
  cases X.getLsbD k <;> cases Y.getLsbD k <;> simp [cmpN] <;> (repeat' split) <;> first | omega | rfl
end Go.Proofs.Ytjbmhcjncldnhaa
