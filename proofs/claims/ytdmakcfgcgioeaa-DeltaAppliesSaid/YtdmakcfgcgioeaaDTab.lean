/- Delta: the changes that make one table another. -/
import Derived.Test.YtdmakcfgcgioeaaDSame
import Derived.Test.YtdmakcfgcgioeaaDApply
namespace Go.Proofs.Ytdmakcfgcgioeaa
open Go.RowKit Go.Maps
set_option linter.unusedSimpArgs false
set_option linter.unusedVariables false
/-- how far two lists agree. -/
def fromF {α : Type} [DecidableEq α] : List α → List α → Nat
  | x :: a, y :: b => if x = y then fromF a b + 1 else 0
  | _, _ => 0
theorem fromF_le {α : Type} [DecidableEq α] : ∀ a b : List α, fromF a b ≤ a.length ∧ fromF a b ≤ b.length
  | [], b => by simp [fromF]
  | x :: a, [] => by simp [fromF]
  | x :: a, y :: b => by
    have := fromF_le a b
    simp only [fromF, List.length_cons]
    split <;> omega
theorem fromF_step {α : Type} [DecidableEq α] {a b : List α} {i : Nat} (ha : i < a.length) (hb : i < b.length) (h : a[i] = b[i]) : fromF (a.drop i) (b.drop i) = fromF (a.drop (i + 1)) (b.drop (i + 1)) + 1 := by
  rw [List.drop_eq_getElem_cons ha, List.drop_eq_getElem_cons hb]
  simp [fromF, h]
theorem fromF_stop {α : Type} [DecidableEq α] {a b : List α} {i : Nat} (h : ¬ (∃ (ha : i < a.length) (hb : i < b.length), a[i] = b[i])) : fromF (a.drop i) (b.drop i) = 0 := by
  by_cases ha : i < a.length
  · by_cases hb : i < b.length
    · rw [List.drop_eq_getElem_cons ha, List.drop_eq_getElem_cons hb]
      simp only [fromF]
      rw [if_neg (fun e => h ⟨ha, hb, e⟩)]
    · rw [List.drop_of_length_le (l := b) (by omega)]
      cases a.drop i <;> rfl
  · rw [List.drop_of_length_le (l := a) (by omega)]
    rfl
def endF {α : Type} [DecidableEq α] (a b : List α) : Nat := fromF (a.drop (fromF a b)).reverse (b.drop (fromF a b)).reverse
def delF (n m : Int) (hi k : Nat) : List Ed := (List.range k).map fun (j : Nat) => ⟨n, m, (hi : Int) - 1 - (j : Int), true, zeroR⟩
def addF (n m : Int) (b : List Ru) (f k : Nat) : List Ed := (List.range k).map fun j => ⟨n, m, ((f + j : Nat) : Int), false, b.getD (f + j) zeroR⟩
/-- the changes. -/
def tableF (n m : Int) (a b : List Ru) : List Ed :=
  delF n m (a.length - endF a b) (a.length - endF a b - fromF a b) ++ addF n m b (fromF a b) (b.length - endF a b - fromF a b)
theorem endF_le {α : Type} [DecidableEq α] (a b : List α) : endF a b + fromF a b ≤ a.length ∧ endF a b + fromF a b ≤ b.length := by
  have h1 := fromF_le a b
  have h2 := fromF_le (a.drop (fromF a b)).reverse (b.drop (fromF a b)).reverse
  simp only [List.length_reverse, List.length_drop] at h2
  unfold endF
  omega
theorem rev_at {α : Type} {a : List α} {f e : Nat} (h : e < a.length - f) : (a.drop f).reverse[e]'(by simpa using h) = a[a.length - 1 - e]'(by omega) := by
  rw [List.getElem_reverse, List.getElem_drop]
  congr 1
  simp only [List.length_drop]
  omega
theorem delF_succ (n m : Int) (hi k : Nat) : delF n m hi (k + 1) = delF n m hi k ++ [⟨n, m, (hi : Int) - 1 - (k : Int), true, zeroR⟩] := by
  unfold delF; rw [List.range_succ, List.map_append]; rfl
theorem addF_succ (n m : Int) (b : List Ru) (f k : Nat) : addF n m b f (k + 1) = addF n m b f k ++ [⟨n, m, ((f + k : Nat) : Int), false, b.getD (f + k) zeroR⟩] := by
  unfold addF; rw [List.range_succ, List.map_append]; rfl
theorem delF_len (n m : Int) (hi k : Nat) : (delF n m hi k).length = k := by simp [delF]
theorem addF_len (n m : Int) (b : List Ru) (f k : Nat) : (addF n m b f k).length = k := by simp [addF]
end Go.Proofs.Ytdmakcfgcgioeaa
