/- Delta: plain laws of the difference. -/
import Derived.Test.YtdmakcfgcgioeaaDDif2
import Derived.Test.YtdmakcfgcgioeaaDApply
namespace Go.Proofs.Ytdmakcfgcgioeaa
set_option linter.unusedSimpArgs false
set_option linter.unusedVariables false
theorem fromF_self {α : Type} [DecidableEq α] : ∀ a : List α, fromF a a = a.length
  | [] => rfl
  | x :: a => by simp [fromF, fromF_self a]
theorem fromF_comm {α : Type} [DecidableEq α] : ∀ a b : List α, fromF a b = fromF b a
  | [], [] => rfl
  | [], y :: b => rfl
  | x :: a, [] => rfl
  | x :: a, y :: b => by
    simp only [fromF]
    by_cases h : x = y
    · rw [if_pos h, if_pos h.symm, fromF_comm a b]
    · rw [if_neg h, if_neg (fun e => h e.symm)]
theorem endF_comm {α : Type} [DecidableEq α] (a b : List α) : endF a b = endF b a := by
  unfold endF
  rw [fromF_comm a b, fromF_comm]
theorem endF_self {α : Type} [DecidableEq α] (a : List α) : endF a a = 0 := by
  have h : a.drop (fromF a a) = [] := by rw [fromF_self, List.drop_length]
  unfold endF
  rw [h]
  rfl
theorem tableF_len (n m : Int) (a b : List Ru) : (tableF n m a b).length = (a.length - endF a b - fromF a b) + (b.length - endF a b - fromF a b) := by
  unfold tableF
  rw [List.length_append, delF_len, addF_len]
theorem tableF_self (n m : Int) (a : List Ru) : tableF n m a a = [] := by
  apply List.length_eq_zero_iff.1
  rw [tableF_len, endF_self, fromF_self]
  omega
theorem inF_self (T : List (List (List Ru))) (n : Nat) : ∀ k, inF T T n k = []
  | 0 => rfl
  | k + 1 => by rw [inF_succ, inF_self T n k]; unfold rowF; rw [tableF_self]; rfl
theorem outF_self (T : List (List (List Ru))) : ∀ k, outF T T k = []
  | 0 => rfl
  | k + 1 => by rw [outF_succ, outF_self T k, inF_self]; rfl
theorem diffR_self (T : List (List (List Ru))) : diffR T T = (0, []) := by
  unfold diffR
  rw [if_pos rfl]
  unfold diffF
  rw [outF_self]
theorem inF_len_comm (T U : List (List (List Ru))) (n : Nat) : ∀ k, (inF T U n k).length = (inF U T n k).length
  | 0 => rfl
  | k + 1 => by
    rw [inF_succ, inF_succ, List.length_append, List.length_append, inF_len_comm T U n k]
    unfold rowF
    rw [tableF_len, tableF_len, endF_comm (tab T n k), fromF_comm (tab T n k)]
    omega
theorem shape_at {T U : List (List (List Ru))} (h : T.map List.length = U.map List.length) (n : Nat) : (T.getD n []).length = (U.getD n []).length := by
  have h2 := congrArg (fun l : List Nat => l.getD n 0) h
  simp only [List.getD_eq_getElem?_getD, List.getElem?_map] at h2 ⊢
  cases h3 : T[n]? <;> cases h4 : U[n]? <;> simp [h3, h4] at h2 ⊢ <;> omega
theorem outF_len_comm {T U : List (List (List Ru))} (h : T.map List.length = U.map List.length) : ∀ k, (outF T U k).length = (outF U T k).length
  | 0 => rfl
  | k + 1 => by rw [outF_succ, outF_succ, List.length_append, List.length_append, outF_len_comm h k, inF_len_comm T U k, shape_at h]
theorem diffR_comm (T U : List (List (List Ru))) : (diffR T U).1 = (diffR U T).1 ∧ (diffR T U).2.length = (diffR U T).2.length := by
  unfold diffR
  by_cases h : T.map List.length = U.map List.length
  · rw [if_pos h, if_pos h.symm]
    refine ⟨rfl, ?_⟩
    show (diffF T U).length = (diffF U T).length
    unfold diffF
    have hl := congrArg List.length h
    rw [List.length_map, List.length_map] at hl
    rw [hl]
    exact outF_len_comm h _
  · rw [if_neg h, if_neg (fun e => h e.symm)]
    exact ⟨rfl, rfl⟩
theorem applyF_nil (C : Cf) : applyF C [] = C := by
  unfold applyF
  simp [runF]
def szL (t : List (List Ru)) : Nat := (t.map List.length).sum
def szT (T : List (List (List Ru))) : Nat := (T.map szL).sum
theorem sum_take_succ {α : Type} (f : α → Nat) (d : α) (hd : f d = 0) (l : List α) (k : Nat) : ((l.take (k + 1)).map f).sum = ((l.take k).map f).sum + f (l.getD k d) := by
  rw [List.take_add_one, List.map_append, List.sum_append, List.getD_eq_getElem?_getD]
  cases h : l[k]? <;> simp [hd]
theorem sum_take_le {α : Type} (f : α → Nat) : ∀ (l : List α) (k : Nat), ((l.take k).map f).sum ≤ (l.map f).sum
  | [], k => by simp
  | x :: l, 0 => by simp
  | x :: l, k + 1 => by
    have := sum_take_le f l k
    simp only [List.take_succ_cons, List.map_cons, List.sum_cons]
    omega
theorem inF_len_le (T U : List (List (List Ru))) (n : Nat) : ∀ k, (inF T U n k).length ≤ (((T.getD n []).take k).map List.length).sum + (((U.getD n []).take k).map List.length).sum
  | 0 => Nat.zero_le _
  | k + 1 => by
    rw [inF_succ, List.length_append, sum_take_succ List.length [] rfl, sum_take_succ List.length [] rfl]
    have := inF_len_le T U n k
    have h : (rowF T U n k).length ≤ (tab T n k).length + (tab U n k).length := by unfold rowF; rw [tableF_len]; omega
    unfold tab at h
    omega
theorem outF_len_le (T U : List (List (List Ru))) : ∀ k, (outF T U k).length ≤ ((T.take k).map szL).sum + ((U.take k).map szL).sum
  | 0 => Nat.zero_le _
  | k + 1 => by
    rw [outF_succ, List.length_append, sum_take_succ szL [] rfl, sum_take_succ szL [] rfl]
    have h1 := outF_len_le T U k
    have h2 := inF_len_le T U k (T.getD k []).length
    have h3 := sum_take_le List.length (T.getD k []) (T.getD k []).length
    have h4 := sum_take_le List.length (U.getD k []) (T.getD k []).length
    unfold szL at h1 ⊢
    omega
theorem diffF_len_le (T U : List (List (List Ru))) : (diffF T U).length ≤ szT T + szT U := by
  unfold diffF szT
  have h1 := outF_len_le T U T.length
  have h2 := sum_take_le szL T T.length
  have h3 := sum_take_le szL U T.length
  omega
end Go.Proofs.Ytdmakcfgcgioeaa
