/- Delta: plain: the difference makes one the other. -/
import Derived.Test.YtdmakcfgcgioeaaDPl2
namespace Go.Proofs.Ytdmakcfgcgioeaa
set_option linter.unusedSimpArgs false
set_option linter.unusedVariables false
theorem fromF_take {α : Type} [DecidableEq α] : ∀ a b : List α, a.take (fromF a b) = b.take (fromF a b)
  | [], [] => rfl
  | [], y :: b => by simp [fromF]
  | x :: a, [] => by simp [fromF]
  | x :: a, y :: b => by
    simp only [fromF]
    by_cases h : x = y
    · rw [if_pos h, List.take_succ_cons, List.take_succ_cons, fromF_take a b, h]
    · rw [if_neg h]; rfl
theorem drop_suffix {α : Type} {a : List α} {f e : Nat} (h : e + f ≤ a.length) : (a.drop f).reverse.take e = (a.drop (a.length - e)).reverse := by
  rw [List.take_reverse, List.drop_drop, List.length_drop]
  congr 2
  omega
theorem endF_drop {α : Type} [DecidableEq α] (a b : List α) : a.drop (a.length - endF a b) = b.drop (b.length - endF a b) := by
  have h := endF_le a b
  have h1 := fromF_take (a.drop (fromF a b)).reverse (b.drop (fromF a b)).reverse
  change (a.drop (fromF a b)).reverse.take (endF a b) = (b.drop (fromF a b)).reverse.take (endF a b) at h1
  rw [drop_suffix h.1, drop_suffix h.2] at h1
  exact List.reverse_inj.1 h1
theorem del_run {T : List (List (List Ru))} {n m : Nat} (h : In T n m) {hi : Nat} (hhi : hi ≤ (tab T n m).length) : ∀ k, k ≤ hi → runF T (delF n m hi k) = (0, putT T n m ((tab T n m).take (hi - k) ++ (tab T n m).drop hi))
  | 0, _ => by
    have : delF n m hi 0 = [] := rfl
    rw [this, Nat.sub_zero, List.take_append_drop, putT_tab h]
    rfl
  | k + 1, hk => by
    rw [delF_succ, runF_append _ (del_run h hhi k (by omega))]
    have hcast : (hi : Int) - 1 - (k : Int) = ((hi - (k + 1) : Nat) : Int) := by omega
    have hl : ((tab T n m).take (hi - k)).length = hi - k := by rw [List.length_take]; omega
    rw [hcast]
    simp only [runF]
    rw [oneF_del ((h.put _ n m).2 h) (by rw [tab_put h, List.length_append, hl]; omega), tab_put h, putT_put h]
    have he : ((tab T n m).take (hi - k) ++ (tab T n m).drop hi).eraseIdx (hi - (k + 1)) = (tab T n m).take (hi - (k + 1)) ++ (tab T n m).drop hi := by
      rw [List.eraseIdx_append_of_lt_length (by rw [hl]; omega), List.eraseIdx_eq_take_drop_succ, List.take_take, List.drop_of_length_le (by rw [hl]; omega), Nat.min_eq_left (by omega), List.append_nil]
    rw [he]
    rfl
theorem add_run {T : List (List (List Ru))} {n m : Nat} (h : In T n m) {b p s : List Ru} {f : Nat} (hp : p.length = f) (ht : tab T n m = p ++ s) : ∀ k, f + k ≤ b.length → runF T (addF n m b f k) = (0, putT T n m (p ++ (b.drop f).take k ++ s))
  | 0, _ => by
    have : addF n m b f 0 = [] := rfl
    rw [this, List.take_zero, List.append_nil, ← ht, putT_tab h]
    rfl
  | k + 1, hk => by
    rw [addF_succ, runF_append _ (add_run h hp ht k (by omega))]
    have hl : (p ++ (b.drop f).take k).length = f + k := by rw [List.length_append, List.length_take, List.length_drop, hp]; omega
    simp only [runF]
    rw [oneF_ins _ ((h.put _ n m).2 h) (by rw [tab_put h, List.length_append, hl]; omega), tab_put h, putT_put h]
    have hfk : f + k < b.length := by omega
    have he : (p ++ (b.drop f).take k ++ s).take (f + k) ++ b.getD (f + k) zeroR :: (p ++ (b.drop f).take k ++ s).drop (f + k) = p ++ (b.drop f).take (k + 1) ++ s := by
      rw [List.take_left' hl, List.drop_left' hl, List.take_add_one, List.getElem?_drop, List.getD_eq_getElem?_getD, List.getElem?_eq_getElem hfk]
      simp
    rw [he]
    rfl
theorem table_run {T : List (List (List Ru))} {n m : Nat} (h : In T n m) (b : List Ru) : runF T (tableF n m (tab T n m) b) = (0, putT T n m b) := by
  have hle := endF_le (tab T n m) b
  have hft := fromF_take (tab T n m) b
  have hed := endF_drop (tab T n m) b
  unfold tableF
  generalize he : endF (tab T n m) b = e at *
  generalize hf : fromF (tab T n m) b = f at *
  have hd := del_run h (hi := (tab T n m).length - e) (by omega) ((tab T n m).length - e - f) (by omega)
  rw [show (tab T n m).length - e - ((tab T n m).length - e - f) = f by omega] at hd
  rw [runF_append _ hd]
  have hpl : ((tab T n m).take f).length = f := by rw [List.length_take]; omega
  rw [add_run ((h.put _ n m).2 h) (p := (tab T n m).take f) (s := (tab T n m).drop ((tab T n m).length - e)) (b := b) hpl (tab_put h _) (b.length - e - f) (by omega), putT_put h, hft, hed]
  have hb : b.take f ++ (b.drop f).take (b.length - e - f) ++ b.drop (b.length - e) = b := by
    have h1 : b.drop (b.length - e) = (b.drop f).drop (b.length - e - f) := by rw [List.drop_drop]; congr 1; omega
    rw [h1, List.append_assoc, List.take_append_drop, List.take_append_drop]
  rw [hb]
structure St (A B T : List (List (List Ru))) (n k : Nat) : Prop where
  len : T.length = A.length
  row : ∀ i, (T.getD i []).length = (A.getD i []).length
  at_ : ∀ i j, tab T i j = if i < n ∨ (i = n ∧ j < k) then tab B i j else tab A i j
theorem in_run {A B T : List (List (List Ru))} {n : Nat} (h : St A B T n 0) (hn : n < A.length) : ∀ k, k ≤ (A.getD n []).length → ∃ T', runF T (inF A B n k) = (0, T') ∧ St A B T' n k
  | 0, _ => ⟨T, rfl, h⟩
  | k + 1, hk => by
    obtain ⟨T1, h1, h2⟩ := in_run h hn k (by omega)
    have hin : In T1 n k := ⟨by rw [h2.len]; exact hn, by rw [h2.row]; omega⟩
    have ht : tab T1 n k = tab A n k := by rw [h2.at_, if_neg (by omega)]
    refine ⟨putT T1 n k (tab B n k), ?_, ?_, ?_, ?_⟩
    · rw [inF_succ, runF_append _ h1]
      unfold rowF
      rw [← ht]
      exact table_run hin _
    · rw [putT_len]; exact h2.len
    · intro i; rw [putT_row hin]; exact h2.row i
    · intro i j
      by_cases e : i = n ∧ j = k
      · obtain ⟨rfl, rfl⟩ := e
        rw [tab_put hin, if_pos (by omega)]
      · rw [tab_put_ne hin _ e, h2.at_]
        by_cases e2 : i < n ∨ (i = n ∧ j < k)
        · rw [if_pos e2, if_pos (by omega)]
        · rw [if_neg e2, if_neg (by omega)]
theorem tab_out {T : List (List (List Ru))} {n m : Nat} (h : (T.getD n []).length ≤ m) : tab T n m = [] := by
  unfold tab
  rw [List.getD_eq_getElem?_getD, List.getElem?_eq_none h]
  rfl
theorem out_run {A B : List (List (List Ru))} (hs : A.map List.length = B.map List.length) : ∀ n, n ≤ A.length → ∃ T, runF A (outF A B n) = (0, T) ∧ St A B T n 0
  | 0, _ => ⟨A, rfl, rfl, fun _ => rfl, fun i j => by rw [if_neg (by omega)]⟩
  | n + 1, hn => by
    obtain ⟨T1, h1, h2⟩ := out_run hs n (by omega)
    obtain ⟨T2, h3, h4⟩ := in_run h2 (by omega) (A.getD n []).length (Nat.le_refl _)
    refine ⟨T2, by rw [outF_succ, runF_append _ h1, h3], h4.len, h4.row, fun i j => ?_⟩
    rw [h4.at_]
    by_cases e : i = n
    · subst e
      by_cases e2 : j < (A.getD i []).length
      · rw [if_pos (.inr ⟨rfl, e2⟩), if_pos (by omega)]
      · rw [if_neg (by omega), if_pos (by omega), tab_out (by omega), tab_out (by rw [← shape_at hs]; omega)]
    · by_cases e2 : i < n
      · rw [if_pos (.inl e2), if_pos (by omega)]
      · rw [if_neg (by omega), if_neg (by omega)]
theorem tabs_ext {T B : List (List (List Ru))} (hl : T.length = B.length) (hr : ∀ i, (T.getD i []).length = (B.getD i []).length) (ht : ∀ i j, tab T i j = tab B i j) : T = B := by
  refine List.ext_getElem hl fun i h1 h2 => ?_
  have e1 : T.getD i [] = T[i] := getD_at [] h1
  have e2 : B.getD i [] = B[i] := getD_at [] h2
  have hri := hr i
  rw [e1, e2] at hri
  refine List.ext_getElem hri fun j h3 h4 => ?_
  have := ht i j
  unfold tab at this
  rw [e1, e2, getD_at [] h3, getD_at [] h4] at this
  exact this
/-- the difference makes one the other. -/
theorem diff_run {A B : List (List (List Ru))} (hs : A.map List.length = B.map List.length) : runF A (diffF A B) = (0, B) := by
  obtain ⟨T, h1, h2⟩ := out_run hs A.length (Nat.le_refl _)
  have hl := congrArg List.length hs
  rw [List.length_map, List.length_map] at hl
  have : T = B := by
    refine tabs_ext (h2.len.trans hl) (fun i => by rw [h2.row, shape_at hs]) fun i j => ?_
    rw [h2.at_]
    by_cases e : i < A.length
    · rw [if_pos (.inl e)]
    · rw [if_neg (by omega)]
      have ea : (A.getD i []).length = 0 := by rw [List.getD_eq_getElem?_getD, List.getElem?_eq_none (by omega)]; rfl
      rw [tab_out (by omega), tab_out (by rw [← shape_at hs, ea]; omega)]
  show runF A (outF A B A.length) = (0, B)
  rw [h1, this]
end Go.Proofs.Ytdmakcfgcgioeaa
