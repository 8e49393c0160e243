/- Delta: plain laws of changes: what undoes them; that the difference makes one the other. -/
import Derived.Test.YtdmakcfgcgioeaaDPl
import Derived.Test.YtdmakcfgcgioeaaDBack
namespace Go.Proofs.Ytdmakcfgcgioeaa
set_option linter.unusedSimpArgs false
set_option linter.unusedVariables false
/-- a table's place. -/
structure In (T : List (List (List Ru))) (n m : Nat) : Prop where
  hn : n < T.length
  hm : m < (T.getD n []).length
theorem putT_len (T : List (List (List Ru))) (n m : Nat) (t : List Ru) : (putT T n m t).length = T.length := by simp [putT]
theorem getD_set_at {α : Type} {L : List α} {n : Nat} (h : n < L.length) (x d : α) : (L.set n x).getD n d = x := by
  rw [List.getD_eq_getElem?_getD, List.getElem?_set_self h]; rfl
theorem getD_set_off {α : Type} {L : List α} {n k : Nat} (h : n ≠ k) (x d : α) : (L.set n x).getD k d = L.getD k d := by
  rw [List.getD_eq_getElem?_getD, List.getD_eq_getElem?_getD, List.getElem?_set_ne h]
theorem putT_row {T : List (List (List Ru))} {n m : Nat} (h : In T n m) (t : List Ru) (k : Nat) : ((putT T n m t).getD k []).length = (T.getD k []).length := by
  unfold putT
  by_cases e : n = k
  · subst e; rw [getD_set_at h.hn, List.length_set]
  · rw [getD_set_off e]
theorem tab_put {T : List (List (List Ru))} {n m : Nat} (h : In T n m) (t : List Ru) : tab (putT T n m t) n m = t := by
  unfold tab putT
  rw [getD_set_at h.hn, getD_set_at h.hm]
theorem tab_put_ne {T : List (List (List Ru))} {n m i j : Nat} (h : In T n m) (t : List Ru) (hne : ¬ (i = n ∧ j = m)) : tab (putT T n m t) i j = tab T i j := by
  unfold tab putT
  by_cases e : n = i
  · subst e
    rw [getD_set_at h.hn, getD_set_off (fun e => hne ⟨rfl, e.symm⟩)]
  · rw [getD_set_off e]
theorem In.put {T : List (List (List Ru))} {n m : Nat} (h : In T n m) (t : List Ru) (i j : Nat) : In (putT T n m t) i j ↔ In T i j :=
  ⟨fun k => ⟨by have := k.hn; rwa [putT_len] at this, by have := k.hm; rwa [putT_row h] at this⟩, fun k => ⟨by rw [putT_len]; exact k.hn, by rw [putT_row h]; exact k.hm⟩⟩
theorem putT_put {T : List (List (List Ru))} {n m : Nat} (h : In T n m) (t u : List Ru) : putT (putT T n m t) n m u = putT T n m u := by
  unfold putT
  rw [getD_set_at h.hn, List.set_set, List.set_set]
theorem set_getD {α : Type} {L : List α} {n : Nat} (h : n < L.length) (d : α) : L.set n (L.getD n d) = L := by
  apply List.ext_getElem?
  intro i
  by_cases e : n = i
  · subst e; rw [List.getElem?_set_self h, List.getD_eq_getElem?_getD, List.getElem?_eq_getElem h]; rfl
  · rw [List.getElem?_set_ne e]
theorem putT_tab {T : List (List (List Ru))} {n m : Nat} (h : In T n m) : putT T n m (tab T n m) = T := by
  unfold putT tab
  rw [set_getD h.hm, set_getD h.hn]
theorem oneF_del {T : List (List (List Ru))} {n m a : Nat} (h : In T n m) (ha : a < (tab T n m).length) : oneF T ⟨n, m, a, true, zeroR⟩ = (0, putT T n m ((tab T n m).eraseIdx a)) := by
  have h1 := h.hn
  have h2 := h.hm
  unfold oneF
  simp only [Int.toNat_natCast]
  rw [if_neg (by omega), if_neg (by simp; omega), if_neg (fun e => e.2 rfl)]
  rfl
theorem oneF_ins {T : List (List (List Ru))} {n m a : Nat} (r : Ru) (h : In T n m) (ha : a ≤ (tab T n m).length) : oneF T ⟨n, m, a, false, r⟩ = (0, putT T n m ((tab T n m).take a ++ r :: (tab T n m).drop a)) := by
  have h1 := h.hn
  have h2 := h.hm
  unfold oneF
  simp only [Int.toNat_natCast]
  rw [if_neg (by omega), if_neg (by simp; omega), if_neg (fun e => by cases e.1)]
  rfl
/-- where a change is taken. -/
theorem oneF_at {T : List (List (List Ru))} {x : Ed} (h : (oneF T x).1 = 0) : ∃ n m a : Nat, x.sw = (n : Int) ∧ x.tb = (m : Int) ∧ x.at_ = (a : Int) ∧ In T n m ∧ a ≤ (tab T n m).length ∧ (x.gone = true → a < (tab T n m).length ∧ x.r = zeroR) := by
  unfold oneF at h
  split at h
  · cases h
  · rename_i h1
    split at h
    · cases h
    · rename_i h2
      split at h
      · cases h
      · rename_i h3
        have a1 : ¬ x.sw < 0 := fun e => h1 (.inl e)
        have a2 : ¬ (T.length : Int) ≤ x.sw := fun e => h1 (.inr (.inl e))
        have a3 : ¬ x.tb < 0 := fun e => h1 (.inr (.inr (.inl e)))
        have a4 : ¬ ((T.getD x.sw.toNat []).length : Int) ≤ x.tb := fun e => h1 (.inr (.inr (.inr e)))
        have b1 : ¬ x.at_ < 0 := fun e => h2 (.inl e)
        have b2 : ¬ ((tab T x.sw.toNat x.tb.toNat).length : Int) < x.at_ := fun e => h2 (.inr (.inl e))
        refine ⟨x.sw.toNat, x.tb.toNat, x.at_.toNat, by omega, by omega, by omega, ⟨by omega, by omega⟩, by omega, fun hg => ⟨?_, ?_⟩⟩
        · have b3 : ¬ x.at_ = ((tab T x.sw.toNat x.tb.toNat).length : Int) := fun e => h2 (.inr (.inr ⟨hg, e⟩))
          omega
        · exact Decidable.not_not.1 fun e => h3 ⟨hg, e⟩
theorem one_turn {T : List (List (List Ru))} {x : Ed} (h : (oneF T x).1 = 0) : oneF (oneF T x).2 (turnF T x) = (0, T) := by
  obtain ⟨n, m, a, e1, e2, e3, hin, ha, hg⟩ := oneF_at h
  obtain ⟨sw, tb, at_, gone, r⟩ := x
  simp only at e1 e2 e3 hg
  subst e1 e2 e3
  cases gone with
  | true =>
    obtain ⟨ha2, rfl⟩ := hg rfl
    have hp := hin.put ((tab T n m).eraseIdx a) n m
    rw [oneF_del hin ha2]
    have ht : turnF T ⟨n, m, a, true, zeroR⟩ = ⟨n, m, a, false, (tab T n m).getD a zeroR⟩ := by simp [turnF]
    rw [ht, oneF_ins _ (hp.2 hin) (by rw [tab_put hin, List.length_eraseIdx_of_lt ha2]; omega), tab_put hin, putT_put hin]
    have hl : (List.take a (tab T n m)).length = a := by rw [List.length_take]; omega
    have hlist : ((tab T n m).eraseIdx a).take a ++ (tab T n m).getD a zeroR :: ((tab T n m).eraseIdx a).drop a = tab T n m := by
      rw [List.eraseIdx_eq_take_drop_succ, List.take_left' hl, List.drop_left' hl, List.getD_eq_getElem?_getD, List.getElem?_eq_getElem ha2]
      show List.take a (tab T n m) ++ (tab T n m)[a] :: List.drop (a + 1) (tab T n m) = _
      rw [← List.drop_eq_getElem_cons ha2, List.take_append_drop]
    rw [hlist, putT_tab hin]
  | false =>
    have hp := hin.put ((tab T n m).take a ++ r :: (tab T n m).drop a) n m
    rw [oneF_ins r hin ha]
    have ht : turnF T ⟨n, m, a, false, r⟩ = ⟨n, m, a, true, zeroR⟩ := by simp [turnF]
    have hl : (List.take a (tab T n m)).length = a := by rw [List.length_take]; omega
    rw [ht, oneF_del (hp.2 hin) (by rw [tab_put hin, List.length_append, hl]; simp), tab_put hin, putT_put hin]
    have hlist : ((tab T n m).take a ++ r :: (tab T n m).drop a).eraseIdx a = tab T n m := by
      rw [List.eraseIdx_append_of_length_le (by omega), hl, Nat.sub_self]
      show List.take a (tab T n m) ++ List.drop a (tab T n m) = _
      rw [List.take_append_drop]
    rw [hlist, putT_tab hin]
theorem runF_append {T T1 : List (List (List Ru))} : ∀ {p : List Ed} (q : List Ed), runF T p = (0, T1) → runF T (p ++ q) = runF T1 q := by
  intro p
  induction p generalizing T with
  | nil => intro q h; simp [runF] at h; subst h; rfl
  | cons x p ih =>
    intro q h
    simp only [runF] at h
    show runF T (x :: (p ++ q)) = _
    simp only [runF]
    split at h
    · rename_i he
      rw [if_pos he]
      exact ih q h
    · rename_i he
      simp only [Prod.mk.injEq] at h
      exact absurd h.1 he
/-- changes, then what undoes them. -/
theorem run_back {T T' : List (List (List Ru))} : ∀ {l : List Ed}, runF T l = (0, T') → runF T' (turns T l).reverse = (0, T) := by
  intro l
  induction l generalizing T with
  | nil => intro h; simp [runF] at h; subst h; rfl
  | cons x l ih =>
    intro h
    simp only [runF] at h
    split at h
    · rename_i he
      have h1 := ih h
      simp only [turns, List.reverse_cons]
      rw [runF_append _ h1]
      simp only [runF]
      rw [one_turn he]
      rfl
    · rename_i he
      simp only [Prod.mk.injEq] at h
      exact absurd h.1 he
end Go.Proofs.Ytdmakcfgcgioeaa
