/- Topo, plain law: the rounds of the document's Far. -/
import Derived.Test.YtgebehnlfihliaaTGraph2
namespace Go.Proofs.Ytgebehnlfihliaa
set_option linter.unusedSimpArgs false
set_option linter.unusedVariables false
theorem tt_nn {T : Tp} (hT : Sd T) {a : Nat} {d : Nat → Int} (hd : IsFar (Lk T) a d) {r m : Nat} (h : Tt (Lk T) a d r m) : 0 ≤ d m := by
  induction h with
  | base => rw [hd.self]; omega
  | step _ h0 l _ _ => exact (hd.clo _ _ _ l h0).1
/-- the rounds: f what has been found; rd rounds are done, in this one the rows ahead of y, and j ports of row y. -/
structure RJ (T : Tp) (d : Nat → Int) (a : Nat) (f : Nat → Int) (rd y j : Nat) : Prop where
  rl : Rl d f
  ex : ∀ r m, r ≤ rd → Tt (Lk T) a d r m → f m = d m
  pr : ∀ x i, x < T.n → i < T.ln x → (x < y ∨ x = y ∧ i < j) → (T.pt x i).kind = 2 → Tt (Lk T) a d rd x → d (T.pt x i).peer.toNat = d x + (T.pt x i).cost → f (T.pt x i).peer.toNat = d (T.pt x i).peer.toNat
  bd : ∀ m, f m ≤ 1000 * (36 * rd + 6 * y + j)
theorem RJ.start {T : Tp} {d : Nat → Int} {a : Nat} (hT : Sd T) (hd : IsFar (Lk T) a d) {f : Nat → Int} (hf : ∀ m, f m = if m = a then 0 else -1) : RJ T d a f 0 0 0 := by
  refine ⟨fun m => ?_, fun r m hr ht => ?_, fun x i _ _ h => by omega, fun m => ?_⟩
  · rw [hf]
    split
    · rename_i e; subst e; rw [hd.self]; right; omega
    · exact .inl rfl
  · cases ht with
    | base => rw [hf, if_pos rfl, hd.self]
    | step => omega
  · rw [hf]; split <;> omega
theorem rlx_le {f : Nat → Int} {m : Nat} {z B : Int} (h : ∀ i, f i ≤ B) (hz : z ≤ B) (i : Nat) : rlx f m z i ≤ B := by
  unfold rlx; split
  · exact hz
  · exact h i
theorem rlx_no {f : Nat → Int} {m : Nat} {z : Int} (h : ¬ (f m < 0 ∨ z < f m)) : rlx f m z = f := by
  funext i
  unfold rlx; rw [if_neg (fun hh => h hh.2)]
theorem rlx_yes {f : Nat → Int} {m : Nat} {z : Int} (h : f m < 0 ∨ z < f m) : rlx f m z = upd f m z := by
  funext i
  unfold rlx upd
  by_cases e : i = m
  · rw [if_pos ⟨e, h⟩, if_pos e]
  · rw [if_neg (fun hh => e hh.1), if_neg e]
theorem RJ.step {T : Tp} {d : Nat → Int} {a : Nat} {f : Nat → Int} {rd y j : Nat} (hT : Sd T) (hd : IsFar (Lk T) a d) (h : RJ T d a f rd y j) (hy : y < T.n) (hj : j < T.ln y) (h0 : 0 ≤ f y) (hk : (T.pt y j).kind = 2) : RJ T d a (rlx f (T.pt y j).peer.toNat (f y + (T.pt y j).cost)) rd y (j + 1) := by
  have L := hT.lkp hy hj hk
  have l : Lk T y (T.pt y j).peer.toNat (T.pt y j).cost := ⟨hy, j, hj, hk, by rw [Int.toNat_of_nonneg L.p0], rfl⟩
  have hc2 := L.c2
  refine ⟨rl_rlx hd h.rl l h0, fun r m hr ht => ex_rlx hd h.rl l h0 (tt_nn hT hd ht) (h.ex r m hr ht), fun x i hx hi hlt hk2 ht he => ?_, fun m => ?_⟩
  · have hx0 := tt_nn hT hd ht
    by_cases e : x = y ∧ i = j
    · obtain ⟨rfl, rfl⟩ := e
      have hfx := h.ex rd x (Nat.le_refl _) ht
      exact new_rlx hd h.rl l hx0 hfx he
    · have := h.pr x i hx hi (by omega) hk2 ht he
      have L2 := hT.lkp hx hi hk2
      have hc := L2.c1
      exact ex_rlx hd h.rl l h0 (by omega) this
  · have hb := h.bd
    refine rlx_le (B := 1000 * (36 * (rd : Int) + 6 * (y : Int) + ((j + 1 : Nat) : Int))) (fun i => ?_) ?_ m
    · have := hb i; omega
    · have := hb y; omega
theorem RJ.pass {T : Tp} {d : Nat → Int} {a : Nat} {f : Nat → Int} {rd y j : Nat} (h : RJ T d a f rd y j) (hk : (T.pt y j).kind ≠ 2) : RJ T d a f rd y (j + 1) := by
  refine ⟨h.rl, h.ex, fun x i hx hi hlt hk2 ht he => ?_, fun m => by have := h.bd m; omega⟩
  by_cases e : x = y ∧ i = j
  · obtain ⟨rfl, rfl⟩ := e; exact absurd hk2 hk
  · exact h.pr x i hx hi (by omega) hk2 ht he
theorem RJ.row {T : Tp} {d : Nat → Int} {a : Nat} {f : Nat → Int} {rd y j : Nat} (hT : Sd T) (hd : IsFar (Lk T) a d) (h : RJ T d a f rd y j) (hj6 : j ≤ 6) (hj : T.ln y ≤ j ∨ f y < 0) : RJ T d a f rd (y + 1) 0 := by
  refine ⟨h.rl, h.ex, fun x i hx hi hlt hk2 ht he => ?_, fun m => by have := h.bd m; omega⟩
  by_cases e : x < y ∨ x = y ∧ i < j
  · exact h.pr x i hx hi e hk2 ht he
  · have : x = y := by omega
    subst this
    rcases hj with h1 | h1
    · omega
    · have := h.ex rd x (Nat.le_refl _) ht
      have := tt_nn hT hd ht
      omega
theorem RJ.round {T : Tp} {d : Nat → Int} {a : Nat} {f : Nat → Int} {rd : Nat} (hT : Sd T) (hd : IsFar (Lk T) a d) (h : RJ T d a f rd T.n 0) : RJ T d a f (rd + 1) 0 0 := by
  have h6 := hT.n6
  refine ⟨h.rl, fun r m hr ht => ?_, fun x i _ _ hh => by omega, fun m => by have := h.bd m; omega⟩
  by_cases e : r ≤ rd
  · exact h.ex r m e ht
  · have : r = rd + 1 := by omega
    subst this
    cases ht with
    | step ht h0 l he =>
      obtain ⟨hx, i, hi, hk, hp, rfl⟩ := l
      have := h.pr _ i hx hi (.inl hx) hk ht
      rw [hp] at this
      simpa using this he
theorem RJ.fin {T : Tp} {d : Nat → Int} {a : Nat} {f : Nat → Int} (hT : Sd T) (hd : IsFar (Lk T) a d) (h : RJ T d a f T.n 0 0) (m : Nat) : f m = d m := by
  by_cases h0 : 0 ≤ d m
  · obtain ⟨r, hr, ht⟩ := tt_all (lk_cost hT) lk_l hd _ m rfl h0
    have := cnt_le d (d m) T.n
    exact h.ex r m (by omega) ht
  · rcases h.rl m with h1 | h1
    · rcases hd.neg m with h2 | h2 <;> omega
    · omega
end Go.Proofs.Ytgebehnlfihliaa
