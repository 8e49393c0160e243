/- Topo, plain law: shortest distances over links, with no program in sight. -/
import Derived.WalkKit
namespace Go.Proofs.Ytgebehnlfihliaa
set_option linter.unusedSimpArgs false
set_option linter.unusedVariables false
/-- a walk from a to m, at cost c, over the links L. -/
inductive Wk (L : Nat → Nat → Int → Prop) (a : Nat) : Nat → Int → Prop
  | base : Wk L a a 0
  | step {x m : Nat} {c k : Int} : Wk L a x c → L x m k → Wk L a m (c + k)
/-- d is how far all are from a; −1 where none comes. -/
structure IsFar (L : Nat → Nat → Int → Prop) (a : Nat) (d : Nat → Int) : Prop where
  self : d a = 0
  neg : ∀ m, d m = -1 ∨ 0 ≤ d m
  clo : ∀ x m k, L x m k → 0 ≤ d x → 0 ≤ d m ∧ d m ≤ d x + k
  tight : ∀ m, 0 ≤ d m → m = a ∨ ∃ x k, L x m k ∧ 0 ≤ d x ∧ d m = d x + k
theorem IsFar.le {L : Nat → Nat → Int → Prop} {a : Nat} {d : Nat → Int} (h : IsFar L a d) {m : Nat} {c : Int} (w : Wk L a m c) : 0 ≤ d m ∧ d m ≤ c := by
  induction w with
  | base => rw [h.self]; omega
  | step w l ih => have := h.clo _ _ _ l ih.1; omega
theorem IsFar.wk {L : Nat → Nat → Int → Prop} (hL : ∀ x m k, L x m k → 1 ≤ k) {a : Nat} {d : Nat → Int} (h : IsFar L a d) : ∀ (z m : Nat), (d m).toNat = z → 0 ≤ d m → Wk L a m (d m) := by
  intro z
  induction z using Nat.strongRecOn with
  | ind z ih =>
    intro m hz hm
    rcases h.tight m hm with rfl | ⟨x, k, l, hx, he⟩
    · rw [h.self]; exact Wk.base
    · have := hL _ _ _ l
      have w := ih (d x).toNat (by omega) x rfl hx
      rw [he]
      exact Wk.step w l
theorem IsFar.uniq {L : Nat → Nat → Int → Prop} (hL : ∀ x m k, L x m k → 1 ≤ k) {a : Nat} {d e : Nat → Int} (h : IsFar L a d) (h' : IsFar L a e) (m : Nat) : d m = e m := by
  by_cases hm : 0 ≤ d m
  · have w := h.wk hL _ m rfl hm
    have h1 := h'.le w
    have w' := h'.wk hL _ m rfl h1.1
    have h2 := h.le w'
    omega
  · by_cases hm' : 0 ≤ e m
    · have w' := h'.wk hL _ m rfl hm'
      have := h.le w'
      omega
    · rcases h.neg m with h1 | h1 <;> rcases h'.neg m with h2 | h2 <;> omega
theorem Wk.cons {L : Nat → Nat → Int → Prop} {a b : Nat} {k : Int} (l : L a b k) {m : Nat} {c : Int} (w : Wk L b m c) : Wk L a m (k + c) := by
  induction w with
  | base =>
    have := Wk.step (Wk.base (L := L) (a := a)) l
    rwa [show k + 0 = 0 + k by omega]
  | step w l' ih =>
    have := Wk.step ih l'
    rwa [Int.add_assoc] at this
theorem Wk.rev {L : Nat → Nat → Int → Prop} (hS : ∀ x m k, L x m k → L m x k) {a m : Nat} {c : Int} (w : Wk L a m c) : Wk L m a c := by
  induction w with
  | base => exact Wk.base
  | step w l ih =>
    have := Wk.cons (hS _ _ _ l) ih
    rwa [Int.add_comm] at this
theorem Wk.append {L : Nat → Nat → Int → Prop} {a b m : Nat} {c e : Int} (w : Wk L a b c) (v : Wk L b m e) : Wk L a m (c + e) := by
  induction v with
  | base => rwa [show c + 0 = c by omega]
  | step v l ih =>
    have := Wk.step ih l
    rwa [Int.add_assoc] at this
theorem IsFar.sym {L : Nat → Nat → Int → Prop} (hL : ∀ x m k, L x m k → 1 ≤ k) (hS : ∀ x m k, L x m k → L m x k) {a b : Nat} {d e : Nat → Int} (h : IsFar L a d) (h' : IsFar L b e) : d b = e a := by
  by_cases hb : 0 ≤ d b
  · have h1 := h'.le ((h.wk hL _ b rfl hb).rev hS)
    have h2 := h.le ((h'.wk hL _ a rfl h1.1).rev hS)
    omega
  · by_cases ha : 0 ≤ e a
    · have := h.le ((h'.wk hL _ a rfl ha).rev hS)
      omega
    · rcases h.neg b with h1 | h1 <;> rcases h'.neg a with h2 | h2 <;> omega
theorem IsFar.tri {L : Nat → Nat → Int → Prop} (hL : ∀ x m k, L x m k → 1 ≤ k) {a b c : Nat} {p q : Nat → Int} (h : IsFar L a p) (h' : IsFar L b q) (hb : 0 ≤ p b) (hc : 0 ≤ q c) : 0 ≤ p c ∧ p c ≤ p b + q c :=
  h.le ((h.wk hL _ b rfl hb).append (h'.wk hL _ c rfl hc))
theorem least {P : Nat → Prop} : ∀ n, P n → ∃ m, P m ∧ ∀ k, P k → m ≤ k := by
  intro n
  induction n using Nat.strongRecOn with
  | ind n ih =>
    intro hn
    by_cases h : ∃ k, k < n ∧ P k
    · obtain ⟨k, hk, hp⟩ := h
      exact ih k hk hp
    · exact ⟨n, hn, fun k hk => Nat.le_of_not_lt fun hlt => h ⟨k, hlt, hk⟩⟩
theorem Wk.nn {L : Nat → Nat → Int → Prop} (hL : ∀ x m k, L x m k → 1 ≤ k) {a m : Nat} {c : Int} (w : Wk L a m c) : 0 ≤ c := by
  induction w with
  | base => omega
  | step w l ih => have := hL _ _ _ l; omega
theorem far_ex {L : Nat → Nat → Int → Prop} (hL : ∀ x m k, L x m k → 1 ≤ k) (a : Nat) : ∃ d, IsFar L a d := by
  have key : ∀ m, ∃ z : Int, (z = -1 ∧ ∀ c, ¬ Wk L a m c) ∨ (0 ≤ z ∧ Wk L a m z ∧ ∀ c, Wk L a m c → z ≤ c) := by
    intro m
    by_cases h : ∃ c, Wk L a m c
    · obtain ⟨c, hc⟩ := h
      have h0 := hc.nn hL
      obtain ⟨z, h1, h2⟩ := least (P := fun n => Wk L a m (n : Int)) c.toNat (by show Wk L a m (c.toNat : Int); rwa [Int.toNat_of_nonneg h0])
      refine ⟨z, .inr ⟨by omega, h1, fun e he => ?_⟩⟩
      have he0 := he.nn hL
      have := h2 e.toNat (by show Wk L a m (e.toNat : Int); rwa [Int.toNat_of_nonneg he0])
      omega
    · exact ⟨-1, .inl ⟨rfl, fun c hc => h ⟨c, hc⟩⟩⟩
  obtain ⟨d, hd⟩ := Classical.axiomOfChoice key
  have some : ∀ m c, Wk L a m c → 0 ≤ d m ∧ Wk L a m (d m) ∧ d m ≤ c := by
    intro m c w
    rcases hd m with ⟨_, h⟩ | ⟨h1, h2, h3⟩
    · exact absurd w (h c)
    · exact ⟨h1, h2, h3 c w⟩
  refine ⟨d, ?_, fun m => ?_, fun x m k l hx => ?_, fun m hm => ?_⟩
  · have := some a 0 Wk.base; omega
  · rcases hd m with ⟨h, _⟩ | ⟨h, _⟩
    · exact .inl h
    · exact .inr h
  · rcases hd x with ⟨h, _⟩ | ⟨_, h, _⟩
    · omega
    · have := some m _ (Wk.step h l)
      exact ⟨this.1, this.2.2⟩
  · rcases hd m with ⟨h, _⟩ | ⟨_, h, hmin⟩
    · omega
    · generalize hz : d m = z at h
      cases h with
      | base => exact .inl rfl
      | step w l =>
        rename_i x c k
        have h1 := some x c w
        have h2 := hmin _ (Wk.step h1.2.1 l)
        refine .inr ⟨x, k, l, h1.1, ?_⟩
        omega
/-- how many below n are nearer than z. -/
def cnt (d : Nat → Int) (z : Int) : Nat → Nat
  | 0 => 0
  | n + 1 => cnt d z n + if 0 ≤ d n ∧ d n < z then 1 else 0
theorem cnt_le (d : Nat → Int) (z : Int) (n : Nat) : cnt d z n ≤ n := by
  induction n with
  | zero => exact Nat.le_refl _
  | succ n ih => unfold cnt; split <;> omega
theorem cnt_mono (d : Nat → Int) {z y : Int} (h : z ≤ y) (n : Nat) : cnt d z n ≤ cnt d y n := by
  induction n with
  | zero => exact Nat.le_refl _
  | succ n ih => unfold cnt; split <;> split <;> omega
theorem cnt_lt (d : Nat → Int) {y : Int} {x n : Nat} (hx : x < n) (h0 : 0 ≤ d x) (h : d x < y) : cnt d (d x) n < cnt d y n := by
  induction n with
  | zero => omega
  | succ n ih =>
    unfold cnt
    by_cases e : x = n
    · subst e
      have := cnt_mono d (Int.le_of_lt h) x
      rw [if_neg (by omega), if_pos ⟨h0, h⟩]
      omega
    · have := ih (by omega)
      split <;> split <;> omega
theorem cnt_lt' (d : Nat → Int) {z : Int} {x n : Nat} (hx : x < n) (h : z ≤ d x) : cnt d z n < n := by
  induction n with
  | zero => omega
  | succ n ih =>
    unfold cnt
    by_cases e : x = n
    · subst e
      have := cnt_le d z x
      rw [if_neg (by omega)]
      omega
    · have := ih (by omega)
      split <;> omega
/-! rounds of relaxing -/
/-- m is come to in h tight links. -/
inductive Tt (L : Nat → Nat → Int → Prop) (a : Nat) (d : Nat → Int) : Nat → Nat → Prop
  | base : Tt L a d 0 a
  | step {h x m : Nat} {k : Int} : Tt L a d h x → 0 ≤ d x → L x m k → d m = d x + k → Tt L a d (h + 1) m
theorem tt_all {L : Nat → Nat → Int → Prop} {n : Nat} (hL : ∀ x m k, L x m k → 1 ≤ k) (hn : ∀ x m k, L x m k → x < n) {a : Nat} {d : Nat → Int} (h : IsFar L a d) : ∀ (z m : Nat), (d m).toNat = z → 0 ≤ d m → ∃ r, r ≤ cnt d (d m) n ∧ Tt L a d r m := by
  intro z
  induction z using Nat.strongRecOn with
  | ind z ih =>
    intro m hz hm
    rcases h.tight m hm with rfl | ⟨x, k, l, hx, he⟩
    · exact ⟨0, Nat.zero_le _, Tt.base⟩
    · have := hL _ _ _ l
      obtain ⟨r, hr, ht⟩ := ih (d x).toNat (by omega) x rfl hx
      have := cnt_lt d (y := d m) (hn _ _ _ l) hx (by omega)
      exact ⟨r + 1, by omega, Tt.step ht hx l he⟩
/-- each number told is that of a walk. -/
def Rl (d f : Nat → Int) : Prop := ∀ m, f m = -1 ∨ (0 ≤ d m ∧ d m ≤ f m)
/-- one link taken. -/
def rlx (f : Nat → Int) (m : Nat) (z : Int) : Nat → Int := fun i => if i = m ∧ (f m < 0 ∨ z < f m) then z else f i
theorem rl_rlx {L : Nat → Nat → Int → Prop} {a : Nat} {d f : Nat → Int} (h : IsFar L a d) (hf : Rl d f) {x m : Nat} {k : Int} (l : L x m k) (hx : 0 ≤ f x) : Rl d (rlx f m (f x + k)) := by
  intro i
  unfold rlx
  split
  · rename_i hi
    obtain ⟨rfl, hi⟩ := hi
    rcases hf x with h1 | h1
    · omega
    · have := h.clo _ _ _ l h1.1
      exact .inr ⟨this.1, by omega⟩
  · exact hf i
/-- what is exact stays so. -/
theorem ex_rlx {L : Nat → Nat → Int → Prop} {a : Nat} {d f : Nat → Int} (h : IsFar L a d) (hf : Rl d f) {x m : Nat} {k : Int} (l : L x m k) (hx : 0 ≤ f x) {i : Nat} (hi0 : 0 ≤ d i) (hi : f i = d i) : rlx f m (f x + k) i = d i := by
  unfold rlx
  split
  · rename_i hc
    obtain ⟨rfl, hc⟩ := hc
    rcases hf x with h1 | h1
    · omega
    · have := h.clo _ _ _ l h1.1
      omega
  · exact hi
theorem new_rlx {L : Nat → Nat → Int → Prop} {a : Nat} {d f : Nat → Int} (h : IsFar L a d) (hf : Rl d f) {x m : Nat} {k : Int} (l : L x m k) (hx0 : 0 ≤ d x) (hx : f x = d x) (hm : d m = d x + k) : rlx f m (f x + k) m = d m := by
  unfold rlx
  have := h.clo _ _ _ l hx0
  split
  · omega
  · rename_i hc
    rcases hf m with h1 | h1
    · exact absurd ⟨rfl, .inl (by omega)⟩ hc
    · by_cases h2 : f x + k < f m
      · exact absurd ⟨rfl, .inr h2⟩ hc
      · omega
end Go.Proofs.Ytgebehnlfihliaa
