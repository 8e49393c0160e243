/- Topo, plain law: the links of a sound topology; the search with the queue. -/
import Derived.Test.YtgebehnlfihliaaTGraph
import Derived.Test.YtgebehnlfihliaaTop3
import Derived.Test.YtgebehnlfihliaaTOrd
namespace Go.Proofs.Ytgebehnlfihliaa
set_option linter.unusedSimpArgs false
set_option linter.unusedVariables false
/-- a link leads from x to m, at cost k. -/
def Lk (T : Tp) (x m : Nat) (k : Int) : Prop := x < T.n ∧ ∃ j, j < T.ln x ∧ (T.pt x j).kind = 2 ∧ (T.pt x j).peer = (m : Int) ∧ (T.pt x j).cost = k
structure Sd (T : Tp) : Prop where
  n1 : 1 ≤ T.n
  n6 : T.n ≤ 6
  l6 : ∀ i, i < T.n → T.ln i ≤ 6
  ok : ∀ i j, i < T.n → j < T.ln i → portOk T i j = true
theorem sd_of {T : Tp} (h : soundE T = 0) : Sd T := by
  unfold soundE at h
  split at h
  · cases h
  · rename_i h1
    split at h
    · cases h
    · rename_i h2
      split at h
      · cases h
      · rename_i h3
        refine ⟨by omega, by omega, fun i hi => longB_le (by simpa using h2) hi, fun i j hi hj => ?_⟩
        cases hp : portOk T i j with
        | true => rfl
        | false => exact absurd (badB_hit hi hj hp) h3
structure LkP (T : Tp) (i j : Nat) : Prop where
  c1 : 1 ≤ (T.pt i j).cost
  c2 : (T.pt i j).cost ≤ 1000
  p0 : 0 ≤ (T.pt i j).peer
  p1 : (T.pt i j).peer.toNat < T.n
  pi : (T.pt i j).peer ≠ i
  a0 : 0 ≤ (T.pt i j).at_
  a1 : (T.pt i j).at_.toNat < T.ln (T.pt i j).peer.toNat
  back : T.pt (T.pt i j).peer.toNat (T.pt i j).at_.toNat = ⟨2, 0, i, j, (T.pt i j).cost⟩
theorem Sd.lkp {T : Tp} (h : Sd T) {i j : Nat} (hi : i < T.n) (hj : j < T.ln i) (hk : (T.pt i j).kind = 2) : LkP T i j := by
  have h1 := h.ok i j hi hj
  unfold portOk okP at h1
  rw [if_neg (by omega), if_neg (by omega), if_pos hk] at h1
  simp only [decide_eq_true_eq] at h1
  obtain ⟨_, a, b, c, d, e, f, g, k⟩ := h1
  exact ⟨a, b, c, by omega, e, f, by omega, k⟩
theorem Sd.kinds {T : Tp} (h : Sd T) {i j : Nat} (hi : i < T.n) (hj : j < T.ln i) : (T.pt i j).kind = 0 ∨ (T.pt i j).kind = 1 ∨ (T.pt i j).kind = 2 := by
  have h1 := h.ok i j hi hj
  unfold portOk okP at h1
  by_cases a : (T.pt i j).kind = 0
  · exact .inl a
  · by_cases b : (T.pt i j).kind = 1
    · exact .inr (.inl b)
    · by_cases c : (T.pt i j).kind = 2
      · exact .inr (.inr c)
      · rw [if_neg a, if_neg b, if_neg c] at h1; cases h1
theorem lk_cost {T : Tp} (h : Sd T) : ∀ x m k, Lk T x m k → 1 ≤ k := by
  rintro x m k ⟨hx, j, hj, hk, _, rfl⟩
  exact (h.lkp hx hj hk).c1
theorem lk_cost2 {T : Tp} (h : Sd T) : ∀ x m k, Lk T x m k → k ≤ 1000 := by
  rintro x m k ⟨hx, j, hj, hk, _, rfl⟩
  exact (h.lkp hx hj hk).c2
theorem lk_l {T : Tp} : ∀ x m k, Lk T x m k → x < T.n := fun _ _ _ h => h.1
theorem lk_r {T : Tp} (h : Sd T) : ∀ x m k, Lk T x m k → m < T.n := by
  rintro x m k ⟨hx, j, hj, hk, hp, rfl⟩
  have := (h.lkp hx hj hk).p1
  rw [hp] at this
  simpa using this
theorem lk_sym {T : Tp} (h : Sd T) : ∀ x m k, Lk T x m k → Lk T m x k := by
  rintro x m k ⟨hx, j, hj, hk, hp, rfl⟩
  have L := h.lkp hx hj hk
  have e : (T.pt x j).peer.toNat = m := by rw [hp]; simp
  have h1 := L.p1
  have h2 := L.a1
  have h3 := L.back
  rw [e] at h1 h2 h3
  exact ⟨h1, (T.pt x j).at_.toNat, h2, by rw [h3], by rw [h3], by rw [h3]⟩
theorem far_le {T : Tp} (h : Sd T) {a : Nat} {d : Nat → Int} (hd : IsFar (Lk T) a d) (m : Nat) : d m ≤ 6000 := by
  have key : ∀ r m, Tt (Lk T) a d r m → d m ≤ 1000 * (r : Int) := by
    intro r m ht
    induction ht with
    | base => rw [hd.self]; omega
    | step ht h0 l he ih => have := lk_cost2 h _ _ _ l; omega
  by_cases hm : 0 ≤ d m
  · obtain ⟨r, hr, ht⟩ := tt_all (lk_cost h) lk_l hd _ m rfl hm
    have h1 := cnt_le d (d m) T.n
    have h2 := h.n6
    have := key r m ht
    omega
  · omega
theorem far_in {T : Tp} (h : Sd T) {a : Nat} {d : Nat → Int} (hd : IsFar (Lk T) a d) {m : Nat} (hm : 0 ≤ d m) : m = a ∨ m < T.n := by
  rcases hd.tight m hm with h1 | ⟨x, k, l, _⟩
  · exact .inl h1
  · exact .inr (lk_r h _ _ _ l)
def upd {α : Type} (f : Nat → α) (i : Nat) (v : α) : Nat → α := fun j => if j = i then v else f j
theorem upd_at {α : Type} (f : Nat → α) (i : Nat) (v : α) : upd f i v i = v := by simp [upd]
theorem upd_ne {α : Type} (f : Nat → α) {i j : Nat} (v : α) (h : j ≠ i) : upd f i v j = f j := by simp [upd, h]
/-- how many of the first n are below 0. -/
def uns (f : Nat → Int) : Nat → Nat
  | 0 => 0
  | n + 1 => uns f n + if f n < 0 then 1 else 0
theorem uns_congr {f g : Nat → Int} {n : Nat} (h : ∀ i, i < n → f i = g i) : uns f n = uns g n := by
  induction n with
  | zero => rfl
  | succ n ih => unfold uns; rw [ih (fun i hi => h i (by omega)), h n (by omega)]
theorem uns_le (f : Nat → Int) (n : Nat) : uns f n ≤ n := by
  induction n with
  | zero => exact Nat.le_refl _
  | succ n ih => unfold uns; split <;> omega
theorem uns_upd {f : Nat → Int} {n i : Nat} {v : Int} (hi : i < n) (h : f i < 0) (hv : 0 ≤ v) : uns (upd f i v) n + 1 = uns f n := by
  induction n with
  | zero => omega
  | succ n ih =>
    unfold uns
    by_cases e : i = n
    · subst e
      rw [uns_congr (f := upd f i v) (g := f) (fun j hj => upd_ne f v (by omega)), upd_at, if_neg (by omega), if_pos h]
    · rw [upd_ne f v (by omega)]
      have := ih (by omega)
      omega
/-- the search, while it goes: f what is settled, κ the queue's n entries; lim: how many ports of a settled one have been looked at. -/
structure FJ (T : Tp) (d : Nat → Int) (a : Nat) (f : Nat → Int) (κ : Nat → Int × Int) (n : Nat) (lim : Nat → Nat) : Prop where
  k1 : ∀ x, x < T.n → f x = -1 ∨ (0 ≤ d x ∧ f x = d x)
  k3 : ∀ e, Me κ n e → ∃ x : Nat, x < T.n ∧ e.1 = (x : Int) ∧ 0 ≤ d x ∧ d x ≤ e.2 ∧ e.2 ≤ 7000
  k4 : ∀ x j, x < T.n → j < lim x → (T.pt x j).kind = 2 → 0 ≤ f x → 0 ≤ f (T.pt x j).peer.toNat ∨ ∃ e, Me κ n e ∧ e.1 = (T.pt x j).peer ∧ e.2 ≤ d x + (T.pt x j).cost
  k5 : 0 ≤ f a ∨ ∃ e, Me κ n e ∧ e.1 = (a : Int) ∧ e.2 = 0
  ho : Ho bf n κ
theorem FJ.start {T : Tp} {d : Nat → Int} {a : Nat} (ha : a < T.n) (hd : IsFar (Lk T) a d) : FJ T d a (fun _ => -1) (fun _ => ((a : Int), 0)) 1 T.ln := by
  refine ⟨fun _ _ => .inl rfl, ?_, fun x j _ _ _ h => by simp at h, .inr ⟨_, ⟨0, by omega, rfl⟩, rfl, rfl⟩, fun i h0 h1 => by omega⟩
  rintro e ⟨i, _, rfl⟩
  exact ⟨a, ha, rfl, by rw [hd.self]; omega, by rw [hd.self]; simp, by simp⟩
theorem FJ.lo {T : Tp} {d : Nat → Int} {a : Nat} {f : Nat → Int} {κ : Nat → Int × Int} {n : Nat} (hT : Sd T) (ha : a < T.n) (hd : IsFar (Lk T) a d) (h : FJ T d a f κ n T.ln) : ∀ (z m : Nat), (d m).toNat = z → 0 ≤ d m → m < T.n → f m < 0 → ∃ e, Me κ n e ∧ e.2 ≤ d m := by
  intro z
  induction z using Nat.strongRecOn with
  | ind z ih =>
    intro m hz hm hmn hf
    rcases hd.tight m hm with rfl | ⟨x, k, l, hx, he⟩
    · rcases h.k5 with h1 | ⟨e, h1, h2, h3⟩
      · omega
      · exact ⟨e, h1, by omega⟩
    · have hc := lk_cost hT _ _ _ l
      obtain ⟨hxn, j, hj, hk, hp, rfl⟩ := l
      by_cases hfx : 0 ≤ f x
      · rcases h.k4 x j hxn hj hk hfx with h1 | ⟨e, h1, h2, h3⟩
        · rw [hp] at h1
          simp at h1
          omega
        · exact ⟨e, h1, by omega⟩
      · obtain ⟨e, h1, h2⟩ := ih (d x).toNat (by omega) x rfl hx hxn (by omega)
        exact ⟨e, h1, by omega⟩
/-- the entry taken is of one that is settled. -/
theorem FJ.skip {T : Tp} {d : Nat → Int} {a : Nat} {f : Nat → Int} {κ : Nat → Int × Int} {n : Nat} {lim : Nat → Nat} (h : FJ T d a f κ (n + 1) lim) {x : Nat} (hx : (popG bf n κ n).1 = (x : Int)) (hf : 0 ≤ f x) : FJ T d a f (popG bf n κ) n lim := by
  refine ⟨h.k1, fun e he => h.k3 e (me_pop.2 (.inr he)), fun y j hy hj hk hfy => ?_, ?_, pop_ho bf_ord h.ho⟩
  · rcases h.k4 y j hy hj hk hfy with h1 | ⟨e, h1, h2, h3⟩
    · exact .inl h1
    · rcases me_pop.1 h1 with rfl | h4
      · left
        rw [← h2, hx]
        simpa using hf
      · exact .inr ⟨e, h4, h2, h3⟩
  · rcases h.k5 with h1 | ⟨e, h1, h2, h3⟩
    · exact .inl h1
    · rcases me_pop.1 h1 with rfl | h4
      · left
        have : x = a := by omega
        subst this
        exact hf
      · exact .inr ⟨e, h4, h2, h3⟩
theorem FJ.far {T : Tp} {d : Nat → Int} {a : Nat} {f : Nat → Int} {κ : Nat → Int × Int} {n : Nat} (hT : Sd T) (ha : a < T.n) (hd : IsFar (Lk T) a d) (h : FJ T d a f κ (n + 1) T.ln) {x : Nat} (hx : (popG bf n κ n).1 = (x : Int)) (hf : f x < 0) : (popG bf n κ n).2 = d x := by
  obtain ⟨y, h1, h2, h3, h4, _⟩ := h.k3 (popG bf n κ n) (me_pop.2 (.inl rfl))
  have : y = x := by omega
  subst this
  obtain ⟨e, h5, h6⟩ := h.lo hT ha hd _ y rfl h3 h1 hf
  have := min_pop h.ho h5
  omega
/-- the entry taken is of one that is not settled. -/
theorem FJ.take {T : Tp} {d : Nat → Int} {a : Nat} {f : Nat → Int} {κ : Nat → Int × Int} {n : Nat} (hT : Sd T) (ha : a < T.n) (hd : IsFar (Lk T) a d) (h : FJ T d a f κ (n + 1) T.ln) {x : Nat} (hx : (popG bf n κ n).1 = (x : Int)) (hf : f x < 0) : FJ T d a (upd f x (d x)) (popG bf n κ) n (upd T.ln x 0) := by
  obtain ⟨y, h1, h2, h3, h4, _⟩ := h.k3 (popG bf n κ n) (me_pop.2 (.inl rfl))
  have : y = x := by omega
  subst this
  have mono : ∀ z, 0 ≤ f z → 0 ≤ upd f y (d y) z := fun z hz => by
    unfold upd; split
    · exact h3
    · exact hz
  refine ⟨fun z hz => ?_, fun e he => h.k3 e (me_pop.2 (.inr he)), fun z j hz hj hk hfz => ?_, ?_, pop_ho bf_ord h.ho⟩
  · unfold upd
    split
    · rename_i e; subst e; exact .inr ⟨h3, rfl⟩
    · exact h.k1 z hz
  · by_cases e : z = y
    · subst e; rw [upd_at] at hj; omega
    · rw [upd_ne _ _ e] at hj hfz
      rcases h.k4 z j hz hj hk hfz with h5 | ⟨e, h5, h6, h7⟩
      · exact .inl (mono _ h5)
      · rcases me_pop.1 h5 with rfl | h8
        · left
          rw [← h6, hx]
          simp [upd_at, h3]
        · exact .inr ⟨e, h8, h6, h7⟩
  · rcases h.k5 with h5 | ⟨e, h5, h6, h7⟩
    · exact .inl (mono _ h5)
    · rcases me_pop.1 h5 with rfl | h8
      · left
        have : y = a := by omega
        subst this
        rw [upd_at]; exact h3
      · exact .inr ⟨e, h8, h6, h7⟩
/-- a port that is no link, or leads to one that is settled. -/
theorem FJ.pass {T : Tp} {d : Nat → Int} {a : Nat} {f : Nat → Int} {κ : Nat → Int × Int} {n x j : Nat} (h : FJ T d a f κ n (upd T.ln x j)) (hp : (T.pt x j).kind = 2 → 0 ≤ f (T.pt x j).peer.toNat) : FJ T d a f κ n (upd T.ln x (j + 1)) := by
  refine ⟨h.k1, h.k3, fun z i hz hi hk hfz => ?_, h.k5, h.ho⟩
  by_cases e : z = x
  · subst e
    rw [upd_at] at hi
    by_cases e2 : i = j
    · subst e2; exact .inl (hp hk)
    · exact h.k4 z i hz (by rw [upd_at]; omega) hk hfz
  · rw [upd_ne _ _ e] at hi
    exact h.k4 z i hz (by rw [upd_ne _ _ e]; exact hi) hk hfz
theorem FJ.push {T : Tp} {d : Nat → Int} {a : Nat} {f : Nat → Int} {κ : Nat → Int × Int} {n x j : Nat} (hT : Sd T) (hd : IsFar (Lk T) a d) (h : FJ T d a f κ n (upd T.ln x j)) (hx : x < T.n) (hj : j < T.ln x) (hk : (T.pt x j).kind = 2) (hx0 : 0 ≤ d x) : FJ T d a f (upF bf (pushG κ n ((T.pt x j).peer, d x + (T.pt x j).cost)) n) (n + 1) (upd T.ln x (j + 1)) := by
  have L := hT.lkp hx hj hk
  refine ⟨h.k1, fun e he => ?_, fun z i hz hi hk2 hfz => ?_, ?_, push_ho bf_ord h.ho⟩
  · rcases me_push.1 he with rfl | h1
    · have l : Lk T x (T.pt x j).peer.toNat (T.pt x j).cost := ⟨hx, j, hj, hk, by rw [Int.toNat_of_nonneg L.p0], rfl⟩
      have h5 := hd.clo _ _ _ l hx0
      have h6 := far_le hT hd x
      have h7 := L.c2
      exact ⟨_, L.p1, by simp [Int.toNat_of_nonneg L.p0], h5.1, by simp; omega, by simp; omega⟩
    · exact h.k3 e h1
  · have old : ∀ z i, z < T.n → i < upd T.ln x j z → (T.pt z i).kind = 2 → 0 ≤ f z → 0 ≤ f (T.pt z i).peer.toNat ∨ ∃ e, Me (upF bf (pushG κ n ((T.pt x j).peer, d x + (T.pt x j).cost)) n) (n + 1) e ∧ e.1 = (T.pt z i).peer ∧ e.2 ≤ d z + (T.pt z i).cost := fun z i hz hi hk hfz => by
      rcases h.k4 z i hz hi hk hfz with h1 | ⟨e, h1, h2⟩
      · exact .inl h1
      · exact .inr ⟨e, me_push.2 (.inr h1), h2⟩
    by_cases e : z = x
    · subst e
      rw [upd_at] at hi
      by_cases e2 : i = j
      · subst e2; exact .inr ⟨_, me_push.2 (.inl rfl), rfl, Int.le_refl _⟩
      · exact old z i hz (by rw [upd_at]; omega) hk2 hfz
    · rw [upd_ne _ _ e] at hi
      exact old z i hz (by rw [upd_ne _ _ e]; exact hi) hk2 hfz
  · rcases h.k5 with h1 | ⟨e, h1, h2⟩
    · exact .inl h1
    · exact .inr ⟨e, me_push.2 (.inr h1), h2⟩
theorem FJ.close {T : Tp} {d : Nat → Int} {a : Nat} {f : Nat → Int} {κ : Nat → Int × Int} {n x : Nat} (h : FJ T d a f κ n (upd T.ln x (T.ln x))) : FJ T d a f κ n T.ln := by
  have e : upd T.ln x (T.ln x) = T.ln := by funext y; unfold upd; split <;> simp_all
  rwa [e] at h
theorem FJ.fin {T : Tp} {d : Nat → Int} {a : Nat} {f : Nat → Int} {κ : Nat → Int × Int} (hT : Sd T) (ha : a < T.n) (hd : IsFar (Lk T) a d) (h : FJ T d a f κ 0 T.ln) : ∀ m, m < T.n → f m = d m := by
  intro m hm
  rcases h.k1 m hm with h1 | h1
  · by_cases h0 : 0 ≤ d m
    · obtain ⟨e, ⟨i, hi, _⟩, _⟩ := h.lo hT ha hd _ m rfl h0 hm (by omega)
      omega
    · rcases hd.neg m with h2 | h2 <;> omega
  · exact h1.2
end Go.Proofs.Ytgebehnlfihliaa
