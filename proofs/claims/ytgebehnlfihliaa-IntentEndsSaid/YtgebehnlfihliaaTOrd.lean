/- Topo: the plain law of the queue. -/
import Derived.Test.YtgebehnlfihliaaTHeap2
namespace Go.Proofs.Ytgebehnlfihliaa
set_option linter.unusedSimpArgs false
set_option linter.unusedVariables false
def pushG {α : Type} (κ : Nat → α) (n : Nat) (x : α) : Nat → α := fun i => if i < n then κ i else x
/-- where the entries lie behind Pop; the one that is taken lies last. -/
def popG {α : Type} (B : α → α → Bool) (n : Nat) (κ : Nat → α) : Nat → α := (dnF B n n (swp κ 0 n) 0).1
/-- places from m on are as they were; the places ahead hold the same items. -/
def Same {α : Type} (m : Nat) (κ κ' : Nat → α) : Prop := (∀ i, m ≤ i → κ' i = κ i) ∧ ∀ x, (∃ i, i < m ∧ κ' i = x) ↔ (∃ i, i < m ∧ κ i = x)
theorem Same.refl {α : Type} (m : Nat) (κ : Nat → α) : Same m κ κ := ⟨fun _ _ => rfl, fun _ => Iff.rfl⟩
theorem Same.trans {α : Type} {m : Nat} {a b c : Nat → α} (h : Same m a b) (k : Same m b c) : Same m a c := ⟨fun i hi => (k.1 i hi).trans (h.1 i hi), fun x => (k.2 x).trans (h.2 x)⟩
theorem Same.mono {α : Type} {m n : Nat} {a b : Nat → α} (h : Same m a b) (hn : m ≤ n) : Same n a b := by
  refine ⟨fun i hi => h.1 i (by omega), fun x => ⟨?_, ?_⟩⟩
  · rintro ⟨i, hi, e⟩
    by_cases him : i < m
    · obtain ⟨j, hj, e2⟩ := (h.2 x).1 ⟨i, him, e⟩
      exact ⟨j, by omega, e2⟩
    · exact ⟨i, hi, by rw [← h.1 i (by omega)]; exact e⟩
  · rintro ⟨i, hi, e⟩
    by_cases him : i < m
    · obtain ⟨j, hj, e2⟩ := (h.2 x).2 ⟨i, him, e⟩
      exact ⟨j, by omega, e2⟩
    · exact ⟨i, hi, by rw [h.1 i (by omega)]; exact e⟩
theorem swp_l {α : Type} (κ : Nat → α) (i j : Nat) : swp κ i j i = κ j := by simp [swp]
theorem swp_r {α : Type} (κ : Nat → α) (i j : Nat) : swp κ i j j = κ i := by unfold swp; split <;> simp_all
theorem swp_o {α : Type} (κ : Nat → α) (i j t : Nat) (h1 : t ≠ i) (h2 : t ≠ j) : swp κ i j t = κ t := by simp [swp, h1, h2]
theorem same_swp {α : Type} {m i j : Nat} (κ : Nat → α) (hi : i < m) (hj : j < m) : Same m κ (swp κ i j) := by
  refine ⟨fun t ht => swp_o κ i j t (by omega) (by omega), fun x => ⟨?_, ?_⟩⟩
  · rintro ⟨t, ht, e⟩
    by_cases t1 : t = i
    · subst t1; rw [swp_l] at e; exact ⟨j, hj, e⟩
    · by_cases t2 : t = j
      · subst t2; rw [swp_r] at e; exact ⟨i, hi, e⟩
      · rw [swp_o _ _ _ _ t1 t2] at e; exact ⟨t, ht, e⟩
  · rintro ⟨t, ht, e⟩
    by_cases t1 : t = i
    · subst t1; exact ⟨j, hj, by rw [swp_r]; exact e⟩
    · by_cases t2 : t = j
      · subst t2; exact ⟨i, hi, by rw [swp_l]; exact e⟩
      · exact ⟨t, ht, by rw [swp_o _ _ _ _ t1 t2]; exact e⟩
theorem same_up {α : Type} (B : α → α → Bool) (m : Nat) : ∀ (j : Nat) (κ : Nat → α), j < m → Same m κ (upF B κ j) := by
  intro j
  induction j using Nat.strongRecOn with
  | ind j ih =>
    intro κ hj
    rw [upF]
    split
    · exact Same.refl _ _
    · split
      · exact (same_swp κ (by omega) hj).trans (ih _ (by omega) _ (by omega))
      · exact Same.refl _ _
theorem same_dn {α : Type} (B : α → α → Bool) (m : Nat) : ∀ (f : Nat) (κ : Nat → α) (i : Nat), Same m κ (dnF B m f κ i).1
  | 0, κ, i => Same.refl _ _
  | f + 1, κ, i => by
    by_cases hz : m ≤ 2 * i + 1
    · rw [dnF, if_pos hz]; exact Same.refl _ _
    · by_cases hc : 2 * i + 2 < m ∧ B (κ (2 * i + 2)) (κ (2 * i + 1)) = true
      · rw [dn_two hz hc.1 hc.2]
        split
        · exact (same_swp κ (by omega) hc.1).trans (same_dn B m f _ _)
        · exact Same.refl _ _
      · rw [dn_one hz hc]
        split
        · exact (same_swp κ (by omega) (by omega)).trans (same_dn B m f _ _)
        · exact Same.refl _ _
theorem dn_ge {α : Type} (B : α → α → Bool) (m : Nat) : ∀ (f : Nat) (κ : Nat → α) (i : Nat), i ≤ (dnF B m f κ i).2
  | 0, κ, i => Nat.le_refl _
  | f + 1, κ, i => by
    by_cases hz : m ≤ 2 * i + 1
    · rw [dnF, if_pos hz]; exact Nat.le_refl _
    · by_cases hc : 2 * i + 2 < m ∧ B (κ (2 * i + 2)) (κ (2 * i + 1)) = true
      · rw [dn_two hz hc.1 hc.2]
        split
        · have := dn_ge B m f (swp κ i (2 * i + 2)) (2 * i + 2); omega
        · exact Nat.le_refl _
      · rw [dn_one hz hc]
        split
        · have := dn_ge B m f (swp κ i (2 * i + 1)) (2 * i + 1); omega
        · exact Nat.le_refl _
theorem same_pop {α : Type} (B : α → α → Bool) {n : Nat} (κ : Nat → α) : Same (n + 1) κ (popG B n κ) ∧ popG B n κ n = κ 0 := by
  have h2 := same_dn B n n (swp κ 0 n) 0
  exact ⟨(same_swp κ (by omega) (by omega)).trans (h2.mono (by omega)), by unfold popG; rw [h2.1 n (Nat.le_refl _), swp_r]⟩
/-! the order -/
structure Ord {α : Type} (B : α → α → Bool) : Prop where
  asym : ∀ a b, B a b = true → B b a = false
  nt : ∀ a b c, B a b = false → B b c = false → B a c = false
def Ho {α : Type} (B : α → α → Bool) (n : Nat) (κ : Nat → α) : Prop := ∀ i, 0 < i → i < n → B (κ i) (κ ((i - 1) / 2)) = false
def Gr {α : Type} (B : α → α → Bool) (n : Nat) (κ : Nat → α) (i : Nat) : Prop := ∀ c, 0 < c → c < n → (c - 1) / 2 = i → 0 < i → B (κ c) (κ ((i - 1) / 2)) = false
theorem up_ho {α : Type} {B : α → α → Bool} (hB : Ord B) (n : Nat) : ∀ (i : Nat) (κ : Nat → α), i < n → (∀ j, 0 < j → j < n → j ≠ i → B (κ j) (κ ((j - 1) / 2)) = false) → Gr B n κ i → Ho B n (upF B κ i) := by
  intro i
  induction i using Nat.strongRecOn with
  | ind i ih =>
    intro κ hi h1 h2
    rw [upF]
    split
    · rename_i h0
      intro j hj0 hj
      exact h1 j hj0 hj (by omega)
    · rename_i h0
      split
      · rename_i hb
        refine ih _ (by omega) _ (by omega) ?_ ?_
        · intro j hj0 hj hjp
          by_cases e1 : j = i
          · subst e1
            rw [swp_r, swp_l]
            exact hB.asym _ _ hb
          · rw [swp_o _ _ _ _ hjp e1]
            by_cases e2 : (j - 1) / 2 = (i - 1) / 2
            · rw [e2, swp_l]
              have := h1 j hj0 hj e1
              rw [e2] at this
              exact hB.nt _ _ _ this (hB.asym _ _ hb)
            · by_cases e3 : (j - 1) / 2 = i
              · rw [e3, swp_r]
                exact h2 j hj0 hj e3 (by omega)
              · rw [swp_o _ _ _ _ e2 e3]
                exact h1 j hj0 hj e1
        · intro c hc0 hc hcp hp
          rw [swp_o _ _ _ ((((i - 1) / 2) - 1) / 2) (by omega) (by omega)]
          have hpar := h1 ((i - 1) / 2) hp (by omega) (by omega)
          by_cases e1 : c = i
          · subst e1
            rw [swp_r]
            exact hpar
          · rw [swp_o _ _ _ _ (by omega) e1]
            have := h1 c hc0 hc e1
            rw [hcp] at this
            exact hB.nt _ _ _ this hpar
      · rename_i hb
        intro j hj0 hj
        by_cases e1 : j = i
        · subst e1; simpa using hb
        · exact h1 j hj0 hj e1
/-- one step down. -/
theorem step_dn {α : Type} {B : α → α → Bool} (hB : Ord B) {m i c : Nat} {κ : Nat → α} (hc : c < m) (hc0 : 0 < c) (hci : (c - 1) / 2 = i) (hb : B (κ c) (κ i) = true)
    (h1 : ∀ j, 0 < j → j < m → j ≠ i → (j - 1) / 2 ≠ i → B (κ j) (κ ((j - 1) / 2)) = false) (h2 : Gr B m κ i) (hs : ∀ d, 0 < d → d < m → (d - 1) / 2 = i → d ≠ c → B (κ d) (κ c) = false) :
    (∀ j, 0 < j → j < m → (j - 1) / 2 ≠ c → B (swp κ i c j) (swp κ i c ((j - 1) / 2)) = false) ∧ Gr B m (swp κ i c) c := by
  constructor
  · intro j hj0 hj hjc
    by_cases e1 : j = i
    · subst e1
      rw [swp_l, swp_o _ _ _ _ (by omega) (by omega)]
      exact h2 c hc0 hc hci hj0
    · by_cases e2 : j = c
      · subst e2
        rw [swp_r, hci, swp_l]
        exact hB.asym _ _ hb
      · rw [swp_o _ _ _ _ e1 e2]
        by_cases e3 : (j - 1) / 2 = i
        · rw [e3, swp_l]
          exact hs j hj0 hj e3 e2
        · rw [swp_o _ _ _ _ e3 hjc]
          exact h1 j hj0 hj e1 e3
  · intro d hd0 hd hdc _
    rw [hci, swp_l, swp_o _ _ _ _ (by omega) (by omega)]
    have := h1 d hd0 hd (by omega) (by omega)
    rw [hdc] at this
    exact this
theorem dn_ho {α : Type} {B : α → α → Bool} (hB : Ord B) (m : Nat) : ∀ (f : Nat) (κ : Nat → α) (i : Nat), m ≤ i + f → (∀ j, 0 < j → j < m → (j - 1) / 2 ≠ i → B (κ j) (κ ((j - 1) / 2)) = false) → Gr B m κ i → Ho B m (dnF B m f κ i).1
  | 0, κ, i, hm, h1, h2 => fun j hj0 hj => h1 j hj0 hj (by omega)
  | f + 1, κ, i, hm, h1, h2 => by
    by_cases hz : m ≤ 2 * i + 1
    · rw [dnF, if_pos hz]; exact fun j hj0 hj => h1 j hj0 hj (by omega)
    · by_cases hc : 2 * i + 2 < m ∧ B (κ (2 * i + 2)) (κ (2 * i + 1)) = true
      · rw [dn_two hz hc.1 hc.2]
        have hs : ∀ d, 0 < d → d < m → (d - 1) / 2 = i → d ≠ 2 * i + 2 → B (κ d) (κ (2 * i + 2)) = false := fun d hd0 hd hdi hdc => by
          have : d = 2 * i + 1 := by omega
          subst this
          exact hB.asym _ _ hc.2
        by_cases hb : B (κ (2 * i + 2)) (κ i) = true
        · rw [if_pos hb]
          obtain ⟨r1, r2⟩ := step_dn hB hc.1 (by omega) (by omega) hb (fun j a b _ d => h1 j a b d) h2 hs
          exact dn_ho hB m f _ _ (by omega) r1 r2
        · rw [if_neg hb]
          have hb' : B (κ (2 * i + 2)) (κ i) = false := by simpa using hb
          intro j hj0 hj
          by_cases e : (j - 1) / 2 = i
          · rw [e]
            by_cases e2 : j = 2 * i + 2
            · subst e2; exact hb'
            · exact hB.nt _ _ _ (hs j hj0 hj e e2) hb'
          · exact h1 j hj0 hj e
      · rw [dn_one hz hc]
        have hs : ∀ d, 0 < d → d < m → (d - 1) / 2 = i → d ≠ 2 * i + 1 → B (κ d) (κ (2 * i + 1)) = false := fun d hd0 hd hdi hdc => by
          have : d = 2 * i + 2 := by omega
          subst this
          by_cases hh : B (κ (2 * i + 2)) (κ (2 * i + 1)) = true
          · exact absurd ⟨hd, hh⟩ hc
          · simpa using hh
        by_cases hb : B (κ (2 * i + 1)) (κ i) = true
        · rw [if_pos hb]
          obtain ⟨r1, r2⟩ := step_dn hB (by omega) (by omega) (by omega) hb (fun j a b _ d => h1 j a b d) h2 hs
          exact dn_ho hB m f _ _ (by omega) r1 r2
        · rw [if_neg hb]
          have hb' : B (κ (2 * i + 1)) (κ i) = false := by simpa using hb
          intro j hj0 hj
          by_cases e : (j - 1) / 2 = i
          · rw [e]
            by_cases e2 : j = 2 * i + 1
            · subst e2; exact hb'
            · exact hB.nt _ _ _ (hs j hj0 hj e e2) hb'
          · exact h1 j hj0 hj e
theorem push_ho {α : Type} {B : α → α → Bool} (hB : Ord B) {n : Nat} {k : α} {κ : Nat → α} (h : Ho B n κ) : Ho B (n + 1) (upF B (pushG κ n k) n) := by
  refine up_ho hB _ _ _ (by omega) (fun j hj0 hj hjn => ?_) (fun c h0 hc hcn _ => by omega)
  unfold pushG
  rw [if_pos (by omega), if_pos (by omega)]
  exact h j hj0 (by omega)
theorem pop_ho {α : Type} {B : α → α → Bool} (hB : Ord B) {n : Nat} {κ : Nat → α} (h : Ho B (n + 1) κ) : Ho B n (popG B n κ) := by
  refine dn_ho hB _ _ _ _ (by omega) (fun j hj0 hj hjn => ?_) (fun c h0 hc hcn h0' => by omega)
  rw [swp_o _ _ _ _ (by omega) (by omega), swp_o _ _ _ _ (by omega) (by omega)]
  exact h j hj0 (by omega)
theorem ho_root {α : Type} {B : α → α → Bool} (hB : Ord B) {n : Nat} {κ : Nat → α} (h : Ho B n κ) (hr : B (κ 0) (κ 0) = false) : ∀ i, i < n → B (κ i) (κ 0) = false := by
  intro i
  induction i using Nat.strongRecOn with
  | ind i ih =>
    intro hi
    by_cases h0 : i = 0
    · subst h0; exact hr
    · exact hB.nt _ _ _ (h i (by omega) hi) (ih _ (by omega) (by omega))
theorem bf_ord : Ord bf where
  asym a b h := by simp [bf] at h ⊢; omega
  nt a b c h1 h2 := by simp [bf] at h1 h2 ⊢; omega
/-- x is one of the n entries. -/
def Me {α : Type} (κ : Nat → α) (n : Nat) (x : α) : Prop := ∃ i, i < n ∧ κ i = x
theorem me_push {κ : Nat → Int × Int} {n : Nat} {y x : Int × Int} : Me (upF bf (pushG κ n y) n) (n + 1) x ↔ x = y ∨ Me κ n x := by
  refine ((same_up bf (n + 1) n (pushG κ n y) (by omega)).2 x).trans ⟨?_, ?_⟩
  · rintro ⟨i, hi, e⟩
    unfold pushG at e
    by_cases h : i < n
    · rw [if_pos h] at e; exact .inr ⟨i, h, e⟩
    · rw [if_neg h] at e; exact .inl e.symm
  · rintro (rfl | ⟨i, hi, e⟩)
    · exact ⟨n, by omega, by simp [pushG]⟩
    · exact ⟨i, by omega, by simp [pushG, hi, e]⟩
theorem me_pop {κ : Nat → Int × Int} {n : Nat} {x : Int × Int} : Me κ (n + 1) x ↔ x = popG bf n κ n ∨ Me (popG bf n κ) n x := by
  refine ((same_pop bf (n := n) κ).1.2 x).symm.trans ⟨?_, ?_⟩
  · rintro ⟨i, hi, e⟩
    by_cases h : i < n
    · exact .inr ⟨i, h, e⟩
    · have : i = n := by omega
      subst this; exact .inl e.symm
  · rintro (rfl | ⟨i, hi, e⟩)
    · exact ⟨n, by omega, rfl⟩
    · exact ⟨i, by omega, e⟩
theorem min_pop {κ : Nat → Int × Int} {n : Nat} (h : Ho bf (n + 1) κ) {x : Int × Int} (hx : Me κ (n + 1) x) : (popG bf n κ n).2 ≤ x.2 := by
  obtain ⟨i, hi, rfl⟩ := hx
  rw [(same_pop bf κ).2]
  have := ho_root bf_ord h (by simp [bf]) i hi
  simp [bf] at this
  exact this
end Go.Proofs.Ytgebehnlfihliaa
