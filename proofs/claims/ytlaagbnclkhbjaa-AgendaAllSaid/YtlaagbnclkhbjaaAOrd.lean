/- Agenda: the plain law of the heap. -/
import Derived.Test.YtlaagbnclkhbjaaAOps
namespace Go.Proofs.Ytlaagbnclkhbjaa
set_option linter.unusedSimpArgs false
set_option linter.unusedVariables false
/-- places from m on are as they were; the places ahead hold the same items. -/
def Same (m : Nat) (κ κ' : Nat → Nat) : Prop := (∀ i, m ≤ i → κ' i = κ i) ∧ ∀ x, (∃ i, i < m ∧ κ' i = x) ↔ (∃ i, i < m ∧ κ i = x)
theorem Same.refl (m : Nat) (κ : Nat → Nat) : Same m κ κ := ⟨fun _ _ => rfl, fun _ => Iff.rfl⟩
theorem Same.trans {m : Nat} {a b c : Nat → Nat} (h : Same m a b) (k : Same m b c) : Same m a c := ⟨fun i hi => (k.1 i hi).trans (h.1 i hi), fun x => (k.2 x).trans (h.2 x)⟩
theorem Same.mono {m n : Nat} {a b : Nat → Nat} (h : Same m a b) (hn : m ≤ n) : Same n a b := by
  refine ⟨fun i hi => h.1 i (by omega), fun x => ⟨?_, ?_⟩⟩
  · rintro ⟨i, hi, e⟩
    by_cases him : i < m
    · obtain ⟨j, hj, e2⟩ := (h.2 x).1 ⟨i, him, e⟩
      exact ⟨j, by omega, e2⟩
    · exact ⟨i, hi, by rw [← h.1 i (by omega)]; exact e⟩
  · rintro ⟨i, hi, e⟩
    by_cases him : i < m
    · obtain ⟨j, hj, e2⟩ := (h.2 x).2 ⟨i, him, e⟩
      exact ⟨j, by omega, e2⟩
    · exact ⟨i, hi, by rw [h.1 i (by omega)]; exact e⟩
theorem swp_l (κ : Nat → Nat) (i j : Nat) : swp κ i j i = κ j := by simp [swp]
theorem swp_r (κ : Nat → Nat) (i j : Nat) : swp κ i j j = κ i := by unfold swp; split <;> simp_all
theorem swp_o (κ : Nat → Nat) (i j t : Nat) (h1 : t ≠ i) (h2 : t ≠ j) : swp κ i j t = κ t := by simp [swp, h1, h2]
theorem same_swp {m i j : Nat} (κ : Nat → Nat) (hi : i < m) (hj : j < m) : Same m κ (swp κ i j) := by
  refine ⟨fun t ht => swp_o κ i j t (by omega) (by omega), fun x => ⟨?_, ?_⟩⟩
  · rintro ⟨t, ht, e⟩
    by_cases t1 : t = i
    · subst t1; rw [swp_l] at e; exact ⟨j, hj, e⟩
    · by_cases t2 : t = j
      · subst t2; rw [swp_r] at e; exact ⟨i, hi, e⟩
      · rw [swp_o _ _ _ _ t1 t2] at e; exact ⟨t, ht, e⟩
  · rintro ⟨t, ht, e⟩
    by_cases t1 : t = i
    · subst t1; exact ⟨j, hj, by rw [swp_r]; exact e⟩
    · by_cases t2 : t = j
      · subst t2; exact ⟨i, hi, by rw [swp_l]; exact e⟩
      · exact ⟨t, ht, by rw [swp_o _ _ _ _ t1 t2]; exact e⟩
theorem same_up (B : Nat → Nat → Bool) (m : Nat) : ∀ (j : Nat) (κ : Nat → Nat), j < m → Same m κ (upF B κ j) := by
  intro j
  induction j using Nat.strongRecOn with
  | ind j ih =>
    intro κ hj
    rw [upF]
    split
    · exact Same.refl _ _
    · split
      · exact (same_swp κ (by omega) hj).trans (ih _ (by omega) _ (by omega))
      · exact Same.refl _ _
theorem same_dn (B : Nat → Nat → Bool) (m : Nat) : ∀ (f : Nat) (κ : Nat → Nat) (i : Nat), Same m κ (dnF B m f κ i).1
  | 0, κ, i => Same.refl _ _
  | f + 1, κ, i => by
    by_cases hz : m ≤ 2 * i + 1
    · rw [dnF, if_pos hz]; exact Same.refl _ _
    · by_cases hc : 2 * i + 2 < m ∧ B (κ (2 * i + 2)) (κ (2 * i + 1)) = true
      · rw [dn_two hz hc.1 hc.2]
        split
        · exact (same_swp κ (by omega) hc.1).trans (same_dn B m f _ _)
        · exact Same.refl _ _
      · rw [dn_one hz hc]
        split
        · exact (same_swp κ (by omega) (by omega)).trans (same_dn B m f _ _)
        · exact Same.refl _ _
theorem dn_ge (B : Nat → Nat → Bool) (m : Nat) : ∀ (f : Nat) (κ : Nat → Nat) (i : Nat), i ≤ (dnF B m f κ i).2
  | 0, κ, i => Nat.le_refl _
  | f + 1, κ, i => by
    by_cases hz : m ≤ 2 * i + 1
    · rw [dnF, if_pos hz]; exact Nat.le_refl _
    · by_cases hc : 2 * i + 2 < m ∧ B (κ (2 * i + 2)) (κ (2 * i + 1)) = true
      · rw [dn_two hz hc.1 hc.2]
        split
        · have := dn_ge B m f (swp κ i (2 * i + 2)) (2 * i + 2); omega
        · exact Nat.le_refl _
      · rw [dn_one hz hc]
        split
        · have := dn_ge B m f (swp κ i (2 * i + 1)) (2 * i + 1); omega
        · exact Nat.le_refl _
theorem same_fix (B : Nat → Nat → Bool) {n i : Nat} (κ : Nat → Nat) (hi : i < n) : Same n κ (fixF B n κ i) := by
  unfold fixF
  split
  · exact same_dn B n n κ i
  · exact (same_dn B n n κ i).trans (same_up B n i _ hi)
theorem same_rem (B : Nat → Nat → Bool) {n i : Nat} (κ : Nat → Nat) (hi : i < n + 1) : Same (n + 1) κ (remF B n κ i) ∧ remF B n κ i n = κ i := by
  unfold remF
  split
  · rename_i h; subst h; exact ⟨Same.refl _ _, rfl⟩
  · have h2 := same_fix B (swp κ i n) (n := n) (i := i) (by omega)
    exact ⟨(same_swp κ hi (by omega)).trans (h2.mono (by omega)), by rw [h2.1 n (Nat.le_refl _), swp_r]⟩
theorem same_pop (B : Nat → Nat → Bool) {n : Nat} (κ : Nat → Nat) : Same (n + 1) κ (popF B n κ) ∧ popF B n κ n = κ 0 := by
  have h2 := same_dn B n n (swp κ 0 n) 0
  exact ⟨(same_swp κ (by omega) (by omega)).trans (h2.mono (by omega)), by unfold popF; rw [h2.1 n (Nat.le_refl _), swp_r]⟩
/-! the order -/
structure Ord (B : Nat → Nat → Bool) : Prop where
  asym : ∀ a b, B a b = true → B b a = false
  nt : ∀ a b c, B a b = false → B b c = false → B a c = false
def Ho (B : Nat → Nat → Bool) (n : Nat) (κ : Nat → Nat) : Prop := ∀ i, 0 < i → i < n → B (κ i) (κ ((i - 1) / 2)) = false
def Gr (B : Nat → Nat → Bool) (n : Nat) (κ : Nat → Nat) (i : Nat) : Prop := ∀ c, 0 < c → c < n → (c - 1) / 2 = i → 0 < i → B (κ c) (κ ((i - 1) / 2)) = false
theorem up_ho {B : Nat → Nat → Bool} (hB : Ord B) (n : Nat) : ∀ (i : Nat) (κ : Nat → Nat), i < n → (∀ j, 0 < j → j < n → j ≠ i → B (κ j) (κ ((j - 1) / 2)) = false) → Gr B n κ i → Ho B n (upF B κ i) := by
  intro i
  induction i using Nat.strongRecOn with
  | ind i ih =>
    intro κ hi h1 h2
    rw [upF]
    split
    · rename_i h0
      intro j hj0 hj
      exact h1 j hj0 hj (by omega)
    · rename_i h0
      split
      · rename_i hb
        refine ih _ (by omega) _ (by omega) ?_ ?_
        · intro j hj0 hj hjp
          by_cases e1 : j = i
          · subst e1
            rw [swp_r, swp_l]
            exact hB.asym _ _ hb
          · rw [swp_o _ _ _ _ hjp e1]
            by_cases e2 : (j - 1) / 2 = (i - 1) / 2
            · rw [e2, swp_l]
              have := h1 j hj0 hj e1
              rw [e2] at this
              exact hB.nt _ _ _ this (hB.asym _ _ hb)
            · by_cases e3 : (j - 1) / 2 = i
              · rw [e3, swp_r]
                exact h2 j hj0 hj e3 (by omega)
              · rw [swp_o _ _ _ _ e2 e3]
                exact h1 j hj0 hj e1
        · intro c hc0 hc hcp hp
          rw [swp_o _ _ _ ((((i - 1) / 2) - 1) / 2) (by omega) (by omega)]
          have hpar := h1 ((i - 1) / 2) hp (by omega) (by omega)
          by_cases e1 : c = i
          · subst e1
            rw [swp_r]
            exact hpar
          · rw [swp_o _ _ _ _ (by omega) e1]
            have := h1 c hc0 hc e1
            rw [hcp] at this
            exact hB.nt _ _ _ this hpar
      · rename_i hb
        intro j hj0 hj
        by_cases e1 : j = i
        · subst e1; simpa using hb
        · exact h1 j hj0 hj e1
/-- one step down. -/
theorem step_dn {B : Nat → Nat → Bool} (hB : Ord B) {m i c : Nat} {κ : Nat → Nat} (hc : c < m) (hc0 : 0 < c) (hci : (c - 1) / 2 = i) (hb : B (κ c) (κ i) = true)
    (h1 : ∀ j, 0 < j → j < m → j ≠ i → (j - 1) / 2 ≠ i → B (κ j) (κ ((j - 1) / 2)) = false) (h2 : Gr B m κ i) (hs : ∀ d, 0 < d → d < m → (d - 1) / 2 = i → d ≠ c → B (κ d) (κ c) = false) :
    (∀ j, 0 < j → j < m → (j - 1) / 2 ≠ c → B (swp κ i c j) (swp κ i c ((j - 1) / 2)) = false) ∧ Gr B m (swp κ i c) c := by
  constructor
  · intro j hj0 hj hjc
    by_cases e1 : j = i
    · subst e1
      rw [swp_l, swp_o _ _ _ _ (by omega) (by omega)]
      exact h2 c hc0 hc hci hj0
    · by_cases e2 : j = c
      · subst e2
        rw [swp_r, hci, swp_l]
        exact hB.asym _ _ hb
      · rw [swp_o _ _ _ _ e1 e2]
        by_cases e3 : (j - 1) / 2 = i
        · rw [e3, swp_l]
          exact hs j hj0 hj e3 e2
        · rw [swp_o _ _ _ _ e3 hjc]
          exact h1 j hj0 hj e1 e3
  · intro d hd0 hd hdc _
    rw [hci, swp_l, swp_o _ _ _ _ (by omega) (by omega)]
    have := h1 d hd0 hd (by omega) (by omega)
    rw [hdc] at this
    exact this
theorem dn_ho {B : Nat → Nat → Bool} (hB : Ord B) (m : Nat) : ∀ (f : Nat) (κ : Nat → Nat) (i : Nat), m ≤ i + f → (∀ j, 0 < j → j < m → (j - 1) / 2 ≠ i → B (κ j) (κ ((j - 1) / 2)) = false) → Gr B m κ i → Ho B m (dnF B m f κ i).1
  | 0, κ, i, hm, h1, h2 => fun j hj0 hj => h1 j hj0 hj (by omega)
  | f + 1, κ, i, hm, h1, h2 => by
    by_cases hz : m ≤ 2 * i + 1
    · rw [dnF, if_pos hz]; exact fun j hj0 hj => h1 j hj0 hj (by omega)
    · by_cases hc : 2 * i + 2 < m ∧ B (κ (2 * i + 2)) (κ (2 * i + 1)) = true
      · rw [dn_two hz hc.1 hc.2]
        have hs : ∀ d, 0 < d → d < m → (d - 1) / 2 = i → d ≠ 2 * i + 2 → B (κ d) (κ (2 * i + 2)) = false := fun d hd0 hd hdi hdc => by
          have : d = 2 * i + 1 := by omega
          subst this
          exact hB.asym _ _ hc.2
        by_cases hb : B (κ (2 * i + 2)) (κ i) = true
        · rw [if_pos hb]
          obtain ⟨r1, r2⟩ := step_dn hB hc.1 (by omega) (by omega) hb (fun j a b _ d => h1 j a b d) h2 hs
          exact dn_ho hB m f _ _ (by omega) r1 r2
        · rw [if_neg hb]
          have hb' : B (κ (2 * i + 2)) (κ i) = false := by simpa using hb
          intro j hj0 hj
          by_cases e : (j - 1) / 2 = i
          · rw [e]
            by_cases e2 : j = 2 * i + 2
            · subst e2; exact hb'
            · exact hB.nt _ _ _ (hs j hj0 hj e e2) hb'
          · exact h1 j hj0 hj e
      · rw [dn_one hz hc]
        have hs : ∀ d, 0 < d → d < m → (d - 1) / 2 = i → d ≠ 2 * i + 1 → B (κ d) (κ (2 * i + 1)) = false := fun d hd0 hd hdi hdc => by
          have : d = 2 * i + 2 := by omega
          subst this
          by_cases hh : B (κ (2 * i + 2)) (κ (2 * i + 1)) = true
          · exact absurd ⟨hd, hh⟩ hc
          · simpa using hh
        by_cases hb : B (κ (2 * i + 1)) (κ i) = true
        · rw [if_pos hb]
          obtain ⟨r1, r2⟩ := step_dn hB (by omega) (by omega) (by omega) hb (fun j a b _ d => h1 j a b d) h2 hs
          exact dn_ho hB m f _ _ (by omega) r1 r2
        · rw [if_neg hb]
          have hb' : B (κ (2 * i + 1)) (κ i) = false := by simpa using hb
          intro j hj0 hj
          by_cases e : (j - 1) / 2 = i
          · rw [e]
            by_cases e2 : j = 2 * i + 1
            · subst e2; exact hb'
            · exact hB.nt _ _ _ (hs j hj0 hj e e2) hb'
          · exact h1 j hj0 hj e
theorem fix_ho {B : Nat → Nat → Bool} (hB : Ord B) {n i : Nat} {κ : Nat → Nat} (hi : i < n)
    (h1 : ∀ j, 0 < j → j < n → j ≠ i → (j - 1) / 2 ≠ i → B (κ j) (κ ((j - 1) / 2)) = false) (h2 : Gr B n κ i) : Ho B n (fixF B n κ i) := by
  obtain ⟨f, rfl⟩ : ∃ f, n = f + 1 := ⟨n - 1, by omega⟩
  have stay : (∀ c, 0 < c → c < f + 1 → (c - 1) / 2 = i → B (κ c) (κ i) = false) → (dnF B (f + 1) (f + 1) κ i) = (κ, i) → Ho B (f + 1) (fixF B (f + 1) κ i) := fun hc he => by
    unfold fixF
    rw [he, if_neg (by omega)]
    refine up_ho hB _ _ _ hi (fun j hj0 hj hji => ?_) h2
    by_cases e : (j - 1) / 2 = i
    · rw [e]; exact hc j hj0 hj e
    · exact h1 j hj0 hj hji e
  by_cases hz : f + 1 ≤ 2 * i + 1
  · exact stay (fun c a b d => by omega) (by rw [dnF, if_pos hz])
  · by_cases hc : 2 * i + 2 < f + 1 ∧ B (κ (2 * i + 2)) (κ (2 * i + 1)) = true
    · have hs : ∀ d, 0 < d → d < f + 1 → (d - 1) / 2 = i → d ≠ 2 * i + 2 → B (κ d) (κ (2 * i + 2)) = false := fun d hd0 hd hdi hdc => by
        have : d = 2 * i + 1 := by omega
        subst this
        exact hB.asym _ _ hc.2
      by_cases hb : B (κ (2 * i + 2)) (κ i) = true
      · obtain ⟨r1, r2⟩ := step_dn hB hc.1 (by omega) (by omega) hb h1 h2 hs
        have e := dn_two (B := B) (f := f) hz hc.1 hc.2
        rw [if_pos hb] at e
        have hge := dn_ge B (f + 1) f (swp κ i (2 * i + 2)) (2 * i + 2)
        unfold fixF
        rw [e, if_pos (by omega)]
        exact dn_ho hB (f + 1) f _ _ (by omega) r1 r2
      · have hb' : B (κ (2 * i + 2)) (κ i) = false := by simpa using hb
        refine stay (fun d a b hd => ?_) (by rw [dn_two hz hc.1 hc.2, if_neg hb])
        by_cases e2 : d = 2 * i + 2
        · subst e2; exact hb'
        · exact hB.nt _ _ _ (hs d a b hd e2) hb'
    · have hs : ∀ d, 0 < d → d < f + 1 → (d - 1) / 2 = i → d ≠ 2 * i + 1 → B (κ d) (κ (2 * i + 1)) = false := fun d hd0 hd hdi hdc => by
        have : d = 2 * i + 2 := by omega
        subst this
        by_cases hh : B (κ (2 * i + 2)) (κ (2 * i + 1)) = true
        · exact absurd ⟨hd, hh⟩ hc
        · simpa using hh
      by_cases hb : B (κ (2 * i + 1)) (κ i) = true
      · obtain ⟨r1, r2⟩ := step_dn hB (by omega) (by omega) (by omega) hb h1 h2 hs
        have e := dn_one (B := B) (f := f) hz hc
        rw [if_pos hb] at e
        have hge := dn_ge B (f + 1) f (swp κ i (2 * i + 1)) (2 * i + 1)
        unfold fixF
        rw [e, if_pos (by omega)]
        exact dn_ho hB (f + 1) f _ _ (by omega) r1 r2
      · have hb' : B (κ (2 * i + 1)) (κ i) = false := by simpa using hb
        refine stay (fun d a b hd => ?_) (by rw [dn_one hz hc, if_neg hb])
        by_cases e2 : d = 2 * i + 1
        · subst e2; exact hb'
        · exact hB.nt _ _ _ (hs d a b hd e2) hb'
theorem push_ho {B : Nat → Nat → Bool} (hB : Ord B) {n k : Nat} {κ : Nat → Nat} (h : Ho B n κ) : Ho B (n + 1) (upF B (pushF κ n k) n) := by
  refine up_ho hB _ _ _ (by omega) (fun j hj0 hj hjn => ?_) (fun c h0 hc hcn _ => by omega)
  unfold pushF
  rw [if_pos (by omega), if_pos (by omega)]
  exact h j hj0 (by omega)
theorem pop_ho {B : Nat → Nat → Bool} (hB : Ord B) {n : Nat} {κ : Nat → Nat} (h : Ho B (n + 1) κ) : Ho B n (popF B n κ) := by
  refine dn_ho hB _ _ _ _ (by omega) (fun j hj0 hj hjn => ?_) (fun c h0 hc hcn h0' => by omega)
  rw [swp_o _ _ _ _ (by omega) (by omega), swp_o _ _ _ _ (by omega) (by omega)]
  exact h j hj0 (by omega)
theorem rem_ho {B : Nat → Nat → Bool} (hB : Ord B) {n i : Nat} {κ : Nat → Nat} (hi : i < n + 1) (h : Ho B (n + 1) κ) : Ho B n (remF B n κ i) := by
  unfold remF
  split
  · exact fun j hj0 hj => h j hj0 (by omega)
  · refine fix_ho hB (by omega) (fun j hj0 hj hji hjp => ?_) (fun c h0 hc hcn h0' => ?_)
    · rw [swp_o _ _ _ _ (by omega) (by omega), swp_o _ _ _ _ (by omega) (by omega)]
      exact h j hj0 (by omega)
    · rw [swp_o _ _ _ _ (by omega) (by omega), swp_o _ _ _ _ (by omega) (by omega)]
      have a := h c h0 (by omega)
      rw [hcn] at a
      exact hB.nt _ _ _ a (h i h0' (by omega))
theorem ho_root {B : Nat → Nat → Bool} (hB : Ord B) {n : Nat} {κ : Nat → Nat} (h : Ho B n κ) (hr : B (κ 0) (κ 0) = false) : ∀ i, i < n → B (κ i) (κ 0) = false := by
  intro i
  induction i using Nat.strongRecOn with
  | ind i ih =>
    intro hi
    by_cases h0 : i = 0
    · subst h0; exact hr
    · exact hB.nt _ _ _ (h i (by omega) hi) (ih _ (by omega) (by omega))
theorem bef_ord (A O : Nat → Int) : Ord (bef A O) where
  asym a b h := by simp [bef, earlier] at h ⊢; omega
  nt a b c h1 h2 := by simp [bef, earlier] at h1 h2 ⊢; omega
end Go.Proofs.Ytlaagbnclkhbjaa
