/- Intent: the plain laws of IntentLists and IntentEnds. -/
import Derived.Test.YtgebehnlfihliaaIn17
import Derived.Test.YtgebehnlfihliaaAppSrc
namespace Go.Proofs.Ytgebehnlfihliaa
open Go.RowKit Go.Maps
set_option linter.unusedSimpArgs false
set_option linter.unusedVariables false
theorem snd_to {I : In} (h1 : soundE I.T = 0) (h2 : sizesB I = true) (h3 : formB I = true) (h4 : dupB (qE I) I.ne = false) (h5 : dupB (qW I) I.nw = false) : soundI I = 0 := by
  unfold soundI
  rw [h1, h2, h3, h4, h5]
  rfl
theorem wnt_cases {I : In} (hs : soundI I = 0) (sw po : Int) (X : BitVec 128) : wnt I sw po X = (0, false) ∨ ∃ k, k < I.ne ∧ 0 ≤ edgeF I.T sw po ∧ fidx (adB I X) I.ne = (k : Int) ∧ wok I sw po X k = true ∧ wnt I sw po X = ((k : Int), true) := by
  unfold wnt
  by_cases h1 : edgeF I.T sw po < 0
  · exact .inl (by rw [if_pos (Or.inr h1)])
  rw [if_neg (by rw [hs]; omega)]
  rcases fidx_cases (adB I X) I.ne with ⟨h2, _⟩ | ⟨k, hk, _, _, h2⟩
  · exact .inl (by rw [if_pos (by rw [h2]; decide)])
  · rw [if_neg (by rw [h2]; omega), h2, Int.toNat_natCast]
    cases h3 : wok I sw po X k with
    | false => exact .inl (by simp)
    | true => exact .inr ⟨k, hk, by omega, rfl, h3, by simp⟩
theorem wnt_hit {I : In} (hs : soundI I = 0) {sw po : Int} {X : BitVec 128} {k : Nat} (h0 : 0 ≤ edgeF I.T sw po) (h2 : fidx (adB I X) I.ne = (k : Int)) (h3 : wok I sw po X k = true) : wnt I sw po X = ((k : Int), true) := by
  unfold wnt
  rw [if_neg (by rw [hs]; omega), if_neg (by rw [h2]; omega), h2, Int.toNat_natCast, if_pos h3]
def alone (I : In) : In := { I with np := 0 }
def more (I : In) (x y : Int) : In := { I with np := I.np + 1, pe := fun k => if k < I.np then I.pe k else (x, y) }
theorem alone_snd {I : In} (h : Snd I) : soundI (alone I) = 0 := by
  have h2 := h.sizes
  have h3 := h.form
  unfold sizesB at h2
  unfold formB at h3
  rw [Bool.and_eq_true, decide_eq_true_eq] at h2
  rw [Bool.and_eq_true, Bool.and_eq_true, Bool.and_eq_true] at h3
  refine snd_to h.s ?_ ?_ h.dupE h.dup
  · unfold sizesB
    rw [Bool.and_eq_true, decide_eq_true_eq]
    exact ⟨⟨h2.1.1, h2.1.2.1, Nat.zero_le _, h2.1.2.2.2⟩, h2.2⟩
  · unfold formB
    rw [Bool.and_eq_true, Bool.and_eq_true, Bool.and_eq_true]
    exact ⟨⟨⟨rfl, h3.1.1.2⟩, h3.1.2⟩, h3.2⟩
theorem more_snd {I : In} (h : Snd I) {x y : Int} (hx : tenB I.ten x = true) (hy : tenB I.ten y = true) (hn : I.np + 1 ≤ 16) : soundI (more I x y) = 0 := by
  have h2 := h.sizes
  have h3 := h.form
  unfold sizesB at h2
  unfold formB at h3
  rw [Bool.and_eq_true, decide_eq_true_eq] at h2
  rw [Bool.and_eq_true, Bool.and_eq_true, Bool.and_eq_true] at h3
  refine snd_to h.s ?_ ?_ h.dupE h.dup
  · unfold sizesB
    rw [Bool.and_eq_true, decide_eq_true_eq]
    exact ⟨⟨h2.1.1, h2.1.2.1, hn, h2.1.2.2.2⟩, h2.2⟩
  · unfold formB
    rw [Bool.and_eq_true, Bool.and_eq_true, Bool.and_eq_true]
    refine ⟨⟨⟨all_t fun i hi => ?_, h3.1.1.2⟩, h3.1.2⟩, h3.2⟩
    show (tenB I.ten ((if i < I.np then I.pe i else (x, y)).1) && tenB I.ten ((if i < I.np then I.pe i else (x, y)).2)) = true
    by_cases hi2 : i < I.np
    · rw [if_pos hi2]; exact all_of h3.1.1.1 hi2
    · rw [if_neg hi2, hx, hy]; rfl
theorem any_mono {p q : Nat → Bool} {n m : Nat} (hnm : n ≤ m) (h : ∀ i, i < n → p i = true → q i = true) (ha : anyB p n = true) : anyB q m = true := by
  unfold anyB at ha ⊢
  rw [List.any_eq_true] at ha ⊢
  obtain ⟨i, hi, h2⟩ := ha
  rw [List.mem_range] at hi
  exact ⟨i, by rw [List.mem_range]; omega, h i hi h2⟩
theorem al_alone {I : In} {a b : Int} (h : alB (alone I) a b = true) : a = b ∧ alB I a b = true := by
  unfold alB at h ⊢
  rw [Bool.and_eq_true, Bool.or_eq_true] at h
  have hab : a = b := by
    rcases h.2 with h2 | h2
    · exact of_decide_eq_true h2
    · simp [anyB, alone] at h2
  refine ⟨hab, ?_⟩
  rw [Bool.and_eq_true, Bool.or_eq_true]
  exact ⟨h.1, .inl (decide_eq_true hab)⟩
theorem al_more {I : In} {a b x y : Int} (h : alB I a b = true) : alB (more I x y) a b = true := by
  unfold alB at h ⊢
  rw [Bool.and_eq_true, Bool.or_eq_true] at h ⊢
  refine ⟨h.1, h.2.imp id fun h2 => any_mono (m := (more I x y).np) (Nat.le_succ _) (fun i hi h3 => ?_) h2⟩
  show prB a b ((if i < I.np then I.pe i else (x, y)).1) ((if i < I.np then I.pe i else (x, y)).2) = true
  rw [if_pos hi]; exact h3
theorem wok_alone {I : In} {sw po : Int} {X : BitVec 128} {k : Nat} (h : wok (alone I) sw po X k = true) : edgeF I.T sw po = (I.en k).ten ∧ wok I sw po X k = true := by
  unfold wok at h ⊢
  rw [Bool.and_eq_true, Bool.and_eq_true] at h ⊢
  obtain ⟨h1, h2⟩ := al_alone h.1.1
  exact ⟨h1, ⟨h2, h.1.2⟩, h.2⟩
theorem wok_more {I : In} {sw po x y : Int} {X : BitVec 128} {k : Nat} (h : wok I sw po X k = true) : wok (more I x y) sw po X k = true := by
  unfold wok at h ⊢
  rw [Bool.and_eq_true, Bool.and_eq_true] at h ⊢
  exact ⟨⟨al_more h.1.1, h.1.2⟩, h.2⟩
/-- who is alone reaches its own alone. -/
theorem alone_law {I : In} (hs : soundI I = 0) (sw po : Int) (X : BitVec 128) : wnt (alone I) sw po X = (0, false) ∨ ∃ k, k < I.ne ∧ edgeF I.T sw po = (I.en k).ten ∧ wnt (alone I) sw po X = ((k : Int), true) ∧ wnt I sw po X = ((k : Int), true) := by
  rcases wnt_cases (alone_snd (snd_of hs)) sw po X with h | ⟨k, hk, h0, h1, h2, h3⟩
  · exact .inl h
  · obtain ⟨h4, h5⟩ := wok_alone h2
    exact .inr ⟨k, hk, h4, h3, wnt_hit hs h0 h1 h5⟩
theorem more_law {I : In} (hs : soundI I = 0) (sw po : Int) (X : BitVec 128) {x y : Int} (hx : tenB I.ten x = true) (hy : tenB I.ten y = true) (hn : I.np + 1 ≤ 16) : wnt I sw po X = (0, false) ∨ wnt (more I x y) sw po X = wnt I sw po X := by
  rcases wnt_cases hs sw po X with h | ⟨k, hk, h0, h1, h2, h3⟩
  · exact .inl h
  · exact .inr (by rw [h3]; exact wnt_hit (more_snd (snd_of hs) hx hy hn) h0 h1 (wok_more h2))
theorem NA.alone {W : World} {r : Ir} {I : In} (h : NA W r I) : NA W (noP r) (alone I) :=
  ⟨h.ta, ⟨Nat.le_refl _, Nat.zero_le _, 0, 0, fun h => by simp [Go.Proofs.Ytgebehnlfihliaa.alone] at h, fun i k hi => by simp [Go.Proofs.Ytgebehnlfihliaa.alone] at hi⟩, h.wy, h.en, h.ac⟩
/-- an intent whose lists begin with a line that forbids. -/
def lined (I : In) (V C : BitVec 128) : In := { I with na := 1 + I.na, ac := fun k => if k = 0 then ⟨V, C, false⟩ else I.ac (k - 1) }
theorem per_lined {I : In} {V C X : BitVec 128} (h : Hd.perB (lined I V C) X = true) : Hd.perB I X = true ∧ cubeHas V C X = false := by
  have hs : ∀ k, Hd.hasB (lined I V C) X (k + 1) = Hd.hasB I X k := fun k => rfl
  have h0 : Hd.hasB (lined I V C) X 0 = cubeHas V C X := rfl
  cases hc : cubeHas V C X with
  | true =>
    rw [Hd.perB_hit (k := 0) (by show 0 < 1 + I.na; omega) (h0.trans hc) (fun i hi => by omega)] at h
    cases h
  | false =>
    refine ⟨?_, rfl⟩
    rcases fidx_cases (Hd.hasB I X) I.na with ⟨_, h2⟩ | ⟨k, hk, h2, h3, _⟩
    · rw [Hd.perB_none (fun i hi => ?_)] at h
      · cases h
      · cases i with
        | zero => exact h0.trans hc
        | succ i => rw [hs]; exact h2 i (by have : i + 1 < 1 + I.na := hi; omega)
    · rw [Hd.perB_hit hk h2 h3]
      rw [Hd.perB_hit (k := k + 1) (by show k + 1 < 1 + I.na; omega) (by rw [hs]; exact h2) (fun i hi => ?_)] at h
      · exact h
      · cases i with
        | zero => exact h0.trans hc
        | succ i => rw [hs]; exact h3 i (by omega)
theorem lists_law {I : In} {V C : BitVec 128} (h1 : soundI (lined I V C) = 0) (h2 : soundI I = 0) (sw po : Int) (X : BitVec 128) : ((wnt (lined I V C) sw po X).2 = true → (wnt I sw po X).2 = true) ∧ (V = 0 → C = 0 → (wnt (lined I V C) sw po X).2 = false) := by
  rcases wnt_cases h1 sw po X with h | ⟨k, hk, h0, h3, h4, h⟩
  · rw [h]; exact ⟨fun h => (by cases h), fun _ _ => rfl⟩
  · have h5 : wok (lined I V C) sw po X k = ((alB I (edgeF I.T sw po) (I.en k).ten && Hd.perB (lined I V C) X) && chainB I.T sw (viaL I (edgeF I.T sw po) (I.en k).ten I.nw ++ [(I.en k).sw])) := rfl
    rw [h5, Bool.and_eq_true, Bool.and_eq_true] at h4
    obtain ⟨h6, h7⟩ := per_lined h4.1.2
    refine ⟨fun _ => ?_, fun hV hC => ?_⟩
    · rw [wnt_hit h2 h0 h3]
      unfold wok
      rw [Bool.and_eq_true, Bool.and_eq_true]
      exact ⟨⟨h4.1.1, h6⟩, h4.2⟩
    · subst hV hC
      exfalso
      have : cubeHas 0 0 X = true := by simp [cubeHas, cubeOk]
      rw [this] at h7
      cases h7
/-- an intent with one endpoint more. -/
def ended (I : In) (z : En) : In := { I with ne := I.ne + 1, en := fun k => if k < I.ne then I.en k else z }
theorem en_ended {I : In} {z : En} {k : Nat} (hk : k < I.ne) : (ended I z).en k = I.en k := if_pos hk
theorem en_last {I : In} {z : En} : (ended I z).en I.ne = z := if_neg (Nat.lt_irrefl _)
theorem fidx_same {p q : Nat → Bool} : ∀ n, (∀ i, i < n → p i = q i) → fidx p n = fidx q n
  | 0, _ => rfl
  | n + 1, h => by simp only [fidx, fidx_same n (fun i hi => h i (by omega)), h n (Nat.lt_succ_self n)]
theorem ends_other {I : In} {z : En} (h1 : soundI I = 0) (h2 : soundI (ended I z) = 0) (sw po : Int) {X : BitVec 128} (hz : ¬ (n32 X : Int) = z.addr) : wnt (ended I z) sw po X = wnt I sw po X := by
  have ha : ∀ i, i < I.ne → adB (ended I z) X i = adB I X i := fun i hi => by unfold adB; rw [en_ended hi]
  have hl : adB (ended I z) X I.ne = false := by unfold adB; rw [en_last]; exact decide_eq_false fun e => hz e.symm
  have hT : (ended I z).T = I.T := rfl
  rcases fidx_cases (adB I X) I.ne with ⟨_, h3⟩ | ⟨k, hk, h3, h4, _⟩
  · have e1 : fidx (adB I X) I.ne = -1 := fidx_none h3
    have e2 : fidx (adB (ended I z) X) (ended I z).ne = -1 := fidx_none fun i hi => by
      have hi : i < I.ne + 1 := hi
      by_cases h : i < I.ne
      · rw [ha i h]; exact h3 i h
      · obtain rfl : i = I.ne := by omega
        exact hl
    unfold wnt
    rw [e1, e2, h1, h2, hT]
    simp
  · have e1 : fidx (adB I X) I.ne = (k : Int) := fidx_hit hk h3 h4
    have e2 : fidx (adB (ended I z) X) (ended I z).ne = (k : Int) := fidx_hit (Nat.lt_succ_of_lt hk) (by rw [ha k hk]; exact h3) fun i hi => by rw [ha i (by omega)]; exact h4 i hi
    have hk2 : wok (ended I z) sw po X k = wok I sw po X k := by
      unfold wok
      rw [en_ended hk]
      rfl
    unfold wnt
    rw [e1, e2, h1, h2, hT, Int.toNat_natCast, hk2]
theorem ends_own {I : In} {z : En} (h1 : soundI I = 0) (h2 : soundI (ended I z) = 0) (sw po : Int) {X : BitVec 128} (hz : (n32 X : Int) = z.addr) : (wnt I sw po X).2 = false ∧ ((wnt (ended I z) sw po X).2 = false ∨ (wnt (ended I z) sw po X).1 = (I.ne : Int)) := by
  have hd := (snd_of h2).dupE
  have hno : ∀ i, i < I.ne → adB I X i = false := fun i hi => by
    cases h : adB I X i with
    | false => rfl
    | true =>
      unfold adB at h
      rw [decide_eq_true_eq, hz] at h
      have h9 := dup_yes (q := qE (ended I z)) (n := (ended I z).ne) (i := i) (j := I.ne) (Nat.lt_succ_self _) hi (by
        unfold qE
        rw [en_ended hi, en_last, h]
        exact decide_eq_true rfl)
      rw [h9] at hd
      cases hd
  constructor
  · unfold wnt
    rw [fidx_none hno]
    simp
  · have e2 : fidx (adB (ended I z) X) (ended I z).ne = (I.ne : Int) := fidx_hit (Nat.lt_succ_self _) (by unfold adB; rw [en_last]; exact decide_eq_true hz.symm) fun i hi => by
      have := hno i hi
      unfold adB at this ⊢
      rw [en_ended hi]; exact this
    unfold wnt
    rw [e2]
    split
    · exact .inl rfl
    · split
      · exact .inl rfl
      · split
        · exact .inr rfl
        · exact .inl rfl
end Go.Proofs.Ytgebehnlfihliaa
