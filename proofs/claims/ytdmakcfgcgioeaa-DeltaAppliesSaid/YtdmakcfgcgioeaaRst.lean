/- The law of Rows1 for a drawn region whose last operation stores what the others yield. -/
import Derived.Test.YtdmakcfgcgioeaaRows3
namespace Go.Proofs.Ytdmakcfgcgioeaa
open Go.RowKit Go.Sort
set_option linter.unusedVariables false
set_option linter.unusedSimpArgs false
namespace Rws
section
variable {P : Program} {Q : Exit → Act → World → Prop}
/-- the last operation's place, held by one that does nothing. -/
def dum (o : Oper) : Oper := { o with dst := none, op := .move (.const undef), guard := none }
def lits (L : List Oper) (n : Nat) (o : Oper) : List Oper := L.take n ++ [dum o]
theorem lits_lt {L : List Oper} {n : Nat} {o : Oper} (h : L[n]? = some o) {i : Nat} (hi : i < n) : (lits L n o)[i]? = L[i]? := by
  have hn := (List.getElem?_eq_some_iff.1 h).1
  unfold lits
  rw [List.getElem?_append_left (by rw [List.length_take]; omega), List.getElem?_take_of_lt hi]
theorem lits_at {L : List Oper} {n : Nat} {o : Oper} (h : L[n]? = some o) : (lits L n o)[n]? = some (dum o) := by
  have hn := (List.getElem?_eq_some_iff.1 h).1
  have hl : (L.take n).length = n := by rw [List.length_take]; omega
  unfold lits
  rw [List.getElem?_append_right (by omega), hl, Nat.sub_self]
  rfl
theorem lits_len {L : List Oper} {n : Nat} {o : Oper} (h : L[n]? = some o) : (lits L n o).length = n + 1 := by
  have hn := (List.getElem?_eq_some_iff.1 h).1
  unfold lits
  rw [List.length_append, List.length_take]
  simp; omega
theorem OblAll_snoc {ops : List Oper} {ks : List Mk} {w0 : World} {a0 : Act} {o : Oper} {k : Mk} : ∀ (s : Nat) (l : List Oper) (m : List Mk), l.length = m.length → OblAll P Q ops ks w0 a0 s l m → Obl P Q ops ks w0 a0 (s + l.length) o k → OblAll P Q ops ks w0 a0 s (l ++ [o]) (m ++ [k])
  | s, [], [], _, _, h => ⟨by simpa using h, trivial⟩
  | s, x :: l, y :: m, hl, h, h2 => ⟨h.1, OblAll_snoc (s + 1) l m (by simpa using hl) h.2 (by rw [show s + 1 + l.length = s + (x :: l).length by simp; omega]; exact h2)⟩
  | s, [], y :: m, hl, _, _ => by simp at hl
  | s, x :: l, [], hl, _, _ => by simp at hl
theorem getD_set_self {listed : Array Bool} {i : Nat} (h : i < listed.size) (d : Bool) : (listed.setIfInBounds i true).getD i d = true := by
  simp [h]
theorem MFin_take {L : List Oper} {n : Nat} {o : Oper} (hn : L[n]? = some o) (K : Nat → Mk) (ν : Nat → Value) (t : Array Value) : ∀ k, k ≤ n → MFin (lits L n o) K ν t k = MFin L K ν t k
  | 0, _ => rfl
  | k + 1, hk => by
    rw [MFin, MFin, lits_lt hn (by omega), MFin_take hn K ν t k (by omega)]
/-- the last one waits for all others. -/
def sinkB (o : Oper) (n : Nat) : Bool := (List.range n).all fun i => bindsTo o i
theorem wp_rows_st {id : Nat} {L : List Oper} (n : Nat) (o : Oper) (ks : List Mk) {w : World} {a0 : Act} (hm : P.follows .mixedOrders = true) (hn : L[n]? = some o) (hlen : L.length = n + 1) (hk : ks.length = n) (hg : o.guard = none) (hs : sinkB o n = true)
    (hB : chkB (lits L n o) ((ks ++ [Mk.q undef]).map Mk.tag) a0.tmps.size = true) (hO : OblAll P Q (lits L n o) (ks ++ [Mk.q undef]) w.drew a0 0 (L.take n) ks)
    (hQ : ∀ (ν : Nat → Value) (W : World), RowKit.Below w.heap.size w W → (∀ i e size m xs c s, i < n → kOf (ks ++ [Mk.q undef]) i = .row e size m xs c s → (∀ j, (kOf (ks ++ [Mk.q undef]) j).con ≠ some i) → ownsR W w.heap.size e size (ν i) m xs) →
      wpList P L.toArray Q [o] ⟨MFin L (kOf (ks ++ [Mk.q undef])) ν a0.tmps n, a0.defers⟩ W) :
    (Code.region id L.toArray true).wp P Q a0 w := by
  have hO' : OblAll P Q (lits L n o) (ks ++ [Mk.q undef]) w.drew a0 0 (lits L n o) (ks ++ [Mk.q undef]) := by
    refine OblAll_snoc 0 _ _ (by rw [List.length_take]; omega) hO ?_
    refine obl_q (fun a W _ _ _ => ?_)
    show (do pure (Next.value (a.eval (.const undef))) : Sem Next).run P W = _
    rfl
  have R := rreg_of (P := P) (Q := Q) hB hO'
  obtain ⟨ops, hops⟩ : ∃ ops, ops = (lits L n o).toArray := ⟨_, rfl⟩
  rw [← hops] at R
  have hsz : ops.size = n + 1 := by rw [hops]; simp [lits_len hn]
  have hlt : ∀ i, i < n → ops[i]? = L.toArray[i]? := fun i hi => by rw [hops]; simp [lits_lt hn hi]
  have hat : ops[n]? = some (dum o) := by rw [hops]; simp [lits_at hn]
  have hLat : L.toArray[n]? = some o := by simpa using hn
  have hready : ∀ listed i, i ∈ Region.ready .any L.toArray listed ↔ i ∈ Region.ready .any ops listed := fun listed i => by
    rw [mem_ready, mem_ready]
    rcases Nat.lt_trichotomy i n with h | h | h
    · rw [hlt i h]
    · subst h
      rw [hat, hLat]
      constructor
      · rintro ⟨h1, o', h2, h3⟩
        cases h2
        exact ⟨h1, _, rfl, h3⟩
      · rintro ⟨h1, o', h2, h3⟩
        cases h2
        exact ⟨h1, _, rfl, h3⟩
    · have e1 : ops[i]? = none := Array.getElem?_eq_none (by omega)
      have e2 : L.toArray[i]? = none := Array.getElem?_eq_none (by simp; omega)
      rw [e1, e2]
  refine wp_region_any hm ?_
  refine wpAny_inv (fun listed a W => listed.size = n + 1 ∧ ((listed.getD n true = false ∧ ∃ ν, RInv ops (kOf (ks ++ [Mk.q undef])) w.drew a0 listed ν a W) ∨ ((∀ i, i ≤ n → listed.getD i true = true) ∧ Q .normal a W))) ?_ ?_ _ _ _ _ (by simp [unl_rep]) ⟨by simp [hlen], .inl ⟨by simp [hlen], fun _ => undef, ?_⟩⟩
  · rintro listed a W i ⟨hls, h⟩ hr
    have hr' := (hready listed i).1 hr
    obtain ⟨hun, oi, hoi, hdep⟩ := mem_ready.1 hr'
    have hin : i ≤ n := by have := (Array.getElem?_eq_some_iff.1 hoi).1; omega
    rcases h with ⟨h1, ν, hI⟩ | ⟨h1, h2⟩
    · rcases Nat.lt_or_ge i n with hi | hi
      · have hst := rows_step R listed ν a W i hI (by omega) hr'
        have hne : ¬ i = n := by omega
        have hst2 : wpOp P L.toArray Q i (fun a' W' => ∃ ν', RInv ops (kOf (ks ++ [Mk.q undef])) w.drew a0 (listed.setIfInBounds i true) ν' a' W') a W := by
          unfold wpOp at hst ⊢
          rw [← hlt i hi, hoi]
          rw [hoi] at hst
          have hgi := R.guard i oi hoi
          have w1 : ∀ y, Region.wanted oi y = true := fun y => by unfold Region.wanted; rw [hgi]
          simp only [w1, if_true] at hst ⊢
          exact hst
        refine wpOp_mono (fun a' W' h => ⟨by simp [hls], .inl ⟨?_, h⟩⟩) hst2
        rw [getD_set_ne true (by omega)]
        exact h1
      · obtain rfl : i = n := by omega
        have hall : ∀ j, j < i → did listed j := fun j hj => by
          have hb := List.all_eq_true.1 hs j (List.mem_range.2 hj)
          obtain ⟨e, he, hbe⟩ := Array.any_eq_true'.1 hb
          simp only [Bool.and_eq_true, beq_iff_eq] at hbe
          rw [hat] at hoi
          cases hoi
          have := hdep e he hbe.1
          rw [hbe.2] at this
          exact this
        have hfin : a = ⟨MFin L (kOf (ks ++ [Mk.q undef])) ν a0.tmps i, a0.defers⟩ := by
          obtain ⟨t, df⟩ := a
          have e1 := hI.defers
          simp only at e1
          subst e1
          congr 1
          apply Array.ext_getElem?
          intro d
          obtain ⟨m1, m2⟩ := MFin_get R ν d i (by omega)
          have e2 : MFin ops.toList (kOf (ks ++ [Mk.q undef])) ν a0.tmps i = MFin L (kOf (ks ++ [Mk.q undef])) ν a0.tmps i := by
            rw [hops]; exact MFin_take hn _ _ _ _ (Nat.le_refl _)
          rw [e2] at m1 m2
          by_cases hex : ∃ (j : Nat) (o : Oper), j < i ∧ ops[j]? = some o ∧ o.dst = some d
          · obtain ⟨j, oj, h0, h1, h2⟩ := hex
            rw [m1 j oj h0 h1 h2]
            exact hI.slot j oj d h1 h2 (hall j h0)
          · rw [m2 fun j oj h0 h1 h2 => hex ⟨j, oj, h0, h1, h2⟩]
            refine hI.rest d fun j oj g1 g2 _ => ?_
            have hj : j ≤ i := by have := (Array.getElem?_eq_some_iff.1 g1).1; omega
            rcases Nat.lt_or_ge j i with h3 | h3
            · exact hex ⟨j, oj, h3, g1, g2⟩
            · obtain rfl : j = i := by omega
              rw [hat] at g1
              cases g1
              cases g2
        have hq := hQ ν W ((show RowKit.Below w.heap.size w w.drew from (Below.refl _ _).drew).trans hI.below) (fun j e size m xs c s hj g1 g2 => hI.row j e size m xs c s g1 (hall j hj) (fun ⟨x, hx, _⟩ => g2 x hx))
        rw [← hfin] at hq
        have hw : wpOp P L.toArray Q i (wpList P L.toArray Q []) a W := by unfold wpOp; simp only [hLat]; exact hq
        refine wpOp_mono (fun a' W' h => ⟨by simp [hls], .inr ⟨fun j hj => ?_, h⟩⟩) hw
        by_cases hji : j = i
        · subst hji; exact getD_set_self (by omega) _
        · rw [getD_set_ne true (fun e => hji e.symm)]
          have := hall j (by omega)
          unfold did at this
          have hjl : j < listed.size := by omega
          simp [hjl] at this ⊢
          exact this
    · rw [h1 i hin] at hun
      cases hun
  · rintro listed a W ⟨hls, h⟩ hr
    rcases h with ⟨h1, ν, hI⟩ | ⟨h1, h2⟩
    · have hr2 : Region.ready .any ops listed = [] := by
        cases h9 : Region.ready .any ops listed with
        | nil => rfl
        | cons i l =>
          have : i ∈ Region.ready .any L.toArray listed := (hready listed i).2 (by rw [h9]; exact List.mem_cons_self)
          rw [hr] at this
          cases this
      have := all_did R (by omega) hr2 (n + 1) n (by omega) (by omega)
      unfold did at this
      have hjl : n < listed.size := by omega
      simp [hjl] at this h1
      rw [this] at h1
      cases h1
    · exact h2
  · have hno : ∀ i, ¬ did (Array.replicate L.toArray.size false) i := fun i => by
      unfold did
      rcases Nat.lt_or_ge i L.toArray.size with h | h
      · simp at h; simp [h]
      · simp at h; simp [h]
    exact ⟨Below.refl _ _, rfl, rfl, fun i _ _ _ _ h => absurd h (hno i), fun _ _ => rfl, fun i _ _ _ _ _ _ _ h => absurd h (hno i), fun i _ _ _ h => absurd h (hno i), fun i _ _ h => absurd h (hno i), fun i _ _ h => absurd h (hno i)⟩
end
end Rws
end Go.Proofs.Ytdmakcfgcgioeaa
