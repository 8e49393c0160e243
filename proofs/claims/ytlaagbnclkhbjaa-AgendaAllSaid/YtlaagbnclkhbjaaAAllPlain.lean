/- Agenda: what comes due, in all: plainly. -/
import Derived.Test.YtlaagbnclkhbjaaAApp
namespace Go.Proofs.Ytlaagbnclkhbjaa
set_option linter.unusedSimpArgs false
set_option linter.unusedVariables false
theorem DueR.all {now : Int} {l : List (Int × Int)} {o : List Int} {r : List (Int × Int)} (h : DueR now l o r) (T : Int → Int) (hT : ∀ y ∈ l, T y.2 = y.1) :
    (∀ x ∈ o, T x ≤ now ∧ ∃ y ∈ l, y.2 = x) ∧ (∀ y ∈ r, now < y.1 ∧ y ∈ l) ∧ o.Pairwise (fun a b => T a ≤ T b) ∧ (l.map (·.2)).Perm (o ++ r.map (·.2)) := by
  induction h with
  | stop h1 => exact ⟨by simp, fun y hy => ⟨h1 y hy, hy⟩, List.Pairwise.nil, by simp⟩
  | @step pre post y out rest h1 h2 h3 h4 ih =>
    have hy := hT y (by simp)
    obtain ⟨a, b, c, d⟩ := ih (fun z hz => hT z (by
      rw [List.mem_append] at hz ⊢
      rcases hz with hz | hz
      · exact .inl hz
      · exact .inr (by simp [hz])))
    have sub : ∀ z, z ∈ pre ++ post → z ∈ pre ++ y :: post := fun z hz => by
      rw [List.mem_append] at hz ⊢
      rcases hz with hz | hz
      · exact .inl hz
      · exact .inr (by simp [hz])
    refine ⟨fun x hx => ?_, fun z hz => ⟨(b z hz).1, sub z (b z hz).2⟩, ?_, ?_⟩
    · rw [List.mem_cons] at hx
      rcases hx with rfl | hx
      · exact ⟨by rw [hy]; exact h1, y, by simp, rfl⟩
      · obtain ⟨q1, z, hz, q2⟩ := a x hx
        exact ⟨q1, z, sub z hz, q2⟩
    · rw [List.pairwise_cons]
      refine ⟨fun x hx => ?_, c⟩
      obtain ⟨_, z, hz, rfl⟩ := a x hx
      rw [hy, hT z (sub z hz)]
      rw [List.mem_append] at hz
      rcases hz with hz | hz
      · have := h2 z hz; omega
      · exact h3 z hz
    · have e : ((pre ++ y :: post).map (·.2)).Perm (y.2 :: ((pre ++ post).map (·.2))) := by
        rw [List.map_append, List.map_append, List.map_cons]
        exact List.perm_middle
      exact e.trans (List.Perm.cons _ d)
/-- the moments of the first k. -/
def mk (ms : Nat → Int) (k : Nat) : List (Int × Int) := (List.range k).map fun j => (ms j, (j : Int))
theorem mk_succ (ms : Nat → Int) (k : Nat) : mk ms (k + 1) = mk ms k ++ [(ms k, (k : Int))] := by simp [mk, List.range_succ]
theorem mk_len (ms : Nat → Int) (k : Nat) : (mk ms k).length = k := by simp [mk]
theorem mk_has (ms : Nat → Int) (k : Nat) : hasId (mk ms k) (k : Int) = false := by
  unfold hasId mk
  rw [List.any_eq_false]
  intro y hy
  obtain ⟨j, hj, rfl⟩ := List.mem_map.1 hy
  rw [List.mem_range] at hj
  simp
  omega
/-- the order in which all come due. -/
theorem all_due {ms : Nat → Int} {n : Nat} {cut : Int} {o1 o2 : List Int} {r1 r2 : List (Int × Int)} (hms : ∀ j, j < n → ms j ≤ 65535) (h1 : DueR cut (mk ms n) o1 r1) (h2 : DueR 65536 r1 o2 r2) :
    r2 = [] ∧ ∃ κ : Nat → Nat, (∀ i, i < n → (o1 ++ o2)[i]? = some ((κ i : Nat) : Int) ∧ κ i < n ∧ (ms (κ i) ≤ cut ↔ i < o1.length)) ∧ (o1 ++ o2).length = n ∧ (∀ i j, i < n → j < n → κ i = κ j → i = j) ∧ ∀ i, 0 < i → i < n → ms (κ (i - 1)) ≤ ms (κ i) := by
  have hT : ∀ y ∈ mk ms n, (fun x : Int => ms x.toNat) y.2 = y.1 := fun y hy => by
    obtain ⟨j, hj, rfl⟩ := List.mem_map.1 hy
    simp
  obtain ⟨a1, b1, c1, d1⟩ := h1.all (fun x => ms x.toNat) hT
  have hT2 : ∀ y ∈ r1, (fun x : Int => ms x.toNat) y.2 = y.1 := fun y hy => hT y (b1 y hy).2
  obtain ⟨a2, b2, c2, d2⟩ := h2.all (fun x => ms x.toNat) hT2
  have hr2 : r2 = [] := by
    rw [List.eq_nil_iff_forall_not_mem]
    intro y hy
    obtain ⟨q1, q2⟩ := b2 y hy
    obtain ⟨j, hj, rfl⟩ := List.mem_map.1 (b1 y q2).2
    rw [List.mem_range] at hj
    have := hms j hj
    simp at q1
    omega
  subst hr2
  have hperm : ((mk ms n).map (·.2)).Perm (o1 ++ o2) := by
    refine d1.trans (List.Perm.append_left _ ?_)
    simpa using d2
  have hids : (mk ms n).map (·.2) = (List.range n).map (fun j : Nat => (j : Int)) := by simp [mk, Function.comp_def]
  rw [hids] at hperm
  have hlen : (o1 ++ o2).length = n := by have := hperm.length_eq; simpa using this.symm
  have hmem : ∀ x, x ∈ o1 ++ o2 → ∃ j : Nat, j < n ∧ x = (j : Int) := fun x hx => by
    obtain ⟨j, hj, rfl⟩ := List.mem_map.1 (hperm.mem_iff.2 hx)
    exact ⟨j, by simpa using hj, rfl⟩
  have hnd : (o1 ++ o2).Nodup := by
    refine hperm.nodup_iff.1 ?_
    have h0 : (List.range n).Nodup := List.nodup_range
    refine List.Pairwise.map _ (fun a b hab => ?_) h0
    intro e
    exact hab (by omega)
  have hget : ∀ i, i < n → ∃ x, (o1 ++ o2)[i]? = some x := fun i hi => ⟨_, List.getElem?_eq_getElem (by omega)⟩
  refine ⟨rfl, fun i => (((o1 ++ o2)[i]?).getD 0).toNat, ?_, hlen, ?_, ?_⟩
  · intro i hi
    obtain ⟨x, hx⟩ := hget i hi
    obtain ⟨j, hj, rfl⟩ := hmem x (List.mem_of_getElem? hx)
    simp only [hx]
    refine ⟨by simp, by simpa using hj, ?_⟩
    simp only [Option.getD_some, Int.toNat_natCast]
    by_cases hi1 : i < o1.length
    · rw [List.getElem?_append_left hi1] at hx
      have := (a1 _ (List.mem_of_getElem? hx)).1
      simp at this
      exact ⟨fun _ => hi1, fun _ => this⟩
    · rw [List.getElem?_append_right (by omega)] at hx
      obtain ⟨_, y, hy, e⟩ := a2 _ (List.mem_of_getElem? hx)
      have h5 := (b1 y hy).1
      have h6 := hT2 y hy
      rw [e] at h6
      simp at h6
      exact ⟨fun h => by omega, fun h => absurd h hi1⟩
  · intro i j hi hj e
    obtain ⟨x, hx⟩ := hget i hi
    obtain ⟨y, hy⟩ := hget j hj
    obtain ⟨p, hp, rfl⟩ := hmem x (List.mem_of_getElem? hx)
    obtain ⟨q, hq, rfl⟩ := hmem y (List.mem_of_getElem? hy)
    simp only [hx, hy, Option.getD_some, Int.toNat_natCast] at e
    subst e
    obtain ⟨hi', e1⟩ := List.getElem?_eq_some_iff.1 hx
    obtain ⟨hj', e2⟩ := List.getElem?_eq_some_iff.1 hy
    have hne := List.pairwise_iff_getElem.1 hnd
    by_cases c1 : i < j
    · exact absurd (e1.trans e2.symm) (hne i j hi' hj' c1)
    · by_cases c2 : j < i
      · exact absurd (e2.trans e1.symm) (hne j i hj' hi' c2)
      · omega
  · intro i h0 hi
    have hpw : (o1 ++ o2).Pairwise (fun a b => ms a.toNat ≤ ms b.toNat) := by
      rw [List.pairwise_append]
      refine ⟨c1, c2, fun x hx y hy => ?_⟩
      have h3 := (a1 x hx).1
      obtain ⟨_, z, hz, e⟩ := a2 y hy
      have h5 := (b1 z hz).1
      have h6 := hT2 z hz
      rw [e] at h6
      simp at h3 h6
      omega
    obtain ⟨x, hx⟩ := hget (i - 1) (by omega)
    obtain ⟨y, hy⟩ := hget i hi
    obtain ⟨hi', e1⟩ := List.getElem?_eq_some_iff.1 hx
    obtain ⟨hj', e2⟩ := List.getElem?_eq_some_iff.1 hy
    have := List.pairwise_iff_getElem.1 hpw (i - 1) i hi' hj' (by omega)
    simp only [hx, hy, Option.getD_some]
    rw [← e1, ← e2]
    exact this
end Go.Proofs.Ytlaagbnclkhbjaa
