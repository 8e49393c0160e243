/- Agenda: Move, Drop, Due: what they leave, plainly. -/
import Derived.Test.YtlaagbnclkhbjaaAAdd
namespace Go.Proofs.Ytlaagbnclkhbjaa
open Go.RowKit Go.Maps
set_option linter.unusedSimpArgs false
set_option linter.unusedVariables false
set_option maxRecDepth 100000
theorem find_mem {I : Nat → Int} : ∀ {L : List Nat}, L.Pairwise (fun a b => I a ≠ I b) → ∀ {k : Nat} {y : Int}, k ∈ L → I k = y → L.find? (fun k => I k == y) = some k
  | [], _, k, y, hk, _ => by simp at hk
  | a :: t, hp, k, y, hk, he => by
    rw [List.find?_cons]
    rw [List.pairwise_cons] at hp
    rw [List.mem_cons] at hk
    by_cases hak : I a = y
    · rcases hk with rfl | hk
      · simp [he]
      · exact absurd (hak.trans he.symm) (hp.1 k hk)
    · rcases hk with rfl | hk
      · exact absurd he hak
      · have : (I a == y) = false := by simpa using hak
        rw [this]
        exact find_mem hp.2 hk he
theorem find_none {I : Nat → Int} {L : List Nat} {y : Int} (h : ∀ k ∈ L, I k ≠ y) : L.find? (fun k => I k == y) = none := by
  rw [List.find?_eq_none]
  intro k hk
  simpa using h k hk
theorem find_same {I : Nat → Int} {L L' : List Nat} (h : L.Pairwise (fun a b => I a ≠ I b)) (h' : L'.Pairwise (fun a b => I a ≠ I b)) (hs : ∀ k, k ∈ L' ↔ k ∈ L) (y : Int) : L'.find? (fun k => I k == y) = L.find? (fun k => I k == y) := by
  cases e : L.find? (fun k => I k == y) with
  | some k =>
    obtain ⟨h1, h2⟩ := find_some_key e
    exact find_mem h' ((hs k).2 h1) h2
  | none =>
    refine find_none (fun k hk he => ?_)
    have := List.find?_eq_none.1 e k ((hs k).1 hk)
    simp at this
    exact this he
theorem up_nodup {O : Nat → Int} {L : List Nat} (h : L.Pairwise (fun a b => O a < O b)) : L.Nodup :=
  List.Pairwise.imp (fun {a b} hab => fun e => by subst e; omega) h
theorem mem_er {O : Nat → Int} {L : List Nat} (h : L.Pairwise (fun a b => O a < O b)) (k y : Nat) : y ∈ L.erase k ↔ y ≠ k ∧ y ∈ L := (up_nodup h).mem_erase_iff
theorem AgB.inj {S : Nat → Prop} {w : World} {p c m n : Nat} {κ : Nat → Nat} {A O I : Nat → Int} {L : List Nat} {cnt : Nat} {D : DU} (h : AgB S w p c m n κ A O I L cnt D) {k y : Nat} (hk : k ∈ L) (hy : y ∈ L) (e : I k = I y) : k = y := by
  have h1 := find_mem h.ids hk e
  have h2 := find_mem h.ids hy rfl
  rw [h1] at h2
  exact Option.some.inj h2
theorem AgB.move {S : Nat → Prop} {w : World} {p c m n : Nat} {κ : Nat → Nat} {A O I : Nat → Int} {L : List Nat} {cnt : Nat} {D : DU} (h : AgB S w p c m n κ A O I L cnt D) (a : Int) (w3 : World) (i : Nat) (hi : i < n)
    (hq : Hq S w3 p n (.map (some m)) (.int .i64 ((c + 1 : Nat) : Int)) (fixF (bef (upd A (κ i) a) (upd O (κ i) ((c : Int) + 1))) n κ i) (upd A (κ i) a) (upd O (κ i) ((c : Int) + 1)) I)
    (hom : OM w3 m cnt D) :
    AgB S w3 p (c + 1) m n (fixF (bef (upd A (κ i) a) (upd O (κ i) ((c : Int) + 1))) n κ i) (upd A (κ i) a) (upd O (κ i) ((c : Int) + 1)) I (L.erase (κ i) ++ [κ i]) cnt D := by
  have hkL : κ i ∈ L := (h.set _).2 ⟨i, hi, rfl⟩
  have hne : ∀ j, j < n → j ≠ i → κ j ≠ κ i := fun j hj hji e => hji (h.hq.inj j i hj hi e)
  have hsame := same_fix (bef (upd A (κ i) a) (upd O (κ i) ((c : Int) + 1))) κ hi
  have hmem : ∀ y, y ∈ L.erase (κ i) ++ [κ i] ↔ y ∈ L := fun y => by
    rw [List.mem_append, mem_er h.up]
    constructor
    · rintro (⟨_, h2⟩ | h2)
      · exact h2
      · simp at h2; rw [h2]; exact hkL
    · intro h2
      by_cases e : y = κ i
      · exact .inr (by simp [e])
      · exact .inl ⟨e, h2⟩
  have hids : (L.erase (κ i) ++ [κ i]).Pairwise (fun a b => I a ≠ I b) := by
    rw [List.pairwise_append]
    refine ⟨h.ids.sublist List.erase_sublist, by simp, fun y hy z hz => ?_⟩
    simp at hz
    subst hz
    rw [mem_er h.up] at hy
    exact fun e => hy.1 (h.inj hy.2 hkL e)
  refine ⟨hq, ?_, fun y => ?_, ?_, ?_, ?_, hids, fun y hy => h.iw y ((hmem y).1 hy), hom, fun y => ?_, h.im, by have := h.cb; omega, by have := h.nb; omega, h.sp, h.sm⟩
  · have old : ∀ j, 0 < j → j < n → j ≠ i → (j - 1) / 2 ≠ i → bef (upd A (κ i) a) (upd O (κ i) ((c : Int) + 1)) (κ j) (κ ((j - 1) / 2)) = false := fun j h0 hj hji hjp => by
      have := h.ho j h0 hj
      unfold bef at this ⊢
      rw [upd_o _ _ _ _ (hne j hj hji), upd_o _ _ _ _ (hne j hj hji), upd_o _ _ _ _ (hne _ (by omega) hjp), upd_o _ _ _ _ (hne _ (by omega) hjp)]
      exact this
    refine fix_ho (bef_ord _ _) hi old (fun d h0 hd hdi h0i => ?_)
    have e1 := h.ho d h0 hd
    rw [hdi] at e1
    have e2 := (bef_ord A O).nt _ _ _ e1 (h.ho i h0i hi)
    unfold bef at e2 ⊢
    rw [upd_o _ _ _ _ (hne d hd (by omega)), upd_o _ _ _ _ (hne d hd (by omega)), upd_o _ _ _ _ (hne _ (by omega) (by omega)), upd_o _ _ _ _ (hne _ (by omega) (by omega))]
    exact e2
  · rw [hmem, h.set, hsame.2]
  · rw [List.length_append, List.length_erase_of_mem hkL]
    have := h.len
    simp
    omega
  · rw [List.pairwise_append]
    refine ⟨?_, by simp, fun y hy z hz => ?_⟩
    · refine List.Pairwise.imp_of_mem ?_ (h.up.sublist List.erase_sublist)
      intro y z hy hz hyz
      rw [mem_er h.up] at hy hz
      rw [upd_o _ _ _ _ hy.1, upd_o _ _ _ _ hz.1]
      exact hyz
    · simp at hz
      subst hz
      rw [mem_er h.up] at hy
      rw [upd_s, upd_o _ _ _ _ hy.1]
      have := h.oc y hy.2
      omega
  · intro y hy
    rw [hmem] at hy
    by_cases e : y = κ i
    · rw [e, upd_s]; omega
    · rw [upd_o _ _ _ _ e]
      have := h.oc y hy
      omega
  · rw [find_same h.ids hids hmem]
    exact h.key y
/-- one item less. -/
theorem AgB.less {S : Nat → Prop} {w : World} {p c m n : Nat} {κ : Nat → Nat} {A O I : Nat → Int} {L : List Nat} {cnt : Nat} {D : DU} (h : AgB S w p c m (n + 1) κ A O I L cnt D) (w3 : World) (k : Nat) (hkL : k ∈ L) (κ' : Nat → Nat)
    (hsame : Same (n + 1) κ κ') (hlast : κ' n = k) (ho : Ho (bef A O) n κ') (hinj : ∀ i, i < n → κ' i ≠ k)
    (hq : Hq S w3 p n (.map (some m)) (.int .i64 (c : Int)) κ' A O I) (hom : OM w3 m cnt (D.del (.int .i64 (I k)))) :
    AgB S w3 p c m n κ' A O I (L.erase k) cnt (D.del (.int .i64 (I k))) := by
  have hids : (L.erase k).Pairwise (fun a b => I a ≠ I b) := h.ids.sublist List.erase_sublist
  refine ⟨hq, ho, fun y => ?_, ?_, h.up.sublist List.erase_sublist, fun y hy => h.oc y (((mem_er h.up _ _).1 hy).2), hids, fun y hy => h.iw y (((mem_er h.up _ _).1 hy).2), hom, fun y => ?_, h.im.del _, h.cb, by have := h.nb; omega, h.sp, h.sm⟩
  · rw [mem_er h.up, h.set, ← hsame.2]
    constructor
    · rintro ⟨h1, i, hi, e⟩
      refine ⟨i, ?_, e⟩
      by_cases hin : i = n
      · subst hin; exact absurd (e.symm.trans hlast) h1
      · omega
    · rintro ⟨i, hi, e⟩
      exact ⟨fun e2 => hinj i hi (e.trans e2), i, by omega, e⟩
  · rw [List.length_erase_of_mem hkL]
    have := h.len
    omega
  · by_cases e : y = I k
    · subst e
      rw [atKey_del_same, find_none]
      intro z hz e2
      rw [mem_er h.up] at hz
      exact hz.1 (h.inj hz.2 hkL e2)
    · rw [atKey_del_other (by simpa using e), h.key y]
      have : (L.erase k).find? (fun k => I k == y) = L.find? (fun k => I k == y) := by
        cases e3 : L.find? (fun k => I k == y) with
        | some z =>
          obtain ⟨h1, h2⟩ := find_some_key e3
          refine find_mem hids ((mem_er h.up _ _).2 ⟨fun e4 => e (by rw [← h2, e4]), h1⟩) h2
        | none =>
          refine find_none (fun z hz he => ?_)
          have := List.find?_eq_none.1 e3 z (((mem_er h.up _ _).1 hz).2)
          simp at this
          exact this he
      rw [this]
def rmId (l : List (Int × Int)) (x : Int) : List (Int × Int) := l.filter fun y => y.2 != x
theorem AgB.rm {S : Nat → Prop} {w : World} {p c m n : Nat} {κ : Nat → Nat} {A O I : Nat → Int} {L : List Nat} {cnt : Nat} {D : DU} (h : AgB S w p c m n κ A O I L cnt D) {k : Nat} (hk : k ∈ L) : (L.erase k).map (fun k => (A k, I k)) = rmId (L.map fun k => (A k, I k)) (I k) := by
  unfold rmId
  rw [(up_nodup h.up).erase_eq_filter, List.filter_map]
  congr 1
  apply List.filter_congr
  intro y hy
  by_cases e : y = k
  · subst e; simp
  · have : I y ≠ I k := fun e2 => e (h.inj hy hk e2)
    have h1 : (y != k) = true := by simpa using e
    have h2 : (I y != I k) = true := by simpa using this
    exact h1.trans h2.symm
def moveE (l : List (Int × Int)) (a x : Int) : Int := if okAt a then if hasId l x then 0 else 7 else 1
def moveL (l : List (Int × Int)) (a x : Int) : List (Int × Int) := if okAt a && hasId l x then rmId l x ++ [(a, x)] else l
def dropL (l : List (Int × Int)) (x : Int) : List (Int × Int) := rmId l x
end Go.Proofs.Ytlaagbnclkhbjaa
