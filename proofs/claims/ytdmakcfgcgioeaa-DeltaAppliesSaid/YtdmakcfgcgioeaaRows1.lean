/- A region that draws its order and builds slices: literals, appends onto rows of its own, beside operations that only yield values: each operation is looked at once, whatever the order. -/
import Derived.WalkKit
import Derived.WalkLawsBesides
import Derived.Lib.QuietBelow
import Derived.Deep.DeepCutAuto
import Derived.Maps.AppendAt
namespace Go.Proofs.Ytdmakcfgcgioeaa
open Go.RowKit Go.Sort
namespace Rws
/-- a row of its own, not nil -/
def ownsR (w : World) (base : Nat) (e : TypeId) (size : Nat) (v : Value) (n : Nat) (xs : List Value) : Prop := w.ownsRow base e size v n xs ∧ v.ownBlock.isSome = true
theorem ownsR.lt {w : World} {base : Nat} {e : TypeId} {size : Nat} {v : Value} {n : Nat} {xs : List Value} (h : ownsR w base e size v n xs) : ∀ k, v.ownBlock = some k → base ≤ k ∧ k < w.heap.size := h.1.lt
/-- how many are not listed -/
def unl : List Bool → Nat
  | [] => 0
  | b :: l => (if b then 0 else 1) + unl l
theorem unl_set : ∀ (l : List Bool) (i : Nat), l[i]? = some false → unl (l.set i true) + 1 = unl l
  | [], i, h => by simp at h
  | b :: l, 0, h => by
    simp at h; subst h; simp [unl]; omega
  | b :: l, i + 1, h => by
    have := unl_set l i (by simpa using h)
    simp only [List.set_cons_succ, unl]; omega
theorem unl_rep : ∀ n, unl (List.replicate n false) = n
  | 0 => rfl
  | n + 1 => by rw [List.replicate_succ, unl, unl_rep n]; simp; omega
section
variable {P : Program} {md : Region.Mode} {ops : Array Oper} {Q : Exit → Act → World → Prop}
theorem getD_false {listed : Array Bool} {i : Nat} (h : listed.getD i true = false) : listed.toList[i]? = some false := by
  rcases Nat.lt_or_ge i listed.size with h' | h'
  · simp [h'] at h ⊢; exact h
  · simp [Array.getElem?_eq_none h'] at h
/-- an invariant over what has been listed, kept by every operation that may come up -/
theorem wpAny_inv (Inv : Array Bool → Act → World → Prop)
    (hstep : ∀ listed a w i, Inv listed a w → i ∈ Region.ready md ops listed → wpOp P ops Q i (Inv (listed.setIfInBounds i true)) a w)
    (hend : ∀ listed a w, Inv listed a w → Region.ready md ops listed = [] → Q .normal a w) :
    ∀ (fuel : Nat) (listed : Array Bool) (a : Act) (w : World), unl listed.toList ≤ fuel → Inv listed a w → wpAny P md ops Q fuel listed a w
  | 0, listed, a, w, hf, hI => by
    have hr : Region.ready md ops listed = [] := by
      cases h : Region.ready md ops listed with
      | nil => rfl
      | cons i l =>
        have hi : i ∈ Region.ready md ops listed := by rw [h]; exact List.mem_cons_self
        have := unl_set _ _ (getD_false (mem_ready.1 hi).1)
        omega
    exact ⟨hr, hend _ _ _ hI hr⟩
  | fuel + 1, listed, a, w, hf, hI => ⟨fun hr => hend _ _ _ hI hr, fun i hi => by
      have h1 := hstep _ _ _ _ hI hi
      refine wpOp_mono (fun a' w' hI' => wpAny_inv Inv hstep hend fuel _ a' w' ?_ hI') h1
      have := unl_set _ _ (getD_false (mem_ready.1 hi).1)
      rw [Array.toList_setIfInBounds]
      omega⟩
end
/-- what an operation of such a region is: it yields a value and leaves what was there; it yields a row of its own (c: the operation whose row it takes over, s: the operation whose row it reads); it hands on the value of operation j -/
inductive Mk where
  | q (v : Value)
  | row (e : TypeId) (size n : Nat) (xs : List Value) (c s : Option Nat)
  | cp (j : Nat)
def Mk.val (ν : Nat → Value) (i : Nat) : Mk → Value
  | .q v => v
  | .row .. => ν i
  | .cp j => ν j
def Mk.con : Mk → Option Nat
  | .row _ _ _ _ c _ => c
  | _ => none
def Mk.src : Mk → Option Nat
  | .row _ _ _ _ _ s => s
  | _ => none
def Mk.isRow : Mk → Bool
  | .row .. => true
  | _ => false
section
variable {P : Program} {ops : Array Oper} {Q : Exit → Act → World → Prop}
/-- has operation i been carried out? -/
def did (listed : Array Bool) (i : Nat) : Prop := listed.getD i false = true
/-- operation i's row has been taken over -/
def gone (K : Nat → Mk) (listed : Array Bool) (i : Nat) : Prop := ∃ j, (K j).con = some i ∧ did listed j
structure RInv (ops : Array Oper) (K : Nat → Mk) (w0 : World) (a0 : Act) (listed : Array Bool) (ν : Nat → Value) (a : Act) (W : World) : Prop where
  below : RowKit.Below w0.heap.size w0 W
  defers : a.defers = a0.defers
  size : a.tmps.size = a0.tmps.size
  slot : ∀ i o d, ops[i]? = some o → o.dst = some d → did listed i → a.tmps[d]? = some ((K i).val ν i)
  rest : ∀ d, (∀ i o, ops[i]? = some o → o.dst = some d → ¬ did listed i) → a.tmps[d]? = a0.tmps[d]?
  row : ∀ i e size n xs c s, K i = .row e size n xs c s → did listed i → ¬ gone K listed i → ownsR W w0.heap.size e size (ν i) n xs
  apart : ∀ i j, (K i).isRow = true → (K j).isRow = true → did listed i → did listed j → ¬ gone K listed i → ¬ gone K listed j → i ≠ j → ∀ g, (ν i).ownBlock = some g → (ν j).ownBlock ≠ some g
  cpd : ∀ i j, K i = .cp j → did listed i → did listed j
  closed : ∀ (j : Nat) (o : Oper), ops[j]? = some o → did listed j → ∀ e ∈ o.after, Region.binds .any e = true → did listed e.on
theorem did_set {listed : Array Bool} {i j : Nat} (hi : i < listed.size) : did (listed.setIfInBounds i true) j ↔ j = i ∨ did listed j := by
  unfold did
  by_cases h : j = i
  · subst h; simp [hi]
  · have h' : ¬ i = j := fun e => h e.symm
    simp [h, h']
theorem put_same {a : Act} {dst : Option Tmp} {d : Tmp} {v : Value} (hd : dst = some d) (h : d < a.tmps.size) : (a.put dst v).tmps[d]? = some v := by subst hd; simp [Act.put, h]
theorem put_other {a : Act} {dst : Option Tmp} {d : Tmp} {v : Value} (h : dst ≠ some d) : (a.put dst v).tmps[d]? = a.tmps[d]? := by
  cases dst with
  | none => rfl
  | some d' => rw [Act.put]; simp only []; rw [Array.getElem?_setIfInBounds, if_neg (fun e => h (by rw [e]))]
theorem put_size {a : Act} {dst : Option Tmp} {v : Value} : (a.put dst v).tmps.size = a.tmps.size := by cases dst <;> simp [Act.put]
theorem put_defers {a : Act} {dst : Option Tmp} {v : Value} : (a.put dst v).defers = a.defers := by cases dst <;> rfl
/-- the frame behind an operation that writes its own slot -/
theorem slots_step {K : Nat → Mk} {w0 : World} {a0 : Act} {listed : Array Bool} {ν ν' : Nat → Value} {a : Act} {W : World} {i : Nat} {o : Oper} {v : Value} (hI : RInv ops K w0 a0 listed ν a W) (ho : ops[i]? = some o)
    (hds : ∀ j, did (listed.setIfInBounds i true) j ↔ j = i ∨ did listed j) (hnot : ¬ did listed i)
    (hdst : ∀ (i j : Nat) (oi oj : Oper) (d : Tmp), ops[i]? = some oi → ops[j]? = some oj → oi.dst = some d → oj.dst = some d → i = j)
    (hin : ∀ (i : Nat) (o : Oper) (d : Tmp), ops[i]? = some o → o.dst = some d → d < a0.tmps.size)
    (hv : v = (K i).val ν' i) (hκ : ∀ j, did listed j → (K j).val ν' j = (K j).val ν j) :
    (a.put o.dst v).defers = a0.defers ∧ (a.put o.dst v).tmps.size = a0.tmps.size ∧
    (∀ (j : Nat) (oj : Oper) (d : Tmp), ops[j]? = some oj → oj.dst = some d → did (listed.setIfInBounds i true) j → (a.put o.dst v).tmps[d]? = some ((K j).val ν' j)) ∧
    (∀ d : Tmp, (∀ (j : Nat) (oj : Oper), ops[j]? = some oj → oj.dst = some d → ¬ did (listed.setIfInBounds i true) j) → (a.put o.dst v).tmps[d]? = a0.tmps[d]?) := by
  refine ⟨put_defers.trans hI.defers, put_size.trans hI.size, ?_, ?_⟩
  · intro j oj d h1 h2 h3
    by_cases hji : j = i
    · subst hji
      rw [ho] at h1; cases h1
      rw [put_same h2 (by rw [hI.size]; exact hin _ _ _ ho h2), hv]
    · have h3' := ((hds j).1 h3).resolve_left hji
      have hne : o.dst ≠ some d := fun e => hji (hdst j i oj o d h1 ho h2 e)
      rw [put_other hne, hκ j h3']; exact hI.slot j oj d h1 h2 h3'
  · intro d hd
    have hne : o.dst ≠ some d := fun e => hd i o ho e ((hds i).2 (.inl rfl))
    rw [put_other hne]
    exact hI.rest d fun j oj h1 h2 h3 => hd j oj h1 h2 ((hds j).2 (.inr h3))
/-- WHAT IS ASKED OF SUCH A REGION -/
structure RReg (P : Program) (ops : Array Oper) (Q : Exit → Act → World → Prop) (K : Nat → Mk) (w0 : World) (a0 : Act) : Prop where
  guard : ∀ (i : Nat) (o : Oper), ops[i]? = some o → o.guard = none
  dst : ∀ (i j : Nat) (oi oj : Oper) (d : Tmp), ops[i]? = some oi → ops[j]? = some oj → oi.dst = some d → oj.dst = some d → i = j
  inn : ∀ (i : Nat) (o : Oper) (d : Tmp), ops[i]? = some o → o.dst = some d → d < a0.tmps.size
  lexical : ∀ (i : Nat) (o : Oper), ops[i]? = some o → ∀ e ∈ o.after, Region.binds .any e = true → e.on < i
  con1 : ∀ i j j', (K j).con = some i → (K j').con = some i → j = j'
  src0 : ∀ i j j', (K j).src = some i → (K j').con = some i → False
  dep : ∀ i j (o : Oper), ops[j]? = some o → (K j).con = some i ∨ (K j).src = some i ∨ K j = .cp i → (∃ e ∈ o.after, Region.binds .any e = true ∧ e.on = i) ∧ (K i).isRow = true
  quiet : ∀ (i : Nat) (o : Oper) (v : Value), ops[i]? = some o → K i = .q v → ∀ (a : Act) (W : World), RowKit.Below w0.heap.size w0 W →
      (∀ d : Tmp, (∀ (i' : Nat) (o' : Oper), ops[i']? = some o' → o'.dst = some d → ∃ e ∈ o'.after, Region.binds .any e = true ∧ e.on = i) → a.tmps[d]? = a0.tmps[d]?) →
      (∀ e ∈ o.after, Region.binds .any e = true → ∀ (o' : Oper) (d : Tmp) (v' : Value), ops[e.on]? = some o' → o'.dst = some d → K e.on = .q v' → a.tmps[d]? = some v') →
      ∀ (X : Act → World → Prop), (∀ W', RowKit.Below W.heap.size W W' → X (a.put o.dst v) W') → o.wp P a W X Q
  copy : ∀ (i j : Nat) (o oj : Oper), ops[i]? = some o → K i = .cp j → ops[j]? = some oj → ∀ (a : Act) (W : World) (v : Value), (∀ d, oj.dst = some d → a.tmps[d]? = some v) → ∀ (X : Act → World → Prop), X (a.put o.dst v) W → o.wp P a W X Q
  rowop : ∀ (i : Nat) (o : Oper) e size n xs c s, ops[i]? = some o → K i = .row e size n xs c s → ∀ (a : Act) (W : World) (ν : Nat → Value), RowKit.Below w0.heap.size w0 W →
      (∀ d : Tmp, (∀ (i' : Nat) (o' : Oper), ops[i']? = some o' → o'.dst = some d → ∃ e ∈ o'.after, Region.binds .any e = true ∧ e.on = i) → a.tmps[d]? = a0.tmps[d]?) →
      (∀ e ∈ o.after, Region.binds .any e = true → ∀ (o' : Oper) (d : Tmp) (v' : Value), ops[e.on]? = some o' → o'.dst = some d → K e.on = .q v' → a.tmps[d]? = some v') →
      (∀ i', c = some i' ∨ s = some i' → ∀ e' size' n' xs' c' s', K i' = .row e' size' n' xs' c' s' → ownsR W w0.heap.size e' size' (ν i') n' xs' ∧ ∀ (o' : Oper) (d : Tmp), ops[i']? = some o' → o'.dst = some d → a.tmps[d]? = some (ν i')) →
      ∀ (X : Act → World → Prop), (∀ v' W', ownsR W' w0.heap.size e size v' n xs → W.grownBy W' (c.bind fun i' => (ν i').ownBlock) → (∀ g, v'.ownBlock = some g → (∃ i', c = some i' ∧ (ν i').ownBlock = some g) ∨ W.heap.size ≤ g) → X (a.put o.dst v') W') → o.wp P a W X Q
theorem rows_step {K : Nat → Mk} {w0 : World} {a0 : Act} (R : RReg P ops Q K w0 a0)
    (listed : Array Bool) (ν : Nat → Value) (a : Act) (W : World) (i : Nat) (hI : RInv ops K w0 a0 listed ν a W) (hsz : listed.size = ops.size) (hr : i ∈ Region.ready .any ops listed) :
    wpOp P ops Q i (fun a' W' => ∃ ν', RInv ops K w0 a0 (listed.setIfInBounds i true) ν' a' W') a W := by
  obtain ⟨hun, o, ho, hdep⟩ := mem_ready.1 hr
  have hlt : i < ops.size := (Array.getElem?_eq_some_iff.1 ho).1
  have hnot : ¬ did listed i := by
    have := getD_false hun
    unfold did
    simp at this
    simp [this]
  have hds : ∀ j, did (listed.setIfInBounds i true) j ↔ j = i ∨ did listed j := fun j => did_set (listed := listed) (i := i) (j := j) (by omega)
  have hwant : Region.wanted o (yielded ops a.tmps) = true := by unfold Region.wanted; rw [R.guard i o ho]
  have hback : ∀ j, gone K listed j → gone K (listed.setIfInBounds i true) j := fun j ⟨x, h1, h2⟩ => ⟨x, h1, (hds x).2 (.inr h2)⟩
  have hrest : ∀ d : Tmp, (∀ (i' : Nat) (o' : Oper), ops[i']? = some o' → o'.dst = some d → ∃ e ∈ o'.after, Region.binds .any e = true ∧ e.on = i) → a.tmps[d]? = a0.tmps[d]? := fun d hd => hI.rest d fun i' o' h1 h2 h3 => by
    obtain ⟨e, he, hb, heq⟩ := hd i' o' h1 h2
    exact hnot (heq ▸ hI.closed i' o' h1 h3 e he hb)
  have hclosed : ∀ (j : Nat) (o : Oper), ops[j]? = some o → did (listed.setIfInBounds i true) j → ∀ e ∈ o.after, Region.binds .any e = true → did (listed.setIfInBounds i true) e.on := fun j o' h1 h2 e he hb => by
    rcases (hds j).1 h2 with rfl | h2
    · rw [ho] at h1; cases h1
      exact (hds e.on).2 (.inr (hdep e he hb))
    · exact (hds e.on).2 (.inr (hI.closed j o' h1 h2 e he hb))
  have hq : ∀ e ∈ o.after, Region.binds .any e = true → ∀ (o' : Oper) (d : Tmp) (v' : Value), ops[e.on]? = some o' → o'.dst = some d → K e.on = .q v' → a.tmps[d]? = some v' := fun e he hb o' d v' h1 h2 h3 => by
    have := hI.slot e.on o' d h1 h2 (hdep e he hb)
    rw [h3] at this; exact this
  have hkeepO : ∀ (W' : World) j e size n xs, ownsR W w0.heap.size e size (ν j) n xs → (∀ g, (ν j).ownBlock = some g → W'.heap[g]? = W.heap[g]?) → ownsR W' w0.heap.size e size (ν j) n xs := fun W' j e size n xs h hh => by
    refine ⟨⟨h.1.1, ?_⟩, h.2⟩
    rcases h.1.2 with hn | ⟨g, cap, cur, hv, hb, hg, rest⟩
    · exact .inl hn
    · exact .inr ⟨g, cap, cur, hv, hb, (hh g (by rw [hv]; rfl)).trans hg, rest⟩
  unfold wpOp
  simp only [ho]
  rw [if_pos hwant]
  refine .inl ?_
  cases hK : K i with
  | q v =>
    refine R.quiet i o v ho hK a W hI.below hrest hq _ ?_
    intro W' hb
    obtain ⟨s1, s2, s3, s4⟩ := slots_step (ν' := ν) (v := v) hI ho hds hnot R.dst R.inn (by rw [hK]; rfl) (fun _ _ => rfl)
    have hdid : ∀ j, (K j).isRow = true → did (listed.setIfInBounds i true) j → did listed j := fun j hj h => by
      rcases (hds j).1 h with rfl | h
      · rw [hK] at hj; cases hj
      · exact h
    refine ⟨ν, hI.below.trans (hb.mono hI.below.size), s1, s2, s3, s4, ?_, ?_, ?_, hclosed⟩
    · intro j e size n xs c s h1 h2 h3
      have h2' := hdid j (by rw [h1]; rfl) h2
      have h4 := hI.row j e size n xs c s h1 h2' (fun hg => h3 (hback j hg))
      exact hkeepO W' j e size n xs h4 (fun g hg => hb.block g (h4.lt g hg).2)
    · intro j j' h1 h2 h3 h4 h5 h6
      exact hI.apart j j' h1 h2 (hdid j h1 h3) (hdid j' h2 h4) (fun hg => h5 (hback j hg)) (fun hg => h6 (hback j' hg))
    · intro j j0 h1 h2
      rcases (hds j).1 h2 with rfl | h2
      · rw [hK] at h1; cases h1
      · exact (hds j0).2 (.inr (hI.cpd j j0 h1 h2))
  | cp j0 =>
    obtain ⟨⟨e0, he0, hb0, rfl⟩, hrow0⟩ := R.dep j0 i o ho (.inr (.inr hK))
    have hd0 := hdep e0 he0 hb0
    obtain ⟨oj, hoj⟩ : ∃ oj, ops[e0.on]? = some oj := by
      have h9 := R.lexical i o ho e0 he0 hb0
      exact ⟨_, Array.getElem?_eq_getElem (show e0.on < ops.size by omega)⟩
    have hval0 : (K e0.on).val ν e0.on = ν e0.on := by
      cases hk : K e0.on with
      | row => rfl
      | q v => rw [hk] at hrow0; cases hrow0
      | cp j => rw [hk] at hrow0; cases hrow0
    refine R.copy i e0.on o oj ho hK hoj a W (ν e0.on) (fun d hd => by rw [← hval0]; exact hI.slot e0.on oj d hoj hd hd0) _ ?_
    obtain ⟨s1, s2, s3, s4⟩ := slots_step (ν' := ν) (v := ν e0.on) hI ho hds hnot R.dst R.inn (by rw [hK]; rfl) (fun _ _ => rfl)
    have hdid : ∀ j, (K j).isRow = true → did (listed.setIfInBounds i true) j → did listed j := fun j hj h => by
      rcases (hds j).1 h with rfl | h
      · rw [hK] at hj; cases hj
      · exact h
    refine ⟨ν, hI.below, s1, s2, s3, s4, ?_, ?_, ?_, hclosed⟩
    · intro j e size n xs c s h1 h2 h3
      exact hI.row j e size n xs c s h1 (hdid j (by rw [h1]; rfl) h2) (fun hg => h3 (hback j hg))
    · intro j j' h1 h2 h3 h4 h5 h6
      exact hI.apart j j' h1 h2 (hdid j h1 h3) (hdid j' h2 h4) (fun hg => h5 (hback j hg)) (fun hg => h6 (hback j' hg))
    · intro j j0 h1 h2
      rcases (hds j).1 h2 with rfl | h2
      · rw [hK] at h1; cases h1; exact (hds _).2 (.inr hd0)
      · exact (hds j0).2 (.inr (hI.cpd j j0 h1 h2))
  | row e size n xs c s =>
    have hdeps : ∀ i', c = some i' ∨ s = some i' → did listed i' ∧ (K i').isRow = true ∧ ¬ gone K listed i' := fun i' hi' => by
      have hh : (K i).con = some i' ∨ (K i).src = some i' ∨ K i = .cp i' := by
        rw [hK]
        rcases hi' with h | h
        · exact .inl h
        · exact .inr (.inl h)
      obtain ⟨⟨e', he', hb', rfl⟩, hrow'⟩ := R.dep i' i o ho hh
      refine ⟨hdep e' he' hb', hrow', ?_⟩
      rintro ⟨x, hx1, hx2⟩
      rcases hi' with h | h
      · have := R.con1 e'.on x i hx1 (by rw [hK]; exact h)
        subst this
        exact hnot hx2
      · exact R.src0 e'.on i x (by rw [hK]; exact h) hx1
    refine R.rowop i o e size n xs c s ho hK a W ν hI.below hrest hq ?_ _ ?_
    · intro i' hi' e' size' n' xs' c' s' hK'
      obtain ⟨h1, h2, h3⟩ := hdeps i' hi'
      refine ⟨hI.row i' e' size' n' xs' c' s' hK' h1 h3, fun o' d h4 h5 => ?_⟩
      have := hI.slot i' o' d h4 h5 h1
      rw [hK'] at this
      exact this
    · intro v' W' hown hg hloc
      have hν : ∀ j, did listed j → (if j = i then v' else ν j) = ν j := fun j h => if_neg (fun e : j = i => hnot (e ▸ h))
      have hval : ∀ j, did listed j → (K j).val (fun j => if j = i then v' else ν j) j = (K j).val ν j := fun j h => by
        cases hkj : K j with
        | q v => rfl
        | row => simp only [Mk.val]; exact hν j h
        | cp j0 =>
          simp only [Mk.val]
          exact if_neg (fun e : j0 = i => hnot (e ▸ hI.cpd j j0 hkj h))
      obtain ⟨s1, s2, s3, s4⟩ := slots_step (ν' := fun j => if j = i then v' else ν j) (v := v') hI ho hds hnot R.dst R.inn (by rw [hK]; simp [Mk.val]) hval
      have hcrow : ∀ i', c = some i' → ∀ g, (ν i').ownBlock = some g → w0.heap.size ≤ g ∧ ∀ j, (K j).isRow = true → did listed j → ¬ gone K listed j → j ≠ i' → (ν j).ownBlock ≠ some g := fun i' hi' g hgb => by
        obtain ⟨h1, h2, h3⟩ := hdeps i' (.inl hi')
        cases hk : K i' with
        | q v => rw [hk] at h2; cases h2
        | cp j => rw [hk] at h2; cases h2
        | row e1 size1 n1 xs1 c1 s1 =>
          have h4 := hI.row i' e1 size1 n1 xs1 c1 s1 hk h1 h3
          refine ⟨(h4.lt g hgb).1, fun j hj1 hj2 hj3 hj4 => ?_⟩
          exact hI.apart i' j (by rw [hk]; rfl) hj1 h1 hj2 h3 hj3 (Ne.symm hj4) g hgb
      have hgoneC : ∀ i', c = some i' → gone K (listed.setIfInBounds i true) i' := fun i' hi' => ⟨i, by rw [hK]; exact hi', (hds i).2 (.inl rfl)⟩
      have hblk : ∀ g, g < W.heap.size → (∀ i', c = some i' → (ν i').ownBlock ≠ some g) → W'.heap[g]? = W.heap[g]? := fun g hgl hne => by
        refine hg.block g hgl (fun e => ?_)
        cases hc : c with
        | none => rw [hc] at e; cases e
        | some i' => rw [hc] at e; exact hne i' hc e.symm
      have hold : ∀ j e size n xs, (K j).isRow = true → did listed j → ¬ gone K (listed.setIfInBounds i true) j → ownsR W w0.heap.size e size (ν j) n xs → ownsR W' w0.heap.size e size (ν j) n xs := fun j e size n xs hj h1 h2 h3 => by
        refine hkeepO W' j e size n xs h3 (fun g hgb => hblk g (h3.lt g hgb).2 (fun i' hi' hgc => ?_))
        have hji : j ≠ i' := fun e => h2 (e ▸ hgoneC i' hi')
        exact (hcrow i' hi' g hgc).2 j hj h1 (fun hh => h2 (hback j hh)) hji hgb
      refine ⟨fun j => if j = i then v' else ν j, hI.below.trans ⟨hg.os, hg.tape, hg.output, hg.size, fun b hb => hblk b (by have := hI.below.size; omega) (fun i' hi' hgc => by have := (hcrow i' hi' b hgc).1; omega)⟩, s1, s2, s3, s4, ?_, ?_, ?_, hclosed⟩
      · intro j e' size' n' xs' c' s' h1 h2 h3
        rcases (hds j).1 h2 with rfl | h2
        · rw [hK] at h1; cases h1
          simp only [if_pos]
          exact hown
        · simp only [hν j h2]
          exact hold j e' size' n' xs' (by rw [h1]; rfl) h2 h3 (hI.row j e' size' n' xs' c' s' h1 h2 (fun hh => h3 (hback j hh)))
      · intro j j' h1 h2 h3 h4 h5 h6 hne g hgb
        have e3 := (hds j).1 h3
        have e4 := (hds j').1 h4
        have fresh : ∀ x, (K x).isRow = true → did listed x → ¬ gone K (listed.setIfInBounds i true) x → ∀ g, v'.ownBlock = some g → (ν x).ownBlock ≠ some g := fun x hx1 hx2 hx3 g hv' hx => by
          rcases hloc g hv' with ⟨i', hi', hgc⟩ | hge
          · exact (hcrow i' hi' g hgc).2 x hx1 hx2 (fun hh => hx3 (hback x hh)) (fun e => hx3 (e ▸ hgoneC i' hi')) hx
          · cases hk : K x with
            | q v => rw [hk] at hx1; cases hx1
            | cp j => rw [hk] at hx1; cases hx1
            | row e1 size1 n1 xs1 c1 s1 =>
              have := (hI.row x e1 size1 n1 xs1 c1 s1 hk hx2 (fun hh => hx3 (hback x hh))).lt g hx
              omega
        rcases e3 with e3 | e3
        · rcases e4 with e4 | e4
          · exact absurd (e3.trans e4.symm) hne
          · simp only [if_pos e3] at hgb
            simp only [hν j' e4]
            exact fresh j' h2 e4 h6 g hgb
        · rcases e4 with e4 | e4
          · simp only [hν j e3] at hgb
            simp only [if_pos e4]
            exact fun hv' => fresh j h1 e3 h5 g hv' hgb
          · simp only [hν j e3] at hgb
            simp only [hν j' e4]
            exact hI.apart j j' h1 h2 e3 e4 (fun hh => h5 (hback j hh)) (fun hh => h6 (hback j' hh)) hne g hgb
      · intro j j0 h1 h2
        rcases (hds j).1 h2 with rfl | h2
        · rw [hK] at h1; cases h1
        · exact (hds j0).2 (.inr (hI.cpd j j0 h1 h2))
/-- all are listed where none may come up -/
theorem all_did {K : Nat → Mk} {w0 : World} {a0 : Act} (R : RReg P ops Q K w0 a0) {listed : Array Bool} (hsz : listed.size = ops.size) (hr : Region.ready .any ops listed = []) : ∀ n i, i < n → i < ops.size → did listed i := by
  intro n
  induction n with
  | zero => intro i h; omega
  | succ n ih =>
    intro i hi hlt
    by_cases hd : did listed i
    · exact hd
    · exfalso
      have : i ∈ Region.ready .any ops listed := by
        refine mem_ready.2 ⟨?_, ops[i], Array.getElem?_eq_getElem hlt, fun e he hb => ?_⟩
        · unfold did at hd
          have h' : i < listed.size := by omega
          simp [h'] at hd ⊢; exact hd
        · have hl := R.lexical i ops[i] (Array.getElem?_eq_getElem hlt) e he hb
          exact ih e.on (by omega) (by omega)
      rw [hr] at this; cases this
/-- the frame at the end -/
def MFin (ops : List Oper) (K : Nat → Mk) (ν : Nat → Value) (tmps : Array Value) : Nat → Array Value
  | 0 => tmps
  | n + 1 => match (ops[n]?).bind (·.dst) with
    | some d => (MFin ops K ν tmps n).setIfInBounds d ((K n).val ν n)
    | none => MFin ops K ν tmps n
theorem MFin_size (l : List Oper) (K : Nat → Mk) (ν : Nat → Value) (tmps : Array Value) : ∀ n, (MFin l K ν tmps n).size = tmps.size
  | 0 => rfl
  | n + 1 => by rw [MFin]; split <;> simp [MFin_size l K ν tmps n]
theorem MFin_get {K : Nat → Mk} {w0 : World} {a0 : Act} (R : RReg P ops Q K w0 a0) (ν : Nat → Value) (d : Tmp) : ∀ n, n ≤ ops.size →
    (∀ (i : Nat) (o : Oper), i < n → ops[i]? = some o → o.dst = some d → (MFin ops.toList K ν a0.tmps n)[d]? = some ((K i).val ν i)) ∧
    ((∀ (i : Nat) (o : Oper), i < n → ops[i]? = some o → o.dst ≠ some d) → (MFin ops.toList K ν a0.tmps n)[d]? = a0.tmps[d]?)
  | 0, _ => ⟨fun i o h => by omega, fun _ => rfl⟩
  | n + 1, hn => by
    obtain ⟨ih1, ih2⟩ := MFin_get R ν d n (by omega)
    have hon : ops[n]? = some ops[n] := Array.getElem?_eq_getElem (by omega)
    have hon' : ops.toList[n]? = some ops[n] := by rw [Array.getElem?_toList]; exact hon
    refine ⟨fun i o hi h1 h2 => ?_, fun h => ?_⟩
    · rw [MFin, hon']
      simp only [Option.bind_some]
      by_cases hin : i = n
      · subst hin
        rw [hon] at h1; cases h1
        rw [h2]
        simp only []
        rw [Array.getElem?_setIfInBounds, if_pos rfl, if_pos (by rw [MFin_size]; exact R.inn i _ d hon h2)]
      · have hne : ops[n].dst ≠ some d := fun e => hin (R.dst i n o _ d h1 hon h2 e)
        have := ih1 i o (by omega) h1 h2
        cases hd : ops[n].dst with
        | none => exact this
        | some d' => simp only []; rw [Array.getElem?_setIfInBounds, if_neg (fun e => hne (by rw [hd, e]))]; exact this
    · rw [MFin, hon']
      simp only [Option.bind_some]
      have h0 := ih2 fun i o hi h1 => h i o (by omega) h1
      have hne := h n _ (by omega) hon
      cases hd : ops[n].dst with
      | none => exact h0
      | some d' => simp only []; rw [Array.getElem?_setIfInBounds, if_neg (fun e => hne (by rw [hd, e]))]; exact h0
/-- THE REGION -/
theorem wp_rows {id : Nat} {K : Nat → Mk} {w : World} {a0 : Act} (hm : P.follows .mixedOrders = true) (R : RReg P ops Q K w.drew a0)
    (hQ : ∀ (ν : Nat → Value) (W : World), RowKit.Below w.heap.size w W → (∀ i e size n xs c s, i < ops.size → K i = .row e size n xs c s → (∀ j, (K j).con ≠ some i) → ownsR W w.heap.size e size (ν i) n xs) →
      Q .normal ⟨MFin ops.toList K ν a0.tmps ops.size, a0.defers⟩ W) :
    (Code.region id ops true).wp P Q a0 w := by
  refine wp_region_any hm ?_
  refine wpAny_inv (fun listed a W => listed.size = ops.size ∧ ∃ ν, RInv ops K w.drew a0 listed ν a W) ?_ ?_ _ _ _ _ (by simp [unl_rep]) ⟨by simp, fun _ => undef, ?_⟩
  · rintro listed a W i ⟨hsz, ν, hI⟩ hr
    exact wpOp_mono (fun a' W' ⟨ν', h⟩ => ⟨by simp [hsz], ν', h⟩) (rows_step R listed ν a W i hI hsz hr)
  · rintro listed a W ⟨hsz, ν, hI⟩ hr
    have hall := all_did R hsz hr ops.size
    have ha : a = ⟨MFin ops.toList K ν a0.tmps ops.size, a0.defers⟩ := by
      obtain ⟨t, df⟩ := a
      have h1 := hI.defers
      simp only at h1
      subst h1
      congr 1
      apply Array.ext_getElem?
      intro d
      obtain ⟨m1, m2⟩ := MFin_get R ν d ops.size (Nat.le_refl _)
      by_cases hex : ∃ (i : Nat) (o : Oper), ops[i]? = some o ∧ o.dst = some d
      · obtain ⟨i, o, h1, h2⟩ := hex
        have hlt : i < ops.size := (Array.getElem?_eq_some_iff.1 h1).1
        rw [m1 i o hlt h1 h2]
        exact hI.slot i o d h1 h2 (hall i hlt hlt)
      · rw [m2 fun i o _ h1 h2 => hex ⟨i, o, h1, h2⟩]
        exact hI.rest d fun i o h1 h2 _ => hex ⟨i, o, h1, h2⟩
    rw [ha]
    refine hQ ν W ?_ ?_
    · exact (show RowKit.Below w.heap.size w w.drew from (Below.refl _ _).drew).trans hI.below
    · intro i e size n xs c s hlt h1 h2
      exact hI.row i e size n xs c s h1 (hall i hlt hlt) (fun ⟨x, hx, _⟩ => h2 x hx)
  · have hno : ∀ i, ¬ did (Array.replicate ops.size false) i := fun i => by
      unfold did
      rcases Nat.lt_or_ge i ops.size with h | h
      · simp [h]
      · simp [h]
    exact ⟨Below.refl _ _, rfl, rfl, fun i _ _ _ _ h => absurd h (hno i), fun _ _ => rfl, fun i _ _ _ _ _ _ _ h => absurd h (hno i), fun i _ _ _ h => absurd h (hno i), fun i _ _ h => absurd h (hno i), fun i _ _ h => absurd h (hno i)⟩
end
end Rws
end Go.Proofs.Ytdmakcfgcgioeaa
