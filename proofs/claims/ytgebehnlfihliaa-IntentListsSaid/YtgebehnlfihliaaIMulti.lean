/- A region that draws its order and is an assignment to several variables that live in memory ('x, y := f(a), g(b)'): each operation is looked at once, whatever the order. -/
import Derived.Test.YtgebehnlfihliaaIReg
namespace Go.Proofs.Ytgebehnlfihliaa.Hd
open Go.RowKit Go.Sort

/-- how many are not listed -/
def unl : List Bool → Nat
  | [] => 0
  | b :: l => (if b then 0 else 1) + unl l
theorem unl_set : ∀ (l : List Bool) (i : Nat), l[i]? = some false → unl (l.set i true) + 1 = unl l
  | [], i, h => by simp at h
  | b :: l, 0, h => by
    simp at h; subst h; simp [unl]; omega
  | b :: l, i + 1, h => by
    have := unl_set l i (by simpa using h)
    simp only [List.set_cons_succ, unl]; omega
theorem unl_rep : ∀ n, unl (List.replicate n false) = n
  | 0 => rfl
  | n + 1 => by rw [List.replicate_succ, unl, unl_rep n]; simp; omega

section
variable {P : Program} {md : Region.Mode} {ops : Array Oper} {Q : Exit → Act → World → Prop}
theorem getD_false {listed : Array Bool} {i : Nat} (h : listed.getD i true = false) : listed.toList[i]? = some false := by
  rcases Nat.lt_or_ge i listed.size with h' | h'
  · simp [h'] at h ⊢; exact h
  · simp [Array.getElem?_eq_none h'] at h
/-- an invariant over what has been listed, kept by every operation that may come up -/
theorem wpAny_inv (Inv : Array Bool → Act → World → Prop)
    (hstep : ∀ listed a w i, Inv listed a w → i ∈ Region.ready md ops listed → wpOp P ops Q i (Inv (listed.setIfInBounds i true)) a w)
    (hend : ∀ listed a w, Inv listed a w → Region.ready md ops listed = [] → Q .normal a w) :
    ∀ (fuel : Nat) (listed : Array Bool) (a : Act) (w : World), unl listed.toList ≤ fuel → Inv listed a w → wpAny P md ops Q fuel listed a w
  | 0, listed, a, w, hf, hI => by
    have hr : Region.ready md ops listed = [] := by
      cases h : Region.ready md ops listed with
      | nil => rfl
      | cons i l =>
        have hi : i ∈ Region.ready md ops listed := by rw [h]; exact List.mem_cons_self
        have := unl_set _ _ (getD_false (mem_ready.1 hi).1)
        omega
    exact ⟨hr, hend _ _ _ hI hr⟩
  | fuel + 1, listed, a, w, hf, hI => ⟨fun hr => hend _ _ _ hI hr, fun i hi => by
      have h1 := hstep _ _ _ _ hI hi
      refine wpOp_mono (fun a' w' hI' => wpAny_inv Inv hstep hend fuel _ a' w' ?_ hI') h1
      have := unl_set _ _ (getD_false (mem_ready.1 hi).1)
      rw [Array.toList_setIfInBounds]
      omega⟩
end

/-- what an operation of such a region is: it yields a value and leaves what was there; it makes a variable; it lays value number 'q' into variable number 'j' -/
inductive Mk where
  | q (v : Value)
  | al (t : TypeId) (z : Array Value)
  | st (j q : Nat) (t : TypeId) (c : Array Value)
def Mk.val (κ : Nat → Nat) (i : Nat) : Mk → Value
  | .q v => v
  | .al _ _ => .pointer (some ⟨κ i, 0, none⟩)
  | .st .. => undef
def Mk.isAl : Mk → Bool
  | .al _ _ => true
  | _ => false

section
variable {P : Program} {ops : Array Oper} {Q : Exit → Act → World → Prop}
/-- has operation i been carried out? -/
def did (listed : Array Bool) (i : Nat) : Prop := listed.getD i false = true
structure MInv (ops : Array Oper) (K : Nat → Mk) (w0 : World) (a0 : Act) (listed : Array Bool) (κ : Nat → Nat) (a : Act) (W : World) : Prop where
  below : RowKit.Below w0.heap.size w0 W
  defers : a.defers = a0.defers
  size : a.tmps.size = a0.tmps.size
  slot : ∀ i o d, ops[i]? = some o → o.dst = some d → did listed i → a.tmps[d]? = some ((K i).val κ i)
  rest : ∀ d, (∀ i o, ops[i]? = some o → o.dst = some d → ¬ did listed i) → a.tmps[d]? = a0.tmps[d]?
  made : ∀ i t z, K i = .al t z → did listed i → w0.heap.size ≤ κ i ∧ ∃ c, W.heap[κ i]? = some (.cells c t) ∧ c.size = z.size
  laid : ∀ s j q t c, K s = .st j q t c → did listed s → did listed j ∧ W.heap[κ j]? = some (.cells c t)
  apart : ∀ i j, (K i).isAl = true → (K j).isAl = true → did listed i → did listed j → i ≠ j → κ i ≠ κ j

theorem did_set {listed : Array Bool} {i j : Nat} (hi : i < listed.size) : did (listed.setIfInBounds i true) j ↔ j = i ∨ did listed j := by
  unfold did
  by_cases h : j = i
  · subst h; simp [hi]
  · have h' : ¬ i = j := fun e => h e.symm
    simp [h, h']
theorem setRow_heap {w : World} {k : Nat} {c c' : Array Value} {t : TypeId} (h : w.heap[k]? = some (.cells c t)) (n : Nat) : (w.setRow k c').heap[n]? = if n = k then some (.cells c' t) else w.heap[n]? := by
  simp only [World.setRow, Array.getElem?_modify]
  by_cases hn : n = k
  · subst hn; simp [h]
  · have hn' : ¬ k = n := fun e => hn e.symm
    simp [hn, hn']
theorem below_setRow {B : Nat} {a w : World} (h : RowKit.Below B a w) {k : Nat} {c c' : Array Value} {t : TypeId} (hk : B ≤ k) (hc : w.heap[k]? = some (.cells c t)) : RowKit.Below B a (w.setRow k c') :=
  h.trans ⟨rfl, rfl, rfl, by simp, fun n hn => by rw [setRow_heap hc, if_neg (by omega)]⟩

theorem put_same {a : Act} {dst : Option Tmp} {d : Tmp} {v : Value} (hd : dst = some d) (h : d < a.tmps.size) : (a.put dst v).tmps[d]? = some v := by subst hd; simp [Act.put, h]
theorem put_other {a : Act} {dst : Option Tmp} {d : Tmp} {v : Value} (h : dst ≠ some d) : (a.put dst v).tmps[d]? = a.tmps[d]? := by
  cases dst with
  | none => rfl
  | some d' => rw [Act.put]; simp only []; rw [Array.getElem?_setIfInBounds, if_neg (fun e => h (by rw [e]))]
theorem put_size {a : Act} {dst : Option Tmp} {v : Value} : (a.put dst v).tmps.size = a.tmps.size := by cases dst <;> simp [Act.put]
theorem put_defers {a : Act} {dst : Option Tmp} {v : Value} : (a.put dst v).defers = a.defers := by cases dst <;> rfl

/-- the frame behind an operation that writes its own slot -/
theorem slots_step {K : Nat → Mk} {w0 : World} {a0 : Act} {listed : Array Bool} {κ κ' : Nat → Nat} {a : Act} {W : World} {i : Nat} {o : Oper} {v : Value} (hI : MInv ops K w0 a0 listed κ a W) (ho : ops[i]? = some o)
    (hds : ∀ j, did (listed.setIfInBounds i true) j ↔ j = i ∨ did listed j) (hnot : ¬ did listed i)
    (hdst : ∀ (i j : Nat) (oi oj : Oper) (d : Tmp), ops[i]? = some oi → ops[j]? = some oj → oi.dst = some d → oj.dst = some d → i = j)
    (hin : ∀ (i : Nat) (o : Oper) (d : Tmp), ops[i]? = some o → o.dst = some d → d < a0.tmps.size)
    (hv : o.dst ≠ none → v = (K i).val κ' i) (hκ : ∀ j, did listed j → (K j).val κ' j = (K j).val κ j) :
    (a.put o.dst v).defers = a0.defers ∧ (a.put o.dst v).tmps.size = a0.tmps.size ∧
    (∀ (j : Nat) (oj : Oper) (d : Tmp), ops[j]? = some oj → oj.dst = some d → did (listed.setIfInBounds i true) j → (a.put o.dst v).tmps[d]? = some ((K j).val κ' j)) ∧
    (∀ d : Tmp, (∀ (j : Nat) (oj : Oper), ops[j]? = some oj → oj.dst = some d → ¬ did (listed.setIfInBounds i true) j) → (a.put o.dst v).tmps[d]? = a0.tmps[d]?) := by
  refine ⟨put_defers.trans hI.defers, put_size.trans hI.size, ?_, ?_⟩
  · intro j oj d h1 h2 h3
    by_cases hji : j = i
    · subst hji
      rw [ho] at h1; cases h1
      rw [put_same h2 (by rw [hI.size]; exact hin _ _ _ ho h2), hv (by rw [h2]; simp)]
    · have h3' := ((hds j).1 h3).resolve_left hji
      have hne : o.dst ≠ some d := fun e => hji (hdst j i oj o d h1 ho h2 e)
      rw [put_other hne, hκ j h3']; exact hI.slot j oj d h1 h2 h3'
  · intro d hd
    have hne : o.dst ≠ some d := fun e => hd i o ho e ((hds i).2 (.inl rfl))
    rw [put_other hne]
    exact hI.rest d fun j oj h1 h2 h3 => hd j oj h1 h2 ((hds j).2 (.inr h3))

/-- WHAT IS ASKED OF SUCH A REGION -/
structure MReg (P : Program) (ops : Array Oper) (Q : Exit → Act → World → Prop) (K : Nat → Mk) (w0 : World) (a0 : Act) : Prop where
  guard : ∀ (i : Nat) (o : Oper), ops[i]? = some o → o.guard = none
  dst : ∀ (i j : Nat) (oi oj : Oper) (d : Tmp), ops[i]? = some oi → ops[j]? = some oj → oi.dst = some d → oj.dst = some d → i = j
  inn : ∀ (i : Nat) (o : Oper) (d : Tmp), ops[i]? = some o → o.dst = some d → d < a0.tmps.size
  once : ∀ s j q t c s' q' t' c', K s = .st j q t c → K s' = .st j q' t' c' → s' = s
  stdst : ∀ s j q t c (o : Oper), K s = .st j q t c → ops[s]? = some o → o.dst = none
  quiet : ∀ (i : Nat) (o : Oper) (v : Value), ops[i]? = some o → K i = .q v → ∀ (a : Act) (W : World), RowKit.Below w0.heap.size w0 W →
      (∀ d : Tmp, (∀ (i' : Nat) (o' : Oper), ops[i']? = some o' → o'.dst ≠ some d) → a.tmps[d]? = a0.tmps[d]?) →
      (∀ e ∈ o.after, Region.binds .any e = true → ∀ (o' : Oper) (d : Tmp) (v' : Value), ops[e.on]? = some o' → o'.dst = some d → K e.on = .q v' → a.tmps[d]? = some v') →
      ∀ (X : Act → World → Prop), (∀ W', RowKit.Below W.heap.size W W' → X (a.put o.dst v) W') → o.wp P a W X Q
  alloc : ∀ (i : Nat) (o : Oper) t z, ops[i]? = some o → K i = .al t z → ∀ (a : Act) (W : World), (execOp a.eval o).run P W = .ok (.value (.pointer (some ⟨W.heap.size, 0, none⟩))) (W.alloc (.cells z t))
  store : ∀ (s : Nat) (o : Oper) j q t c, ops[s]? = some o → K s = .st j q t c → ∃ (z : Array Value) (oj oq : Oper) (dj dq : Tmp) (v : Value), K j = .al t z ∧ ops[j]? = some oj ∧ ops[q]? = some oq ∧ oj.dst = some dj ∧ oq.dst = some dq ∧ K q = .q v ∧
      (∃ e ∈ o.after, Region.binds .any e = true ∧ e.on = j) ∧ (∃ e ∈ o.after, Region.binds .any e = true ∧ e.on = q) ∧
      ∀ (a : Act) (W : World) (k : Nat) (c0 : Array Value), a.tmps[dj]? = some (.pointer (some ⟨k, 0, none⟩)) → a.tmps[dq]? = some v → W.heap[k]? = some (.cells c0 t) → c0.size = z.size →
        c.size = z.size ∧ (execOp a.eval o).run P W = .ok .skip (W.setRow k c)
  lexical : ∀ (i : Nat) (o : Oper), ops[i]? = some o → ∀ e ∈ o.after, Region.binds .any e = true → e.on < i

theorem multi_step {K : Nat → Mk} {w0 : World} {a0 : Act} (R : MReg P ops Q K w0 a0)
    (listed : Array Bool) (κ : Nat → Nat) (a : Act) (W : World) (i : Nat) (hI : MInv ops K w0 a0 listed κ a W) (hsz : listed.size = ops.size) (hr : i ∈ Region.ready .any ops listed) :
    wpOp P ops Q i (fun a' W' => ∃ κ', MInv ops K w0 a0 (listed.setIfInBounds i true) κ' a' W') a W := by
  obtain ⟨hun, o, ho, hdep⟩ := mem_ready.1 hr
  have hlt : i < ops.size := (Array.getElem?_eq_some_iff.1 ho).1
  have hnot : ¬ did listed i := by
    have := getD_false hun
    unfold did
    simp at this
    simp [this]
  have hds : ∀ j, did (listed.setIfInBounds i true) j ↔ j = i ∨ did listed j := fun j => did_set (listed := listed) (i := i) (j := j) (by omega)
  have hwant : Region.wanted o (yielded ops a.tmps) = true := by unfold Region.wanted; rw [R.guard i o ho]
  unfold wpOp
  simp only [ho]
  rw [if_pos hwant]
  refine .inl ?_
  cases hK : K i with
  | q v =>
    refine R.quiet i o v ho hK a W hI.below ?_ ?_ _ ?_
    · intro d hd; exact hI.rest d fun i' o' h1 h2 => absurd h2 (hd i' o' h1)
    · intro e he hb o' d v' h1 h2 h3
      have := hI.slot e.on o' d h1 h2 (hdep e he hb)
      rw [h3] at this; exact this
    · intro W' hb
      have hkeep : ∀ k ob, W.heap[k]? = some ob → W'.heap[k]? = some ob := fun k ob h => (hb.block k (Array.getElem?_eq_some_iff.1 h).1).trans h
      obtain ⟨s1, s2, s3, s4⟩ := slots_step (κ' := κ) (v := v) hI ho hds hnot R.dst R.inn (fun _ => by rw [hK]; rfl) (fun _ _ => rfl)
      refine ⟨κ, hI.below.trans (hb.mono hI.below.size), s1, s2, s3, s4, ?_, ?_, ?_⟩
      · intro j t z h1 h2
        rcases (hds j).1 h2 with rfl | h2
        · rw [hK] at h1; cases h1
        · obtain ⟨h3, c, h4, h5⟩ := hI.made j t z h1 h2
          exact ⟨h3, c, hkeep _ _ h4, h5⟩
      · intro s j q t c h1 h2
        rcases (hds s).1 h2 with rfl | h2
        · rw [hK] at h1; cases h1
        · obtain ⟨h3, h4⟩ := hI.laid s j q t c h1 h2
          exact ⟨(hds j).2 (.inr h3), hkeep _ _ h4⟩
      · intro j j' h1 h2 h3 h4
        rcases (hds j).1 h3 with rfl | h3
        · rw [hK] at h1; cases h1
        · rcases (hds j').1 h4 with rfl | h4
          · rw [hK] at h2; cases h2
          · exact hI.apart j j' h1 h2 h3 h4
  | al t z =>
    have hrun := R.alloc i o t z ho hK a W
    unfold Oper.wp
    rw [hrun]
    show ∃ κ', MInv ops K w0 a0 (listed.setIfInBounds i true) κ' _ _
    have hκ : ∀ j, did listed j → (if j = i then W.heap.size else κ j) = κ j := fun j h => if_neg (fun e : j = i => hnot (e ▸ h))
    have hval : ∀ j, did listed j → (K j).val (fun j => if j = i then W.heap.size else κ j) j = (K j).val κ j := fun j h => by
      cases K j <;> simp only [Mk.val]
      rw [hκ j h]
    have hold : ∀ k ob, W.heap[k]? = some ob → (W.alloc (.cells z t)).heap[k]? = some ob := fun k ob h => (al_lt (Array.getElem?_eq_some_iff.1 h).1).trans h
    obtain ⟨s1, s2, s3, s4⟩ := slots_step (κ' := fun j => if j = i then W.heap.size else κ j) (v := .pointer (some ⟨W.heap.size, 0, none⟩)) hI ho hds hnot R.dst R.inn (fun _ => by rw [hK]; simp [Mk.val]) hval
    refine ⟨fun j => if j = i then W.heap.size else κ j, hI.below.alloc hI.below.size _, s1, s2, s3, s4, ?_, ?_, ?_⟩
    · intro j t' z' h1 h2
      rcases (hds j).1 h2 with rfl | h2
      · rw [hK] at h1; cases h1
        simp only [if_pos]
        exact ⟨hI.below.size, z, al_at rfl, rfl⟩
      · obtain ⟨h3, c, h4, h5⟩ := hI.made j t' z' h1 h2
        simp only [hκ j h2]
        exact ⟨h3, c, hold _ _ h4, h5⟩
    · intro s j q t' c h1 h2
      rcases (hds s).1 h2 with rfl | h2
      · rw [hK] at h1; cases h1
      · obtain ⟨h3, h4⟩ := hI.laid s j q t' c h1 h2
        simp only [hκ j h3]
        exact ⟨(hds j).2 (.inr h3), hold _ _ h4⟩
    · intro j j' h1 h2 h3 h4 hne
      have hκlt : ∀ x, (K x).isAl = true → did listed x → κ x < W.heap.size := fun x hx hd => by
        cases hKx : K x with
        | al t' z' => obtain ⟨_, c, h, _⟩ := hI.made x t' z' hKx hd; exact (Array.getElem?_eq_some_iff.1 h).1
        | q v => rw [hKx] at hx; cases hx
        | st a b c d => rw [hKx] at hx; cases hx
      have e3 := (hds j).1 h3
      have e4 := (hds j').1 h4
      rcases e3 with e3 | e3
      · rcases e4 with e4 | e4
        · exact absurd (e3.trans e4.symm) hne
        · simp only [if_pos e3, hκ j' e4]; have := hκlt j' h2 e4; omega
      · rcases e4 with e4 | e4
        · simp only [if_pos e4, hκ j e3]; have := hκlt j h1 e3; omega
        · simp only [hκ j e3, hκ j' e4]; exact hI.apart j j' h1 h2 e3 e4 hne
  | st j q t c =>
    obtain ⟨z, oj, oq, dj, dq, v, hKj, hoj, hoq, hdj, hdq, hKq, ⟨ej, hej, hbj, rfl⟩, ⟨eq, heq, hbq, rfl⟩, hrun⟩ := R.store i o j q t c ho hK
    have didj := hdep ej hej hbj
    have didq := hdep eq heq hbq
    have sj := hI.slot _ oj dj hoj hdj didj
    have sq := hI.slot _ oq dq hoq hdq didq
    rw [hKj] at sj
    rw [hKq] at sq
    obtain ⟨hbase, c0, hheap, hc0⟩ := hI.made _ t z hKj didj
    obtain ⟨hcz, hrun⟩ := hrun a W _ c0 sj sq hheap hc0
    unfold Oper.wp
    rw [hrun]
    show ∃ κ', MInv ops K w0 a0 (listed.setIfInBounds i true) κ' _ _
    have hd0 := R.stdst i _ _ t c o hK ho
    obtain ⟨s1, s2, s3, s4⟩ := slots_step (κ' := κ) (v := undef) hI ho hds hnot R.dst R.inn (fun h => absurd hd0 h) (fun _ _ => rfl)
    refine ⟨κ, below_setRow hI.below hbase hheap, s1, s2, s3, s4, ?_, ?_, ?_⟩
    · intro j' t' z' h1 h2
      rcases (hds j').1 h2 with rfl | h2
      · rw [hK] at h1; cases h1
      · obtain ⟨h3, c', h4, h5⟩ := hI.made j' t' z' h1 h2
        refine ⟨h3, ?_⟩
        rw [setRow_heap hheap]
        by_cases hk : κ j' = κ ej.on
        · rw [if_pos hk]
          have hjj : j' = ej.on := by
            by_cases hne : j' = ej.on
            · exact hne
            · exact absurd hk (hI.apart j' ej.on (by rw [h1]; rfl) (by rw [hKj]; rfl) h2 didj hne)
          rw [hjj, hKj] at h1; cases h1
          exact ⟨c, rfl, hcz⟩
        · rw [if_neg hk]; exact ⟨c', h4, h5⟩
    · intro s j' q' t' c' h1 h2
      rcases (hds s).1 h2 with rfl | h2
      · rw [hK] at h1; cases h1
        exact ⟨(hds _).2 (.inr didj), by rw [setRow_heap hheap, if_pos rfl]⟩
      · obtain ⟨h3, h4⟩ := hI.laid s j' q' t' c' h1 h2
        refine ⟨(hds _).2 (.inr h3), ?_⟩
        by_cases hjj : j' = ej.on
        · subst hjj
          exact absurd (R.once i _ _ _ _ s _ _ _ hK h1) fun e => hnot (e ▸ h2)
        · obtain ⟨oo, hoo⟩ : ∃ o', ops[s]? = some o' := by
            have : s < listed.size := by
              unfold did at h2
              rcases Nat.lt_or_ge s listed.size with h' | h'
              · exact h'
              · simp [Array.getElem?_eq_none h'] at h2
            exact ⟨_, Array.getElem?_eq_getElem (by omega)⟩
          obtain ⟨z', _, _, _, _, _, hKj', _⟩ := R.store s oo j' q' t' c' hoo h1
          rw [setRow_heap hheap, if_neg (hI.apart j' ej.on (by rw [hKj']; rfl) (by rw [hKj]; rfl) h3 didj hjj)]
          exact h4
    · intro j' j'' h1 h2 h3 h4
      rcases (hds j').1 h3 with rfl | h3
      · rw [hK] at h1; cases h1
      · rcases (hds j'').1 h4 with rfl | h4
        · rw [hK] at h2; cases h2
        · exact hI.apart j' j'' h1 h2 h3 h4

/-- all are listed where none may come up -/
theorem all_did {K : Nat → Mk} {w0 : World} {a0 : Act} (R : MReg P ops Q K w0 a0) {listed : Array Bool} (hsz : listed.size = ops.size) (hr : Region.ready .any ops listed = []) : ∀ n i, i < n → i < ops.size → did listed i := by
  intro n
  induction n with
  | zero => intro i h; omega
  | succ n ih =>
    intro i hi hlt
    by_cases hd : did listed i
    · exact hd
    · exfalso
      have : i ∈ Region.ready .any ops listed := by
        refine mem_ready.2 ⟨?_, ops[i], Array.getElem?_eq_getElem hlt, fun e he hb => ?_⟩
        · unfold did at hd
          have h' : i < listed.size := by omega
          simp [h'] at hd ⊢; exact hd
        · have hl := R.lexical i ops[i] (Array.getElem?_eq_getElem hlt) e he hb
          exact ih e.on (by omega) (by omega)
      rw [hr] at this; cases this
/-- the frame at the end -/
def MFin (ops : List Oper) (K : Nat → Mk) (κ : Nat → Nat) (tmps : Array Value) : Nat → Array Value
  | 0 => tmps
  | n + 1 => match (ops[n]?).bind (·.dst) with
    | some d => (MFin ops K κ tmps n).setIfInBounds d ((K n).val κ n)
    | none => MFin ops K κ tmps n
theorem MFin_size (l : List Oper) (K : Nat → Mk) (κ : Nat → Nat) (tmps : Array Value) : ∀ n, (MFin l K κ tmps n).size = tmps.size
  | 0 => rfl
  | n + 1 => by rw [MFin]; split <;> simp [MFin_size l K κ tmps n]
theorem MFin_get {K : Nat → Mk} {w0 : World} {a0 : Act} (R : MReg P ops Q K w0 a0) (κ : Nat → Nat) (d : Tmp) : ∀ n, n ≤ ops.size →
    (∀ (i : Nat) (o : Oper), i < n → ops[i]? = some o → o.dst = some d → (MFin ops.toList K κ a0.tmps n)[d]? = some ((K i).val κ i)) ∧
    ((∀ (i : Nat) (o : Oper), i < n → ops[i]? = some o → o.dst ≠ some d) → (MFin ops.toList K κ a0.tmps n)[d]? = a0.tmps[d]?)
  | 0, _ => ⟨fun i o h => by omega, fun _ => rfl⟩
  | n + 1, hn => by
    obtain ⟨ih1, ih2⟩ := MFin_get R κ d n (by omega)
    have hon : ops[n]? = some ops[n] := Array.getElem?_eq_getElem (by omega)
    have hon' : ops.toList[n]? = some ops[n] := by rw [Array.getElem?_toList]; exact hon
    refine ⟨fun i o hi h1 h2 => ?_, fun h => ?_⟩
    · rw [MFin, hon']
      simp only [Option.bind_some]
      by_cases hin : i = n
      · subst hin
        rw [hon] at h1; cases h1
        rw [h2]
        simp only []
        rw [Array.getElem?_setIfInBounds, if_pos rfl, if_pos (by rw [MFin_size]; exact R.inn i _ d hon h2)]
      · have hne : ops[n].dst ≠ some d := fun e => hin (R.dst i n o _ d h1 hon h2 e)
        have := ih1 i o (by omega) h1 h2
        cases hd : ops[n].dst with
        | none => exact this
        | some d' => simp only []; rw [Array.getElem?_setIfInBounds, if_neg (fun e => hne (by rw [hd, e]))]; exact this
    · rw [MFin, hon']
      simp only [Option.bind_some]
      have h0 := ih2 fun i o hi h1 => h i o (by omega) h1
      have hne := h n _ (by omega) hon
      cases hd : ops[n].dst with
      | none => exact h0
      | some d' => simp only []; rw [Array.getElem?_setIfInBounds, if_neg (fun e => hne (by rw [hd, e]))]; exact h0
/-- THE REGION: behind it every value lies in its slot, the variables are new blocks, each another, that hold what was laid into them. -/
theorem wp_multi {id : Nat} {K : Nat → Mk} {w : World} {a0 : Act} (hm : P.follows .mixedOrders = true) (R : MReg P ops Q K w.drew a0)
    (hQ : ∀ (κ : Nat → Nat) (W : World), RowKit.Below w.heap.size w W → (∀ i t z, i < ops.size → K i = .al t z → w.heap.size ≤ κ i) → (∀ s j q t c, s < ops.size → K s = .st j q t c → W.heap[κ j]? = some (.cells c t)) →
      (∀ i j, i < ops.size → j < ops.size → (K i).isAl = true → (K j).isAl = true → i ≠ j → κ i ≠ κ j) → Q .normal ⟨MFin ops.toList K κ a0.tmps ops.size, a0.defers⟩ W) :
    (Code.region id ops true).wp P Q a0 w := by
  refine wp_region_any hm ?_
  refine wpAny_inv (fun listed a W => listed.size = ops.size ∧ ∃ κ, MInv ops K w.drew a0 listed κ a W) ?_ ?_ _ _ _ _ (by simp [unl_rep]) ⟨by simp, fun _ => 0, ?_⟩
  · rintro listed a W i ⟨hsz, κ, hI⟩ hr
    exact wpOp_mono (fun a' W' ⟨κ', h⟩ => ⟨by simp [hsz], κ', h⟩) (multi_step R listed κ a W i hI hsz hr)
  · rintro listed a W ⟨hsz, κ, hI⟩ hr
    have hall := all_did R hsz hr ops.size
    have ha : a = ⟨MFin ops.toList K κ a0.tmps ops.size, a0.defers⟩ := by
      obtain ⟨t, df⟩ := a
      have h1 := hI.defers
      simp only at h1
      subst h1
      congr 1
      apply Array.ext_getElem?
      intro d
      obtain ⟨m1, m2⟩ := MFin_get R κ d ops.size (Nat.le_refl _)
      by_cases hex : ∃ (i : Nat) (o : Oper), ops[i]? = some o ∧ o.dst = some d
      · obtain ⟨i, o, h1, h2⟩ := hex
        have hlt : i < ops.size := (Array.getElem?_eq_some_iff.1 h1).1
        rw [m1 i o hlt h1 h2]
        exact hI.slot i o d h1 h2 (hall i hlt hlt)
      · rw [m2 fun i o _ h1 h2 => hex ⟨i, o, h1, h2⟩]
        exact hI.rest d fun i o h1 h2 _ => hex ⟨i, o, h1, h2⟩
    rw [ha]
    refine hQ κ W ?_ ?_ ?_ ?_
    · exact (show RowKit.Below w.heap.size w w.drew from (Below.refl _ _).drew).trans hI.below
    · intro i t z hlt h1; exact (hI.made i t z h1 (hall i hlt hlt)).1
    · intro s j q t c hlt h1; exact (hI.laid s j q t c h1 (hall s hlt hlt)).2
    · intro i j h1 h2 h3 h4; exact hI.apart i j h3 h4 (hall i h1 h1) (hall j h2 h2)
  · have hno : ∀ i, ¬ did (Array.replicate ops.size false) i := fun i => by
      unfold did
      rcases Nat.lt_or_ge i ops.size with h | h
      · simp [h]
      · simp [h]
    exact ⟨Below.refl _ _, rfl, rfl, fun i _ _ _ _ h => absurd h (hno i), fun _ _ => rfl, fun i _ _ _ h => absurd h (hno i), fun s _ _ _ _ _ h => absurd h (hno s), fun i _ _ _ h => absurd h (hno i)⟩
end
end Go.Proofs.Ytgebehnlfihliaa.Hd
