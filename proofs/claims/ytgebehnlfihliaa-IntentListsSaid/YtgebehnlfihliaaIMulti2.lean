/- The law of Multi with its closed conditions as one Bool, and the rest operation by operation. -/
import Derived.Test.YtgebehnlfihliaaIMulti
namespace Go.Proofs.Ytgebehnlfihliaa.Hd
open Go.RowKit Go.Sort

def Mk.tag (k : Mk) : Nat × Nat × Nat := match k with
  | Mk.q _ => (0, 0, 0)
  | Mk.al _ _ => (1, 0, 0)
  | Mk.st j m _ _ => (2, j, m)
/-- operation e.on binds operation number i -/
def bindsTo (o : Oper) (j : Nat) : Bool := o.after.any fun e => Region.binds .any e && e.on == j
def opOk (ops : List Oper) (tags : List (Nat × Nat × Nat)) (size : Nat) (i : Nat) (o : Oper) : Bool :=
  o.guard.isNone && (match o.dst with | some d => decide (d < size) | none => true) &&
  (o.after.all fun e => !Region.binds .any e || decide (e.on < i)) &&
  (match tags[i]? with
    | some (2, j, q) => o.dst.isNone && bindsTo o j && bindsTo o q && (match tags[j]? with | some (1, _) => true | _ => false) && (match tags[q]? with | some (0, _) => true | _ => false) &&
      ((ops[j]?).bind (·.dst)).isSome && ((ops[q]?).bind (·.dst)).isSome
    | some _ => true
    | none => false)
def idxOk (f : Nat → Oper → Bool) : Nat → List Oper → Bool
  | _, [] => true
  | i, o :: l => f i o && idxOk f (i + 1) l
theorem idxOk_spec {f : Nat → Oper → Bool} : ∀ (k : Nat) (l : List Oper), idxOk f k l = true → ∀ i o, l[i]? = some o → f (k + i) o = true
  | k, [], _, i, o, h => by simp at h
  | k, x :: l, h, i, o, ho => by
    simp only [idxOk, Bool.and_eq_true] at h
    cases i with
    | zero => simp at ho; subst ho; simpa using h.1
    | succ i => have := idxOk_spec (k + 1) l h.2 i o (by simpa using ho); rw [show k + (i + 1) = k + 1 + i by omega]; exact this
/-- no slot is written twice -/
def onceB : List Oper → Bool
  | [] => true
  | o :: l => (match o.dst with | some d => l.all fun o' => o'.dst != some d | none => true) && onceB l
theorem onceB_spec : ∀ (l : List Oper), onceB l = true → ∀ (i j : Nat) (oi oj : Oper) (d : Tmp), l[i]? = some oi → l[j]? = some oj → oi.dst = some d → oj.dst = some d → i = j
  | [], _, i, _, _, _, _, h, _, _, _ => by simp at h
  | x :: l, h, i, j, oi, oj, d, hi, hj, h1, h2 => by
    simp only [onceB, Bool.and_eq_true] at h
    have far : ∀ k (o : Oper), x.dst = some d → l[k]? = some o → o.dst = some d → False := fun k o hx hk ho => by
      have := h.1
      rw [hx] at this
      simp only [List.all_eq_true] at this
      have := this o (List.mem_of_getElem? hk)
      rw [ho] at this
      simp at this
    cases i with
    | zero =>
      cases j with
      | zero => rfl
      | succ j => simp at hi; subst hi; exact (far j oj h1 (by simpa using hj) h2).elim
    | succ i =>
      cases j with
      | zero => simp at hj; subst hj; exact (far i oi h2 (by simpa using hi) h1).elim
      | succ j => rw [onceB_spec l h.2 i j oi oj d (by simpa using hi) (by simpa using hj) h1 h2]
def stOnceB (tags : List (Nat × Nat × Nat)) : Bool :=
  (List.range tags.length).all fun s => (List.range tags.length).all fun s' => match tags[s]?, tags[s']? with
    | some (2, j, _), some (2, j', _) => s == s' || j != j'
    | _, _ => true
def chkB (ops : List Oper) (tags : List (Nat × Nat × Nat)) (size : Nat) : Bool :=
  decide (ops.length = tags.length) && idxOk (opOk ops tags size) 0 ops && onceB ops && stOnceB tags

/-- the slots that the region writes -/
def dstB (ops : List Oper) (d : Nat) : Bool := ops.any fun o => o.dst == some d
section
variable {P : Program} {Q : Exit → Act → World → Prop}
/-- what is to be shown of one operation -/
def Obl (P : Program) (Q : Exit → Act → World → Prop) (ops : List Oper) (ks : List Mk) (w0 : World) (a0 : Act) (o : Oper) : Mk → Prop
  | .q v => ∀ (a : Act) (W : World), RowKit.Below w0.heap.size w0 W → (∀ d : Nat, dstB ops d = false → a.tmps[d]? = a0.tmps[d]?) →
      (∀ (j d : Nat) (v' : Value), bindsTo o j = true → (ops[j]?).bind (·.dst) = some d → ks[j]? = some (.q v') → a.tmps[d]? = some v') →
      ∀ (X : Act → World → Prop), (∀ W', RowKit.Below W.heap.size W W' → X (a.put o.dst v) W') → o.wp P a W X Q
  | .al t z => ∀ (a : Act) (W : World), (execOp a.eval o).run P W = .ok (.value (.pointer (some ⟨W.heap.size, 0, none⟩))) (W.alloc (.cells z t))
  | .st j q t c => ∃ z v, ks[j]? = some (.al t z) ∧ ks[q]? = some (.q v) ∧ c.size = z.size ∧ ∀ (a : Act) (W : World) (k dj dq : Nat) (c0 : Array Value), (ops[j]?).bind (·.dst) = some dj → (ops[q]?).bind (·.dst) = some dq →
      a.tmps[dj]? = some (.pointer (some ⟨k, 0, none⟩)) → a.tmps[dq]? = some v → W.heap[k]? = some (.cells c0 t) → c0.size = z.size → (execOp a.eval o).run P W = .ok .skip (W.setRow k c)
def OblAll (P : Program) (Q : Exit → Act → World → Prop) (ops : List Oper) (ks : List Mk) (w0 : World) (a0 : Act) : List Oper → List Mk → Prop
  | o :: l, k :: m => Obl P Q ops ks w0 a0 o k ∧ OblAll P Q ops ks w0 a0 l m
  | _, _ => True
theorem OblAll_get {ops : List Oper} {ks : List Mk} {w0 : World} {a0 : Act} : ∀ (l : List Oper) (m : List Mk), OblAll P Q ops ks w0 a0 l m → ∀ (i : Nat) o k, l[i]? = some o → m[i]? = some k → Obl P Q ops ks w0 a0 o k
  | [], _, _, i, o, k, h, _ => by simp at h
  | _ :: _, [], _, i, o, k, _, h => by simp at h
  | x :: l, y :: m, h, i, o, k, h1, h2 => by
    cases i with
    | zero => simp at h1 h2; subst h1 h2; exact h.1
    | succ i => exact OblAll_get l m h.2 i o k (by simpa using h1) (by simpa using h2)
def kOf (ks : List Mk) (i : Nat) : Mk := (ks[i]?).getD (.q undef)
theorem mreg_of {l : List Oper} {ks : List Mk} {w0 : World} {a0 : Act} (hB : chkB l (ks.map Mk.tag) a0.tmps.size = true) (hO : OblAll P Q l ks w0 a0 l ks) : MReg P l.toArray Q (kOf ks) w0 a0 := by
  simp only [chkB, Bool.and_eq_true, decide_eq_true_eq, List.length_map] at hB
  obtain ⟨⟨⟨hlen, hops⟩, honce⟩, hsto⟩ := hB
  have hop : ∀ (i : Nat) (o : Oper), l.toArray[i]? = some o → l[i]? = some o := fun i o h => by simpa using h
  have hk : ∀ (i : Nat) (o : Oper), l[i]? = some o → ∃ k, ks[i]? = some k ∧ kOf ks i = k := fun i o h => by
    have hi := (List.getElem?_eq_some_iff.1 h).1
    exact ⟨ks[i]'(by omega), List.getElem?_eq_getElem (by omega), by simp [kOf, List.getElem?_eq_getElem (show i < ks.length by omega)]⟩
  have hspec := fun (i : Nat) (o : Oper) (h : l[i]? = some o) => idxOk_spec 0 l hops i o h
  have hin : ∀ s j q t c, kOf ks s = .st j q t c → s < ks.length := fun s j q t c h => by
    rcases Nat.lt_or_ge s ks.length with h' | h'
    · exact h'
    · rw [kOf, List.getElem?_eq_none h'] at h; cases h
  have htag : ∀ s (k : Mk), ks[s]? = some k → (ks.map Mk.tag)[s]? = some k.tag := fun s k h => by rw [List.getElem?_map, h]; rfl
  refine ⟨?_, ?_, ?_, ?_, ?_, ?_, ?_, ?_, ?_⟩
  · intro i o h
    have := hspec i o (hop i o h)
    simp only [opOk, Bool.and_eq_true, Nat.zero_add] at this
    exact Option.isNone_iff_eq_none.1 this.1.1.1
  · intro i j oi oj d h1 h2 h3 h4
    exact onceB_spec l honce i j oi oj d (hop _ _ h1) (hop _ _ h2) h3 h4
  · intro i o d h h1
    have := hspec i o (hop i o h)
    simp only [opOk, Bool.and_eq_true, Nat.zero_add] at this
    have h2 := this.1.1.2
    rw [h1] at h2
    simpa using h2
  · intro s j q t c s' q' t' c' h1 h2
    have hs := hin _ _ _ _ _ h1
    have hs' := hin _ _ _ _ _ h2
    have e1 : ks[s]? = some (.st j q t c) := by rw [List.getElem?_eq_getElem hs]; rw [kOf, List.getElem?_eq_getElem hs] at h1; exact congrArg some h1
    have e2 : ks[s']? = some (.st j q' t' c') := by rw [List.getElem?_eq_getElem hs']; rw [kOf, List.getElem?_eq_getElem hs'] at h2; exact congrArg some h2
    simp only [stOnceB, List.all_eq_true, List.mem_range, List.length_map] at hsto
    have := hsto s hs s' hs'
    rw [htag _ _ e1, htag _ _ e2] at this
    simp [Mk.tag] at this
    exact this.symm
  · intro s j q t c o h1 h2
    obtain ⟨k, hk1, hk2⟩ := hk s o (hop s o h2)
    rw [h1] at hk2
    have := hspec s o (hop s o h2)
    simp only [opOk, Bool.and_eq_true, Nat.zero_add] at this
    have h3 := this.2
    rw [htag _ _ hk1, ← hk2] at h3
    simp only [Mk.tag, Bool.and_eq_true] at h3
    exact Option.isNone_iff_eq_none.1 h3.1.1.1.1.1.1
  · intro i o v h h1 a W hb h0 hd X hX
    obtain ⟨k, hk1, hk2⟩ := hk i o (hop i o h)
    rw [h1] at hk2
    subst hk2
    have hobl := OblAll_get l ks hO i o _ (hop i o h) hk1
    refine hobl a W hb ?_ ?_ X hX
    · intro d hd'
      refine h0 d fun i' o' h' hdd => ?_
      have : dstB l d = true := by
        unfold dstB
        rw [List.any_eq_true]
        exact ⟨o', List.mem_of_getElem? (hop i' o' h'), by simp [hdd]⟩
      rw [hd'] at this; cases this
    · intro j d v' hbj hdj hkj
      obtain ⟨e, he, hbe⟩ := Array.any_eq_true'.1 hbj
      simp only [Bool.and_eq_true, beq_iff_eq] at hbe
      obtain ⟨hbe1, rfl⟩ := hbe
      obtain ⟨o', ho', hdo⟩ := Option.bind_eq_some_iff.1 hdj
      exact hd e he hbe1 o' d v' (by simpa using ho') hdo (by simp [kOf, hkj])
  · intro i o t z h h1 a W
    obtain ⟨k, hk1, hk2⟩ := hk i o (hop i o h)
    rw [h1] at hk2
    subst hk2
    exact OblAll_get l ks hO i o _ (hop i o h) hk1 a W
  · intro s o j q t c h h1
    obtain ⟨k, hk1, hk2⟩ := hk s o (hop s o h)
    rw [h1] at hk2
    subst hk2
    have := hspec s o (hop s o h)
    simp only [opOk, Bool.and_eq_true, Nat.zero_add] at this
    have h3 := this.2
    rw [htag _ _ hk1] at h3
    simp only [Mk.tag, Bool.and_eq_true] at h3
    obtain ⟨⟨⟨⟨⟨⟨_, b1⟩, b2⟩, _⟩, _⟩, d1⟩, d2⟩ := h3
    obtain ⟨z, v, g1, g2, g3, hrun⟩ := OblAll_get l ks hO s o _ (hop s o h) hk1
    obtain ⟨dj, hdj⟩ := Option.isSome_iff_exists.1 d1
    obtain ⟨dq, hdq⟩ := Option.isSome_iff_exists.1 d2
    obtain ⟨oj, hoj, hdj'⟩ := Option.bind_eq_some_iff.1 hdj
    obtain ⟨oq, hoq, hdq'⟩ := Option.bind_eq_some_iff.1 hdq
    have back : ∀ j, bindsTo o j = true → ∃ e ∈ o.after, Region.binds .any e = true ∧ e.on = j := fun j hb => by
      obtain ⟨e, he, hbe⟩ := Array.any_eq_true'.1 hb
      simp only [Bool.and_eq_true, beq_iff_eq] at hbe
      exact ⟨e, he, hbe.1, hbe.2⟩
    exact ⟨z, oj, oq, dj, dq, v, by simp [kOf, g1], by simpa using hoj, by simpa using hoq, hdj', hdq', by simp [kOf, g2], back j b1, back q b2,
      fun a W k c0 e1 e2 e3 e4 => ⟨g3, hrun a W k dj dq c0 hdj hdq e1 e2 e3 e4⟩⟩
  · intro i o h e he hb
    have := hspec i o (hop i o h)
    simp only [opOk, Bool.and_eq_true, Nat.zero_add] at this
    have h2 := this.1.2
    rw [Array.all_eq_true'] at h2
    have h3 := h2 e he
    rw [hb] at h3
    simpa using h3
/-- the law as it is used: the operations, what each of them is -/
theorem wp_multi_lit {id : Nat} {l : List Oper} (ks : List Mk) {w : World} {a0 : Act} (hm : P.follows .mixedOrders = true) (hB : chkB l (ks.map Mk.tag) a0.tmps.size = true) (hO : OblAll P Q l ks w.drew a0 l ks)
    (hQ : ∀ (κ : Nat → Nat) (W : World), RowKit.Below w.heap.size w W → (∀ i t z, i < l.length → kOf ks i = .al t z → w.heap.size ≤ κ i) → (∀ s j q t c, s < l.length → kOf ks s = .st j q t c → W.heap[κ j]? = some (.cells c t)) →
      (∀ i j, i < l.length → j < l.length → (kOf ks i).isAl = true → (kOf ks j).isAl = true → i ≠ j → κ i ≠ κ j) → Q .normal ⟨MFin l (kOf ks) κ a0.tmps l.length, a0.defers⟩ W) :
    (Code.region id l.toArray true).wp P Q a0 w :=
  wp_multi hm (mreg_of hB hO) (by simpa using hQ)
end
end Go.Proofs.Ytgebehnlfihliaa.Hd
