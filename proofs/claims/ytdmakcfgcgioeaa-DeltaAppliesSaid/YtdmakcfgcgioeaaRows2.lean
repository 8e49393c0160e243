/- The law of Rows1 with its closed conditions as one Bool, and the rest operation by operation. -/
import Derived.Test.YtdmakcfgcgioeaaRows1
namespace Go.Proofs.Ytdmakcfgcgioeaa
open Go.RowKit Go.Sort
namespace Rws
def opt : Option Nat → Nat
  | none => 0
  | some i => i + 1
def Mk.tag (k : Mk) : Nat × Nat × Nat := match k with
  | Mk.q _ => (0, 0, 0)
  | Mk.row _ _ _ _ c s => (1, opt c, opt s)
  | Mk.cp j => (2, j, 0)
/-- operation e.on binds operation number i -/
def bindsTo (o : Oper) (j : Nat) : Bool := o.after.any fun e => Region.binds .any e && e.on == j
def depOk (tags : List (Nat × Nat × Nat)) (o : Oper) (j : Nat) : Bool := bindsTo o j && (match tags[j]? with | some (1, _) => true | _ => false)
def opOk (tags : List (Nat × Nat × Nat)) (size : Nat) (i : Nat) (o : Oper) : Bool :=
  o.guard.isNone && (match o.dst with | some d => decide (d < size) | none => true) &&
  (o.after.all fun e => !Region.binds .any e || decide (e.on < i)) &&
  (match tags[i]? with
    | some (1, c, s) => (c == 0 || depOk tags o (c - 1)) && (s == 0 || depOk tags o (s - 1))
    | some (2, j, _) => depOk tags o j
    | some _ => true
    | none => false)
def idxOk (f : Nat → Oper → Bool) : Nat → List Oper → Bool
  | _, [] => true
  | i, o :: l => f i o && idxOk f (i + 1) l
theorem idxOk_spec {f : Nat → Oper → Bool} : ∀ (k : Nat) (l : List Oper), idxOk f k l = true → ∀ i o, l[i]? = some o → f (k + i) o = true
  | k, [], _, i, o, h => by simp at h
  | k, x :: l, h, i, o, ho => by
    simp only [idxOk, Bool.and_eq_true] at h
    cases i with
    | zero => simp at ho; subst ho; simpa using h.1
    | succ i => have := idxOk_spec (k + 1) l h.2 i o (by simpa using ho); rw [show k + (i + 1) = k + 1 + i by omega]; exact this
/-- no slot is written twice -/
def onceB : List Oper → Bool
  | [] => true
  | o :: l => (match o.dst with | some d => l.all fun o' => o'.dst != some d | none => true) && onceB l
theorem onceB_spec : ∀ (l : List Oper), onceB l = true → ∀ (i j : Nat) (oi oj : Oper) (d : Tmp), l[i]? = some oi → l[j]? = some oj → oi.dst = some d → oj.dst = some d → i = j
  | [], _, i, _, _, _, _, h, _, _, _ => by simp at h
  | x :: l, h, i, j, oi, oj, d, hi, hj, h1, h2 => by
    simp only [onceB, Bool.and_eq_true] at h
    have far : ∀ k (o : Oper), x.dst = some d → l[k]? = some o → o.dst = some d → False := fun k o hx hk ho => by
      have := h.1
      rw [hx] at this
      simp only [List.all_eq_true] at this
      have := this o (List.mem_of_getElem? hk)
      rw [ho] at this
      simp at this
    cases i with
    | zero =>
      cases j with
      | zero => rfl
      | succ j => simp at hi; subst hi; exact (far j oj h1 (by simpa using hj) h2).elim
    | succ i =>
      cases j with
      | zero => simp at hj; subst hj; exact (far i oi h2 (by simpa using hi) h1).elim
      | succ j => rw [onceB_spec l h.2 i j oi oj d (by simpa using hi) (by simpa using hj) h1 h2]
def conB (tags : List (Nat × Nat × Nat)) : Bool :=
  (List.range tags.length).all fun s => (List.range tags.length).all fun s' => match tags[s]?, tags[s']? with
    | some (1, c, r), some (1, c', _) => (c == 0 || s == s' || c != c') && (r == 0 || r != c')
    | _, _ => true
def chkB (ops : List Oper) (tags : List (Nat × Nat × Nat)) (size : Nat) : Bool :=
  decide (ops.length = tags.length) && idxOk (opOk tags size) 0 ops && onceB ops && conB tags
/-- slot d is not written before operation i -/
def leftB (ops : List Oper) (i d : Nat) : Bool := ops.all fun o => o.dst != some d || bindsTo o i
section
variable {P : Program} {Q : Exit → Act → World → Prop}
/-- the slots that the region leaves -/
def Left (ops : List Oper) (i : Nat) (a0 a : Act) : Prop := ∀ d : Nat, leftB ops i d = true → a.tmps[d]? = a0.tmps[d]?
/-- the slots that stand ahead of o -/
def Ahead (ops : List Oper) (ks : List Mk) (o : Oper) (a : Act) : Prop := ∀ (j d : Nat) (v' : Value), bindsTo o j = true → (ops[j]?).bind (·.dst) = some d → ks[j]? = some (.q v') → a.tmps[d]? = some v'
/-- the row of operation i, with value v -/
def RowOf (ops : List Oper) (ks : List Mk) (w0 : World) (a : Act) (W : World) (v : Value) (c : Option Nat) : Prop :=
  ∀ i', c = some i' → (∀ e' size' n' xs' c' s', ks[i']? = some (.row e' size' n' xs' c' s') → ownsR W w0.heap.size e' size' v n' xs') ∧ ∀ d, (ops[i']?).bind (·.dst) = some d → a.tmps[d]? = some v
/-- what is to be shown of one operation -/
def Obl (P : Program) (Q : Exit → Act → World → Prop) (ops : List Oper) (ks : List Mk) (w0 : World) (a0 : Act) (i : Nat) (o : Oper) : Mk → Prop
  | .q v => ∀ (a : Act) (W : World), RowKit.Below w0.heap.size w0 W → Left ops i a0 a → Ahead ops ks o a →
      ∀ (X : Act → World → Prop), (∀ W', RowKit.Below W.heap.size W W' → X (a.put o.dst v) W') → o.wp P a W X Q
  | .cp j => ∃ dj, (ops[j]?).bind (·.dst) = some dj ∧ ∀ (a : Act) (W : World) (v : Value), a.tmps[dj]? = some v → ∀ (X : Act → World → Prop), X (a.put o.dst v) W → o.wp P a W X Q
  | .row e size n xs c s => ∀ (a : Act) (W : World) (νc νs : Value), RowKit.Below w0.heap.size w0 W → Left ops i a0 a → Ahead ops ks o a → RowOf ops ks w0 a W νc c → RowOf ops ks w0 a W νs s →
      ∀ (X : Act → World → Prop), (∀ v' W', ownsR W' w0.heap.size e size v' n xs → W.grownBy W' (c.bind fun _ => νc.ownBlock) → (∀ g, v'.ownBlock = some g → (c.isSome = true ∧ νc.ownBlock = some g) ∨ W.heap.size ≤ g) → X (a.put o.dst v') W') → o.wp P a W X Q
def OblAll (P : Program) (Q : Exit → Act → World → Prop) (ops : List Oper) (ks : List Mk) (w0 : World) (a0 : Act) : Nat → List Oper → List Mk → Prop
  | i, o :: l, k :: m => Obl P Q ops ks w0 a0 i o k ∧ OblAll P Q ops ks w0 a0 (i + 1) l m
  | _, _, _ => True
theorem OblAll_get {ops : List Oper} {ks : List Mk} {w0 : World} {a0 : Act} : ∀ (s : Nat) (l : List Oper) (m : List Mk), OblAll P Q ops ks w0 a0 s l m → ∀ (i : Nat) o k, l[i]? = some o → m[i]? = some k → Obl P Q ops ks w0 a0 (s + i) o k
  | _, [], _, _, i, o, k, h, _ => by simp at h
  | _, _ :: _, [], _, i, o, k, _, h => by simp at h
  | s, x :: l, y :: m, h, i, o, k, h1, h2 => by
    cases i with
    | zero => simp at h1 h2; subst h1 h2; exact h.1
    | succ i => have := OblAll_get (s + 1) l m h.2 i o k (by simpa using h1) (by simpa using h2); rw [show s + (i + 1) = s + 1 + i by omega]; exact this
theorem OblAll_get0 {ops : List Oper} {ks : List Mk} {w0 : World} {a0 : Act} {l : List Oper} {m : List Mk} (h : OblAll P Q ops ks w0 a0 0 l m) (i : Nat) (o : Oper) (k : Mk) (h1 : l[i]? = some o) (h2 : m[i]? = some k) : Obl P Q ops ks w0 a0 i o k := by
  have := OblAll_get 0 l m h i o k h1 h2
  rwa [Nat.zero_add] at this
def kOf (ks : List Mk) (i : Nat) : Mk := (ks[i]?).getD (.q undef)
theorem opt_some {c : Option Nat} {i : Nat} (h : c = some i) : opt c = i + 1 := by subst h; rfl
theorem rreg_of {l : List Oper} {ks : List Mk} {w0 : World} {a0 : Act} (hB : chkB l (ks.map Mk.tag) a0.tmps.size = true) (hO : OblAll P Q l ks w0 a0 0 l ks) : RReg P l.toArray Q (kOf ks) w0 a0 := by
  simp only [chkB, Bool.and_eq_true, decide_eq_true_eq, List.length_map] at hB
  obtain ⟨⟨⟨hlen, hops⟩, honce⟩, hcon⟩ := hB
  have hop : ∀ (i : Nat) (o : Oper), l.toArray[i]? = some o → l[i]? = some o := fun i o h => by simpa using h
  have hk : ∀ (i : Nat) (o : Oper), l[i]? = some o → ∃ k, ks[i]? = some k ∧ kOf ks i = k := fun i o h => by
    have hi := (List.getElem?_eq_some_iff.1 h).1
    exact ⟨ks[i]'(by omega), List.getElem?_eq_getElem (by omega), by simp [kOf, List.getElem?_eq_getElem (show i < ks.length by omega)]⟩
  have hspec := fun (i : Nat) (o : Oper) (h : l[i]? = some o) => idxOk_spec 0 l hops i o h
  have hin : ∀ s, kOf ks s ≠ .q undef → ks[s]? = some (kOf ks s) ∧ s < ks.length := fun s h => by
    rcases Nat.lt_or_ge s ks.length with h' | h'
    · exact ⟨by rw [kOf, List.getElem?_eq_getElem h']; rfl, h'⟩
    · rw [kOf, List.getElem?_eq_none h'] at h; exact absurd rfl h
  have htag : ∀ s (k : Mk), ks[s]? = some k → (ks.map Mk.tag)[s]? = some k.tag := fun s k h => by rw [List.getElem?_map, h]; rfl
  have hC : ∀ j i, (kOf ks j).con = some i → ∃ e size n xs s, ks[j]? = some (.row e size n xs (some i) s) ∧ j < ks.length := fun j i h => by
    have h1 : kOf ks j ≠ .q undef := fun e => by rw [e] at h; cases h
    obtain ⟨h2, h3⟩ := hin j h1
    cases hkj : kOf ks j with
    | q v => rw [hkj] at h; cases h
    | cp v => rw [hkj] at h; cases h
    | row e size n xs c s =>
      rw [hkj] at h h2
      have : c = some i := h
      subst this
      exact ⟨e, size, n, xs, s, h2, h3⟩
  have hS : ∀ j i, (kOf ks j).src = some i → ∃ e size n xs c, ks[j]? = some (.row e size n xs c (some i)) ∧ j < ks.length := fun j i h => by
    have h1 : kOf ks j ≠ .q undef := fun e => by rw [e] at h; cases h
    obtain ⟨h2, h3⟩ := hin j h1
    cases hkj : kOf ks j with
    | q v => rw [hkj] at h; cases h
    | cp v => rw [hkj] at h; cases h
    | row e size n xs c s =>
      rw [hkj] at h h2
      have : s = some i := h
      subst this
      exact ⟨e, size, n, xs, c, h2, h3⟩
  simp only [conB, List.all_eq_true, List.mem_range, List.length_map] at hcon
  have qdep : ∀ (o : Oper) (a : Act), (∀ e ∈ o.after, Region.binds .any e = true → ∀ (o' : Oper) (d : Tmp) (v' : Value), l.toArray[e.on]? = some o' → o'.dst = some d → kOf ks e.on = .q v' → a.tmps[d]? = some v') → Ahead l ks o a := fun o a hd j d v' hbj hdj hkj => by
    obtain ⟨e, he, hbe⟩ := Array.any_eq_true'.1 hbj
    simp only [Bool.and_eq_true, beq_iff_eq] at hbe
    obtain ⟨hbe1, rfl⟩ := hbe
    obtain ⟨o', ho', hdo⟩ := Option.bind_eq_some_iff.1 hdj
    exact hd e he hbe1 o' d v' (by simpa using ho') hdo (by simp [kOf, hkj])
  have rest : ∀ (i : Nat) (a : Act), (∀ d : Tmp, (∀ (i' : Nat) (o' : Oper), l.toArray[i']? = some o' → o'.dst = some d → ∃ e ∈ o'.after, Region.binds .any e = true ∧ e.on = i) → a.tmps[d]? = a0.tmps[d]?) → Left l i a0 a := fun i a h0 d hd' => by
    refine h0 d fun i' o' h' hdd => ?_
    have := List.all_eq_true.1 hd' o' (List.mem_of_getElem? (hop i' o' h'))
    rw [hdd] at this
    simp at this
    obtain ⟨e, he, hbe⟩ := Array.any_eq_true'.1 this
    simp only [Bool.and_eq_true, beq_iff_eq] at hbe
    exact ⟨e, he, hbe.1, hbe.2⟩
  refine ⟨?_, ?_, ?_, ?_, ?_, ?_, ?_, ?_, ?_, ?_⟩
  · intro i o h
    have := hspec i o (hop i o h)
    simp only [opOk, Bool.and_eq_true, Nat.zero_add] at this
    exact Option.isNone_iff_eq_none.1 this.1.1.1
  · intro i j oi oj d h1 h2 h3 h4
    exact onceB_spec l honce i j oi oj d (hop _ _ h1) (hop _ _ h2) h3 h4
  · intro i o d h h1
    have := hspec i o (hop i o h)
    simp only [opOk, Bool.and_eq_true, Nat.zero_add] at this
    have h2 := this.1.1.2
    rw [h1] at h2
    simpa using h2
  · intro i o h e he hb
    have := hspec i o (hop i o h)
    simp only [opOk, Bool.and_eq_true, Nat.zero_add] at this
    have h2 := this.1.2
    rw [Array.all_eq_true'] at h2
    have h3 := h2 e he
    rw [hb] at h3
    simpa using h3
  · intro i j j' h1 h2
    obtain ⟨_, _, _, _, _, e1, l1⟩ := hC j i h1
    obtain ⟨_, _, _, _, _, e2, l2⟩ := hC j' i h2
    have := hcon j l1 j' l2
    rw [htag _ _ e1, htag _ _ e2] at this
    simp [Mk.tag, opt] at this
    exact this.1
  · intro i j j' h1 h2
    obtain ⟨_, _, _, _, _, e1, l1⟩ := hS j i h1
    obtain ⟨_, _, _, _, _, e2, l2⟩ := hC j' i h2
    have := hcon j l1 j' l2
    rw [htag _ _ e1, htag _ _ e2] at this
    simp [Mk.tag, opt] at this
  · intro i j o h h1
    have hsp := hspec j o (hop j o h)
    simp only [opOk, Bool.and_eq_true, Nat.zero_add] at hsp
    have h3 := hsp.2
    have key : depOk (ks.map Mk.tag) o i = true := by
      rcases h1 with h1 | h1 | h1
      · obtain ⟨e, size, n, xs, s, e1, l1⟩ := hC j i h1
        rw [htag _ _ e1] at h3
        simp only [Mk.tag, opt, Bool.and_eq_true] at h3
        simpa using h3.1
      · obtain ⟨e, size, n, xs, c, e1, l1⟩ := hS j i h1
        rw [htag _ _ e1] at h3
        simp only [Mk.tag, opt, Bool.and_eq_true] at h3
        simpa using h3.2
      · obtain ⟨h2, _⟩ := hin j (by rw [h1]; simp)
        rw [htag _ _ h2, h1] at h3
        exact h3
    simp only [depOk, Bool.and_eq_true] at key
    obtain ⟨k1, k2⟩ := key
    obtain ⟨e, he, hbe⟩ := Array.any_eq_true'.1 k1
    simp only [Bool.and_eq_true, beq_iff_eq] at hbe
    refine ⟨⟨e, he, hbe.1, hbe.2⟩, ?_⟩
    cases hki : ks[i]? with
    | none => rw [List.getElem?_map, hki] at k2; simp at k2
    | some k =>
      rw [htag _ _ hki] at k2
      cases k with
      | q v => simp [Mk.tag] at k2
      | cp v => simp [Mk.tag] at k2
      | row e size n xs c s => simp [kOf, hki, Mk.isRow]
  · intro i o v h h1 a W hb h0 hd X hX
    obtain ⟨k, hk1, hk2⟩ := hk i o (hop i o h)
    rw [h1] at hk2
    subst hk2
    exact OblAll_get0 hO i o _ (hop i o h) hk1 a W hb (rest i a h0) (qdep o a hd) X hX
  · intro i j o oj h h1 h2 a W v hv X hX
    obtain ⟨k, hk1, hk2⟩ := hk i o (hop i o h)
    rw [h1] at hk2
    subst hk2
    obtain ⟨dj, hdj, H⟩ := OblAll_get0 hO i o _ (hop i o h) hk1
    obtain ⟨o', ho', hdo⟩ := Option.bind_eq_some_iff.1 hdj
    have : o' = oj := by
      have e1 := hop j oj h2
      rw [ho'] at e1
      exact Option.some.inj e1
    subst this
    exact H a W v (hv dj hdo) X hX
  · intro i o e size n xs c s h h1 a W ν hb h0 hd hrow X hX
    obtain ⟨k, hk1, hk2⟩ := hk i o (hop i o h)
    rw [h1] at hk2
    subst hk2
    have mk : ∀ c' : Option Nat, (∀ i', c' = some i' → c = some i' ∨ s = some i') → RowOf l ks w0 a W ((c'.map ν).getD undef) c' := fun c' hc' i' hi' => by
      subst hi'
      have H := hrow i' (hc' i' rfl)
      refine ⟨fun e' size' n' xs' c' s' hk' => (H e' size' n' xs' c' s' (by simp [kOf, hk'])).1, fun d hd' => ?_⟩
      obtain ⟨o', ho', hdo⟩ := Option.bind_eq_some_iff.1 hd'
      have hlt := (List.getElem?_eq_some_iff.1 ho').1
      have hsp := hspec i o (hop i o h)
      simp only [opOk, Bool.and_eq_true, Nat.zero_add] at hsp
      have h3 := hsp.2
      rw [htag _ _ hk1] at h3
      simp only [Mk.tag, Bool.and_eq_true] at h3
      have key : depOk (ks.map Mk.tag) o i' = true := by
        rcases hc' i' rfl with hh | hh
        · rw [opt_some hh] at h3; simpa using h3.1
        · rw [opt_some hh] at h3; simpa using h3.2
      simp only [depOk, Bool.and_eq_true] at key
      have k2 := key.2
      cases hki : ks[i']? with
      | none => rw [List.getElem?_map, hki] at k2; simp at k2
      | some k =>
        rw [htag _ _ hki] at k2
        cases k with
        | q v => simp [Mk.tag] at k2
        | cp v => simp [Mk.tag] at k2
        | row e2 size2 n2 xs2 c2 s2 =>
          exact (H e2 size2 n2 xs2 c2 s2 (by simp [kOf, hki])).2 o' d (by simpa using ho') hdo
    refine OblAll_get0 hO i o _ (hop i o h) hk1 a W ((c.map ν).getD undef) ((s.map ν).getD undef) hb (rest i a h0) (qdep o a hd) (mk c (fun _ h => .inl h)) (mk s (fun _ h => .inr h)) X ?_
    intro v' W' g1 g2 g3
    refine hX v' W' g1 ?_ ?_
    · cases c with
      | none => exact g2
      | some i' => exact g2
    · intro g hg
      rcases g3 g hg with ⟨hc1, hc2⟩ | h9
      · obtain ⟨i', hi'⟩ := Option.isSome_iff_exists.1 hc1
        subst hi'
        exact .inl ⟨i', rfl, hc2⟩
      · exact .inr h9
/-- the law as it is used: the operations, what each of them is -/
theorem wp_rows_lit {id : Nat} {l : List Oper} (ks : List Mk) {w : World} {a0 : Act} (hm : P.follows .mixedOrders = true) (hB : chkB l (ks.map Mk.tag) a0.tmps.size = true) (hO : OblAll P Q l ks w.drew a0 0 l ks)
    (hQ : ∀ (ν : Nat → Value) (W : World), RowKit.Below w.heap.size w W → (∀ i e size n xs c s, i < l.length → kOf ks i = .row e size n xs c s → (∀ j, (kOf ks j).con ≠ some i) → ownsR W w.heap.size e size (ν i) n xs) →
      Q .normal ⟨MFin l (kOf ks) ν a0.tmps l.length, a0.defers⟩ W) :
    (Code.region id l.toArray true).wp P Q a0 w :=
  wp_rows hm (rreg_of hB hO) (by simpa using hQ)
end
end Rws
end Go.Proofs.Ytdmakcfgcgioeaa
