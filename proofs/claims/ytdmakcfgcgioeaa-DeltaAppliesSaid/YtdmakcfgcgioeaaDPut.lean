/- Delta: one part of a list of one's own is put anew; what a change does to tables. -/
import Derived.Test.YtdmakcfgcgioeaaDRow
namespace Go.Proofs.Ytdmakcfgcgioeaa
open Go.RowKit Go.Maps
set_option linter.unusedSimpArgs false
set_option linter.unusedVariables false
theorem OX.put {α : Type} {te : TypeId} {O : World → (Nat → Prop) → α → Value → Prop} (hO : Good O) {w w' : World} {S : Nat → Prop} {L : List α} {v : Value} {vs : List Value} {Ss : Nat → Nat → Prop} (h : OX te O w S L v vs Ss) (i : Nat) (hi : i < L.length) {x' : α} {u' : Value} {T' : Nat → Prop}
    (hsame : ∀ g, g < w.heap.size → ¬ Ss i g → v.ownBlock ≠ some g → w'.heap[g]? = w.heap[g]?) (hrow : Ow w' S te 1 v L.length (vs.set i u')) (hel : O w' T' x' u') (hT : ∀ g, T' g → g < w'.heap.size → (Ss i g ∧ g < w.heap.size) ∨ w.heap.size ≤ g) :
    OR te O w' (fun g => S g ∨ w.heap.size ≤ g) (L.set i x') v := by
  have hlen := h.len
  refine ⟨vs.set i u', fun j g => if j = i then T' g ∧ g < w'.heap.size else Ss j g ∧ g < w.heap.size, ?_, ?_, ?_, ?_⟩
  · rw [List.length_set]
    exact hrow.mono fun g _ hs => .inl hs
  · intro j hj
    rw [List.length_set] at hj
    by_cases e : j = i
    · subst e
      refine ⟨u', by rw [List.getElem?_set_self (by omega)], ?_⟩
      rw [List.getElem_set_self]
      simp only [if_true]
      exact hO.mono hel fun g h1 h2 => ⟨h1, h2⟩
    · obtain ⟨u, h1, h2⟩ := h.el j hj
      refine ⟨u, by rw [List.getElem?_set_ne (fun h => e h.symm)]; exact h1, ?_⟩
      rw [List.getElem_set_ne (fun h => e h.symm)]
      simp only [if_neg e]
      refine hO.frame (hO.mono h2 fun g h3 h4 => ⟨h3, h4⟩) fun g h3 h4 => hsame g h3.2 (h.dj j i g hj hi e h3.1) (h.sub j g hj h3.1).2
  · intro j g hj hg
    rw [List.length_set] at hj
    by_cases e : j = i
    · subst e
      simp only [if_true] at hg
      rcases hT g hg.1 hg.2 with h1 | h1
      · exact ⟨.inl (h.sub j g hj h1.1).1, (h.sub j g hj h1.1).2⟩
      · exact ⟨.inr h1, fun e2 => by have := (h.row.lt e2).2; omega⟩
    · simp only [if_neg e] at hg
      exact ⟨.inl (h.sub j g hj hg.1).1, (h.sub j g hj hg.1).2⟩
  · intro j k g hj hk hjk h1 h2
    rw [List.length_set] at hj hk
    by_cases e : j = i
    · subst e
      simp only [if_true] at h1
      have hkj : ¬ k = j := fun h => hjk h.symm
      simp only [if_neg hkj] at h2
      rcases hT g h1.1 h1.2 with h3 | h3
      · exact h.dj j k g hj hk hjk h3.1 h2.1
      · omega
    · simp only [if_neg e] at h1
      by_cases e2 : k = i
      · subst e2
        simp only [if_true] at h2
        rcases hT g h2.1 h2.2 with h3 | h3
        · exact h.dj j k g hj hk hjk h1.1 h3.1
        · omega
      · simp only [if_neg e2] at h2
        exact h.dj j k g hj hk hjk h1.1 h2.1
/-- a row's cell is put anew. -/
theorem Ow.setc {W : World} {B : Nat → Prop} {e : TypeId} {n c : Nat} {xs : List Value} {g : Nat} (h : Ow W B e 1 (.slice (some ⟨g, 0, .none⟩) n c) n xs) (i : Nat) (hi : i < n) (u : Value) : Ow (W.setCell ⟨g, i, .none⟩ u) B e 1 (.slice (some ⟨g, 0, .none⟩) n c) n (xs.set i u) := by
  obtain ⟨cur, hB, hg, h1, h2, h3, h4⟩ := h.blk2
  refine ⟨by rw [List.length_set]; exact h.1, .inr ⟨g, c, _, rfl, hB, sc_at9 hg, h1, h2, by rw [Array.size_setIfInBounds]; exact h3, ?_⟩⟩
  rw [Array.toList_setIfInBounds, ← h4, List.take_set]
def zeroR : Ru := ⟨0, 0, 0, 0, 0, 0, 0, 0, 0, 0, 0, 0⟩
def tab (T : List (List (List Ru))) (n m : Nat) : List Ru := (T.getD n []).getD m []
def putT (T : List (List (List Ru))) (n m : Nat) (t : List Ru) : List (List (List Ru)) := T.set n ((T.getD n []).set m t)
/-- what a change does. -/
def oneF (T : List (List (List Ru))) (x : Ed) : Int × List (List (List Ru)) :=
  if x.sw < 0 ∨ (T.length : Int) ≤ x.sw ∨ x.tb < 0 ∨ ((T.getD x.sw.toNat []).length : Int) ≤ x.tb then (4, T)
  else if x.at_ < 0 ∨ ((tab T x.sw.toNat x.tb.toNat).length : Int) < x.at_ ∨ (x.gone = true ∧ x.at_ = ((tab T x.sw.toNat x.tb.toNat).length : Int)) then (4, T)
  else if x.gone = true ∧ x.r ≠ zeroR then (1, T)
  else (0, putT T x.sw.toNat x.tb.toNat (if x.gone = true then (tab T x.sw.toNat x.tb.toNat).eraseIdx x.at_.toNat else (tab T x.sw.toNat x.tb.toNat).take x.at_.toNat ++ x.r :: (tab T x.sw.toNat x.tb.toNat).drop x.at_.toNat))
/-- only blocks of S have turned; the heap may have grown. -/
structure Fr (S : Nat → Prop) (w w' : World) : Prop where
  os : w'.os = w.os
  tape : w'.tape = w.tape
  output : w'.output = w.output
  size : w.heap.size ≤ w'.heap.size
  same : ∀ g, g < w.heap.size → ¬ S g → w'.heap[g]? = w.heap[g]?
theorem Fr.refl (S : Nat → Prop) (w : World) : Fr S w w := ⟨rfl, rfl, rfl, Nat.le_refl _, fun _ _ _ => rfl⟩
theorem Fr.trans {S : Nat → Prop} {a b c : World} (h : Fr S a b) (k : Fr S b c) : Fr S a c :=
  ⟨k.os.trans h.os, k.tape.trans h.tape, k.output.trans h.output, Nat.le_trans h.size k.size, fun g hg hs => (k.same g (Nat.lt_of_lt_of_le hg h.size) hs).trans (h.same g hg hs)⟩
theorem Fr.of_below {S : Nat → Prop} {w w' : World} (h : RowKit.Below w.heap.size w w') : Fr S w w' := ⟨h.os, h.tape, h.output, h.size, fun g hg _ => h.block g hg⟩
theorem Fr.mono {S S' : Nat → Prop} {w w' : World} (h : Fr S w w') (hs : ∀ g, g < w.heap.size → S g → S' g) : Fr S' w w' := ⟨h.os, h.tape, h.output, h.size, fun g hg hn => h.same g hg fun h => hn (hs g hg h)⟩
/-- the tables' lists are no longer than memory bears. -/
structure Bt (T : List (List (List Ru))) : Prop where
  n : T.length ≤ 10000000
  ns : ∀ t ∈ T, t.length ≤ 10000000
  nl : ∀ t ∈ T, ∀ l ∈ t, l.length ≤ 20000000
/-- the tables' lists bear one rule more. -/
structure Bq (T : List (List (List Ru))) : Prop where
  n : T.length ≤ 5864062014805
  ns : ∀ t ∈ T, t.length ≤ 5864062014805
  nl : ∀ t ∈ T, ∀ l ∈ t, l.length ≤ 1466015503700
theorem grown_of_below {V V' w1 : World} {r : Option Nat} (hb : RowKit.Below V.heap.size V V') (hg : V'.grownBy w1 r) : V.grownBy w1 r :=
  ⟨hg.os.trans hb.os, hg.tape.trans hb.tape, hg.output.trans hb.output, Nat.le_trans hb.size hg.size, fun k hk hr => (hg.block k (Nat.lt_of_lt_of_le hk hb.size) hr).trans (hb.block k hk)⟩
theorem put_tab {V w1 : World} {S : Nat → Prop} {T : List (List (List Ru))} {vt : Value} {vs : List Value} {Ss : Nat → Nat → Prop} (hox : OX 43 (OR 44 (O1 ceR 53 12)) V S T vt vs Ss) (sn : Nat) (hsn : sn < T.length) {u : Value} (hu : vs[sn]? = some u)
    {ws : List Value} {Ts : Nat → Nat → Prop} (hoy : OX 44 (O1 ceR 53 12) V (Ss sn) T[sn] u ws Ts) (tn : Nat) (htn : tn < T[sn].length) {u2 : Value} (hoz : O1 ceR 53 12 V (Ts tn) T[sn][tn] u2) {bs cs : Nat} (hub : u = .slice (some ⟨bs, 0, none⟩) T[sn].length cs)
    {t' : List Ru} {u2' : Value} (hnew : O1 ceR 53 12 w1 (fun g => Ts tn g ∨ V.heap.size ≤ g) t' u2') (hg : V.grownBy w1 u2.ownBlock) :
    OR 43 (OR 44 (O1 ceR 53 12)) (w1.setCell ⟨bs, tn, none⟩ u2') (fun g => S g ∨ V.heap.size ≤ g) (T.set sn (T[sn].set tn t')) vt ∧ Fr S V (w1.setCell ⟨bs, tn, none⟩ u2') := by
  subst hub
  have hrow := hoy.row
  have hbs : Ss sn bs ∧ bs < V.heap.size := hrow.lt (g := bs) rfl
  have hbS := hox.sub sn bs hsn hbs.1
  have hown : ∀ g, u2.ownBlock = some g → Ts tn g ∧ g < V.heap.size := fun g hg => Ow.lt hoz hg
  have hsame : ∀ g, g < V.heap.size → g ≠ bs → u2.ownBlock ≠ some g → (w1.setCell ⟨bs, tn, none⟩ u2').heap[g]? = V.heap[g]? := fun g h1 h2 h3 => (Below.heap_setCell w1 ⟨bs, tn, none⟩ u2' g h2).trans (hg.block g h1 (fun e => h3 e.symm))
  have hsz : (w1.setCell ⟨bs, tn, none⟩ u2').heap.size = w1.heap.size := by simp
  have hinner := hoy.put (w' := w1.setCell ⟨bs, tn, none⟩ u2') (good1 ceR 53 12) tn htn (x' := t') (u' := u2') (T' := fun g => Ts tn g ∨ V.heap.size ≤ g)
    (fun g h1 h2 h3 => hsame g h1 (fun e => h3 (by rw [e]; rfl)) (fun e => h2 (hown g e).1))
    (Ow.setc (hrow.keep fun g hgo => hg.block g (hrow.lt hgo).2 (fun e => (hoy.sub tn g htn (hown g e.symm).1).2 hgo)) tn htn u2')
    (Ow.keep hnew fun g hgo => Below.heap_setCell w1 ⟨bs, tn, none⟩ u2' g (fun e => by
      rcases (Ow.lt hnew hgo).1 with h1 | h1
      · exact (hoy.sub tn g htn h1).2 (by rw [show g = bs from e]; rfl)
      · have := hbs.2; have : g = bs := e; omega))
    (fun g h1 h2 => by
      rcases h1 with h1 | h1
      · by_cases h3 : g < V.heap.size
        · exact .inl ⟨h1, h3⟩
        · exact .inr (by omega)
      · exact .inr h1)
  have hvs : vs.set sn (.slice (some ⟨bs, 0, none⟩) T[sn].length cs) = vs := by
    apply List.ext_getElem?
    intro j
    by_cases e : j = sn
    · subst e
      rw [List.getElem?_set_self (by rw [hox.len]; exact hsn), hu]
    · rw [List.getElem?_set_ne (fun h => e h.symm)]
  have houter := hox.put (w' := w1.setCell ⟨bs, tn, none⟩ u2') (goodR (good1 ceR 53 12)) sn hsn (x' := T[sn].set tn t') (u' := .slice (some ⟨bs, 0, none⟩) T[sn].length cs) (T' := fun g => Ss sn g ∨ V.heap.size ≤ g)
    (fun g h1 h2 h3 => hsame g h1 (fun e => h2 (by rw [e]; exact hbs.1)) (fun e => h2 (hoy.sub tn g htn (hown g e).1).1))
    (by
      rw [hvs]
      refine hox.row.keep fun g hgo => hsame g (hox.row.lt hgo).2 (fun e => hbS.2 (by rw [← e]; exact hgo)) (fun e => ?_)
      exact (hox.sub sn g hsn (hoy.sub tn g htn (hown g e).1).1).2 hgo)
    hinner
    (fun g h1 h2 => by
      rcases h1 with h1 | h1
      · by_cases h3 : g < V.heap.size
        · exact .inl ⟨h1, h3⟩
        · exact .inr (by omega)
      · exact .inr h1)
  refine ⟨houter, hg.os, hg.tape, hg.output, by rw [hsz]; exact hg.size, fun g h1 h2 => hsame g h1 (fun e => h2 (by rw [e]; exact hbS.1)) (fun e => h2 (hox.sub sn g hsn (hoy.sub tn g htn (hown g e).1).1).1)⟩
end Go.Proofs.Ytdmakcfgcgioeaa
