/- Delta: rows of rows: as they are read, and of one's own. -/
import Derived.Test.YtdmakcfgcgioeaaDClone
namespace Go.Proofs.Ytdmakcfgcgioeaa
open Go.RowKit Go.Maps
set_option linter.unusedSimpArgs false
set_option linter.unusedVariables false
set_option maxRecDepth 100000
theorem Ow.nn {W : World} {B : Nat → Prop} {e : TypeId} {sz n : Nat} {o : Option Addr} {c : Nat} {xs : List Value} (h : Ow W B e sz (.slice o n c) n xs) (ho : o = none) : n = 0 ∧ c = 0 := by
  rcases h.2 with ⟨e, hn⟩ | ⟨g, c2, cur, e, _⟩
  · exact ⟨hn, by simp at e; exact e.2.2⟩
  · simp [ho] at e
theorem sc_at9 {w : World} {x o : Nat} {v : Value} {c : Array Value} {t : TypeId} {f : Nat × Nat} (h : w.heap[x]? = some (.cells c t f)) : (w.setCell ⟨x, o, .none⟩ v).heap[x]? = some (.cells (c.setIfInBounds o v) t f) := by
  simp [World.setCell, Array.getElem?_modify, h]
/-- a list lies where a slice says; no memory: no list. -/
def Sl {α : Type} (ce : α → List Value) (W : World) (l : List α) (v : Value) : Prop :=
  ∃ o c, v = .slice o l.length c ∧ (o = none → l.length = 0 ∧ c = 0) ∧ Rd W o l.length c (l.flatMap ce)
/-- .. a list of what P says. -/
def Rows {α : Type} (P : World → α → Value → Prop) (W : World) (L : List α) (v : Value) : Prop :=
  ∃ o c vs, v = .slice o L.length c ∧ (o = none → L.length = 0 ∧ c = 0) ∧ Rd W o L.length c vs ∧ vs.length = L.length ∧ ∀ i (hi : i < L.length), ∃ u, vs[i]? = some u ∧ P W L[i] u
theorem Sl.below {α : Type} {ce : α → List Value} {W W' : World} {l : List α} {v : Value} (h : Sl ce W l v) (hb : RowKit.Below W.heap.size W W') : Sl ce W' l v := by
  obtain ⟨o, c, h1, h2, h3⟩ := h
  exact ⟨o, c, h1, h2, h3.below hb⟩
theorem Rows.below {α : Type} {P : World → α → Value → Prop} {W W' : World} {L : List α} {v : Value} (hP : ∀ x u, P W x u → P W' x u) (h : Rows P W L v) (hb : RowKit.Below W.heap.size W W') : Rows P W' L v := by
  obtain ⟨o, c, vs, h1, h2, h3, h4, h5⟩ := h
  exact ⟨o, c, vs, h1, h2, h3.below hb, h4, fun i hi => by obtain ⟨u, h6, h7⟩ := h5 i hi; exact ⟨u, h6, hP _ _ h7⟩⟩
/-- what O says stays where its blocks stay, and in more blocks. -/
structure Good {α : Type} (O : World → (Nat → Prop) → α → Value → Prop) : Prop where
  frame : ∀ {W W' : World} {S : Nat → Prop} {x : α} {v : Value}, O W S x v → (∀ g, S g → g < W.heap.size → W'.heap[g]? = W.heap[g]?) → O W' S x v
  mono : ∀ {W : World} {S S' : Nat → Prop} {x : α} {v : Value}, O W S x v → (∀ g, S g → g < W.heap.size → S' g) → O W S' x v
def O1 {α : Type} (ce : α → List Value) (e : TypeId) (sz : Nat) (W : World) (S : Nat → Prop) (l : List α) (v : Value) : Prop := Ow W S e sz v l.length (l.flatMap ce)
theorem good1 {α : Type} (ce : α → List Value) (e : TypeId) (sz : Nat) : Good (O1 ce e sz) :=
  ⟨fun h hf => h.keep fun g hg => hf g (h.lt hg).1 (h.lt hg).2, fun h hf => h.mono fun g hg hs => hf g hs (h.lt hg).2⟩
structure OX {α : Type} (te : TypeId) (O : World → (Nat → Prop) → α → Value → Prop) (W : World) (S : Nat → Prop) (L : List α) (v : Value) (vs : List Value) (Ss : Nat → Nat → Prop) : Prop where
  row : Ow W S te 1 v L.length vs
  el : ∀ i (hi : i < L.length), ∃ u, vs[i]? = some u ∧ O W (Ss i) L[i] u
  sub : ∀ i g, i < L.length → Ss i g → S g ∧ v.ownBlock ≠ some g
  dj : ∀ i j g, i < L.length → j < L.length → i ≠ j → Ss i g → ¬ Ss j g
/-- a list of one's own, all of whose parts lie apart. -/
def OR {α : Type} (te : TypeId) (O : World → (Nat → Prop) → α → Value → Prop) (W : World) (S : Nat → Prop) (L : List α) (v : Value) : Prop := ∃ vs Ss, OX te O W S L v vs Ss
section
variable {α : Type} {te : TypeId} {O : World → (Nat → Prop) → α → Value → Prop}
theorem OX.frame (hO : Good O) {W W' : World} {S : Nat → Prop} {L : List α} {v : Value} {vs : List Value} {Ss : Nat → Nat → Prop} (h : OX te O W S L v vs Ss) (hf : ∀ g, S g → g < W.heap.size → W'.heap[g]? = W.heap[g]?) : OX te O W' S L v vs Ss :=
  ⟨h.row.keep fun g hg => hf g (h.row.lt hg).1 (h.row.lt hg).2, fun i hi => by
    obtain ⟨u, h1, h2⟩ := h.el i hi
    exact ⟨u, h1, hO.frame h2 fun g hg hl => hf g (h.sub i g hi hg).1 hl⟩, h.sub, h.dj⟩
theorem OX.mono (hO : Good O) {W : World} {S S' : Nat → Prop} {L : List α} {v : Value} {vs : List Value} {Ss : Nat → Nat → Prop} (h : OX te O W S L v vs Ss) (hf : ∀ g, S g → g < W.heap.size → S' g) : OX te O W S' L v vs (fun i g => Ss i g ∧ g < W.heap.size) :=
  ⟨h.row.mono fun g hg hs => hf g hs (h.row.lt hg).2, fun i hi => by
    obtain ⟨u, h1, h2⟩ := h.el i hi
    exact ⟨u, h1, hO.mono h2 fun g hg hl => ⟨hg, hl⟩⟩, fun i g hi hg => ⟨hf g (h.sub i g hi hg.1).1 hg.2, (h.sub i g hi hg.1).2⟩, fun i j g hi hj hij h1 h2 => h.dj i j g hi hj hij h1.1 h2.1⟩
theorem goodR (hO : Good O) : Good (OR te O) :=
  ⟨fun ⟨vs, Ss, h⟩ hf => ⟨vs, Ss, h.frame hO hf⟩, fun ⟨vs, Ss, h⟩ hf => ⟨vs, _, h.mono hO hf⟩⟩
theorem OX.nil {W : World} {S : Nat → Prop} : OX te O W S [] (.slice none 0 0) [] (fun _ _ => False) :=
  ⟨Ow.nil rfl, fun i hi => by simp at hi, fun i g hi => by simp at hi, fun i j g hi => by simp at hi⟩
theorem OX.len {W : World} {S : Nat → Prop} {L : List α} {v : Value} {vs : List Value} {Ss : Nat → Nat → Prop} (h : OX te O W S L v vs Ss) : vs.length = L.length := by have := h.row.1; omega
theorem OX.clip {W : World} {S : Nat → Prop} {L : List α} {o : Option Addr} {n c : Nat} {vs : List Value} {Ss : Nat → Nat → Prop} (h : OX te O W S L (.slice o n c) vs Ss) (hn : n = L.length) : OX te O W S L (.slice o n n) vs Ss := by
  subst hn
  exact ⟨h.row.clip, h.el, fun i g hi hg => ⟨(h.sub i g hi hg).1, fun e => (h.sub i g hi hg).2 (by cases o <;> exact e)⟩, h.dj⟩
/-- one more behind. -/
theorem OX.snoc (hO : Good O) {w w1 w2 w' : World} {S S' B' T : Nat → Prop} {L : List α} {v v' u : Value} {vs : List Value} {Ss : Nat → Nat → Prop} {x : α} (h : OX te O w S L v vs Ss)
    (hu : O w1 T x u) (hT : ∀ g, T g → w.heap.size ≤ g) (hb : RowKit.Below w.heap.size w w1) (h2 : RowKit.Below w1.heap.size w1 w2)
    (hrow : Ow w' B' te 1 v' (L.length + 1) (vs ++ [u])) (hg : w2.grownBy w' v.ownBlock) (hat : v'.ownBlock = v.ownBlock ∨ v'.ownBlock = some w2.heap.size)
    (hS : ∀ g, S g → g < w.heap.size → S' g) (hS' : ∀ g, w.heap.size ≤ g → g < w'.heap.size → S' g) : OR te O w' S' (L ++ [x]) v' := by
  have hlen := h.len
  have hsz : w.heap.size ≤ w1.heap.size := hb.size
  have hsz2 : w1.heap.size ≤ w2.heap.size := h2.size
  have hvl : ∀ g, v.ownBlock = some g → S g ∧ g < w.heap.size := fun g hg => h.row.lt hg
  have hsame : ∀ g, g < w1.heap.size → v.ownBlock ≠ some g → w'.heap[g]? = w1.heap[g]? := fun g hl hne => (hg.block g (by omega) (fun e => hne e.symm)).trans (h2.block g hl)
  refine ⟨vs ++ [u], fun i g => if i < L.length then Ss i g ∧ g < w.heap.size else T g ∧ g < w1.heap.size, ?_, ?_, ?_, ?_⟩
  · have : (L ++ [x]).length = L.length + 1 := by simp
    rw [this]
    refine hrow.mono fun g hgv _ => ?_
    have hl := (hrow.lt hgv).2
    rcases hat with e | e
    · rw [e] at hgv
      exact hS g (hvl g hgv).1 (hvl g hgv).2
    · rw [e] at hgv
      obtain rfl : w2.heap.size = g := by simpa using hgv
      exact hS' _ (by omega) hl
  · intro i hi
    by_cases hlt : i < L.length
    · obtain ⟨u', h3, h4⟩ := h.el i hlt
      refine ⟨u', by rw [List.getElem?_append_left (by omega)]; exact h3, ?_⟩
      rw [List.getElem_append_left hlt]
      simp only [if_pos hlt]
      refine hO.frame (hO.mono h4 fun g hg1 hl => ⟨hg1, hl⟩) fun g hg1 hl => ?_
      exact (hsame g (by omega) (h.sub i g hlt hg1.1).2).trans (hb.block g hl)
    · have hi' : i = L.length := by simp at hi; omega
      subst hi'
      refine ⟨u, by rw [List.getElem?_append_right (by omega), hlen]; simp, ?_⟩
      have e1 : (L ++ [x])[L.length] = x := by simp
      rw [e1]
      simp only [if_neg hlt]
      refine hO.frame (hO.mono hu fun g hg1 hl => ⟨hg1, hl⟩) fun g hg1 hl => ?_
      refine hsame g hl (fun e => ?_)
      have := (hvl g e).2
      have := hT g hg1.1
      omega
  · intro i g hi hg1
    by_cases hlt : i < L.length
    · simp only [if_pos hlt] at hg1
      have h5 := h.sub i g hlt hg1.1
      refine ⟨hS g h5.1 hg1.2, fun e => ?_⟩
      rcases hat with e2 | e2
      · rw [e2] at e; exact h5.2 e
      · rw [e2] at e
        have : w2.heap.size = g := by simpa using e
        omega
    · simp only [if_neg hlt] at hg1
      have h6 := hT g hg1.1
      refine ⟨hS' g h6 (Nat.lt_of_lt_of_le (Nat.lt_of_lt_of_le hg1.2 hsz2) hg.size), fun e => ?_⟩
      rcases hat with e2 | e2
      · rw [e2] at e
        have := (hvl g e).2
        omega
      · rw [e2] at e
        have : w2.heap.size = g := by simpa using e
        omega
  · intro i j g hi hj hij h1 h3
    simp only [List.length_append, List.length_cons, List.length_nil] at hi hj
    by_cases hlt : i < L.length
    · simp only [if_pos hlt] at h1
      by_cases hlt2 : j < L.length
      · simp only [if_pos hlt2] at h3
        exact h.dj i j g hlt hlt2 hij h1.1 h3.1
      · simp only [if_neg hlt2] at h3
        have := hT g h3.1
        omega
    · simp only [if_neg hlt] at h1
      have := hT g h1.1
      by_cases hlt2 : j < L.length
      · simp only [if_pos hlt2] at h3
        omega
      · omega
/-- as it is read. -/
theorem OX.rows (R : World → α → Value → Prop) (hR : ∀ {W S x v}, O W S x v → R W x v) {W : World} {S : Nat → Prop} {L : List α} {v : Value} {vs : List Value} {Ss : Nat → Nat → Prop} (h : OX te O W S L v vs Ss) : Rows R W L v := by
  obtain ⟨o, c, rfl⟩ := h.row.form
  refine ⟨o, c, vs, rfl, fun ho => ?_, h.row.rd, h.len, fun i hi => ?_⟩
  · rcases h.row.2 with ⟨e, hn⟩ | ⟨g, c2, cur, e, _⟩
    · exact ⟨hn, by simp at e; exact e.2.2⟩
    · simp [ho] at e
  · obtain ⟨u, h1, h2⟩ := h.el i hi
    exact ⟨u, h1, hR h2⟩
theorem OR.rows (R : World → α → Value → Prop) (hR : ∀ {W S x v}, O W S x v → R W x v) {W : World} {S : Nat → Prop} {L : List α} {v : Value} (h : OR te O W S L v) : Rows R W L v := by
  obtain ⟨vs, Ss, h⟩ := h
  exact h.rows R hR
end
theorem OR.form {α : Type} {te : TypeId} {O : World → (Nat → Prop) → α → Value → Prop} {W : World} {S : Nat → Prop} {L : List α} {v : Value} (h : OR te O W S L v) : ∃ o c, v = .slice o L.length c := by
  obtain ⟨vs, Ss, h⟩ := h
  exact h.row.form
theorem O1.sl {α : Type} {ce : α → List Value} {e : TypeId} {sz : Nat} {W : World} {S : Nat → Prop} {l : List α} {v : Value} (h : O1 ce e sz W S l v) : Sl ce W l v := by
  obtain ⟨o, c, rfl⟩ := Ow.form h
  refine ⟨o, c, rfl, fun ho => ?_, Ow.rd h⟩
  rcases h.2 with ⟨e, hn⟩ | ⟨g, c2, cur, e, _⟩
  · exact ⟨hn, by simp at e; exact e.2.2⟩
  · simp [ho] at e
end Go.Proofs.Ytdmakcfgcgioeaa
