/- Opening arguments: a slice of steps, a slice of small numbers. -/
import Derived.Test.YtlaagbnclkhbjaaAOpen
import Derived.Deep.Slices
import Derived.Deep.Fields
import Derived.ChangeSame
import Derived.ChangeSlices
namespace Go.Proofs.Ytlaagbnclkhbjaa
open Go.ChangeShapes Go.WideShapes Go.ChangeAt Go.RowKit Go.Joins Go.Deep
theorem stp22 : Try.prog.underlying 22 = some (.slice 28) := by kernel_rfl
theorem cells28 : Try.prog.cellsOf 28 = 3 := by kernel_rfl
theorem int3 : Try.prog.underlying 3 = some (.int .i64) := by kernel_rfl
theorem fields28 : ∃ f0 f1 f2 : Field, Try.prog.underlying 28 = some (.struct #[f0, f1, f2]) ∧ f0.offset = 0 ∧ f0.type = 3 ∧ f1.offset = 1 ∧ f1.type = 3 ∧ f2.offset = 2 ∧ f2.type = 3 := by
  have h : (Try.prog.underlying 28).map (fun d => match d with | .struct fs => fs.toList.map (fun f => (f.offset, f.type)) | _ => []) = some [(0, 3), (1, 3), (2, 3)] := by kernel_rfl
  obtain ⟨d, hd, hf⟩ := Option.map_eq_some_iff.1 h
  cases d with
  | struct fs =>
    simp only at hf
    obtain ⟨l⟩ := fs
    match l, hf with
    | [f0, f1, f2], hf =>
      simp at hf
      exact ⟨f0, f1, f2, hd, hf.1.1, hf.1.2, hf.2.1.1, hf.2.1.2, hf.2.2.1, hf.2.2.2⟩
    | [], hf => simp at hf
    | [_], hf => simp at hf
    | [_, _], hf => simp at hf
    | _ :: _ :: _ :: _ :: _, hf => simp at hf
  | _ => simp at hf
theorem size3 : Try.prog.cellsOf 3 = 1 := by kernel_rfl
theorem add_at {b off : Nat} {s : Option Nat} {w : World} {i : Nat} {v : Value} (h : w.cell? ((⟨b, off, s⟩ : Addr).add i) = some v) : w.cell? ⟨b, off + i, none⟩ = some v ∧ b < w.heap.size := by
  have h1 : w.cell? ⟨b, off + i, none⟩ = some v := by
    unfold Addr.add at h
    split at h
    · rename_i e
      subst e
      unfold World.cell? at h ⊢
      split at h
      · rename_i hb
        simp only [hb]
        cases s with
        | none => simpa using h
        | some x => simp at h
      · cases h
    · exact h
  exact ⟨h1, World.block_lt_of_cell? w ⟨b, off + i, none⟩ h1⟩
theorem spot_none {b off : Nat} {s : Option Nat} {w : World} {v : Value} (h : w.cell? ((⟨b, off, s⟩ : Addr).add 0) = some v) : s = none := by
  unfold Addr.add at h
  simp at h
  unfold World.cell? at h
  split at h
  · cases s with
    | none => rfl
    | some x => simp at h
  · cases h
theorem open_steps {H : Type} {enc : TypeId × Value → H} {W : World} {r : Reach} {b0 base : Nat} {spare : Nat → Bool} {held : Bool} {v : Value} {d : DataW H} {p : List MemPlace}
    (hv : Value.okWide Try.prog W r b0 22 v) (h : DataW.Trod enc Try.prog W base spare held 22 v d p) :
    ∃ (o : Option Addr) (n cap : Nat) (st : Nat → Int × Int × Int), v = .slice o n cap ∧ n ≤ cap ∧ cap ≤ maxLen ∧ (0 < n → ∃ b off, o = some ⟨b, off, none⟩ ∧ b < W.heap.size ∧
      (∀ j, j < n → W.cell? ⟨b, off + j * 3, none⟩ = some (.int .i64 (st j).1) ∧ W.cell? ⟨b, off + j * 3 + 1, none⟩ = some (.int .i64 (st j).2.1) ∧ W.cell? ⟨b, off + j * 3 + 2, none⟩ = some (.int .i64 (st j).2.2)) ∧ ∀ j, j < n → (Lit.int .i64 (st j).2.2).wf = true) := by
  obtain ⟨m, hm⟩ := h
  obtain ⟨o, n, cap, rfl⟩ := okWide_slice stp22 hv
  rcases open_slice stp22 hm with ⟨hcs, _⟩ | ⟨a, len, cap', m', n', D, Pl, hcs, hb, hl, hmx, hmm, hx, hi⟩
  · simp [Value.cells] at hcs
    obtain ⟨rfl, rfl, rfl⟩ := hcs
    exact ⟨none, 0, 0, fun _ => (0, 0, 0), rfl, Nat.le_refl _, Nat.zero_le _, fun h => by omega⟩
  · simp [Value.cells] at hcs
    obtain ⟨rfl, rfl, rfl⟩ := hcs
    obtain ⟨f0, f1, f2, hs, o0, t0, o1, t1, o2, t2⟩ := fields28
    have hlm : n ≤ m' := by rw [hmm]; split <;> omega
    have key : ∀ j, j < n → ∃ x y z : Int, W.cell? ⟨a.block, a.off + j * 3, none⟩ = some (.int .i64 x) ∧ W.cell? ⟨a.block, a.off + j * 3 + 1, none⟩ = some (.int .i64 y) ∧ W.cell? ⟨a.block, a.off + j * 3 + 2, none⟩ = some (.int .i64 z) ∧ (Lit.int .i64 z).wf = true ∧ a.block < W.heap.size ∧ (j = 0 → a.spot = none) := fun j hj => by
      obtain ⟨cs', hc, ht⟩ := hi j (by omega)
      rw [cells28] at hc
      obtain ⟨_, hcl, hat⟩ := World.cells?_some hc
      obtain ⟨ys, k, _, _, _, hyl, hf⟩ := DataW.trod_struct hs ht
      have g0 := hf 0 f0 rfl
      have g1 := hf 1 f1 rfl
      have g2 := hf 2 f2 rfl
      rw [o0, t0, size3] at g0
      rw [o1, t1, size3] at g1
      rw [o2, t2, size3] at g2
      match cs', hcl with
      | [c0, c1, c2], _ =>
        match ys, hyl with
        | [y0, y1, y2], _ =>
          obtain ⟨x, e0, _, _⟩ := DataW.trod_int int3 (by simpa using g0)
          obtain ⟨y, e1, _, _⟩ := DataW.trod_int int3 (by simpa using g1)
          obtain ⟨z, e2, _, w2⟩ := DataW.trod_int int3 (by simpa using g2)
          simp at e0 e1 e2
          subst e0 e1 e2
          have q0 := hat 0 (by omega)
          have q1 := hat 1 (by omega)
          have q2 := hat 2 (by omega)
          rw [Go.Deep.add_add] at q0 q1 q2
          obtain ⟨b, off, s⟩ := a
          have hsp : j = 0 → s = none := fun e => by subst e; exact spot_none q0
          obtain ⟨q0, hbl⟩ := add_at q0
          obtain ⟨q1, _⟩ := add_at q1
          obtain ⟨q2, _⟩ := add_at q2
          exact ⟨x, y, z, q0, q1, q2, w2, hbl, hsp⟩
    have key' : ∀ j, ∃ t : Int × Int × Int, j < n → W.cell? ⟨a.block, a.off + j * 3, none⟩ = some (.int .i64 t.1) ∧ W.cell? ⟨a.block, a.off + j * 3 + 1, none⟩ = some (.int .i64 t.2.1) ∧ W.cell? ⟨a.block, a.off + j * 3 + 2, none⟩ = some (.int .i64 t.2.2) ∧ (Lit.int .i64 t.2.2).wf = true ∧ a.block < W.heap.size ∧ (j = 0 → a.spot = none) := fun j => by
      by_cases hj : j < n
      · obtain ⟨x, y, z, hh⟩ := key j hj
        exact ⟨(x, y, z), fun _ => hh⟩
      · exact ⟨(0, 0, 0), fun h => absurd h hj⟩
    obtain ⟨st, hst⟩ := Classical.skolem.1 key'
    refine ⟨some a, n, cap, st, rfl, hl, hmx, fun hn => ⟨a.block, a.off, by have := (hst 0 hn).2.2.2.2.2 rfl; obtain ⟨b, off, s⟩ := a; simp at this; subst this; rfl, (hst 0 hn).2.2.2.2.1, fun j hj => ⟨(hst j hj).1, (hst j hj).2.1, (hst j hj).2.2.1⟩, fun j hj => (hst j hj).2.2.2.1⟩⟩
end Go.Proofs.Ytlaagbnclkhbjaa
