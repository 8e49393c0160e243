/- Intent: how long the lists of an intent may be, by the bytes that they take. -/
import Derived.Test.YtgebehnlfihliaaIOpen
import Derived.SizedLaws
namespace Go.Proofs.Ytgebehnlfihliaa
open Go.ChangeShapes Go.WideShapes Go.ChangeAt Go.RowKit Go.Joins Go.Deep
set_option linter.unusedVariables false
section
variable {H : Type} {enc : TypeId × Value → H} {W : World} {base : Nat} {spare : Nat → Bool} {held : Bool}
/-- a list takes no more than what is the most. -/
theorem sized_row {t e : TypeId} (ht : Try.prog.underlying t = some (.slice e)) {fuel : Nat} {o : Option Addr} {n cap : Nat} {x : DataW H × List MemPlace} (h : DataW.trod enc Try.prog W base spare held fuel t [.slice o n cap] = some x) {R : Nat} (hR : ∀ b ∈ x.1.weights Try.prog t, b ≤ R) : n * Try.prog.bytesOf e ≤ R := by
  rcases open_slice ht h with ⟨hcs, hxn⟩ | ⟨a, len, cap', m', n', D, Pl, hcs, hb, hl, hmx, hmm, hx, hi⟩
  · simp at hcs
    obtain ⟨_, rfl, _⟩ := hcs
    simp
  · simp at hcs
    obtain ⟨_, rfl, _⟩ := hcs
    rw [hx] at hR
    have h1 := hR _ (by simp only [DataW.weights, ht]; exact List.mem_cons_self)
    rw [List.length_map, List.length_range] at h1
    exact Nat.le_trans (Nat.mul_le_mul_right _ (Nat.le_add_right _ _)) h1
theorem by68 : Try.prog.bytesOf 68 = 32 := by kernel_rfl
theorem by75 : Try.prog.bytesOf 75 = 40 := by kernel_rfl
theorem intent_sized {r : Ir} {I : In} {d : DataW H} {p : List MemPlace} (h : DataW.Trod enc Try.prog W base spare held 56 (.agg (I.cells r)) d p) {R : Nat} (hR : ∀ b ∈ d.weights Try.prog 56, b ≤ R) : I.ne * 32 ≤ R ∧ I.na * 40 ≤ R := by
  obtain ⟨f0, f1, f2, f3, hs, o0, t0, o1, t1, o2, t2, o3, t3⟩ := fl56
  obtain ⟨fuel, hf⟩ := h
  obtain ⟨ys, k, _, hx, hl, hyl, hg⟩ := DataW.trod_struct hs hf
  have g2 := hg 2 f2 rfl
  have g3 := hg 3 f3 rfl
  rw [o2, t2, cz53] at g2
  rw [o3, t3, cz54] at g3
  match ys, hyl with
  | [y0, y1, y2, y3], _ =>
    simp only [Prod.mk.injEq] at hx
    have hw : d.weights Try.prog 56 = DataW.weightsEach Try.prog [24, 52, 53, 54] [y0.1, y1.1, y2.1, y3.1] := by
      rw [hx.1]
      simp only [DataW.weights, hs, t0, t1, t2, t3, List.map_cons, List.map_nil]
    have s2 := sized_row un53 (x := y2) (o := r.oe) (n := I.ne) (cap := r.ce) (by simpa [Value.cells, In.cells] using g2) (R := R) (fun b hb => hR b (by rw [hw]; simp [DataW.weightsEach, hb]))
    have s3 := sized_row un54 (x := y3) (o := r.oa) (n := I.na) (cap := r.ca) (by simpa [Value.cells, In.cells] using g3) (R := R) (fun b hb => hR b (by rw [hw]; simp [DataW.weightsEach, hb]))
    rw [by68] at s2
    rw [by75] at s3
    exact ⟨s2, s3⟩
end
end Go.Proofs.Ytgebehnlfihliaa
