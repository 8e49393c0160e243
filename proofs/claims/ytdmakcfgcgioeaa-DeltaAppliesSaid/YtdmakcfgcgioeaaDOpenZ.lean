/- Delta: how long the lists of a configuration may be, by the bytes that they take; the walk of DeltaApplies over opened arguments. -/
import Derived.Test.YtdmakcfgcgioeaaDOpen2
import Derived.SizedLaws
namespace Go.Proofs.Ytdmakcfgcgioeaa
open Go.ChangeShapes Go.WideShapes Go.ChangeAt Go.RowKit Go.Deep
set_option linter.unusedVariables false
section
variable {H : Type} {enc : TypeId × Value → H} {W : World} {base : Nat} {spare : Nat → Bool} {held : Bool} {R : Nat}
theorem weights_in {e : TypeId} {d : DataW H} {b : Nat} (hb : b ∈ d.weights Try.prog e) : ∀ {l : List (DataW H)}, d ∈ l → b ∈ DataW.weightsAll Try.prog e l
  | x :: l, h => by
    simp only [DataW.weightsAll, List.mem_append]
    rcases List.mem_cons.1 h with rfl | h
    · exact .inl hb
    · exact .inr (weights_in hb h)
/-- a list takes no more than what is the most. -/
theorem sized_row {t e : TypeId} (ht : Try.prog.underlying t = some (.slice e)) {fuel : Nat} {o : Option Addr} {n cap : Nat} {x : DataW H × List MemPlace} (h : DataW.trod enc Try.prog W base spare held fuel t [.slice o n cap] = some x) (hR : ∀ b ∈ x.1.weights Try.prog t, b ≤ R) : n * Try.prog.bytesOf e ≤ R := by
  rcases open_slice ht h with ⟨hcs, hxn⟩ | ⟨a, len, cap', m', n', D, Pl, hcs, hb, hl, hmx, hmm, hx, hi⟩
  · simp at hcs
    obtain ⟨_, rfl, _⟩ := hcs
    simp
  · simp at hcs
    obtain ⟨_, rfl, _⟩ := hcs
    rw [hx] at hR
    have h1 := hR _ (by simp only [DataW.weights, ht]; exact List.mem_cons_self)
    rw [List.length_map, List.length_range] at h1
    exact Nat.le_trans (Nat.mul_le_mul_right _ (Nat.le_add_right _ _)) h1
theorem sized_sl {α : Type} {ce : α → List Value} {t e : TypeId} (ht : Try.prog.underlying t = some (.slice e)) {l : List α} {v : Value} (h : Sl ce W l v) {fuel : Nat} {x : DataW H × List MemPlace} (hf : DataW.trod enc Try.prog W base spare held fuel t [v] = some x) (hR : ∀ b ∈ x.1.weights Try.prog t, b ≤ R) : l.length * Try.prog.bytesOf e ≤ R := by
  obtain ⟨o, c, rfl, _⟩ := h
  exact sized_row ht hf hR
/-- .. and so its parts. -/
theorem sized_rows {α : Type} {f : World → α → Value → Prop} {Q : α → Prop} {t e : TypeId} (ht : Try.prog.underlying t = some (.slice e)) (hc : Try.prog.cellsOf e = 1)
    (hel : ∀ {fuel : Nat} {l : α} {v : Value} {x : DataW H × List MemPlace}, f W l v → DataW.trod enc Try.prog W base spare held fuel e [v] = some x → (∀ b ∈ x.1.weights Try.prog e, b ≤ R) → Q l)
    {L : List α} {v : Value} (h : Rows f W L v) {fuel : Nat} {x : DataW H × List MemPlace} (hf : DataW.trod enc Try.prog W base spare held fuel t [v] = some x) (hR : ∀ b ∈ x.1.weights Try.prog t, b ≤ R) : L.length * Try.prog.bytesOf e ≤ R ∧ ∀ l ∈ L, Q l := by
  obtain ⟨o, c, vs, rfl, h0, ⟨hr1, hr2, b, off, hr3, hr4⟩, hvl, hel'⟩ := h
  refine ⟨sized_row ht hf hR, fun l hl => ?_⟩
  obtain ⟨i, hi9, rfl⟩ := List.getElem_of_mem hl
  obtain ⟨u, hu, hfu⟩ := hel' i hi9
  have ho := hr3 (by omega)
  subst ho
  rcases open_slice ht hf with ⟨hcs, _⟩ | ⟨a, len, cap', m', n', D, Pl, hcs, hb, hl, hmx, hmm, hx, hi⟩
  · simp at hcs
  · simp at hcs
    obtain ⟨rfl, rfl, rfl⟩ := hcs
    have hlm : L.length ≤ m' := by rw [hmm]; split <;> omega
    obtain ⟨cs', hcc, htr⟩ := hi i (by omega)
    rw [hc] at hcc
    obtain ⟨_, hcl, hat⟩ := World.cells?_some hcc
    have q := hat 0 (by omega)
    rw [Go.Deep.add_add, List.getElem?_eq_getElem (by omega)] at q
    have q2 := (add_at q).1
    have e1 := hr4 i u hu
    rw [Nat.mul_one, Nat.add_zero] at q2
    rw [e1] at q2
    have ecs : cs' = [u] := by
      match cs', hcl, q2 with
      | [y], _, q2 => simp at q2; rw [q2]
    subst ecs
    refine hel hfu htr fun b hb => hR b ?_
    rw [hx]
    simp only [DataW.weights, ht]
    refine List.mem_cons_of_mem _ (List.mem_append.2 (.inl (weights_in hb ?_)))
    exact List.mem_map.2 ⟨i, List.mem_range.2 hi9, rfl⟩
theorem by58 : Try.prog.bytesOf 58 = 24 := by kernel_rfl
theorem by73 : Try.prog.bytesOf 73 = 40 := by kernel_rfl
theorem by63 : Try.prog.bytesOf 63 = 16 := by kernel_rfl
theorem by65 : Try.prog.bytesOf 65 = 24 := by kernel_rfl
theorem by43 : Try.prog.bytesOf 43 = 24 := by kernel_rfl
theorem by44 : Try.prog.bytesOf 44 = 24 := by kernel_rfl
theorem by53 : Try.prog.bytesOf 53 = 96 := by kernel_rfl
theorem cf_sized {C : Cf} {vp ve vw vt : Value} {d : DataW H} {p : List MemPlace} (hrc : RC W C vp ve vw vt) (h : DataW.Trod enc Try.prog W base spare held 31 (.agg #[vp, .int .i64 C.ten, ve, vw, vt]) d p) (hR : ∀ b ∈ d.weights Try.prog 31, b ≤ R) :
    (C.pt.length * 24 ≤ R ∧ ∀ l ∈ C.pt, l.length * 40 ≤ R) ∧ C.pe.length * 16 ≤ R ∧ C.wy.length * 24 ≤ R ∧ C.tb.length * 24 ≤ R ∧ ∀ t ∈ C.tb, t.length * 24 ≤ R ∧ ∀ l ∈ t, l.length * 96 ≤ R := by
  obtain ⟨f0, f1, f2, hs, o0, t0, o1, t1, o2, t2⟩ := fl31
  obtain ⟨fuel, hf⟩ := h
  obtain ⟨ys, k, _, hx, hl, hyl, hg⟩ := DataW.trod_struct hs hf
  have g0 := hg 0 f0 rfl
  have g1 := hg 1 f1 rfl
  have g2 := hg 2 f2 rfl
  rw [o0, t0, cz24] at g0
  rw [o1, t1, cz28] at g1
  rw [o2, t2, cz29] at g2
  match ys, hyl with
  | [y0, y1, y2], _ =>
    simp only [Prod.mk.injEq] at hx
    have hw : d.weights Try.prog 31 = DataW.weightsEach Try.prog [24, 28, 29] [y0.1, y1.1, y2.1] := by
      rw [hx.1]
      simp only [DataW.weights, hs, t0, t1, t2, List.map_cons, List.map_nil]
    rw [hw] at hR
    have g0' : DataW.trod enc Try.prog W base spare held k 24 [vp] = some y0 := by simpa [Value.cells] using g0
    have g1' : DataW.trod enc Try.prog W base spare held k 28 [.int .i64 C.ten, ve, vw] = some y1 := by simpa [Value.cells] using g1
    have g2' : DataW.trod enc Try.prog W base spare held k 29 [vt] = some y2 := by simpa [Value.cells] using g2
    have s2 := sized_rows (Q := fun t : List (List Ru) => t.length * 24 ≤ R ∧ ∀ l ∈ t, l.length * 96 ≤ R) und29 cz43
      (fun hfu hft hRt => by
        have := sized_rows (Q := fun l : List Ru => l.length * 96 ≤ R) und43 cz44 (fun hfl hfq hRl => by have := sized_sl und44 hfl hfq hRl; rw [by53] at this; exact this) hfu hft hRt
        rw [by44] at this
        exact this) hrc.tb g2' (fun b hb => hR b (by simp [DataW.weightsEach, hb]))
    rw [by43] at s2
    obtain ⟨e0, hs5, o50, t50⟩ := fl24
    obtain ⟨zs, k5, _, hx5, _, hzl, hg5⟩ := DataW.trod_struct hs5 g0'
    have q0 := hg5 0 e0 rfl
    rw [o50, t50, cz22] at q0
    obtain ⟨e1, e2, e3, hs6, o60, t60, o61, t61, o62, t62⟩ := fl28
    obtain ⟨ws, k6, _, hx6, _, hwl, hg6⟩ := DataW.trod_struct hs6 g1'
    have u1 := hg6 1 e2 rfl
    have u2 := hg6 2 e3 rfl
    rw [o61, t61, cz25] at u1
    rw [o62, t62, cz26] at u2
    match zs, hzl, ws, hwl with
    | [z0], _, [w0, w1, w2], _ =>
      have hw0 : y0.1.weights Try.prog 24 = DataW.weightsEach Try.prog [22] [z0.1] := by
        rw [hx5]
        simp only [DataW.weights, hs5, t50, List.map_cons, List.map_nil]
      have hw1 : y1.1.weights Try.prog 28 = DataW.weightsEach Try.prog [3, 25, 26] [w0.1, w1.1, w2.1] := by
        rw [hx6]
        simp only [DataW.weights, hs6, t60, t61, t62, List.map_cons, List.map_nil]
      have s0 := sized_rows (Q := fun l : List Pt => l.length * 40 ≤ R) und22 cz58 (fun hfl hfq hRl => by have := sized_sl und58 hfl hfq hRl; rw [by73] at this; exact this) hrc.pt (x := z0) (by simpa using q0) (fun b hb => hR b (by simp [DataW.weightsEach, hw0, hb]))
      rw [by58] at s0
      have s1 := sized_sl und25 hrc.pe (x := w1) (by simpa using u1) (R := R) (fun b hb => hR b (by simp [DataW.weightsEach, hw1, hb]))
      have s3 := sized_sl und26 hrc.wy (x := w2) (by simpa using u2) (R := R) (fun b hb => hR b (by simp [DataW.weightsEach, hw1, hb]))
      rw [by63] at s1
      rw [by65] at s3
      exact ⟨s0, s1, s3, s2.1, s2.2⟩
end
theorem applies_z {H : Type} {enc : TypeId × Value → H} {w : World} {base : Nat} {spare : Nat → Bool} {held : Bool} {C : Cf} {vp ve vw vt : Value} {d : DataW H} {p : List MemPlace} (h : RC w C vp ve vw vt) (hd : DataW.Trod enc Try.prog w base spare held 31 (.agg #[vp, .int .i64 C.ten, ve, vw, vt]) d p) (hR : ∀ b ∈ d.weights Try.prog 31, b ≤ reachBytes) {ol : Option Addr} {cl : Nat} {l : List Ed} (hr : Rd w ol l.length cl (l.flatMap ceE)) :
    Calls Try.prog 3 #[.agg #[vp, .int .i64 C.ten, ve, vw, vt], .slice ol l.length cl] w fun e w' => e = .returned (.bool true) ∧ RowKit.Below w.heap.size w w' := by
  have hz : reachBytes = 140737488351232 := rfl
  rw [hz] at hR
  obtain ⟨⟨s1, s2⟩, s3, s4, s5, s6⟩ := cf_sized h hd hR
  refine applies_c w h (K := 1466015503658) ⟨by omega, fun l hl => by have := s2 l hl; omega, by omega, by omega, by omega, fun t ht => by have := (s6 t ht).1; omega, fun t ht l hl => by have := (s6 t ht).2 l hl; omega⟩ ⟨by omega, fun t ht => by have := (s6 t ht).1; omega, fun t ht l hl => by have := (s6 t ht).2 l hl; omega⟩ hr (by decide)
end Go.Proofs.Ytdmakcfgcgioeaa
