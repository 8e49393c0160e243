/- Agenda: the document's due, and Ints. -/
import Derived.Test.YtlaagbnclkhbjaaALMoves
import Derived.Test.YtlaagbnclkhbjaaRows3
namespace Go.Proofs.Ytlaagbnclkhbjaa
open Go.RowKit Go.Maps
set_option linter.unusedSimpArgs false
set_option linter.unusedVariables false
set_option maxRecDepth 100000
def flat (l : List (Int × Int)) : List Value := l.flatMap fun y => [.int .i64 y.1, .int .i64 y.2]
theorem flat_len (l : List (Int × Int)) : (flat l).length = l.length * 2 := by
  induction l with
  | nil => rfl
  | cons a t ih => simp [flat] at ih ⊢; omega
theorem flat_app (a b : List (Int × Int)) : flat (a ++ b) = flat a ++ flat b := by simp [flat]
theorem flat_at : ∀ (l : List (Int × Int)) (j : Nat), j < l.length → (flat l)[2 * j]? = some (.int .i64 (l.getD j (0, 0)).1) ∧ (flat l)[2 * j + 1]? = some (.int .i64 (l.getD j (0, 0)).2)
  | [], j, h => by simp at h
  | y :: t, 0, _ => by simp [flat]
  | y :: t, j + 1, h => by
    have := flat_at t j (by simpa using h)
    have e1 : 2 * (j + 1) = 2 * j + 1 + 1 := by omega
    have e : flat (y :: t) = .int .i64 y.1 :: .int .i64 y.2 :: flat t := rfl
    rw [e1, e]
    simp only [List.getElem?_cons_succ, List.getD_cons_succ]
    exact this
theorem flat_drop : ∀ (l : List (Int × Int)) (j : Nat), flat (l.drop j) = (flat l).drop (j * 2)
  | l, 0 => by simp
  | [], j + 1 => by simp [flat]
  | y :: t, j + 1 => by
    have e : flat (y :: t) = .int .i64 y.1 :: .int .i64 y.2 :: flat t := rfl
    rw [show (j + 1) * 2 = j * 2 + 1 + 1 by omega, e, List.drop_succ_cons, List.drop_succ_cons, List.drop_succ_cons]
    exact flat_drop t j
theorem flat_take : ∀ (l : List (Int × Int)) (j : Nat), flat (l.take j) = (flat l).take (j * 2)
  | l, 0 => by simp [flat]
  | [], j + 1 => by simp [flat]
  | y :: t, j + 1 => by
    have e : flat (y :: t) = .int .i64 y.1 :: .int .i64 y.2 :: flat t := rfl
    have e2 : flat (y :: t.take j) = .int .i64 y.1 :: .int .i64 y.2 :: flat (t.take j) := rfl
    rw [show (j + 1) * 2 = j * 2 + 1 + 1 by omega, e, List.take_succ_cons, e2, List.take_succ_cons, List.take_succ_cons, flat_take t j]
theorem flat_one (l : List (Int × Int)) : ∀ u ∈ flat l, u.oneCell' = true := by
  intro u hu
  simp only [flat, List.mem_flatMap] at hu
  obtain ⟨y, _, hy⟩ := hu
  simp at hy
  rcases hy with rfl | rfl <;> rfl
theorem owns_base {w : World} {base base' : Nat} {e : TypeId} {size : Nat} {v : Value} {n : Nat} {xs : List Value} (h : w.ownsRow base e size v n xs) (hb : base' ≤ base) : w.ownsRow base' e size v n xs := by
  refine ⟨h.1, ?_⟩
  rcases h.2 with hn | ⟨g, cap, cur, hv, hg, rest⟩
  · exact .inl hn
  · exact .inr ⟨g, cap, cur, hv, Nat.le_trans hb hg, rest⟩
/-- the row of a list of (moment, id). -/
abbrev Lr (w : World) (v : Value) (l : List (Int × Int)) : Prop := Rws.ownsR w 0 30 2 v l.length (flat l)
theorem Lr.shape {w : World} {v : Value} {l : List (Int × Int)} (h : Lr w v l) : ∃ g cap, v = .slice (some ⟨g, 0, none⟩) l.length cap ∧ l.length ≤ cap ∧ cap ≤ maxLen ∧ g < w.heap.size := by
  obtain ⟨⟨h1, h2⟩, h3⟩ := h
  rcases h2 with ⟨rfl, e2⟩ | ⟨g, cap, cur, rfl, hb, hg, hc, hm, _⟩
  · cases h3
  · exact ⟨g, cap, rfl, hc, hm, (Array.getElem?_eq_some_iff.1 hg).1⟩
theorem Lr.cell {w : World} {g cap n : Nat} {l : List (Int × Int)} (h : Lr w (.slice (some ⟨g, 0, none⟩) n cap) l) (j : Nat) (hj : j < l.length) : w.cell? ⟨g, j * 2, none⟩ = some (.int .i64 (l.getD j (0, 0)).1) ∧ w.cell? ⟨g, j * 2 + 1, none⟩ = some (.int .i64 (l.getD j (0, 0)).2) := by
  have hadd : ∀ j, (⟨g, 0, none⟩ : Addr).add j = ⟨g, j, none⟩ := fun j => by unfold Addr.add; split <;> simp_all
  have h1 := h.1.cells (g := g) rfl (2 * j) _ (flat_at l j hj).1
  have h2 := h.1.cells (g := g) rfl (2 * j + 1) _ (flat_at l j hj).2
  rw [hadd, Nat.mul_comm] at h1
  rw [hadd, Nat.mul_comm] at h2
  exact ⟨h1, h2⟩
theorem Lr.keep {w w' : World} {v : Value} {l : List (Int × Int)} (h : Lr w v l) (hh : ∀ g, v.ownBlock = some g → w'.heap[g]? = w.heap[g]?) : Lr w' v l := ⟨owns_of h.1 hh, h.2⟩
theorem ints_at {w : World} {base g cap n : Nat} {out : List Int} (h : w.ownsRow base 3 1 (.slice (some ⟨g, 0, none⟩) n cap) out.length (ints out)) (j : Nat) (hj : j < out.length) : w.cell? ⟨g, j, none⟩ = some (.int .i64 (out.getD j 0)) := by
  have hadd : (⟨g, 0, none⟩ : Addr).add j = ⟨g, j, none⟩ := by unfold Addr.add; split <;> simp_all
  have := h.cells (g := g) rfl j (.int .i64 (out.getD j 0)) (by simp [ints, List.getElem?_eq_getElem hj])
  rw [hadd] at this
  exact this
theorem ints_shape {w : World} {base : Nat} {v : Value} {out : List Int} (h : w.ownsRow base 3 1 v out.length (ints out)) : ∃ o cap, v = .slice o out.length cap ∧ (0 < out.length → ∃ g, o = some ⟨g, 0, none⟩) := by
  rcases h.2 with ⟨rfl, e2⟩ | ⟨g, cap, cur, rfl, _⟩
  · exact ⟨none, 0, by rw [e2], fun h => by omega⟩
  · exact ⟨_, _, rfl, fun _ => ⟨g, rfl⟩⟩
set_option maxHeartbeats 1000000 in
theorem Ints_c {w : World} {b1 b2 : Nat} {v1 v2 : Value} {out : List Int} (h1 : w.ownsRow b1 3 1 v1 out.length (ints out)) (h2 : w.ownsRow b2 3 1 v2 out.length (ints out)) (hn : out.length ≤ 1000000000) :
    Calls Try.prog 13 #[v1, v2] w fun e w' => e = .returned (.bool true) ∧ RowKit.Below w.heap.size w w' := by
  obtain ⟨o1, cap1, rfl, s1⟩ := ints_shape h1
  obtain ⟨o2, cap2, rfl, s2⟩ := ints_shape h2
  go_enter Try.func13, Try.ntmps13
  go_wp2_with fail
  go_loopw [5] (fun vi wr => ∃ k q : Nat, vi = .int .i64 (k : Int) ∧ k ≤ out.length ∧ wr = redrawn w q) (fun vi _ => out.length - (intOf vi).toNat)
  case atStart => exact ⟨0, w.drawn, rfl, Nat.zero_le _, rfl⟩
  case round =>
    obtain ⟨k, q, rfl, hk, rfl⟩ := hrel
    by_cases hlt : k < out.length
    · obtain ⟨g1, rfl⟩ := s1 (by omega)
      obtain ⟨g2, rfl⟩ := s2 (by omega)
      have d1 : (redrawn w q).cell? ⟨g1, k, none⟩ = some (.int .i64 (out.getD k 0)) := ints_at h1 k hlt
      have d2 : (redrawn w q).cell? ⟨g2, k, none⟩ = some (.int .i64 (out.getD k 0)) := ints_at h2 k hlt
      generalize out.getD k 0 = y at d1 d2
      have hltI : (k : Int) < (out.length : Int) := by omega
      go_wp2_with fail
      go_quiet (fail)
      go_wp2_with fail
      go_roundw
      case rel => exact ⟨k + 1, _, by go_num, by omega, rfl⟩
      case measure => simp [intOf]; omega
    · have : k = out.length := by omega
      subst this
      go_wp2
      go_ret
      exact ⟨rfl, rfl, rfl, rfl, Nat.le_refl _, fun _ _ => rfl⟩
end Go.Proofs.Ytlaagbnclkhbjaa
