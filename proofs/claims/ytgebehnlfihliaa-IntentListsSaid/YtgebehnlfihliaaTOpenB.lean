/- Opening a topology, with its bulk. -/
import Derived.Test.YtgebehnlfihliaaTOpen
import Derived.Test.YtgebehnlfihliaaTop4
import Derived.Test.YtgebehnlfihliaaRows
namespace Go.Proofs.Ytgebehnlfihliaa.bulks
theorem one_le {H : Type} (d : DataW H) : 1 ≤ Rows.uptoBulk d := by
  cases d with
  | lit l => cases l <;> simp [Rows.uptoBulk]
  | _ => simp [Rows.uptoBulk]
theorem append {H : Type} (l r : List (DataW H)) : Rows.uptoBulkAll (l ++ r) = Rows.uptoBulkAll l + Rows.uptoBulkAll r := by
  induction l with
  | nil => simp [Rows.uptoBulkAll]
  | cons x l ih => simp only [List.cons_append, Rows.uptoBulkAll, ih]; omega
theorem length_le {H : Type} (l : List (DataW H)) : l.length ≤ Rows.uptoBulkAll l := by
  induction l with
  | nil => simp [Rows.uptoBulkAll]
  | cons x r ih => have := one_le x; simp only [Rows.uptoBulkAll, List.length_cons]; omega
theorem slice_le {H : Type} (elems spare : List (DataW H)) : elems.length + spare.length + 1 ≤ Rows.uptoBulk (.slice elems spare) := by
  have h1 := length_le elems
  have h2 := length_le spare
  simp only [Rows.uptoBulk]
  omega
theorem slice_elems {H : Type} (elems spare : List (DataW H)) : Rows.uptoBulkAll elems + 1 ≤ Rows.uptoBulk (.slice elems spare) := by
  simp only [Rows.uptoBulk]
  omega
end Go.Proofs.Ytgebehnlfihliaa.bulks
namespace Go.Proofs.Ytgebehnlfihliaa
open Go.ChangeShapes Go.WideShapes Go.ChangeAt Go.RowKit Go.Joins Go.Deep
set_option maxRecDepth 100000
theorem u26 : ∃ f0 f1 : Field, Try.prog.underlying 26 = some (.struct #[f0, f1]) ∧ f0.type = 3 ∧ f1.type = 3 ∧ oneCellFields Try.prog #[f0, f1] = true := by
  have h : (Try.prog.underlying 26).map (fun d => match d with | .struct fs => (fs.toList.map (fun f => f.type), oneCellFields Try.prog fs) | _ => ([], false)) = some ([3, 3], true) := by kernel_rfl
  obtain ⟨d, hd, hf⟩ := Option.map_eq_some_iff.1 h
  cases d with
  | struct fs =>
    simp only at hf
    obtain ⟨l⟩ := fs
    match l, hf with
    | [f0, f1], hf =>
      simp only [Prod.mk.injEq] at hf
      have h1 := hf.1
      simp at h1
      exact ⟨f0, f1, hd, h1.1, h1.2, hf.2⟩
    | [], hf => simp at hf
    | [_], hf => simp at hf
    | _ :: _ :: _ :: _, hf => simp at hf
  | _ => simp at hf
theorem cells26 : Try.prog.cellsOf 26 = 2 := by kernel_rfl
theorem open_spot {H : Type} {enc : TypeId × Value → H} {W : World} {r : Reach} {b0 base : Nat} {spare : Nat → Bool} {held : Bool} {v : Value} {d : DataW H} {p : List MemPlace}
    (hv : Value.okWide Try.prog W r b0 26 v) (h : DataW.Trod enc Try.prog W base spare held 26 v d p) : ∃ x y : Int, v = .agg #[.int .i64 x, .int .i64 y] := by
  obtain ⟨f0, f1, hs, t0, t1, hone⟩ := u26
  obtain ⟨c0, c1, y0, y1, m, rfl, rfl, rfl, hy0, hy1⟩ := open_agg2 hs hone cells26 hv h
  rw [t0] at hy0
  rw [t1] at hy1
  obtain ⟨a, e0, _, _⟩ := DataW.trod_int int3 hy0
  obtain ⟨b, e1, _, _⟩ := DataW.trod_int int3 hy1
  simp at e0 e1
  subst e0 e1
  exact ⟨a, b, rfl⟩
section
variable {H : Type} {enc : TypeId × Value → H} {W : World} {base : Nat} {spare : Nat → Bool} {held : Bool}
/-- a row of ports. -/
theorem open_row_b {fuel : Nat} {c : Value} {x : DataW H × List MemPlace} (h : DataW.trod enc Try.prog W base spare held fuel 33 [c] = some x) :
    ∃ (r : Option Addr) (n cap rb rf : Nat) (P : Nat → Pt), c = .slice r n cap ∧ n ≤ cap ∧ cap ≤ maxLen ∧ (0 < n → r = some ⟨rb, rf, none⟩) ∧ n + 1 ≤ Rows.uptoBulk x.1 ∧
      ∀ j, j < n → W.cell? ⟨rb, rf + j * 5, none⟩ = some (.int .i64 (P j).kind) ∧ W.cell? ⟨rb, rf + j * 5 + 1, none⟩ = some (.int .i64 (P j).ten) ∧ W.cell? ⟨rb, rf + j * 5 + 2, none⟩ = some (.int .i64 (P j).peer) ∧
        W.cell? ⟨rb, rf + j * 5 + 3, none⟩ = some (.int .i64 (P j).at_) ∧ W.cell? ⟨rb, rf + j * 5 + 4, none⟩ = some (.int .i64 (P j).cost) := by
  rcases open_slice u33 h with ⟨hcs, hxn⟩ | ⟨a, len, cap', m', n', D, Pl, hcs, hb, hl, hmx, hmm, hx, hi⟩
  · simp at hcs
    subst hcs
    exact ⟨none, 0, 0, 0, 0, fun _ => ⟨0, 0, 0, 0, 0⟩, rfl, Nat.le_refl _, Nat.zero_le _, fun h => by omega, by rw [hxn]; simp [Rows.uptoBulk], fun j h => by omega⟩
  · simp at hcs
    subst hcs
    obtain ⟨f0, f1, f2, f3, f4, hs, o0, t0, o1, t1, o2, t2, o3, t3, o4, t4⟩ := fields35
    have hlm : len ≤ m' := by rw [hmm]; split <;> omega
    have key : ∀ j, ∃ p : Pt, j < len → W.cell? ⟨a.block, a.off + j * 5, none⟩ = some (.int .i64 p.kind) ∧ W.cell? ⟨a.block, a.off + j * 5 + 1, none⟩ = some (.int .i64 p.ten) ∧ W.cell? ⟨a.block, a.off + j * 5 + 2, none⟩ = some (.int .i64 p.peer) ∧
        W.cell? ⟨a.block, a.off + j * 5 + 3, none⟩ = some (.int .i64 p.at_) ∧ W.cell? ⟨a.block, a.off + j * 5 + 4, none⟩ = some (.int .i64 p.cost) ∧ (j = 0 → ∃ b off, a = ⟨b, off, none⟩) := by
      intro j
      by_cases hj : j < len
      · obtain ⟨cs', hc, ht⟩ := hi j (by omega)
        rw [cells35] at hc
        obtain ⟨_, hcl, hat⟩ := World.cells?_some hc
        obtain ⟨ys, k, _, _, _, hyl, hf⟩ := DataW.trod_struct hs ht
        have g0 := hf 0 f0 rfl
        have g1 := hf 1 f1 rfl
        have g2 := hf 2 f2 rfl
        have g3 := hf 3 f3 rfl
        have g4 := hf 4 f4 rfl
        rw [o0, t0, size3] at g0
        rw [o1, t1, size3] at g1
        rw [o2, t2, size3] at g2
        rw [o3, t3, size3] at g3
        rw [o4, t4, size3] at g4
        match cs', hcl with
        | [c0, c1, c2, c3, c4], _ =>
          match ys, hyl with
          | [y0, y1, y2, y3, y4], _ =>
            obtain ⟨x0, e0, _, _⟩ := DataW.trod_int int3 (by simpa using g0)
            obtain ⟨x1, e1, _, _⟩ := DataW.trod_int int3 (by simpa using g1)
            obtain ⟨x2, e2, _, _⟩ := DataW.trod_int int3 (by simpa using g2)
            obtain ⟨x3, e3, _, _⟩ := DataW.trod_int int3 (by simpa using g3)
            obtain ⟨x4, e4, _, _⟩ := DataW.trod_int int3 (by simpa using g4)
            simp at e0 e1 e2 e3 e4
            subst e0 e1 e2 e3 e4
            have q0 := hat 0 (by omega)
            have q1 := hat 1 (by omega)
            have q2 := hat 2 (by omega)
            have q3 := hat 3 (by omega)
            have q4 := hat 4 (by omega)
            rw [Go.Deep.add_add] at q0 q1 q2 q3 q4
            obtain ⟨b, off, s⟩ := a
            have hsp : j = 0 → ∃ b' off', (⟨b, off, s⟩ : Addr) = ⟨b', off', none⟩ := fun e => by subst e; have := spot_none q0; subst this; exact ⟨b, off, rfl⟩
            obtain ⟨q0, _⟩ := add_at q0
            obtain ⟨q1, _⟩ := add_at q1
            obtain ⟨q2, _⟩ := add_at q2
            obtain ⟨q3, _⟩ := add_at q3
            obtain ⟨q4, _⟩ := add_at q4
            exact ⟨⟨x0, x1, x2, x3, x4⟩, fun _ => ⟨q0, q1, q2, q3, q4, hsp⟩⟩
      · exact ⟨⟨0, 0, 0, 0, 0⟩, fun h => absurd h hj⟩
    obtain ⟨P, hP⟩ := Classical.skolem.1 key
    refine ⟨some a, len, cap', a.block, a.off, P, rfl, hl, hmx, fun hn => ?_, by rw [hx]; have := bulks.slice_le ((List.range len).map D) ((List.range (m' - len)).map fun j => D (len + j)); rw [List.length_map, List.length_range] at this; simp only; omega, fun j hj => ?_⟩
    · obtain ⟨b, off, rfl⟩ := (hP 0 hn).2.2.2.2.2 rfl
      rfl
    · exact ⟨(hP j hj).1, (hP j hj).2.1, (hP j hj).2.2.1, (hP j hj).2.2.2.1, (hP j hj).2.2.2.2.1⟩
theorem open_topo_b {r : Reach} {b0 : Nat} {v : Value} {d : DataW H} {p : List MemPlace}
    (hv : Value.okWide Try.prog W r b0 24 v) (h : DataW.Trod enc Try.prog W base spare held 24 v d p) : ∃ (o : Option Addr) (cap : Nat) (T : Tp), v = .agg #[.slice o T.n cap] ∧ TA W o cap T ∧ sumL T T.n ≤ Rows.uptoBulk d := by
  obtain ⟨f0, hs, o0, t0⟩ := fields24
  obtain ⟨cs, rfl, hsz⟩ := okWide_struct hs hv
  rw [cells24] at hsz
  obtain ⟨l⟩ := cs
  match l, hsz with
  | [c], _ =>
    obtain ⟨fuel, hf⟩ := h
    obtain ⟨y0, n, hx, _, h0⟩ := trod_struct1 hs hf
    rw [o0, t0, cells22] at h0
    have h0' : DataW.trod enc Try.prog W base spare held n 22 [c] = some y0 := by simpa [Value.cells] using h0
    rcases open_slice1 u22 cells33 h0' with ⟨hcs, _⟩ | ⟨a, len, cap, m, n2, V, D, Pl, hcs, hb, hl, hmx, hmm, hx2, hi⟩
    · simp at hcs
      subst hcs
      exact ⟨none, 0, ⟨0, fun _ => 0, fun _ _ => ⟨0, 0, 0, 0, 0⟩⟩, rfl, ⟨⟨0, 0, fun _ => none, fun _ => 0, fun _ => 0, fun _ => 0, fun h => by simp at h, Nat.le_refl _, Nat.zero_le _, fun i hi => by simp at hi, fun i j hi => by simp at hi⟩⟩, Nat.zero_le _⟩
    · simp at hcs
      subst hcs
      have hlm : len ≤ m := by rw [hmm]; split <;> omega
      have key : ∀ i, ∃ z : Option Addr × Nat × Nat × Nat × Nat × (Nat → Pt), i < len → W.cell? ⟨a.block, a.off + i, none⟩ = some (.slice z.1 z.2.1 z.2.2.1) ∧ z.2.1 ≤ z.2.2.1 ∧ z.2.2.1 ≤ maxLen ∧ (0 < z.2.1 → z.1 = some ⟨z.2.2.2.1, z.2.2.2.2.1, none⟩) ∧
          (∀ j, j < z.2.1 → W.cell? ⟨z.2.2.2.1, z.2.2.2.2.1 + j * 5, none⟩ = some (.int .i64 (z.2.2.2.2.2 j).kind) ∧ W.cell? ⟨z.2.2.2.1, z.2.2.2.2.1 + j * 5 + 1, none⟩ = some (.int .i64 (z.2.2.2.2.2 j).ten) ∧ W.cell? ⟨z.2.2.2.1, z.2.2.2.2.1 + j * 5 + 2, none⟩ = some (.int .i64 (z.2.2.2.2.2 j).peer) ∧
            W.cell? ⟨z.2.2.2.1, z.2.2.2.2.1 + j * 5 + 3, none⟩ = some (.int .i64 (z.2.2.2.2.2 j).at_) ∧ W.cell? ⟨z.2.2.2.1, z.2.2.2.2.1 + j * 5 + 4, none⟩ = some (.int .i64 (z.2.2.2.2.2 j).cost)) ∧ (i = 0 → ∃ b off, a = ⟨b, off, none⟩) ∧ z.2.1 + 1 ≤ Rows.uptoBulk (D i) := by
        intro i
        by_cases hil : i < len
        · obtain ⟨hc, ht⟩ := hi i (by omega)
          obtain ⟨r, nn, cp, rb, rf, P, e, q1, q2, q3, q5, q4⟩ := open_row_b ht
          rw [e] at hc
          obtain ⟨b, off, s⟩ := a
          have hsp : i = 0 → ∃ b' off', (⟨b, off, s⟩ : Addr) = ⟨b', off', none⟩ := fun e => by subst e; have := spot_none hc; subst this; exact ⟨b, off, rfl⟩
          obtain ⟨hc, _⟩ := add_at hc
          exact ⟨(r, nn, cp, rb, rf, P), fun _ => ⟨hc, q1, q2, q3, q4, hsp, q5⟩⟩
        · exact ⟨(none, 0, 0, 0, 0, fun _ => ⟨0, 0, 0, 0, 0⟩), fun h => absurd h hil⟩
      obtain ⟨Z, hZ⟩ := Classical.skolem.1 key
      refine ⟨some a, cap, ⟨len, fun i => (Z i).2.1, fun i j => (Z i).2.2.2.2.2 j⟩, rfl, ⟨⟨a.block, a.off, fun i => (Z i).1, fun i => (Z i).2.2.1, fun i => (Z i).2.2.2.1, fun i => (Z i).2.2.2.2.1, fun h => ?_, hl, hmx, fun i hi => ?_, fun i j hi hj => ?_⟩⟩, ?_⟩
      · obtain ⟨b, off, rfl⟩ := (hZ 0 h).2.2.2.2.2.1 rfl
        rfl
      · exact ⟨(hZ i hi).1, (hZ i hi).2.1, (hZ i hi).2.2.1, (hZ i hi).2.2.2.1⟩
      · exact (hZ i hi).2.2.2.2.1 j hj
      · simp only [Prod.mk.injEq] at hx
        rw [hx.1]
        rw [hx2]
        have hle : sumL ⟨len, fun i => (Z i).2.1, fun i j => (Z i).2.2.2.2.2 j⟩ len ≤ Rows.uptoBulkAll ((List.range len).map D) := by
          have key : ∀ k, k ≤ len → sumL ⟨len, fun i => (Z i).2.1, fun i j => (Z i).2.2.2.2.2 j⟩ k ≤ Rows.uptoBulkAll ((List.range k).map D) := by
            intro k
            induction k with
            | zero => intro _; exact Nat.zero_le _
            | succ k ih =>
              intro hk
              have h1 := ih (by omega)
              have h2 := (hZ k (by omega)).2.2.2.2.2.2
              rw [List.range_succ, List.map_append, bulks.append]
              simp only [List.map_cons, List.map_nil, Rows.uptoBulkAll, sumL]
              omega
          exact key len (Nat.le_refl _)
        have h1 := bulks.slice_elems ((List.range len).map D) ((List.range (m - len)).map fun j => D (len + j))
        simp only [Rows.uptoBulk, Rows.uptoBulkAll] at h1 ⊢
        omega
end
theorem bulk2 {H : Type} {d : DataW H} {r : List (DataW H)} {n : Nat} (hk : Rows.uptoSmall H (d :: r) = true) (h : n ≤ Rows.uptoBulk d) : n ≤ 1100000 := by
  have h1 : Rows.uptoBulkAll (d :: r) ≤ 1048576 := of_decide_eq_true hk
  simp only [Rows.uptoBulkAll] at h1
  omega
end Go.Proofs.Ytgebehnlfihliaa
