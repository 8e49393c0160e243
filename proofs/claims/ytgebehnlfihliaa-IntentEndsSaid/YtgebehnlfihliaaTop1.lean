/- Topo: the argument, and when a port may be. -/
import Derived.Test.YtgebehnlfihliaaProg
import Derived.WalkKit
import Derived.WalkLawsBesides
import Derived.Lib.Hide
import Derived.Deep.QuietTactic
import Derived.BigQuiet
import Derived.Lib.QuietBelow
import Derived.Deep.DeepCutAuto
import Derived.Deep.CutBlock
namespace Go.Proofs.Ytgebehnlfihliaa
open Go.RowKit
set_option linter.unusedSimpArgs false
set_option linter.unusedVariables false
set_option maxRecDepth 100000
structure Pt where
  kind : Int
  ten : Int
  peer : Int
  at_ : Int
  cost : Int
deriving DecidableEq
/-- a topology: n switches, ln i ports of switch i. -/
structure Tp where
  n : Nat
  ln : Nat → Nat
  pt : Nat → Nat → Pt
/-- may port j of switch i be, if it is p? -/
def okP (T : Tp) (i j : Nat) (p : Pt) : Bool :=
  if p.kind = 0 then decide (p.ten = 0 ∧ p.peer = 0 ∧ p.at_ = 0 ∧ p.cost = 0)
  else if p.kind = 1 then decide (0 ≤ p.ten ∧ p.ten ≤ 3 ∧ p.peer = 0 ∧ p.at_ = 0 ∧ p.cost = 0)
  else if p.kind = 2 then decide (p.ten = 0 ∧ 1 ≤ p.cost ∧ p.cost ≤ 1000 ∧ 0 ≤ p.peer ∧ p.peer < T.n ∧ p.peer ≠ i ∧ 0 ≤ p.at_ ∧ p.at_ < T.ln p.peer.toNat ∧ T.pt p.peer.toNat p.at_.toNat = ⟨2, 0, i, j, p.cost⟩)
  else false
/-- may port j of switch i be? -/
def portOk (T : Tp) (i j : Nat) : Bool := okP T i j (T.pt i j)
/-- how a topology lies in the world. -/
structure TA (W : World) (o : Option Addr) (cap : Nat) (T : Tp) : Prop where
  ex : ∃ (b off : Nat) (ro : Nat → Option Addr) (rc rb rf : Nat → Nat), (0 < T.n → o = some ⟨b, off, none⟩) ∧ T.n ≤ cap ∧ cap ≤ maxLen ∧
    (∀ i, i < T.n → W.cell? ⟨b, off + i, none⟩ = some (.slice (ro i) (T.ln i) (rc i)) ∧ T.ln i ≤ rc i ∧ rc i ≤ maxLen ∧ (0 < T.ln i → ro i = some ⟨rb i, rf i, none⟩)) ∧
    ∀ i j, i < T.n → j < T.ln i → W.cell? ⟨rb i, rf i + j * 5, none⟩ = some (.int .i64 (T.pt i j).kind) ∧ W.cell? ⟨rb i, rf i + j * 5 + 1, none⟩ = some (.int .i64 (T.pt i j).ten) ∧ W.cell? ⟨rb i, rf i + j * 5 + 2, none⟩ = some (.int .i64 (T.pt i j).peer) ∧
      W.cell? ⟨rb i, rf i + j * 5 + 3, none⟩ = some (.int .i64 (T.pt i j).at_) ∧ W.cell? ⟨rb i, rf i + j * 5 + 4, none⟩ = some (.int .i64 (T.pt i j).cost)
theorem cell_below {W W' : World} (hb : RowKit.Below W.heap.size W W') {a : Addr} {v : Value} (h : W.cell? a = some v) : W'.cell? a = some v := by
  rw [World.cell?_of_block (w := W) (hb.block a.block (World.block_lt_of_cell? W a h))]
  exact h
theorem TA.below {W W' : World} {o : Option Addr} {cap : Nat} {T : Tp} (h : TA W o cap T) (hb : RowKit.Below W.heap.size W W') : TA W' o cap T := by
  obtain ⟨b, off, ro, rc, rb, rf, h1, h2, h3, h4, h5⟩ := h.ex
  refine ⟨b, off, ro, rc, rb, rf, h1, h2, h3, fun i hi => ?_, fun i j hi hj => ?_⟩
  · obtain ⟨a, b, c, d⟩ := h4 i hi
    exact ⟨cell_below hb a, b, c, d⟩
  · obtain ⟨a, b, c, d, e⟩ := h5 i j hi hj
    exact ⟨cell_below hb a, cell_below hb b, cell_below hb c, cell_below hb d, cell_below hb e⟩
theorem below2 (w : World) (x y : Obj) : RowKit.Below w.heap.size w ((w.alloc x).alloc y) := ((Below.refl _ _).alloc (Nat.le_refl _) _).alloc (by rw [World.size_alloc]; omega) _
set_option maxHeartbeats 4000000 in
theorem port_c {o : Option Addr} {cap : Nat} {T : Tp} {w : World} (h : TA w o cap T) (i j : Nat) (hi : i < T.n) (hj : j < T.ln i) :
    Calls Try.prog 33 #[.agg #[.slice o T.n cap], .int .i64 (i : Int), .int .i64 (j : Int)] w fun e w' => e = .returned (.bool (portOk T i j)) ∧ RowKit.Below w.heap.size w w' := by
  obtain ⟨b, off, ro, rc, rb, rf, h1, h2, h3, h4, h5⟩ := h.ex
  obtain rfl := h1 (by omega)
  obtain ⟨r1, r2, r3, r4⟩ := h4 i hi
  rw [r4 (by omega)] at r1
  obtain ⟨p0, p1, p2, p3, p4⟩ := h5 i j hi hj
  have hiI : (i : Int) < (T.n : Int) := by omega
  have hjI : (j : Int) < (T.ln i : Int) := by omega
  obtain ⟨P, hP⟩ : ∃ P, Hid (P = T.pt i j) := ⟨_, rfl⟩
  rw [← hP.out] at p0 p1 p2 p3 p4
  obtain ⟨kind, ten, peer, at_, cost⟩ := P
  simp only at p0 p1 p2 p3 p4
  have b1 := World.block_lt_of_cell? w _ r1
  have b2 := World.block_lt_of_cell? w _ p0
  simp only at b1 b2
  have hi' := Lib.hid hi
  have H4 := Lib.hid h4
  have H5 := Lib.hid h5
  clear h4 h5 h1
  go_enter Try.func33, Try.ntmps33
  have hok : Hid (portOk T i j = okP T i j ⟨kind, ten, peer, at_, cost⟩) := by unfold portOk; rw [hP.out]; exact rfl
  by_cases k0 : kind = 0
  · subst k0
    go_wp2_with fail
    all_goals go_ret
    all_goals (refine ⟨?_, below2 _ _ _⟩; rw [hok.out]; simp [okP, *])
  · by_cases k1 : kind = 1
    · subst k1
      go_wp2_with fail
      all_goals go_ret
      all_goals (refine ⟨?_, below2 _ _ _⟩; rw [hok.out]; simp [okP, *])
      all_goals (try omega)
    · by_cases k2 : kind = 2
      · subst k2
        by_cases c1 : ten = 0
        rotate_left
        · go_wp2_with fail
          all_goals go_ret
          all_goals (refine ⟨?_, below2 _ _ _⟩; rw [hok.out]; simp [okP, *]; try omega)
        by_cases c2 : 1 ≤ cost
        rotate_left
        · go_wp2_with fail
          all_goals go_ret
          all_goals (refine ⟨?_, below2 _ _ _⟩; rw [hok.out]; simp [okP, *]; try omega)
        by_cases c3 : cost ≤ 1000
        rotate_left
        · go_wp2_with fail
          all_goals go_ret
          all_goals (refine ⟨?_, below2 _ _ _⟩; rw [hok.out]; simp [okP, *]; try omega)
        by_cases c4 : 0 ≤ peer
        rotate_left
        · go_wp2_with fail
          all_goals go_ret
          all_goals (refine ⟨?_, below2 _ _ _⟩; rw [hok.out]; simp [okP, *]; try omega)
        by_cases c5 : peer < (T.n : Int)
        rotate_left
        · go_wp2_with fail
          all_goals go_ret
          all_goals (refine ⟨?_, below2 _ _ _⟩; rw [hok.out]; simp [okP, *]; try omega)
        by_cases c6 : peer = (i : Int)
        · subst c6
          go_wp2_with fail
          all_goals go_ret
          all_goals (refine ⟨?_, below2 _ _ _⟩; rw [hok.out]; simp [okP, *]; try omega)
        subst c1
        obtain ⟨pn, rfl⟩ : ∃ pn : Nat, peer = (pn : Int) := ⟨peer.toNat, by omega⟩
        have hpn : pn < T.n := by omega
        have hb5 : decide (T.n ≤ pn) = false := decide_eq_false (by omega)
        have hb5' : ¬ T.n ≤ pn := by omega
        have c6n : ¬ pn = i := by omega
        have hb6 : ((pn : Int) == (i : Int)) = false := by simpa using c6
        have hb6' : (pn == i) = false := by simpa using c6n
        obtain ⟨q1, q2, q3, q4⟩ := H4.out pn hpn
        have b3 := World.block_lt_of_cell? w _ q1
        simp only at b3
        by_cases c7 : 0 ≤ at_
        rotate_left
        · have c7b : decide (0 ≤ at_) = false := decide_eq_false c7
          go_wp2_with fail
          (try go_quiet (fail))
          go_wp2_with fail
          all_goals go_ret
          all_goals (refine ⟨?_, (below2 _ _ _).trans ⟨rfl, rfl, rfl, Nat.le_refl _, fun _ _ => rfl⟩⟩; rw [hok.out]; simp [okP, *]; try omega)
        obtain ⟨an, rfl⟩ : ∃ an : Nat, at_ = (an : Int) := ⟨at_.toNat, by omega⟩
        by_cases c8 : an < T.ln pn
        rotate_left
        · have c8b : decide (an < T.ln pn) = false := decide_eq_false c8
          go_wp2_with fail
          (try go_quiet (fail))
          go_wp2_with fail
          all_goals go_ret
          all_goals (refine ⟨?_, (below2 _ _ _).trans ⟨rfl, rfl, rfl, Nat.le_refl _, fun _ _ => rfl⟩⟩; rw [hok.out]; simp [okP, *]; try omega)
        rw [q4 (by omega)] at q1
        have H5p := H5.out pn an hpn c8
        obtain ⟨Q, hQ⟩ : ∃ Q, Hid (T.pt pn an = Q) := ⟨_, rfl⟩
        rw [hQ.out] at H5p
        obtain ⟨qk, qt, qp, qa, qc⟩ := Q
        obtain ⟨t0, t1, t2, t3, t4⟩ := H5p
        simp only at t0 t1 t2 t3 t4
        have b4 := World.block_lt_of_cell? w _ t0
        simp only at b4
        have c7b : decide (0 ≤ an) = true := decide_eq_true (by omega)
        have c8b : decide (an < T.ln pn) = true := decide_eq_true c8
        by_cases e0 : qk = 2
        rotate_left
        · have e0b : (qk == 2) = false := by simpa using e0
          go_wp2_with fail
          (try go_quiet (fail))
          go_wp2_with fail
          all_goals go_ret
          all_goals (refine ⟨?_, (below2 _ _ _).trans ⟨rfl, rfl, rfl, Nat.le_refl _, fun _ _ => rfl⟩⟩; rw [hok.out]; simp [okP, hQ.out, *]; try omega)
        by_cases e1 : qt = 0
        rotate_left
        · have e1b : (qt == 0) = false := by simpa using e1
          go_wp2_with fail
          (try go_quiet (fail))
          go_wp2_with fail
          all_goals go_ret
          all_goals (refine ⟨?_, (below2 _ _ _).trans ⟨rfl, rfl, rfl, Nat.le_refl _, fun _ _ => rfl⟩⟩; rw [hok.out]; simp [okP, hQ.out, *]; try omega)
        by_cases e2 : qp = (i : Int)
        rotate_left
        · have e2b : (qp == (i : Int)) = false := by simpa using e2
          go_wp2_with fail
          (try go_quiet (fail))
          go_wp2_with fail
          all_goals go_ret
          all_goals (refine ⟨?_, (below2 _ _ _).trans ⟨rfl, rfl, rfl, Nat.le_refl _, fun _ _ => rfl⟩⟩; rw [hok.out]; simp [okP, hQ.out, *]; try omega)
        by_cases e3 : qa = (j : Int)
        rotate_left
        · have e3b : (qa == (j : Int)) = false := by simpa using e3
          go_wp2_with fail
          (try go_quiet (fail))
          go_wp2_with fail
          all_goals go_ret
          all_goals (refine ⟨?_, (below2 _ _ _).trans ⟨rfl, rfl, rfl, Nat.le_refl _, fun _ _ => rfl⟩⟩; rw [hok.out]; simp [okP, hQ.out, *]; try omega)
        by_cases e4 : qc = cost
        rotate_left
        · have e4b : (qc == cost) = false := by simpa using e4
          go_wp2_with fail
          (try go_quiet (fail))
          go_wp2_with fail
          all_goals go_ret
          all_goals (refine ⟨?_, (below2 _ _ _).trans ⟨rfl, rfl, rfl, Nat.le_refl _, fun _ _ => rfl⟩⟩; rw [hok.out]; simp [okP, hQ.out, *]; try omega)
        subst e0 e1 e2 e3 e4
        go_wp2_with fail
        (try go_quiet (fail))
        go_wp2_with fail
        all_goals go_ret
        all_goals (refine ⟨?_, (below2 _ _ _).trans ⟨rfl, rfl, rfl, Nat.le_refl _, fun _ _ => rfl⟩⟩; rw [hok.out]; simp [okP, hQ.out, *]; try omega)
      · go_wp2_with fail
        all_goals go_ret
        all_goals (refine ⟨?_, below2 _ _ _⟩; rw [hok.out]; simp [okP, *])
end Go.Proofs.Ytgebehnlfihliaa
