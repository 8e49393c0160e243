/- Topo: TopoOver: the walk. -/
import Derived.Test.YtgebehnlfihliaaTAwake
import Derived.OpenShut
namespace Go.Proofs.Ytgebehnlfihliaa
open Go.RowKit Go.Maps
set_option linter.unusedSimpArgs false
set_option linter.unusedVariables false
set_option maxRecDepth 100000
theorem below_q (w : World) (q : Nat) {N : Nat} (hN : N ≤ w.heap.size) : RowKit.Below N w (w.drewN q) := ⟨rfl, rfl, rfl, Nat.le_refl _, fun _ _ => rfl⟩
theorem tmod_nat (x n : Nat) : Int.tmod (x : Int) (n : Int) = ((x % n : Nat) : Int) := rfl
set_option maxHeartbeats 4000000 in
theorem over_bad {o : Option Addr} {cap : Nat} {T : Tp} {w : World} (h : TA w o cap T) (x y z : Int) (hs : soundE T ≠ 0) :
    Calls Try.prog 7 #[.agg #[.slice o T.n cap], .int .u8 x, .int .u8 y, .int .u8 z] w fun e w' => e = .returned (.bool true) ∧ RowKit.Below w.heap.size w w' := by
  obtain ⟨s, hz⟩ : ∃ s, Hid (soundE T = s) := ⟨_, rfl⟩
  have hb0 := (Below.refl w.heap.size w).alloc (Nat.le_refl _) (.cells #[.slice o T.n cap] 24)
  rw [hz.out] at hs
  have hsb : (s != 0) = true := by simpa using hs
  go_enter Try.func7, Try.ntmps7
  go_wp2_with fail
  refine (awake_c _).mono ?_
  rintro e w1 ⟨rfl, hb1⟩
  have hb := hb0.trans (hb1.mono (by simp))
  have x0 := box_c hb1
  have hc := tsound_c (h.below hb)
  rw [hz.out] at hc
  go_wp2_with fail
  refine hc.mono ?_
  rintro e w2 ⟨rfl, hb2⟩
  have hb3 := hb.trans (hb2.mono hb.size)
  go_wp2_with fail
  refine (awake_c w2).mono ?_
  rintro e w3 ⟨rfl, hb4⟩
  have hb5 := hb3.trans (hb4.mono hb3.size)
  go_wp2_with fail
  go_ret
  exact ⟨rfl, hb5⟩
set_option maxHeartbeats 8000000 in
theorem over_ok {o : Option Addr} {cap : Nat} {T : Tp} {w : World} (h : TA w o cap T) (x y z : Nat) (hx : x ≤ 255) (hy : y ≤ 255) (hz : z ≤ 255) (hs : soundE T = 0) :
    Calls Try.prog 7 #[.agg #[.slice o T.n cap], .int .u8 (x : Int), .int .u8 (y : Int), .int .u8 (z : Int)] w fun e w' => e = .returned (.bool true) ∧ RowKit.Below w.heap.size w w' := by
  have hT := sd_of hs
  have hn1 := hT.n1
  have hn6 := hT.n6
  have hb0 := (Below.refl w.heap.size w).alloc (Nat.le_refl _) (.cells #[.slice o T.n cap] 24)
  obtain ⟨a, ha⟩ : ∃ a, a = x % T.n := ⟨_, rfl⟩
  obtain ⟨b, hb⟩ : ∃ b, b = y % T.n := ⟨_, rfl⟩
  obtain ⟨c, hc⟩ : ∃ c, c = z % T.n := ⟨_, rfl⟩
  have han : a < T.n := by rw [ha]; exact Nat.mod_lt _ (by omega)
  have hbn : b < T.n := by rw [hb]; exact Nat.mod_lt _ (by omega)
  have hcn : c < T.n := by rw [hc]; exact Nat.mod_lt _ (by omega)
  have ea : Int.tmod (x : Int) (T.n : Int) = (a : Int) := by rw [tmod_nat, ha]
  have eb : Int.tmod (y : Int) (T.n : Int) = (b : Int) := by rw [tmod_nat, hb]
  have ec : Int.tmod (z : Int) (T.n : Int) = (c : Int) := by rw [tmod_nat, hc]
  clear ha hb hc
  obtain ⟨p, hp⟩ := far_ex (lk_cost hT) a
  obtain ⟨q, hq⟩ := far_ex (lk_cost hT) b
  have e1 : q a = p b := (hp.sym (lk_cost hT) (lk_sym hT) hq).symm
  have e2 : p a = 0 := hp.self
  have l1 := far_le hT hp c
  have l2 := far_le hT hp b
  have l3 := far_le hT hq c
  have t1 : 0 ≤ p b → 0 ≤ q c → 0 ≤ p c ∧ p c ≤ p b + q c := fun h1 h2 => hp.tri (lk_cost hT) hq h1 h2
  have t2 : 0 ≤ p c → 0 ≤ q c → 0 ≤ p b := fun h1 h2 => by
    obtain ⟨s, hs'⟩ := far_ex (lk_cost hT) c
    have h3 : s b = q c := (hq.sym (lk_cost hT) (lk_sym hT) hs').symm
    exact (hp.tri (lk_cost hT) hs' h1 (by omega)).1
  have T1 := Lib.hid t1
  have T2 := Lib.hid t2
  clear t1 t2
  have n0 : (T.n == 0) = false := by simp; omega
  have n0i : ((T.n : Int) == 0) = false := by simp; omega
  have n0n : ¬ T.n = 0 := by omega
  have n0m : ¬ (T.n : Int) = 0 := by omega
  have x0' : (0 : Int) ≤ (x : Int) := by omega
  have haI : (a : Int) < (T.n : Int) := by omega
  have hbI : (b : Int) < (T.n : Int) := by omega
  have hcI : (c : Int) < (T.n : Int) := by omega
  go_enter Try.func7, Try.ntmps7
  go_wp2_with fail
  refine (awake_c _).mono ?_
  rintro e w1 ⟨rfl, hb1⟩
  have hb := hb0.trans (hb1.mono (by simp))
  have x0 := box_c hb1
  have hc := tsound_c (h.below hb)
  rw [hs] at hc
  go_wp2_with fail
  refine hc.mono ?_
  rintro e w2 ⟨rfl, hb2⟩
  have hb3 := hb.trans (hb2.mono hb.size)
  have x2 := cell_below hb2 x0
  clear hc
  go_wp2_with fail
  (try go_quiet (fail))
  go_wp2_with fail
  have hf1 := tfar_ok (h.below (hb3.trans (below_q w2 nq hb3.size))) hs a han p hp
  refine hf1.mono ?_
  rintro e w4 ⟨g1, rfl, hia, hg1, hb4⟩
  have hb5 := (hb3.trans (below_q w2 nq hb3.size)).trans (hb4.mono hb3.size)
  have x3 := cell_below hb4 (show (w2.drewN nq).cell? ⟨w.heap.size, 0, none⟩ = _ from x2)
  have hf2 := tfar_ok (h.below hb5) hs b hbn q hq
  go_wp2_with fail
  refine hf2.mono ?_
  rintro e w5 ⟨g2, rfl, hia2, hg2, hb6⟩
  have hb7 := hb5.trans (hb6.mono hb5.size)
  have x4 := cell_below hb6 x3
  have hia1 := hia.of (hb6.block g1 hia.lt)
  have z1 := hia1.cell hbn
  have z2 := hia2.cell han
  have z3 := hia1.cell han
  have z4 := hia1.cell hcn
  have z5 := hia2.cell hcn
  rw [e1] at z2
  rw [e2] at z3
  obtain ⟨pb, hpb⟩ : ∃ pb, Hid (p b = pb) := ⟨_, rfl⟩
  obtain ⟨pc, hpc⟩ : ∃ pc, Hid (p c = pc) := ⟨_, rfl⟩
  obtain ⟨qc, hqc⟩ : ∃ qc, Hid (q c = qc) := ⟨_, rfl⟩
  rw [hpb.out] at z1 z2 l2 e1
  rw [hpc.out] at z4 l1
  rw [hqc.out] at z5 l3
  have t1 := T1.out
  have t2 := T2.out
  rw [hpb.out, hpc.out, hqc.out] at t1
  rw [hpb.out, hpc.out, hqc.out] at t2
  have T1' := Lib.hid t1
  have T2' := Lib.hid t2
  clear t1 t2 T1 T2
  have hnn : (pb != pb) = false := by simp
  go_wp2_with fail
  (try go_quiet (fail))
  by_cases c1 : pb < 0
  · have c1b : decide (pb < 0) = true := decide_eq_true c1
    have c1c : decide (0 ≤ pb) = false := decide_eq_false (by omega)
    by_cases c2 : pc < 0
    · have c2b : decide (pc < 0) = true := decide_eq_true c2
      go_wp2_with fail
      (try go_quiet (fail))
      go_wp2_with fail
      all_goals go_ret
      all_goals exact ⟨rfl, hb7.trans ⟨rfl, rfl, rfl, Nat.le_refl _, fun _ _ => rfl⟩⟩
    · have c2b : decide (pc < 0) = false := decide_eq_false c2
      have c3 : qc < 0 := by
        have := T2'.out
        omega
      have c3b : decide (qc < 0) = true := decide_eq_true c3
      go_wp2_with fail
      (try go_quiet (fail))
      go_wp2_with fail
      all_goals go_ret
      all_goals exact ⟨rfl, hb7.trans ⟨rfl, rfl, rfl, Nat.le_refl _, fun _ _ => rfl⟩⟩
  have c1b : decide (pb < 0) = false := decide_eq_false c1
  have c1c : decide (0 ≤ pb) = true := decide_eq_true (by omega)
  by_cases c3 : qc < 0
  · have c3b : decide (qc < 0) = true := decide_eq_true c3
    go_wp2_with fail
    (try go_quiet (fail))
    go_wp2_with fail
    all_goals go_ret
    all_goals exact ⟨rfl, hb7.trans ⟨rfl, rfl, rfl, Nat.le_refl _, fun _ _ => rfl⟩⟩
  have c3b : decide (qc < 0) = false := decide_eq_false c3
  have t3 := T1'.out (by omega) (by omega)
  have c4b : decide (0 ≤ pc) = true := decide_eq_true t3.1
  have c5b : decide (pc ≤ pb + qc) = true := decide_eq_true t3.2
  go_wp2_with fail
  (try go_quiet (fail))
  go_wp2_with fail
  all_goals go_ret
  all_goals exact ⟨rfl, hb7.trans ⟨rfl, rfl, rfl, Nat.le_refl _, fun _ _ => rfl⟩⟩
theorem over_law {o : Option Addr} {cap : Nat} {T : Tp} {w : World} (h : TA w o cap T) (x y z : Int) (hx : (Lit.int .u8 x).wf = true) (hy : (Lit.int .u8 y).wf = true) (hz : (Lit.int .u8 z).wf = true) :
    Calls Try.prog 7 #[.agg #[.slice o T.n cap], .int .u8 x, .int .u8 y, .int .u8 z] w fun e w' => e = .returned (.bool true) ∧ RowKit.Below w.heap.size w w' := by
  by_cases hs : soundE T = 0
  rotate_left
  · exact over_bad h x y z hs
  have bx := bounds_u8 hx
  have by_ := bounds_u8 hy
  have bz := bounds_u8 hz
  obtain ⟨xn, rfl⟩ : ∃ n : Nat, x = (n : Int) := ⟨x.toNat, by omega⟩
  obtain ⟨yn, rfl⟩ : ∃ n : Nat, y = (n : Int) := ⟨y.toNat, by omega⟩
  obtain ⟨zn, rfl⟩ : ∃ n : Nat, z = (n : Int) := ⟨z.toNat, by omega⟩
  exact over_ok h xn yn zn (by omega) (by omega) (by omega) hs
end Go.Proofs.Ytgebehnlfihliaa
