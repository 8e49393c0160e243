/- Topo: TopoWays: the walk. -/
import Derived.Test.YtgebehnlfihliaaTLOver
namespace Go.Proofs.Ytgebehnlfihliaa
open Go.RowKit Go.Maps
set_option linter.unusedSimpArgs false
set_option linter.unusedVariables false
set_option maxRecDepth 100000
set_option maxHeartbeats 4000000 in
theorem ways_bad {o : Option Addr} {cap : Nat} {T : Tp} {w : World} (h : TA w o cap T) (x y : Int) (hs : soundE T ≠ 0) :
    Calls Try.prog 6 #[.agg #[.slice o T.n cap], .int .u8 x, .int .u8 y] w fun e w' => e = .returned (.bool true) ∧ RowKit.Below w.heap.size w w' := by
  obtain ⟨s, hz⟩ : ∃ s, Hid (soundE T = s) := ⟨_, rfl⟩
  have hb0 := (Below.refl w.heap.size w).alloc (Nat.le_refl _) (.cells #[.slice o T.n cap] 24)
  rw [hz.out] at hs
  have hsb : (s != 0) = true := by simpa using hs
  go_enter Try.func6, Try.ntmps6
  go_wp2_with fail
  refine (awake_c _).mono ?_
  rintro e w1 ⟨rfl, hb1⟩
  have hb := hb0.trans (hb1.mono (by simp))
  have x0 := box_c hb1
  have hc := tsound_c (h.below hb)
  rw [hz.out] at hc
  go_wp2_with fail
  refine hc.mono ?_
  rintro e w2 ⟨rfl, hb2⟩
  have hb3 := hb.trans (hb2.mono hb.size)
  go_wp2_with fail
  refine (awake_c w2).mono ?_
  rintro e w3 ⟨rfl, hb4⟩
  have hb5 := hb3.trans (hb4.mono hb3.size)
  go_wp2_with fail
  go_ret
  exact ⟨rfl, hb5⟩
theorem far_pos {T : Tp} (hT : Sd T) {c m : Nat} {d : Nat → Int} (hd : IsFar (Lk T) c d) (hm : m ≠ c) (h0 : 0 ≤ d m) : 0 < d m := by
  rcases hd.tight m h0 with h1 | ⟨x, k, l, hx, he⟩
  · exact absurd h1 hm
  · have := lk_cost hT _ _ _ l; omega
set_option maxHeartbeats 8000000 in
theorem ways_ok {o : Option Addr} {cap : Nat} {T : Tp} {w : World} (h : TA w o cap T) (x y : Nat) (hx : x ≤ 255) (hy : y ≤ 255) (hs : soundE T = 0) :
    Calls Try.prog 6 #[.agg #[.slice o T.n cap], .int .u8 (x : Int), .int .u8 (y : Int)] w fun e w' => e = .returned (.bool true) ∧ RowKit.Below w.heap.size w w' := by
  have hT := sd_of hs
  have hn1 := hT.n1
  have hn6 := hT.n6
  have hb0 := (Below.refl w.heap.size w).alloc (Nat.le_refl _) (.cells #[.slice o T.n cap] 24)
  obtain ⟨a, ha⟩ : ∃ a, a = x % T.n := ⟨_, rfl⟩
  obtain ⟨b, hb⟩ : ∃ b, b = y % T.n := ⟨_, rfl⟩
  have han : a < T.n := by rw [ha]; exact Nat.mod_lt _ (by omega)
  have hbn : b < T.n := by rw [hb]; exact Nat.mod_lt _ (by omega)
  have ea : Int.tmod (x : Int) (T.n : Int) = (a : Int) := by rw [tmod_nat, ha]
  have eb : Int.tmod (y : Int) (T.n : Int) = (b : Int) := by rw [tmod_nat, hb]
  clear ha hb
  obtain ⟨p, hp⟩ := far_ex (lk_cost hT) a
  obtain ⟨q, hq⟩ := far_ex (lk_cost hT) b
  have e1 : q a = p b := (hp.sym (lk_cost hT) (lk_sym hT) hq).symm
  have l2 := far_le hT hp b
  have n0 : (T.n == 0) = false := by simp; omega
  have n0i : ((T.n : Int) == 0) = false := by simp; omega
  have n0n : ¬ T.n = 0 := by omega
  have n0m : ¬ (T.n : Int) = 0 := by omega
  have x0' : (0 : Int) ≤ (x : Int) := by omega
  have haI : (a : Int) < (T.n : Int) := by omega
  have hbI : (b : Int) < (T.n : Int) := by omega
  go_enter Try.func6, Try.ntmps6
  go_wp2_with fail
  refine (awake_c _).mono ?_
  rintro e w1 ⟨rfl, hb1⟩
  have hb := hb0.trans (hb1.mono (by simp))
  have x0 := box_c hb1
  have hc := tsound_c (h.below hb)
  rw [hs] at hc
  go_wp2_with fail
  refine hc.mono ?_
  rintro e w2 ⟨rfl, hb2⟩
  have hb3 := hb.trans (hb2.mono hb.size)
  have x2 := cell_below hb2 x0
  clear hc
  go_wp2_with fail
  (try go_quiet (fail))
  go_wp2_with fail
  have hf1 := tfar_ok (h.below (hb3.trans (below_q w2 nq hb3.size))) hs a han p hp
  refine hf1.mono ?_
  rintro e w4 ⟨g1, rfl, hia, hg1, hb4⟩
  have hb5 := (hb3.trans (below_q w2 nq hb3.size)).trans (hb4.mono hb3.size)
  have x3 := cell_below hb4 (show (w2.drewN nq).cell? ⟨w.heap.size, 0, none⟩ = _ from x2)
  have hf2 := tfar_ok (h.below hb5) hs b hbn q hq
  go_wp2_with fail
  refine hf2.mono ?_
  rintro e w5 ⟨g2, rfl, hia2, hg2, hb6⟩
  have hb7 := hb5.trans (hb6.mono hb5.size)
  have x4 := cell_below hb6 x3
  have hia1 := hia.of (hb6.block g1 hia.lt)
  have z1 := hia1.cell hbn
  have z2 := hia2.cell han
  rw [e1] at z2
  obtain ⟨pb, hpb⟩ : ∃ pb, Hid (p b = pb) := ⟨_, rfl⟩
  rw [hpb.out] at z1 z2 l2 e1
  have hnn : (pb != pb) = false := by simp
  go_wp2_with fail
  (try go_quiet (fail))
  go_wp2_with fail
  refine wp_world (fun W => RowKit.Below w.heap.size w W ∧ IA W g1 T.n p ∧ W.cell? ⟨w.heap.size, 0, none⟩ = some (.slice o T.n cap)) ⟨hb7.trans ⟨rfl, rfl, rfl, Nat.le_refl _, fun _ _ => rfl⟩, hia1.of rfl, x4⟩ ?_
  rintro W ⟨hbW, hiaW, xW⟩
  clear z1 z2 hia hia1 hia2 x4 x3 x2 x0 hf1 hf2 hb7
  have zW := hiaW.cell hbn
  rw [hpb.out] at zW
  by_cases hneg : pb < 0
  · have hab : a ≠ b := fun e => by
      subst e
      have := hp.self
      have := hpb.out
      omega
    have habb : ((a : Int) == (b : Int)) = false := by simp; omega
    have habc : (a == b) = false := by simpa using hab
    have hnb : decide (pb < 0) = true := decide_eq_true hneg
    have hnc : decide (0 ≤ pb) = false := decide_eq_false (by omega)
    have habn : ((a : Int) != (b : Int)) = true := by simp; omega
    go_loopw [7, 13, 14] (fun v7 v13 v14 wr => v7 = .int .i64 (a : Int) ∧ v13 = .int .i64 0 ∧ v14 = .int .i64 0 ∧ wr = W) (fun _ _ _ _ => 0)
    case atStart => exact ⟨rfl, rfl, rfl, rfl⟩
    case round =>
      obtain ⟨rfl, rfl, rfl, hwe⟩ := hrel
      obtain rfl := hwe.symm
      go_wp2_with fail
      (try go_quiet (fail))
      go_wp2_with fail
      go_ret
      exact ⟨rfl, hbW.trans ⟨rfl, rfl, rfl, Nat.le_refl _, fun _ _ => rfl⟩⟩
  have hnb : decide (pb < 0) = false := decide_eq_false hneg
  have hnc : decide (0 ≤ pb) = true := decide_eq_true (by omega)
  have hcn := cnt_lt' q (z := q a) han (Int.le_refl _)
  have hq0 := hq.self
  go_loopw [7, 13, 14] (fun v7 v13 v14 wr => ∃ (k ak : Nat) (sm : Int), v7 = .int .i64 (ak : Int) ∧ v13 = .int .i64 sm ∧ v14 = .int .i64 (k : Int) ∧ ak < T.n ∧ 0 ≤ sm ∧ 0 ≤ q ak ∧ sm + q ak = pb ∧ cnt q (q ak) T.n + k ≤ cnt q (q a) T.n ∧ RowKit.Below W.heap.size W wr) (fun _ _ v14 _ => 8 - (intOf v14).toNat)
  case atStart => exact ⟨0, a, 0, rfl, rfl, rfl, han, Int.le_refl _, by omega, by omega, Nat.le_refl _, Below.refl _ _⟩
  case round =>
    obtain ⟨k, ak, sm, rfl, rfl, rfl, hak, hsm, hqk, hsum, hcnt, hbr⟩ := hrel
    have HC := Lib.hid hcnt
    clear hcnt
    have hbwr := hbW.trans (hbr.mono hbW.size)
    have xr := cell_below hbr xW
    have xl : w.heap.size < wr.heap.size := World.block_lt_of_cell? wr _ xr
    have zr := cell_below hbr zW
    have hk8 : k < 8 := by have := HC.out; omega
    have hkI : (k : Int) < 8 := by omega
    have hkb : decide ((k : Int) < 8) = true := decide_eq_true hkI
    have hakI : (ak : Int) < (T.n : Int) := by omega
    by_cases hab : ak = b
    · subst hab
      have hse : sm = pb := by omega
      subst hse
      go_wp2_with fail
      (try go_quiet (fail))
      go_wp2_with fail
      go_ret
      exact ⟨rfl, hbwr.trans ⟨rfl, rfl, rfl, Nat.le_refl _, fun _ _ => rfl⟩⟩
    have habb : ((ak : Int) == (b : Int)) = false := by simp; omega
    have habn : ((ak : Int) != (b : Int)) = true := by simp; omega
    have habc : (ak == b) = false := by simpa using hab
    have habi : ¬ (ak : Int) = (b : Int) := by omega
    have hpos := far_pos hT hq hab hqk
    have hc1 := cnt_lt q (y := q ak) hbn (by omega) (by omega)
    have hnx := next_ok (h.below hbwr) hs ak b hak hbn hab q hq hqk
    have HC1 := Lib.hid hc1
    clear hc1
    go_wp2_with fail
    refine hnx.mono ?_
    rintro e w6 ⟨i, rfl, hi, hbest, _, hb8⟩
    have hb9 := hbwr.trans (hb8.mono hbwr.size)
    have x6 := cell_below hb8 xr
    have hot := other_c (h.below hb9) (ak : Int) (i : Int)
    obtain ⟨k2, f0, f1⟩ := hbest
    have L := hT.lkp hak hi k2
    have hof : otherF T (ak : Int) (i : Int) = ((T.pt ak i).peer, (T.pt ak i).at_, true) := by
      unfold otherF
      rw [if_pos ⟨hs, by omega, by omega, by omega, by simpa using hi, by simpa using k2⟩]
      simp
    rw [hof] at hot
    have c1 := L.c1
    have c2 := L.c2
    have l0 := L.p0
    have l1 := L.p1
    clear L hof
    obtain ⟨b', off, ro, rcs, rb, rf, g1', g2', g3', g4', g5'⟩ := h.ex
    obtain ⟨r1, r2, r3, r4⟩ := g4' ak hak
    obtain ⟨p0, p1, p2, p3, p4⟩ := g5' ak i hak hi
    obtain rfl := g1' (by omega)
    have r4' := r4 (by omega)
    clear g1' g4' g5' r4
    generalize hla : T.ln ak = la at r1 r2 hi
    rw [r4'] at r1
    generalize hP : T.pt ak i = P at p0 p1 p2 p3 p4 hot c1 c2 l0 l1 f0 f1 k2
    obtain ⟨kind, ten, peer, at_, cost⟩ := P
    simp only at p0 p1 p2 p3 p4 hot c1 c2 l0 l1 f0 f1 k2
    obtain ⟨pn, rfl⟩ : ∃ pn : Nat, peer = (pn : Int) := ⟨peer.toNat, by omega⟩
    rw [Int.toNat_natCast] at f0 f1 l1
    go_wp2_with fail
    refine hot.mono ?_
    rintro e w7 ⟨rfl, hb10⟩
    have hb11 := hb9.trans (hb10.mono hb9.size)
    have x7 := cell_below hb10 x6
    have xl7 : w.heap.size < w7.heap.size := World.block_lt_of_cell? w7 _ x7
    have r7 := cell_below hb11 r1
    have p7 := cell_below hb11 p4
    have rl7 : b' < w7.heap.size := World.block_lt_of_cell? w7 _ r7
    have pl7 : rb ak < w7.heap.size := World.block_lt_of_cell? w7 _ p7
    have hiI : (i : Int) < (la : Int) := by omega
    have hc2 := cnt_lt q (y := q ak) l1 f0 (by omega)
    have HC2 := Lib.hid hc2
    have hbx := ((hbr.trans (hb8.mono hbr.size)).trans (hb10.mono (Nat.le_trans hbr.size hb8.size))).alloc (Nat.le_trans hbr.size (Nat.le_trans hb8.size hb10.size)) (.cells #[.int .i64 (pn : Int), .int .i64 at_] 26)
    clear hc2
    go_wp2_with fail
    go_roundw
    case rel => exact ⟨k + 1, pn, sm + cost, rfl, rfl, by go_num, l1, by omega, f0, by omega, by have := HC.out; have := HC2.out; omega, hbx⟩
    case measure => simp [intOf] <;> omega
theorem ways_law {o : Option Addr} {cap : Nat} {T : Tp} {w : World} (h : TA w o cap T) (x y : Int) (hx : (Lit.int .u8 x).wf = true) (hy : (Lit.int .u8 y).wf = true) :
    Calls Try.prog 6 #[.agg #[.slice o T.n cap], .int .u8 x, .int .u8 y] w fun e w' => e = .returned (.bool true) ∧ RowKit.Below w.heap.size w w' := by
  by_cases hs : soundE T = 0
  rotate_left
  · exact ways_bad h x y hs
  have bx := bounds_u8 hx
  have by_ := bounds_u8 hy
  obtain ⟨xn, rfl⟩ : ∃ n : Nat, x = (n : Int) := ⟨x.toNat, by omega⟩
  obtain ⟨yn, rfl⟩ : ∃ n : Nat, y = (n : Int) := ⟨y.toNat, by omega⟩
  exact ways_ok h xn yn (by omega) (by omega) hs
end Go.Proofs.Ytgebehnlfihliaa
