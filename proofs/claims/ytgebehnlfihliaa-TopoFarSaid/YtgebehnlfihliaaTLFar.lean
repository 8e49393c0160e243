/- Topo: TopoFar: the walk. -/
import Derived.Test.YtgebehnlfihliaaTAwake
import Derived.Test.YtgebehnlfihliaaTFar3
namespace Go.Proofs.Ytgebehnlfihliaa
open Go.RowKit Go.Maps
set_option linter.unusedSimpArgs false
set_option linter.unusedVariables false
set_option maxRecDepth 100000
theorem ints_c {w : World} {g1 g2 n c1 c2 : Nat} {d : Nat → Int} (h1 : IA w g1 n d) (h2 : IA w g2 n d) (hn : n ≤ 1000000) :
    Calls Try.prog 21 #[.slice (some ⟨g1, 0, none⟩) n c1, .slice (some ⟨g2, 0, none⟩) n c2] w fun e w' => e = .returned (.bool true) ∧ RowKit.Below w.heap.size w w' := by
  go_enter Try.func21, Try.ntmps21
  go_wp2_with fail
  refine wp_world (fun W => W = w) rfl ?_
  rintro W rfl
  go_loopw [5] (fun v wr => ∃ j : Nat, v = .int .i64 (j : Int) ∧ j ≤ n ∧ RowKit.Below W.heap.size W wr) (fun v _ => n - (intOf v).toNat)
  case atStart => exact ⟨0, rfl, Nat.zero_le _, Below.refl _ _⟩
  case round =>
    obtain ⟨j, rfl, hj, hbr⟩ := hrel
    by_cases hjl : j < n
    · have hjI : (j : Int) < (n : Int) := by omega
      have z1 := cell_below hbr (h1.cell hjl)
      have z2 := cell_below hbr (h2.cell hjl)
      generalize d j = x at z1 z2
      have hxx : (x != x) = false := by simp
      go_wp2_with fail
      (try go_quiet (fail))
      go_wp2_with fail
      go_roundw
      case rel => exact ⟨j + 1, by go_num, by omega, hbr.trans ⟨rfl, rfl, rfl, Nat.le_refl _, fun _ _ => rfl⟩⟩
      case measure => simp [intOf]; omega
    · have : j = n := by omega
      subst this
      go_wp2_with fail
      go_ret
      exact ⟨rfl, hbr⟩
set_option maxHeartbeats 4000000 in
theorem far_law {o : Option Addr} {cap : Nat} {T : Tp} {w : World} (h : TA w o cap T) (a : Int) :
    Calls Try.prog 4 #[.agg #[.slice o T.n cap], .int .i64 a] w fun e w' => e = .returned (.bool true) ∧ RowKit.Below w.heap.size w w' := by
  have h0 := h.below ((Below.refl w.heap.size w).alloc (Nat.le_refl _) (.cells #[.slice o T.n cap] 24))
  by_cases hs : soundE T = 0
  rotate_left
  · obtain ⟨z, hz⟩ : ∃ z, Hid (soundE T = z) := ⟨_, rfl⟩
    have hc := tfar_bad h0 a hs
    rw [hz.out] at hc hs
    have hsb : (z != 0) = true := by simpa using hs
    have hsb2 : (z == 0) = false := by simpa using hs
    go_enter Try.func4, Try.ntmps4
    go_wp2_with fail
    refine hc.mono ?_
    rintro e w1 ⟨rfl, hb1⟩
    have hb := ((Below.refl w.heap.size w).alloc (Nat.le_refl _) (.cells #[.slice o T.n cap] 24)).trans (hb1.mono (by simp))
    have x0 := box_c hb1
    have hr := rsound_c (h.below hb)
    rw [hz.out] at hr
    go_wp2_with fail
    refine hr.mono ?_
    rintro e w2 ⟨rfl, hb2⟩
    have hb3 := hb.trans (hb2.mono hb.size)
    go_wp2_with fail
    refine (awake_c w2).mono ?_
    rintro e w3 ⟨rfl, hb4⟩
    have hb5 := hb3.trans (hb4.mono hb3.size)
    go_wp2_with fail
    go_ret
    exact ⟨rfl, hb5⟩
  by_cases ha : a < 0 ∨ (T.n : Int) ≤ a
  · have hc := tfar_none h0 a hs ha
    go_enter Try.func4, Try.ntmps4
    go_wp2_with fail
    refine hc.mono ?_
    rintro e w1 ⟨rfl, hb1⟩
    have hb := ((Below.refl w.heap.size w).alloc (Nat.le_refl _) (.cells #[.slice o T.n cap] 24)).trans (hb1.mono (by simp))
    have x0 := box_c hb1
    have hr := rsound_c (h.below hb)
    rw [hs] at hr
    go_wp2_with fail
    refine hr.mono ?_
    rintro e w2 ⟨rfl, hb2⟩
    have hb3 := hb.trans (hb2.mono hb.size)
    have x1 := cell_below hb2 x0
    by_cases a0 : a < 0
    · have a0b : decide (a < 0) = true := decide_eq_true a0
      go_wp2_with fail
      refine (awake_c w2).mono ?_
      rintro e w3 ⟨rfl, hb4⟩
      have hb5 := hb3.trans (hb4.mono hb3.size)
      go_wp2_with fail
      go_ret
      exact ⟨rfl, hb5⟩
    · have a0b : decide (a < 0) = false := decide_eq_false a0
      have a1b : decide ((T.n : Int) ≤ a) = true := decide_eq_true (by omega)
      go_wp2_with fail
      refine (awake_c w2).mono ?_
      rintro e w3 ⟨rfl, hb4⟩
      have hb5 := hb3.trans (hb4.mono hb3.size)
      go_wp2_with fail
      go_ret
      exact ⟨rfl, hb5⟩
  obtain ⟨an, rfl⟩ : ∃ an : Nat, a = (an : Int) := ⟨a.toNat, by omega⟩
  have han : an < T.n := by omega
  obtain ⟨d, hd⟩ := far_ex (lk_cost (sd_of hs)) an
  have hc := tfar_ok h0 hs an han d hd
  have a0b : decide ((an : Int) < 0) = false := decide_eq_false (by omega)
  have a1b : decide ((T.n : Int) ≤ (an : Int)) = false := decide_eq_false (by omega)
  have a2b : decide (T.n ≤ an) = false := decide_eq_false (by omega)
  go_enter Try.func4, Try.ntmps4
  go_wp2_with fail
  refine hc.mono ?_
  rintro e w1 ⟨g, rfl, hia, hg, hb1⟩
  have hb := ((Below.refl w.heap.size w).alloc (Nat.le_refl _) (.cells #[.slice o T.n cap] 24)).trans (hb1.mono (by simp))
  have x0 := box_c hb1
  have hr := rsound_c (h.below hb)
  rw [hs] at hr
  go_wp2_with fail
  refine hr.mono ?_
  rintro e w2 ⟨rfl, hb2⟩
  have hb3 := hb.trans (hb2.mono hb.size)
  have x1 := cell_below hb2 x0
  have hia2 := hia.of (hb2.block g hia.lt)
  go_wp2_with fail
  refine (awake_c w2).mono ?_
  rintro e w3 ⟨rfl, hb4⟩
  have hb5 := hb3.trans (hb4.mono hb3.size)
  have x2 := cell_below hb4 x1
  have hia3 := hia2.of (hb4.block g hia2.lt)
  have hrf := rfar_ok (h.below hb5) hs an han d hd
  go_wp2_with fail
  refine hrf.mono ?_
  rintro e w4 ⟨g2, rfl, hia4, hg2, hb6⟩
  have hb7 := hb5.trans (hb6.mono hb5.size)
  have hia5 := hia3.of (hb6.block g hia3.lt)
  go_wp2_with fail
  refine (ints_c hia5 hia4 (by have := (sd_of hs).n6; omega)).mono ?_
  rintro e w5 ⟨rfl, hb8⟩
  have hb9 := hb7.trans (hb8.mono hb7.size)
  go_wp2_with fail
  go_ret
  exact ⟨rfl, hb9⟩
end Go.Proofs.Ytgebehnlfihliaa
