/- Topo: TopoNext: the walk. -/
import Derived.Test.YtgebehnlfihliaaTAwake
import Derived.Test.YtgebehnlfihliaaTFar3
namespace Go.Proofs.Ytgebehnlfihliaa
open Go.RowKit Go.Maps
set_option linter.unusedSimpArgs false
set_option linter.unusedVariables false
set_option maxRecDepth 100000
theorem h0_ (w : World) (v : Value) : RowKit.Below w.heap.size w (w.alloc (.cells #[v] 24)) := (Below.refl _ _).alloc (Nat.le_refl _) _
set_option maxHeartbeats 4000000 in
theorem nlaw_bad {o : Option Addr} {cap : Nat} {T : Tp} {w : World} (h : TA w o cap T) (a c : Int) (hs : soundE T ≠ 0) :
    Calls Try.prog 5 #[.agg #[.slice o T.n cap], .int .i64 a, .int .i64 c] w fun e w' => e = .returned (.bool true) ∧ RowKit.Below w.heap.size w w' := by
  obtain ⟨z, hz⟩ : ∃ z, Hid (soundE T = z) := ⟨_, rfl⟩
  have hc := next_bad (h.below (h0_ w (.slice o T.n cap))) a c hs
  rw [hz.out] at hc hs
  have hsb : (z != 0) = true := by simpa using hs
  have hsb2 : (z == 0) = false := by simpa using hs
  go_enter Try.func5, Try.ntmps5
  go_wp2_with fail
  refine hc.mono ?_
  rintro e w1 ⟨rfl, hb1⟩
  have hb := ((Below.refl w.heap.size w).alloc (Nat.le_refl _) (.cells #[.slice o T.n cap] 24)).trans (hb1.mono (by simp))
  have x0 := box_c hb1
  have hr := rsound_c (h.below hb)
  rw [hz.out] at hr
  go_wp2_with fail
  refine hr.mono ?_
  rintro e w2 ⟨rfl, hb2⟩
  have hb3 := hb.trans (hb2.mono hb.size)
  have x1 := cell_below hb2 x0
  go_wp2_with fail
  refine (awake_c w2).mono ?_
  rintro e wa ⟨rfl, hba⟩
  have hbb := hb3.trans (hba.mono hb3.size)
  go_wp2_with fail
  go_ret
  exact ⟨rfl, hbb⟩
set_option maxHeartbeats 4000000 in
theorem nlaw_none {o : Option Addr} {cap : Nat} {T : Tp} {w : World} (h : TA w o cap T) (a c : Int) (hs : soundE T = 0) (ha : a < 0 ∨ (T.n : Int) ≤ a) :
    Calls Try.prog 5 #[.agg #[.slice o T.n cap], .int .i64 a, .int .i64 c] w fun e w' => e = .returned (.bool true) ∧ RowKit.Below w.heap.size w w' := by
  have hc := next_none (h.below (h0_ w (.slice o T.n cap))) a c hs ha
  go_enter Try.func5, Try.ntmps5
  go_wp2_with fail
  refine hc.mono ?_
  rintro e w1 ⟨rfl, hb1⟩
  have hb := ((Below.refl w.heap.size w).alloc (Nat.le_refl _) (.cells #[.slice o T.n cap] 24)).trans (hb1.mono (by simp))
  have x0 := box_c hb1
  have hr := rsound_c (h.below hb)
  rw [hs] at hr
  go_wp2_with fail
  refine hr.mono ?_
  rintro e w2 ⟨rfl, hb2⟩
  have hb3 := hb.trans (hb2.mono hb.size)
  have x1 := cell_below hb2 x0
  by_cases a0 : a < 0
  · have a0b : decide (a < 0) = true := decide_eq_true a0
    go_wp2_with fail
    refine (awake_c w2).mono ?_
    rintro e wa ⟨rfl, hba⟩
    have hbb := hb3.trans (hba.mono hb3.size)
    go_wp2_with fail
    go_ret
    exact ⟨rfl, hbb⟩
  · have a0b : decide (a < 0) = false := decide_eq_false a0
    have a1b : decide ((T.n : Int) ≤ a) = true := decide_eq_true (by omega)
    go_wp2_with fail
    refine (awake_c w2).mono ?_
    rintro e wa ⟨rfl, hba⟩
    have hbb := hb3.trans (hba.mono hb3.size)
    go_wp2_with fail
    go_ret
    exact ⟨rfl, hbb⟩
set_option maxHeartbeats 4000000 in
theorem nlaw_same {o : Option Addr} {cap : Nat} {T : Tp} {w : World} (h : TA w o cap T) (a : Nat) (hs : soundE T = 0) (ha : a < T.n) :
    Calls Try.prog 5 #[.agg #[.slice o T.n cap], .int .i64 (a : Int), .int .i64 (a : Int)] w fun e w' => e = .returned (.bool true) ∧ RowKit.Below w.heap.size w w' := by
  have hc := next_same (h.below (h0_ w (.slice o T.n cap))) hs a ha
  have a0b : decide ((a : Int) < 0) = false := decide_eq_false (by omega)
  have a1b : decide ((T.n : Int) ≤ (a : Int)) = false := decide_eq_false (by omega)
  have a2b : decide (T.n ≤ a) = false := decide_eq_false (by omega)
  go_enter Try.func5, Try.ntmps5
  go_wp2_with fail
  refine hc.mono ?_
  rintro e w1 ⟨rfl, hb1⟩
  have hb := ((Below.refl w.heap.size w).alloc (Nat.le_refl _) (.cells #[.slice o T.n cap] 24)).trans (hb1.mono (by simp))
  have x0 := box_c hb1
  have hr := rsound_c (h.below hb)
  rw [hs] at hr
  go_wp2_with fail
  refine hr.mono ?_
  rintro e w2 ⟨rfl, hb2⟩
  have hb3 := hb.trans (hb2.mono hb.size)
  have x1 := cell_below hb2 x0
  go_wp2_with fail
  refine (awake_c w2).mono ?_
  rintro e wa ⟨rfl, hba⟩
  have hbb := hb3.trans (hba.mono hb3.size)
  go_wp2_with fail
  go_ret
  exact ⟨rfl, hbb⟩
set_option maxHeartbeats 4000000 in
theorem nlaw_to {o : Option Addr} {cap : Nat} {T : Tp} {w : World} (h : TA w o cap T) (a : Nat) (c : Int) (hs : soundE T = 0) (ha : a < T.n) (hc0 : c < 0 ∨ (T.n : Int) ≤ c) :
    Calls Try.prog 5 #[.agg #[.slice o T.n cap], .int .i64 (a : Int), .int .i64 c] w fun e w' => e = .returned (.bool true) ∧ RowKit.Below w.heap.size w w' := by
  have hc := next_to (h.below (h0_ w (.slice o T.n cap))) hs a ha c hc0
  have a0b : decide ((a : Int) < 0) = false := decide_eq_false (by omega)
  have a1b : decide ((T.n : Int) ≤ (a : Int)) = false := decide_eq_false (by omega)
  have a2b : decide (T.n ≤ a) = false := decide_eq_false (by omega)
  have hac : ¬ (a : Int) = c := by omega
  have hacb : ((a : Int) == c) = false := by simpa using hac
  go_enter Try.func5, Try.ntmps5
  go_wp2_with fail
  refine hc.mono ?_
  rintro e w1 ⟨rfl, hb1⟩
  have hb := ((Below.refl w.heap.size w).alloc (Nat.le_refl _) (.cells #[.slice o T.n cap] 24)).trans (hb1.mono (by simp))
  have x0 := box_c hb1
  have hr := rsound_c (h.below hb)
  rw [hs] at hr
  go_wp2_with fail
  refine hr.mono ?_
  rintro e w2 ⟨rfl, hb2⟩
  have hb3 := hb.trans (hb2.mono hb.size)
  have x1 := cell_below hb2 x0
  by_cases c0 : c < 0
  · have c0b : decide (c < 0) = true := decide_eq_true c0
    go_wp2_with fail
    refine (awake_c w2).mono ?_
    rintro e wa ⟨rfl, hba⟩
    have hbb := hb3.trans (hba.mono hb3.size)
    go_wp2_with fail
    go_ret
    exact ⟨rfl, hbb⟩
  · have c0b : decide (c < 0) = false := decide_eq_false c0
    have c1b : decide ((T.n : Int) ≤ c) = true := decide_eq_true (by omega)
    go_wp2_with fail
    refine (awake_c w2).mono ?_
    rintro e wa ⟨rfl, hba⟩
    have hbb := hb3.trans (hba.mono hb3.size)
    go_wp2_with fail
    go_ret
    exact ⟨rfl, hbb⟩
set_option maxHeartbeats 4000000 in
theorem nlaw_unr {o : Option Addr} {cap : Nat} {T : Tp} {w : World} (h : TA w o cap T) (a c : Nat) (hs : soundE T = 0) (ha : a < T.n) (hc0 : c < T.n) (hne : a ≠ c) (d p : Nat → Int) (hd : IsFar (Lk T) c d) (hp : IsFar (Lk T) a p) (hneg : d a < 0) :
    Calls Try.prog 5 #[.agg #[.slice o T.n cap], .int .i64 (a : Int), .int .i64 (c : Int)] w fun e w' => e = .returned (.bool true) ∧ RowKit.Below w.heap.size w w' := by
  have hc := next_unr (h.below (h0_ w (.slice o T.n cap))) hs a c ha hc0 hne d hd hneg
  have hpc : p c < 0 := by rw [hp.sym (lk_cost (sd_of hs)) (lk_sym (sd_of hs)) hd]; exact hneg
  have hpb : decide (p c < 0) = true := decide_eq_true hpc
  have a0b : decide ((a : Int) < 0) = false := decide_eq_false (by omega)
  have a1b : decide ((T.n : Int) ≤ (a : Int)) = false := decide_eq_false (by omega)
  have a2b : decide (T.n ≤ a) = false := decide_eq_false (by omega)
  have hac : ¬ (a : Int) = (c : Int) := by omega
  have hacb : ((a : Int) == (c : Int)) = false := by simpa using hac
  have hacc : (a == c) = false := by simpa using hne
  have c0b : decide ((c : Int) < 0) = false := decide_eq_false (by omega)
  have c1b : decide ((T.n : Int) ≤ (c : Int)) = false := decide_eq_false (by omega)
  have c2b : decide (T.n ≤ c) = false := decide_eq_false (by omega)
  have haI : (a : Int) < (T.n : Int) := by omega
  have hcI : (c : Int) < (T.n : Int) := by omega
  go_enter Try.func5, Try.ntmps5
  go_wp2_with fail
  refine hc.mono ?_
  rintro e w1 ⟨rfl, hb1⟩
  have hb := ((Below.refl w.heap.size w).alloc (Nat.le_refl _) (.cells #[.slice o T.n cap] 24)).trans (hb1.mono (by simp))
  have x0 := box_c hb1
  have hr := rsound_c (h.below hb)
  rw [hs] at hr
  go_wp2_with fail
  refine hr.mono ?_
  rintro e w2 ⟨rfl, hb2⟩
  have hb3 := hb.trans (hb2.mono hb.size)
  have x1 := cell_below hb2 x0
  have hrf := rfar_ok (h.below hb3) hs a ha p hp
  go_wp2_with fail
  refine hrf.mono ?_
  rintro e w3 ⟨g2, rfl, hia, hg2, hb4⟩
  have hb5 := hb3.trans (hb4.mono hb3.size)
  have z0 := hia.cell hc0
  go_wp2_with fail
  refine (awake_c w3).mono ?_
  rintro e wa ⟨rfl, hba⟩
  have hbb := hb5.trans (hba.mono hb5.size)
  go_wp2_with fail
  go_ret
  exact ⟨rfl, hbb⟩
set_option maxHeartbeats 8000000 in
theorem nlaw_ok {o : Option Addr} {cap : Nat} {T : Tp} {w : World} (h : TA w o cap T) (a c : Nat) (hs : soundE T = 0) (ha : a < T.n) (hc0 : c < T.n) (hne : a ≠ c) (d p : Nat → Int) (hd : IsFar (Lk T) c d) (hp : IsFar (Lk T) a p) (hpos : 0 ≤ d a) :
    Calls Try.prog 5 #[.agg #[.slice o T.n cap], .int .i64 (a : Int), .int .i64 (c : Int)] w fun e w' => e = .returned (.bool true) ∧ RowKit.Below w.heap.size w w' := by
  have hc := next_ok (h.below (h0_ w (.slice o T.n cap))) hs a c ha hc0 hne d hd hpos
  have hpc : p c = d a := hp.sym (lk_cost (sd_of hs)) (lk_sym (sd_of hs)) hd
  obtain ⟨da, hda⟩ : ∃ da, Hid (d a = da) := ⟨_, rfl⟩
  rw [hda.out] at hpc hpos
  have hnb : decide (da < 0) = false := decide_eq_false (by omega)
  obtain ⟨b, off, ro, rcs, rb, rf, h1, h2, h3, h4, h5⟩ := h.ex
  obtain rfl := h1 (by omega)
  have H4 := Lib.hid h4
  have H5 := Lib.hid h5
  clear h1 h4 h5
  have a0b : decide ((a : Int) < 0) = false := decide_eq_false (by omega)
  have a1b : decide ((T.n : Int) ≤ (a : Int)) = false := decide_eq_false (by omega)
  have a2b : decide (T.n ≤ a) = false := decide_eq_false (by omega)
  have hac : ¬ (a : Int) = (c : Int) := by omega
  have hacb : ((a : Int) == (c : Int)) = false := by simpa using hac
  have hacc : (a == c) = false := by simpa using hne
  have c0b : decide ((c : Int) < 0) = false := decide_eq_false (by omega)
  have c1b : decide ((T.n : Int) ≤ (c : Int)) = false := decide_eq_false (by omega)
  have c2b : decide (T.n ≤ c) = false := decide_eq_false (by omega)
  have haI : (a : Int) < (T.n : Int) := by omega
  have hcI : (c : Int) < (T.n : Int) := by omega
  go_enter Try.func5, Try.ntmps5
  go_wp2_with fail
  refine hc.mono ?_
  rintro e w1 ⟨i0, rfl, hi0, hbest, hmin, hb1⟩
  have hb := ((Below.refl w.heap.size w).alloc (Nat.le_refl _) (.cells #[.slice (some ⟨b, off, none⟩) T.n cap] 24)).trans (hb1.mono (by simp))
  have x0 := box_c hb1
  have hr := rsound_c (h.below hb)
  rw [hs] at hr
  go_wp2_with fail
  refine hr.mono ?_
  rintro e w2 ⟨rfl, hb2⟩
  have hb3 := hb.trans (hb2.mono hb.size)
  have x1 := cell_below hb2 x0
  have HB := Lib.hid hbest
  have HM := Lib.hid hmin
  clear hbest hmin
  obtain ⟨r1, r2, r3, r4⟩ := H4.out a ha
  obtain ⟨la, hla⟩ : ∃ la, Hid (T.ln a = la) := ⟨_, rfl⟩
  have hl6 : la ≤ 6 := by rw [← hla.out]; exact (sd_of hs).l6 a ha
  rw [hla.out] at r1 r2 r4 hi0
  rw [r4 (by omega)] at r1
  clear r4
  have hrf := rfar_ok (h.below hb3) hs a ha p hp
  go_wp2_with fail
  refine hrf.mono ?_
  rintro e w3 ⟨g2, rfl, hia, hg2, hb4⟩
  have hb5 := hb3.trans (hb4.mono hb3.size)
  have z0 := hia.cell hc0
  rw [hpc] at z0
  have x2 := cell_below hb4 x1
  have y2 := cell_below hb5 r1
  have hi0I : (i0 : Int) < (la : Int) := by omega
  have i0b : decide ((i0 : Int) < 0) = false := decide_eq_false (by omega)
  have i1b : decide ((la : Int) ≤ (i0 : Int)) = false := decide_eq_false (by omega)
  have i2b : decide (la ≤ i0) = false := decide_eq_false (by omega)
  have hrf2 := rfar_ok (h.below hb5) hs a ha p hp
  go_wp2_with fail
  refine hrf2.mono ?_
  rintro e w4 ⟨g3, rfl, hia3, hg3, hb6⟩
  have hb7 := hb5.trans (hb6.mono hb5.size)
  have x3 := cell_below hb6 x2
  have z3 := hia3.cell hc0
  rw [hpc] at z3
  go_wp2_with fail
  refine wp_world (fun W => W = w4) rfl ?_
  rintro W rfl
  clear x0 x1 hr hc hrf hrf2 z0 y2 x2
  go_loopw [11] (fun v wr => ∃ j : Nat, v = .int .i64 (j : Int) ∧ j ≤ i0 + 1 ∧ RowKit.Below W.heap.size W wr) (fun v _ => i0 + 1 - (intOf v).toNat)
  case atStart => exact ⟨0, rfl, Nat.zero_le _, Below.refl _ _⟩
  case round =>
    obtain ⟨j, rfl, hj, hbr⟩ := hrel
    have hb8 := hb7.trans (hbr.mono hb7.size)
    have x4 := cell_below hbr x3
    have y4 := cell_below hb8 r1
    have xl : w.heap.size < wr.heap.size := World.block_lt_of_cell? wr _ x4
    by_cases hji : j ≤ i0
    rotate_left
    · have hjb : decide ((j : Int) ≤ (i0 : Int)) = false := decide_eq_false (by omega)
      have hjb2 : decide (j ≤ i0) = false := decide_eq_false (by omega)
      go_wp2_with fail
      refine (awake_c wr).mono ?_
      rintro e wa ⟨rfl, hba⟩
      have hbb := hb8.trans (hba.mono hb8.size)
      go_wp2_with fail
      go_ret
      exact ⟨rfl, hbb⟩
    have hjb : decide ((j : Int) ≤ (i0 : Int)) = true := decide_eq_true (by omega)
    have hjl : j < la := by omega
    have hjI : (j : Int) < (la : Int) := by omega
    have hjI2 : (j : Int) ≤ (i0 : Int) := by omega
    have hjT : j < T.ln a := by rw [hla.out]; exact hjl
    obtain ⟨p0, p1, p2, p3, p4⟩ := H5.out a j ha hjT
    have hlk := (sd_of hs).lkp ha hjT
    have HLK := Lib.hid hlk
    clear hlk
    obtain ⟨P, hP⟩ : ∃ P, Hid (P = T.pt a j) := ⟨_, rfl⟩
    rw [← hP.out] at p0 p1 p2 p3 p4
    have HBe : Hid (Best T d a j ↔ (P.kind = 2 ∧ 0 ≤ d P.peer.toNat ∧ d P.peer.toNat + P.cost = da)) := by unfold Best; rw [← hP.out, hda.out]; exact Iff.rfl
    obtain ⟨kind, ten, peer, at_, cost⟩ := P
    simp only at p0 p1 p2 p3 p4
    have p0' := cell_below hb8 p0
    have p1' := cell_below hb8 p1
    have p2' := cell_below hb8 p2
    have p3' := cell_below hb8 p3
    have p4' := cell_below hb8 p4
    clear p0 p1 p2 p3 p4
    by_cases hbj : Best T d a j
    · have hji0 : j = i0 := by
        by_cases e : j = i0
        · exact e
        · exact absurd hbj (HM.out j (by omega))
      subst hji0
      obtain ⟨k2, f0, f1⟩ := HBe.out.1 hbj
      simp only at k2 f0 f1
      subst k2
      have L := HLK.out (by rw [← hP.out])
      have c1 := L.c1
      have c2 := L.c2
      have l0 := L.p0
      have l1 := L.p1
      rw [← hP.out] at c1 c2 l0 l1
      simp only at c1 c2 l0 l1
      clear L
      obtain ⟨pn, rfl⟩ : ∃ pn : Nat, peer = (pn : Int) := ⟨peer.toNat, by omega⟩
      have hpn : pn < T.n := by omega
      rw [Int.toNat_natCast] at f0 f1
      obtain ⟨q, hq⟩ := far_ex (lk_cost (sd_of hs)) pn
      have hqc : q c = d pn := hq.sym (lk_cost (sd_of hs)) (lk_sym (sd_of hs)) hd
      have hd6 := far_le (sd_of hs) hd pn
      generalize d pn = dp at f0 f1 hqc hd6
      have f0b : decide (0 ≤ dp) = true := decide_eq_true f0
      have f1b : (dp + cost == da) = true := by simpa using f1
      have hb9 := hb8.alloc hb8.size (.cells #[.int .i64 2, .int .i64 ten, .int .i64 (pn : Int), .int .i64 at_, .int .i64 cost] 35)
      have hq1 := rfar_ok (h.below hb9) hs pn hpn q hq
      have hW := heap_alloc_new wr (.cells #[.int .i64 2, .int .i64 ten, .int .i64 (pn : Int), .int .i64 at_, .int .i64 cost] 35)
      go_wp2_with fail
      refine hq1.mono ?_
      rintro e w5 ⟨g5, rfl, hia5, hg5, hb10⟩
      have hb11 := hb9.trans (hb10.mono hb9.size)
      have z5 := hia5.cell hc0
      rw [hqc] at z5
      have s4 : w5.cell? ⟨wr.heap.size, 4, none⟩ = some (.int .i64 cost) := cell_below hb10 ((cell_b hW).trans rfl)
      have hbx : RowKit.Below W.heap.size W w5 := (hbr.alloc hbr.size _).trans (hb10.mono (by simp only [World.size_alloc]; have := hbr.size; omega))
      go_wp2_with fail
      go_roundw
      case rel => exact ⟨j + 1, by go_num, by omega, hbx⟩
      case measure => simp [intOf] <;> omega
    · have hji0 : j ≠ i0 := fun e => hbj (e ▸ HB.out)
      have hjnb : ((j : Int) == (i0 : Int)) = false := by simp; omega
      have hjnb2 : (j == i0) = false := by simpa using hji0
      by_cases k2 : kind = 2
      rotate_left
      · have k2b : (kind == 2) = false := by simpa using k2
        go_wp2_with fail
        go_roundw
        case rel => exact ⟨j + 1, by go_num, by omega, hbr.alloc hbr.size _⟩
        case measure => simp [intOf] <;> omega
      subst k2
      have L := HLK.out (by rw [← hP.out])
      have c1 := L.c1
      have c2 := L.c2
      have l0 := L.p0
      have l1 := L.p1
      rw [← hP.out] at c1 c2 l0 l1
      simp only at c1 c2 l0 l1
      clear L
      obtain ⟨pn, rfl⟩ : ∃ pn : Nat, peer = (pn : Int) := ⟨peer.toNat, by omega⟩
      have hpn : pn < T.n := by omega
      have HBn : ¬ (0 ≤ d pn ∧ d pn + cost = da) := fun hh => hbj (HBe.out.2 ⟨rfl, by simpa using hh.1, by simpa using hh.2⟩)
      obtain ⟨q, hq⟩ := far_ex (lk_cost (sd_of hs)) pn
      have hqc : q c = d pn := hq.sym (lk_cost (sd_of hs)) (lk_sym (sd_of hs)) hd
      have hd6 := far_le (sd_of hs) hd pn
      generalize d pn = dp at hqc hd6 HBn
      have hb9 := hb8.alloc hb8.size (.cells #[.int .i64 2, .int .i64 ten, .int .i64 (pn : Int), .int .i64 at_, .int .i64 cost] 35)
      have hq1 := rfar_ok (h.below hb9) hs pn hpn q hq
      have hW := heap_alloc_new wr (.cells #[.int .i64 2, .int .i64 ten, .int .i64 (pn : Int), .int .i64 at_, .int .i64 cost] 35)
      have HBN := Lib.hid HBn
      clear HBn
      go_wp2_with fail
      refine hq1.mono ?_
      rintro e w5 ⟨g5, rfl, hia5, hg5, hb10⟩
      have hb11 := hb9.trans (hb10.mono hb9.size)
      have z5 := hia5.cell hc0
      rw [hqc] at z5
      have s4 : w5.cell? ⟨wr.heap.size, 4, none⟩ = some (.int .i64 cost) := cell_below hb10 ((cell_b hW).trans rfl)
      have hbx : RowKit.Below W.heap.size W w5 := (hbr.alloc hbr.size _).trans (hb10.mono (by simp only [World.size_alloc]; have := hbr.size; omega))
      by_cases f0 : 0 ≤ dp
      · have f0b : decide (0 ≤ dp) = true := decide_eq_true f0
        have f1 : ¬ dp + cost = da := fun e => HBN.out ⟨f0, e⟩
        have f1b : (dp + cost == da) = false := by simpa using f1
        go_wp2_with fail
        go_roundw
        case rel => exact ⟨j + 1, by go_num, by omega, hbx⟩
        case measure => simp [intOf] <;> omega
      · have f0b : decide (0 ≤ dp) = false := decide_eq_false f0
        go_wp2_with fail
        go_roundw
        case rel => exact ⟨j + 1, by go_num, by omega, hbx⟩
        case measure => simp [intOf] <;> omega
theorem next_law {o : Option Addr} {cap : Nat} {T : Tp} {w : World} (h : TA w o cap T) (a c : Int) :
    Calls Try.prog 5 #[.agg #[.slice o T.n cap], .int .i64 a, .int .i64 c] w fun e w' => e = .returned (.bool true) ∧ RowKit.Below w.heap.size w w' := by
  by_cases hs : soundE T = 0
  rotate_left
  · exact nlaw_bad h a c hs
  by_cases ha : a < 0 ∨ (T.n : Int) ≤ a
  · exact nlaw_none h a c hs ha
  obtain ⟨an, rfl⟩ : ∃ an : Nat, a = (an : Int) := ⟨a.toNat, by omega⟩
  by_cases hac : c = (an : Int)
  · subst hac; exact nlaw_same h an hs (by omega)
  by_cases hc : c < 0 ∨ (T.n : Int) ≤ c
  · exact nlaw_to h an c hs (by omega) hc
  obtain ⟨cn, rfl⟩ : ∃ cn : Nat, c = (cn : Int) := ⟨c.toNat, by omega⟩
  obtain ⟨d, hd⟩ := far_ex (lk_cost (sd_of hs)) cn
  obtain ⟨p, hp⟩ := far_ex (lk_cost (sd_of hs)) an
  by_cases hneg : d an < 0
  · exact nlaw_unr h an cn hs (by omega) (by omega) (by omega) d p hd hp hneg
  · exact nlaw_ok h an cn hs (by omega) (by omega) (by omega) d p hd hp (by omega)
end Go.Proofs.Ytgebehnlfihliaa
