/- Topo: Next. -/
import Derived.Test.YtgebehnlfihliaaTFar2
namespace Go.Proofs.Ytgebehnlfihliaa
open Go.RowKit Go.Maps
set_option linter.unusedSimpArgs false
set_option linter.unusedVariables false
set_option maxRecDepth 100000
theorem below_alq (w : World) (x : Obj) (q : Nat) : RowKit.Below w.heap.size w ((w.alloc x).drewN q) :=
  ((Below.refl _ _).alloc (Nat.le_refl _) x).trans ⟨rfl, rfl, rfl, Nat.le_refl _, fun _ _ => rfl⟩
/-- does port i of switch a lead nearest? -/
def Best (T : Tp) (d : Nat → Int) (a i : Nat) : Prop := (T.pt a i).kind = 2 ∧ 0 ≤ d (T.pt a i).peer.toNat ∧ d (T.pt a i).peer.toNat + (T.pt a i).cost = d a
theorem best_ex {T : Tp} (hT : Sd T) {a c : Nat} {d : Nat → Int} (hd : IsFar (Lk T) c d) (hac : a ≠ c) (h0 : 0 ≤ d a) : ∃ i, i < T.ln a ∧ Best T d a i := by
  rcases hd.tight a h0 with h | ⟨x, k, l, hx, he⟩
  · exact absurd h hac
  · obtain ⟨ha, i, hi, hk, hp, rfl⟩ := lk_sym hT _ _ _ l
    refine ⟨i, hi, hk, ?_, ?_⟩
    · rw [hp]; simpa using hx
    · rw [hp]; simp; omega
set_option maxHeartbeats 4000000 in
theorem next_bad {o : Option Addr} {cap : Nat} {T : Tp} {w : World} (h : TA w o cap T) (a c : Int) (hs : soundE T ≠ 0) :
    Calls Try.prog 23 #[.agg #[.slice o T.n cap], .int .i64 a, .int .i64 c] w fun e w' => e = .returned (.tuple #[.int .i64 0, .int .i64 (soundE T)]) ∧ RowKit.Below w.heap.size w w' := by
  obtain ⟨z, hz⟩ : ∃ z, Hid (soundE T = z) := ⟨_, rfl⟩
  have hc := tfar_bad (h.below ((Below.refl w.heap.size w).alloc (Nat.le_refl _) (.cells #[.slice o T.n cap] 24))) a hs
  rw [hz.out] at hc hs ⊢
  have hsb : (z != 0) = true := by simpa using hs
  go_enter Try.func23, Try.ntmps23
  go_wp2_with fail
  refine hc.mono ?_
  rintro e w1 ⟨rfl, hb1⟩
  have hb := ((Below.refl w.heap.size w).alloc (Nat.le_refl _) _).trans (hb1.mono (by simp))
  go_wp2_with fail
  all_goals go_ret2
  all_goals exact ⟨rfl, hb⟩
set_option maxHeartbeats 4000000 in
theorem next_none {o : Option Addr} {cap : Nat} {T : Tp} {w : World} (h : TA w o cap T) (a c : Int) (hs : soundE T = 0) (ha : a < 0 ∨ (T.n : Int) ≤ a) :
    Calls Try.prog 23 #[.agg #[.slice o T.n cap], .int .i64 a, .int .i64 c] w fun e w' => e = .returned (.tuple #[.int .i64 0, .int .i64 7]) ∧ RowKit.Below w.heap.size w w' := by
  have hc := tfar_none (h.below ((Below.refl w.heap.size w).alloc (Nat.le_refl _) (.cells #[.slice o T.n cap] 24))) a hs ha
  go_enter Try.func23, Try.ntmps23
  go_wp2_with fail
  refine hc.mono ?_
  rintro e w1 ⟨rfl, hb1⟩
  have hb := ((Below.refl w.heap.size w).alloc (Nat.le_refl _) _).trans (hb1.mono (by simp))
  go_wp2_with fail
  all_goals go_ret2
  all_goals exact ⟨rfl, hb⟩
set_option maxHeartbeats 4000000 in
theorem next_same {o : Option Addr} {cap : Nat} {T : Tp} {w : World} (h : TA w o cap T) (hs : soundE T = 0) (a : Nat) (ha : a < T.n) :
    Calls Try.prog 23 #[.agg #[.slice o T.n cap], .int .i64 (a : Int), .int .i64 (a : Int)] w fun e w' => e = .returned (.tuple #[.int .i64 0, .int .i64 1]) ∧ RowKit.Below w.heap.size w w' := by
  obtain ⟨d, hd⟩ := far_ex (lk_cost (sd_of hs)) a
  have hc := tfar_ok (h.below ((Below.refl w.heap.size w).alloc (Nat.le_refl _) (.cells #[.slice o T.n cap] 24))) hs a ha d hd
  go_enter Try.func23, Try.ntmps23
  go_wp2_with fail
  refine hc.mono ?_
  rintro e w1 ⟨g, rfl, hia, hg, hb1⟩
  have hb := ((Below.refl w.heap.size w).alloc (Nat.le_refl _) _).trans (hb1.mono (by simp))
  go_wp2_with fail
  all_goals go_ret2
  all_goals exact ⟨rfl, hb⟩
set_option maxHeartbeats 4000000 in
theorem next_to {o : Option Addr} {cap : Nat} {T : Tp} {w : World} (h : TA w o cap T) (hs : soundE T = 0) (a : Nat) (ha : a < T.n) (c : Int) (hc0 : c < 0 ∨ (T.n : Int) ≤ c) :
    Calls Try.prog 23 #[.agg #[.slice o T.n cap], .int .i64 (a : Int), .int .i64 c] w fun e w' => e = .returned (.tuple #[.int .i64 0, .int .i64 7]) ∧ RowKit.Below w.heap.size w w' := by
  obtain ⟨d, hd⟩ := far_ex (lk_cost (sd_of hs)) a
  have hc := tfar_ok (h.below ((Below.refl w.heap.size w).alloc (Nat.le_refl _) (.cells #[.slice o T.n cap] 24))) hs a ha d hd
  have hac : ¬ (a : Int) = c := by omega
  have hacb : ((a : Int) == c) = false := by simpa using hac
  go_enter Try.func23, Try.ntmps23
  go_wp2_with fail
  refine hc.mono ?_
  rintro e w1 ⟨g, rfl, hia, hg, hb1⟩
  have hb := ((Below.refl w.heap.size w).alloc (Nat.le_refl _) _).trans (hb1.mono (by simp))
  have x0 := box_c hb1
  have hc2 := tfar_none (h.below hb) c hs hc0
  go_wp2_with fail
  refine hc2.mono ?_
  rintro e w2 ⟨rfl, hb2⟩
  have hb3 := hb.trans (hb2.mono hb.size)
  go_wp2_with fail
  all_goals go_ret2
  all_goals exact ⟨rfl, hb3⟩
set_option maxHeartbeats 4000000 in
theorem next_unr {o : Option Addr} {cap : Nat} {T : Tp} {w : World} (h : TA w o cap T) (hs : soundE T = 0) (a c : Nat) (ha : a < T.n) (hc0 : c < T.n) (hne : a ≠ c) (d : Nat → Int) (hd : IsFar (Lk T) c d) (hneg : d a < 0) :
    Calls Try.prog 23 #[.agg #[.slice o T.n cap], .int .i64 (a : Int), .int .i64 (c : Int)] w fun e w' => e = .returned (.tuple #[.int .i64 0, .int .i64 7]) ∧ RowKit.Below w.heap.size w w' := by
  obtain ⟨d0, hd0⟩ := far_ex (lk_cost (sd_of hs)) a
  have hc := tfar_ok (h.below ((Below.refl w.heap.size w).alloc (Nat.le_refl _) (.cells #[.slice o T.n cap] 24))) hs a ha d0 hd0
  have hac : ¬ (a : Int) = (c : Int) := by omega
  have hacb : ((a : Int) == (c : Int)) = false := by simpa using hac
  have hacc : (a == c) = false := by simpa using hne
  have haI : (a : Int) < (T.n : Int) := by omega
  have hnb : decide (d a < 0) = true := decide_eq_true hneg
  go_enter Try.func23, Try.ntmps23
  go_wp2_with fail
  refine hc.mono ?_
  rintro e w1 ⟨g, rfl, hia, hg, hb1⟩
  have hb := ((Below.refl w.heap.size w).alloc (Nat.le_refl _) _).trans (hb1.mono (by simp))
  have x0 := box_c hb1
  have hc2 := tfar_ok (h.below hb) hs c hc0 d hd
  go_wp2_with fail
  refine hc2.mono ?_
  rintro e w2 ⟨g2, rfl, hia2, hg2, hb2⟩
  have hb3 := hb.trans (hb2.mono hb.size)
  have z0 := hia2.cell ha
  go_wp2_with fail
  all_goals go_ret2
  all_goals exact ⟨rfl, hb3⟩
set_option maxHeartbeats 4000000 in
theorem next_ok {o : Option Addr} {cap : Nat} {T : Tp} {w : World} (h : TA w o cap T) (hs : soundE T = 0) (a c : Nat) (ha : a < T.n) (hc0 : c < T.n) (hne : a ≠ c) (d : Nat → Int) (hd : IsFar (Lk T) c d) (hpos : 0 ≤ d a) :
    Calls Try.prog 23 #[.agg #[.slice o T.n cap], .int .i64 (a : Int), .int .i64 (c : Int)] w fun e w' => ∃ i : Nat, e = .returned (.tuple #[.int .i64 (i : Int), .int .i64 0]) ∧ i < T.ln a ∧ Best T d a i ∧ (∀ j, j < i → ¬ Best T d a j) ∧ RowKit.Below w.heap.size w w' := by
  have HT := Lib.hid (sd_of hs)
  have HB := Lib.hid (best_ex (sd_of hs) hd hne hpos)
  have hd6 := far_le (sd_of hs) hd
  have HD6 := Lib.hid hd6
  clear hd6
  obtain ⟨d0, hd0⟩ := far_ex (lk_cost (sd_of hs)) a
  have hc := tfar_ok (h.below ((Below.refl w.heap.size w).alloc (Nat.le_refl _) (.cells #[.slice o T.n cap] 24))) hs a ha d0 hd0
  have hac : ¬ (a : Int) = (c : Int) := by omega
  have hacb : ((a : Int) == (c : Int)) = false := by simpa using hac
  have hacc : (a == c) = false := by simpa using hne
  have haI : (a : Int) < (T.n : Int) := by omega
  obtain ⟨da, hda⟩ : ∃ da, Hid (d a = da) := ⟨_, rfl⟩
  rw [hda.out] at hpos
  have hnb : decide (da < 0) = false := decide_eq_false (by omega)
  obtain ⟨b, off, ro, rcs, rb, rf, h1, h2, h3, h4, h5⟩ := h.ex
  obtain rfl := h1 (by omega)
  have H4 := Lib.hid h4
  have H5 := Lib.hid h5
  clear h1 h4 h5
  go_enter Try.func23, Try.ntmps23
  go_wp2_with fail
  refine hc.mono ?_
  rintro e w1 ⟨g, rfl, hia, hg, hb1⟩
  have hb := ((Below.refl w.heap.size w).alloc (Nat.le_refl _) _).trans (hb1.mono (by simp))
  have x0 := box_c hb1
  have hc2 := tfar_ok (h.below hb) hs c hc0 d hd
  go_wp2_with fail
  refine hc2.mono ?_
  rintro e w2 ⟨g2, rfl, hia2, hg2, hb2⟩
  have hb3 := hb.trans (hb2.mono hb.size)
  have z0 := hia2.cell ha
  rw [hda.out] at z0
  have x0' := cell_below hb2 x0
  obtain ⟨r1, r2, r3, r4⟩ := H4.out a ha
  obtain ⟨la, hla⟩ : ∃ la, Hid (T.ln a = la) := ⟨_, rfl⟩
  have hl6 : la ≤ 6 := by rw [← hla.out]; exact HT.out.l6 a ha
  obtain ⟨i0, hi0, hbi0⟩ := HB.out
  rw [hla.out] at r1 r2 r4 hi0
  rw [r4 (by omega)] at r1
  have y0 := cell_below hb3 r1
  clear r4 hia hc
  go_wp2_with fail
  refine wp_world (fun W => W = w2) rfl ?_
  rintro W rfl
  go_loopw [47] (fun v wr => ∃ j : Nat, v = .int .i64 (j : Int) ∧ j ≤ i0 ∧ RowKit.Below W.heap.size W wr ∧ ∀ i, i < j → ¬ Best T d a i) (fun v _ => la - (intOf v).toNat)
  case atStart => exact ⟨0, rfl, Nat.zero_le _, Below.refl _ _, fun i hi => by omega⟩
  case round =>
    obtain ⟨j, rfl, hj, hbr, hnb2⟩ := hrel
    have HN := Lib.hid hnb2
    clear hnb2
    have hjl : j < la := by omega
    have hjI : (j : Int) < (la : Int) := by omega
    have hjT : j < T.ln a := by rw [hla.out]; exact hjl
    obtain ⟨p0, p1, p2, p3, p4⟩ := H5.out a j ha hjT
    have hlk := (HT.out).lkp ha hjT
    have HLK := Lib.hid hlk
    clear hlk
    obtain ⟨P, hP⟩ : ∃ P, Hid (P = T.pt a j) := ⟨_, rfl⟩
    rw [← hP.out] at p0 p1 p2 p3 p4
    have HBe : Hid (Best T d a j ↔ (P.kind = 2 ∧ 0 ≤ d P.peer.toNat ∧ d P.peer.toNat + P.cost = da)) := by unfold Best; rw [← hP.out, hda.out]; exact Iff.rfl
    obtain ⟨kind, ten, peer, at_, cost⟩ := P
    simp only at p0 p1 p2 p3 p4
    have hb4 := hb3.trans (hbr.mono hb3.size)
    have p0' := cell_below hb4 p0
    have p1' := cell_below hb4 p1
    have p2' := cell_below hb4 p2
    have p3' := cell_below hb4 p3
    have p4' := cell_below hb4 p4
    have z0' := cell_below hbr z0
    have zl : g2 < wr.heap.size := Nat.lt_of_lt_of_le hia2.lt hbr.size
    clear p0 p1 p2 p3 p4
    have next : ∀ wr2, RowKit.Below wr.heap.size wr wr2 → ¬ Best T d a j → RowKit.Below W.heap.size W wr2 ∧ (∀ i, i < j + 1 → ¬ Best T d a i) ∧ j + 1 ≤ i0 := fun wr2 h1 h2 => by
      refine ⟨hbr.trans (h1.mono hbr.size), fun i hi => ?_, ?_⟩
      · by_cases e : i = j
        · subst e; exact h2
        · exact HN.out i (by omega)
      · by_cases e : j = i0
        · subst e; exact absurd hbi0 h2
        · omega
    have NX := Lib.hid next
    clear next
    by_cases k2 : kind = 2
    rotate_left
    · have k2b : (kind == 2) = false := by simpa using k2
      go_wp2_with fail
      (try go_quiet (fail))
      go_wp2_with fail
      have hnx := NX.out _ (below_alq _ (.cells #[.int .i64 kind, .int .i64 ten, .int .i64 peer, .int .i64 at_, .int .i64 cost] 35) nq) (fun hh => absurd ((HBe.out).1 hh).1 k2)
      go_roundw
      case rel => exact ⟨j + 1, by go_num, hnx.2.2, hnx.1, hnx.2.1⟩
      case measure => simp [intOf]; omega
    subst k2
    have L := HLK.out (by rw [← hP.out])
    have c1 := L.c1
    have c2 := L.c2
    have l0 := L.p0
    have l1 := L.p1
    rw [← hP.out] at c1 c2 l0 l1
    simp only at c1 c2 l0 l1
    clear L
    obtain ⟨pn, rfl⟩ : ∃ pn : Nat, peer = (pn : Int) := ⟨peer.toNat, by omega⟩
    have hpn : pn < T.n := by omega
    have hpnI : (pn : Int) < (T.n : Int) := by omega
    clear l1 l0
    have zf := cell_below hbr (hia2.cell hpn)
    obtain ⟨fp, hfp⟩ : ∃ fp, Hid (d pn = fp) := ⟨_, rfl⟩
    have hfp6 : fp ≤ 6000 := by rw [← hfp.out]; exact HD6.out pn
    have HB2 : Hid (Best T d a j ↔ (0 ≤ fp ∧ fp + cost = da)) := by
      have := HBe.out
      rw [this]
      simp only [Int.toNat_natCast, hfp.out, true_and]
      exact trivial
    rw [hfp.out] at zf
    by_cases hneg : fp < 0
    · have hnb : decide (0 ≤ fp) = false := decide_eq_false (by omega)
      go_wp2_with fail
      (try go_quiet (fail))
      go_wp2_with fail
      have hnx := NX.out _ (below_alq _ (.cells #[.int .i64 2, .int .i64 ten, .int .i64 (pn : Int), .int .i64 at_, .int .i64 cost] 35) nq) (fun hh => by have := (HB2.out).1 hh; omega)
      go_roundw
      case rel => exact ⟨j + 1, by go_num, hnx.2.2, hnx.1, hnx.2.1⟩
      case measure => simp [intOf]; omega
    have hnb : decide (0 ≤ fp) = true := decide_eq_true (by omega)
    by_cases heq : fp + cost = da
    · have heb : (fp + cost == da) = true := by simpa using heq
      go_wp2_with fail
      (try go_quiet (fail))
      go_wp2_with fail
      go_ret2
      exact ⟨j, rfl, hjT, (HB2.out).2 ⟨by omega, heq⟩, HN.out, hb4.trans (below_alq _ _ _ |>.mono hb4.size)⟩
    · have heb : (fp + cost == da) = false := by simpa using heq
      go_wp2_with fail
      (try go_quiet (fail))
      go_wp2_with fail
      have hnx := NX.out _ (below_alq _ (.cells #[.int .i64 2, .int .i64 ten, .int .i64 (pn : Int), .int .i64 at_, .int .i64 cost] 35) nq) (fun hh => by have := (HB2.out).1 hh; omega)
      go_roundw
      case rel => exact ⟨j + 1, by go_num, hnx.2.2, hnx.1, hnx.2.1⟩
      case measure => simp [intOf]; omega
end Go.Proofs.Ytgebehnlfihliaa
