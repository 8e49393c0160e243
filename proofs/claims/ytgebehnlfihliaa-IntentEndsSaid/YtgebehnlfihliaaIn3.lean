/- Intent: the edge of a spot, by the list of edges. -/
import Derived.Test.YtgebehnlfihliaaIn2
import Derived.Deep.RegionWith
namespace Go.Proofs.Ytgebehnlfihliaa
open Go.RowKit
set_option linter.unusedSimpArgs false
set_option linter.unusedVariables false
set_option maxRecDepth 100000
theorem flatS_at2 (l : List (Nat × Nat)) (i : Nat) (hi : i < l.length) : (flatS l)[i * 2]? = some (.int .i64 ((l[i]).1 : Int)) ∧ (flatS l)[i * 2 + 1]? = some (.int .i64 ((l[i]).2 : Int)) := by
  induction l generalizing i with
  | nil => simp at hi
  | cons y l ih =>
    have e : flatS (y :: l) = [.int .i64 (y.1 : Int), .int .i64 (y.2 : Int)] ++ flatS l := by simp [flatS]
    rw [e]
    cases i with
    | zero => exact ⟨rfl, rfl⟩
    | succ i =>
      have := ih i (by simpa using hi)
      rw [List.getElem?_append_right (by simp; omega), List.getElem?_append_right (by simp; omega)]
      simp only [List.length_cons, List.length_nil, List.getElem_cons_succ]
      rw [show (i + 1) * 2 - (0 + 1 + 1) = i * 2 by omega, show (i + 1) * 2 + 1 - (0 + 1 + 1) = i * 2 + 1 by omega]
      exact this
def spF (l : List (Nat × Nat)) (i : Nat) : Int × Int := (((l.getD i (0, 0)).1 : Int), ((l.getD i (0, 0)).2 : Int))
theorem rw_spots {w : World} {base : Nat} {o : Option Addr} {cap : Nat} {l : List (Nat × Nat)} (h : w.ownsRow base 26 2 (.slice o l.length cap) l.length (flatS l)) : Rw w o l.length cap 2 (cvP (spF l)) := by
  rcases h.2 with ⟨hn, h0⟩ | ⟨g, cap', cur, hv, hb, hg, hc, hm, hs, ht⟩
  · simp at hn
    exact ⟨by omega, by simp [maxLen]; omega, 0, 0, fun hh => by omega, fun i k hi => by omega⟩
  · simp at hv
    obtain ⟨rfl, rfl⟩ := hv
    refine ⟨hc, hm, g, 0, fun _ => rfl, fun i k hi hk => ?_⟩
    have hh := flatS_at2 l i hi
    rw [← ht, List.getElem?_take, List.getElem?_take, if_pos (by omega), if_pos (by omega)] at hh
    rw [cell_b hg]
    have e : l.getD i (0, 0) = l[i] := by simp [List.getD, hi]
    have : k = 0 ∨ k = 1 := by omega
    rcases this with rfl | rfl
    · simp only [cvP, spF, e, if_pos]
      simpa using hh.1
    · simp only [cvP, spF, e]
      rw [if_neg (by decide)]
      simpa using hh.2
set_option maxHeartbeats 2000000 in
theorem index_c {w : World} {o : Option Addr} {n cap : Nat} {f : Nat → Int × Int} (h : Rw w o n cap 2 (cvP f)) (sw po : Int) :
    Calls Try.prog 101 #[.slice o n cap, .agg #[.int .i64 sw, .int .i64 po]] w fun e w' => e = .returned (.int .i64 (fidx (fun i => decide (f i = (sw, po))) n)) ∧ RowKit.Below w.heap.size w w' := by
  obtain ⟨hnc, hcm, b, off, ho, hx⟩ := h
  have HX := Lib.hid hx
  have HO := Lib.hid ho
  clear hx ho
  simp only [maxLen] at hcm
  have hn63 : (n : Int) ≤ 9223372036854775807 := by omega
  go_enter Try.func101, Try.ntmps101
  go_wp2_with fail
  refine wp_world (fun W => RowKit.Below w.heap.size w W ∧ W.cell? ⟨w.heap.size, 0, none⟩ = some (.int .i64 sw) ∧ W.cell? ⟨w.heap.size, 1, none⟩ = some (.int .i64 po)) ⟨(Below.refl _ _).alloc (Nat.le_refl _) _, (cell_b (heap_alloc_new w _)).trans rfl, (cell_b (heap_alloc_new w _)).trans rfl⟩ ?_
  rintro W ⟨hbW, s0, s1⟩
  go_loopw [5, 8] (fun v5 v8 wr => ∃ j : Nat, v8 = .int .i64 (j : Int) ∧ j ≤ n ∧ RowKit.Below W.heap.size W wr ∧ ∀ i, i < j → decide (f i = (sw, po)) = false) (fun _ v8 _ => n - (intOf v8).toNat)
  case atStart => exact ⟨0, rfl, Nat.zero_le _, Below.refl _ _, fun i hi => by omega⟩
  case round =>
    obtain ⟨j, rfl, hj, hbr, hno⟩ := hrel
    have HN := Lib.hid hno
    clear hno
    have hbwr := hbW.trans (hbr.mono hbW.size)
    by_cases hjl : j < n
    · obtain rfl := HO.out (by omega)
      have hjI : (j : Int) < (n : Int) := by omega
      have e0 := cell_below hbwr (HX.out j 0 hjl (by decide))
      have e1 := cell_below hbwr (HX.out j 1 hjl (by decide))
      simp only [Nat.add_zero] at e0
      simp only [cvP, if_pos] at e0
      simp only [cvP] at e1
      rw [if_neg (by decide)] at e1
      have t0 := cell_below hbr s0
      have t1 := cell_below hbr s1
      obtain ⟨y, hy⟩ : ∃ y, Hid (f j = y) := ⟨_, rfl⟩
      rw [hy.out] at e0 e1
      obtain ⟨y1, y2⟩ := y
      simp only at e0 e1
      by_cases hq : y1 = sw ∧ y2 = po
      · obtain ⟨rfl, rfl⟩ := hq
        have hfi := fidx_hit (p := fun i => decide (f i = (y1, y2))) hjl (by simp [hy.out]) HN.out
        have HF := Lib.hid hfi
        clear hfi
        go_wp2_with fail
        (try go_quiet (fail))
        go_wp2_with fail
        go_ret
        exact ⟨by rw [HF.out]; rfl, hbwr.trans ⟨rfl, rfl, rfl, Nat.le_refl _, fun _ _ => rfl⟩⟩
      · have hne : decide (f j = (sw, po)) = false := by rw [hy.out]; simp only [decide_eq_false_iff_not, Prod.mk.injEq]; exact hq
        have HNE := Lib.hid hne
        clear hne
        by_cases q1 : sw = y1
        · have q2 : ¬ po = y2 := fun e => hq ⟨q1.symm, e.symm⟩
          subst q1
          have q2b : (po == y2) = false := by simpa using q2
          go_wp2_with fail
          (try go_quiet (fail))
          go_wp2_with fail
          go_roundw
          case rel => exact ⟨j + 1, by go_num, by omega, hbr.trans ⟨rfl, rfl, rfl, Nat.le_refl _, fun _ _ => rfl⟩, fun i hi => by
            by_cases e : i = j
            · subst e; exact HNE.out
            · exact HN.out i (by omega)⟩
          case measure => simp [intOf] <;> omega
        · have q1b : (sw == y1) = false := by simpa using q1
          go_wp2_with fail
          (try go_quiet (fail))
          go_wp2_with fail
          go_roundw
          case rel => exact ⟨j + 1, by go_num, by omega, hbr.trans ⟨rfl, rfl, rfl, Nat.le_refl _, fun _ _ => rfl⟩, fun i hi => by
            by_cases e : i = j
            · subst e; exact HNE.out
            · exact HN.out i (by omega)⟩
          case measure => simp [intOf] <;> omega
    · have : j = n := by omega
      subst this
      have hfi := fidx_none HN.out
      go_wp2_with fail
      go_ret
      exact ⟨by rw [hfi]; rfl, hbwr⟩
theorem contains_c {w : World} {o : Option Addr} {n cap : Nat} {f : Nat → Int × Int} (h : Rw w o n cap 2 (cvP f)) (sw po : Int) :
    Calls Try.prog 86 #[.slice o n cap, .agg #[.int .i64 sw, .int .i64 po]] w fun e w' => e = .returned (.bool (anyB (fun i => decide (f i = (sw, po))) n)) ∧ RowKit.Below w.heap.size w w' := by
  have hba := (Below.refl w.heap.size w).alloc (Nat.le_refl _) (.cells #[.int .i64 sw, .int .i64 po] 26)
  have hc := index_c (h.below hba) sw po
  have hr := fidx_any (fun i => decide (f i = (sw, po))) n
  generalize fidx (fun i => decide (f i = (sw, po))) n = z at hc hr
  have HR := Lib.hid hr
  clear hr
  go_enter Try.func86, Try.ntmps86
  go_wp2_with fail
  refine hc.mono ?_
  rintro e w2 ⟨rfl, hb2⟩
  go_wp2_with fail
  go_ret
  exact ⟨by rw [← HR.out]; rfl, hba.trans (hb2.mono hba.size)⟩
theorem mem_edgs {T : Tp} {k : Nat} {y : Nat × Nat} : y ∈ edgs T k ↔ y.1 < k ∧ y.2 < T.ln y.1 ∧ (T.pt y.1 y.2).kind = 1 := by
  obtain ⟨a, b⟩ := y
  simp only [edgs, edgRow, List.mem_flatMap, List.mem_map, List.mem_filter, List.mem_range, decide_eq_true_eq, Prod.mk.injEq]
  constructor
  · rintro ⟨i, hi, j, ⟨hj, hk⟩, rfl, rfl⟩
    exact ⟨hi, hj, hk⟩
  · rintro ⟨h1, h2, h3⟩
    exact ⟨a, h1, b, ⟨h2, h3⟩, rfl, rfl⟩
theorem any_edgs (T : Tp) (sw po : Int) : (anyB (fun i => decide (spF (edgs T T.n) i = (sw, po))) (edgs T T.n).length = true) ↔ (0 ≤ sw ∧ sw < T.n ∧ 0 ≤ po ∧ po < T.ln sw.toNat ∧ (T.pt sw.toNat po.toNat).kind = 1) := by
  unfold anyB
  rw [List.any_eq_true]
  constructor
  · rintro ⟨i, hi, he⟩
    rw [List.mem_range] at hi
    have e : (edgs T T.n).getD i (0, 0) = (edgs T T.n)[i] := by simp [List.getD, hi]
    have hm := (mem_edgs (T := T) (k := T.n) (y := (edgs T T.n)[i])).1 (List.getElem_mem hi)
    simp only [spF, e, decide_eq_true_eq, Prod.mk.injEq] at he
    obtain ⟨e1, e2⟩ := he
    subst e1 e2
    exact ⟨by omega, by have := hm.1; omega, by omega, by have := hm.2.1; simp; omega, by simpa using hm.2.2⟩
  · rintro ⟨h1, h2, h3, h4, h5⟩
    have hm : (sw.toNat, po.toNat) ∈ edgs T T.n := mem_edgs.2 ⟨by simp; omega, by simp; omega, h5⟩
    obtain ⟨i, hi, he⟩ := List.getElem_of_mem hm
    refine ⟨i, by simpa using hi, ?_⟩
    have e : (edgs T T.n).getD i (0, 0) = (edgs T T.n)[i] := by simp [List.getD, hi]
    simp only [spF, e, he, decide_eq_true_eq, Prod.mk.injEq]
    omega
set_option maxHeartbeats 4000000 in
theorem tedge_c {o : Option Addr} {cap : Nat} {T : Tp} {w : World} (h : TA w o cap T) (hsum : sumL T T.n ≤ 1100000) (sw po : Int) :
    Calls Try.prog 58 #[.agg #[.slice o T.n cap], .agg #[.int .i64 sw, .int .i64 po]] w fun e w' => e = .returned (.int .i64 (edgeF T sw po)) ∧ RowKit.Below w.heap.size w w' := by
  have hany := any_edgs T sw po
  obtain ⟨b', off, ro, rcs, rb, rf, g1, g2, g3, g4, g5⟩ := h.ex
  have G1 := Lib.hid g1
  have G4 := Lib.hid g4
  have G5 := Lib.hid g5
  have HA := Lib.hid hany
  clear g1 g4 g5 hany
  go_enter Try.func58, Try.ntmps58
  go_upto_region 1 with (fail)
  refine wp_world (fun W => RowKit.Below w.heap.size w W ∧ W.cell? ⟨w.heap.size, 0, none⟩ = some (.slice o T.n cap) ∧ W.cell? ⟨w.heap.size + 1, 0, none⟩ = some (.int .i64 sw) ∧ W.cell? ⟨w.heap.size + 1, 1, none⟩ = some (.int .i64 po)) ?_ ?_
  · have b1 : ((w.alloc (.cells #[.slice o T.n cap] 24)).alloc (.cells #[.int .i64 sw, .int .i64 po] 26)).heap[w.heap.size + 1]? = some (.cells #[.int .i64 sw, .int .i64 po] 26 (0, 0)) := by
      have := heap_alloc_new (w.alloc (.cells #[.slice o T.n cap] 24)) (.cells #[.int .i64 sw, .int .i64 po] 26)
      rwa [World.size_alloc] at this
    have b0 : ((w.alloc (.cells #[.slice o T.n cap] 24)).alloc (.cells #[.int .i64 sw, .int .i64 po] 26)).heap[w.heap.size]? = some (.cells #[.slice o T.n cap] 24 (0, 0)) := by
      rw [al_lt' (by simp)]; exact heap_alloc_new w _
    exact ⟨below2 _ _ _, (cell_b b0).trans rfl, (cell_b b1).trans rfl, (cell_b b1).trans rfl⟩
  rintro W ⟨hbW, xW, sW0, sW1⟩
  go_cut [9] from 5 to 8 (fun v9 wx => v9 = .bool (!anyB (fun i => decide (spF (edgs T T.n) i = (sw, po))) (edgs T T.n).length) ∧ RowKit.Below W.heap.size W wx)
  case first =>
    have hE := fun (V : World) (hV : RowKit.Below W.heap.size W V) => tedges_c (h.below (hbW.trans (hV.mono hbW.size))) hsum
    have HE := Lib.hid hE
    have HX : Hid (∀ V, RowKit.Below W.heap.size W V → V.cell? ⟨w.heap.size + 1, 0, none⟩ = some (.int .i64 sw) ∧ V.cell? ⟨w.heap.size + 1, 1, none⟩ = some (.int .i64 po)) := fun V hV => ⟨cell_below hV sW0, cell_below hV sW1⟩
    clear hE
    have hdr : RowKit.Below W.heap.size W W.drew := ⟨rfl, rfl, rfl, Nat.le_refl _, fun _ _ => rfl⟩
    obtain ⟨z, hz⟩ : ∃ z, Hid (anyB (fun i => decide (spF (edgs T T.n) i = (sw, po))) (edgs T T.n).length = z) := ⟨_, rfl⟩
    have HC := fun (V : World) (o6 : Option Addr) (c6 : Nat) (hr : Rw V o6 (edgs T T.n).length c6 2 (cvP (spF (edgs T T.n)))) => contains_c hr sw po
    have HC2 : Hid (∀ (V : World) (o6 : Option Addr) (c6 : Nat), Rw V o6 (edgs T T.n).length c6 2 (cvP (spF (edgs T T.n))) → Calls Try.prog 86 #[.slice o6 (edgs T T.n).length c6, .agg #[.int .i64 sw, .int .i64 po]] V fun e w' => e = .returned (.bool z) ∧ RowKit.Below V.heap.size V w') := by
      intro V o6 c6 hr
      have := HC V o6 c6 hr
      rw [hz.out] at this
      exact this
    clear HC
    go_region_with (first
      | (go_at_call 15; refine (HE.out W.drew hdr).mono ?_; rintro e wa ⟨va, rfl, hown6, hba⟩; have hba := hdr.trans (hba.mono hdr.size); have hxa := HX.out wa hba; obtain ⟨hxa0, hxa1⟩ := hxa; obtain ⟨o6, c6, rfl⟩ := slice_form hown6; have hrw := rw_spots hown6)
      | (go_at_call 86; refine (HC2.out _ _ _ hrw).mono ?_; rintro e wb ⟨rfl, hbb⟩))
    all_goals have hbb2 := hba.trans (hbb.mono hba.size)
    all_goals clear HE HC2 HX hba hbb hdr hrw hown6
    all_goals go_wp2_with fail
    all_goals (go_meet; case rel => exact ⟨by rw [hz.out], hbb2⟩)
  case rest =>
    obtain ⟨rfl, hbx⟩ := hcut
    rename_i Kc hKc
    refine hKc _ _ ?_
    clear hKc
    have hbW4 := hbW.trans (hbx.mono hbW.size)
    have x4 := cell_below hbx xW
    have s40 := cell_below hbx sW0
    have s41 := cell_below hbx sW1
    clear xW sW0 sW1
    cases hz : anyB (fun i => decide (spF (edgs T T.n) i = (sw, po))) (edgs T T.n).length with
    | false =>
      have e3 : Hid (edgeF T sw po = -1) := if_neg (fun hh => by have := HA.out.2 hh; rw [hz] at this; cases this)
      clear HA hz
      go_wp2_with fail
      go_ret
      exact ⟨by rw [e3.out]; rfl, hbW4⟩
    | true =>
      have hcond := HA.out.1 hz
      have e3 : Hid (edgeF T sw po = (T.pt sw.toNat po.toNat).ten) := if_pos hcond
      obtain ⟨c1, c2, c3, c4, c5⟩ := hcond
      clear HA hz
      obtain ⟨sn, rfl⟩ : ∃ sn : Nat, sw = (sn : Int) := ⟨sw.toNat, by omega⟩
      obtain ⟨pn, rfl⟩ : ∃ pn : Nat, po = (pn : Int) := ⟨po.toNat, by omega⟩
      simp only [Int.toNat_natCast] at e3 c4 c5
      obtain rfl := G1.out (by omega)
      obtain ⟨r1, r2, r3, r4⟩ := G4.out sn (by omega)
      obtain ⟨p0, p1, p2, p3, p4⟩ := G5.out sn pn (by omega) (by omega)
      rw [r4 (by omega)] at r1
      generalize T.ln sn = la at r1 r2 c4
      generalize (T.pt sn pn).ten = tn at p1 e3
      have y4 := cell_below hbW4 r1
      have p41 := cell_below hbW4 p1
      clear r1 p0 p1 p2 p3 p4 r4 c5
      go_wp2_with fail
      (try go_quiet (fail))
      go_wp2_with fail
      go_ret
      exact ⟨by rw [e3.out]; rfl, hbW4.trans ⟨rfl, rfl, rfl, Nat.le_refl _, fun _ _ => rfl⟩⟩
end Go.Proofs.Ytgebehnlfihliaa
