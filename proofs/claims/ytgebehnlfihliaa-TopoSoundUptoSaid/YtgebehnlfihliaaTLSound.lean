/- Topo: TopoSound: the walk, where the ports are not more than memory holds. -/
import Derived.Test.YtgebehnlfihliaaTAwake
import Derived.Deep.RegionWith
import Derived.Deep.RegionHeld3
namespace Go.Proofs.Ytgebehnlfihliaa
open Go.RowKit Go.Maps
set_option linter.unusedSimpArgs false
set_option linter.unusedVariables false
set_option maxRecDepth 100000
theorem flatS_at (l : List (Nat × Nat)) (i : Nat) (hi : i < l.length) : (flatS l)[i * 2]? = some (.int .i64 ((l[i]).1 : Int)) ∧ (flatS l)[i * 2 + 1]? = some (.int .i64 ((l[i]).2 : Int)) := by
  induction l generalizing i with
  | nil => simp at hi
  | cons y l ih =>
    have e : flatS (y :: l) = [.int .i64 (y.1 : Int), .int .i64 (y.2 : Int)] ++ flatS l := by simp [flatS]
    rw [e]
    cases i with
    | zero => exact ⟨rfl, rfl⟩
    | succ i =>
      have := ih i (by simpa using hi)
      rw [List.getElem?_append_right (by simp; omega), List.getElem?_append_right (by simp; omega)]
      simp only [List.length_cons, List.length_nil, List.getElem_cons_succ]
      rw [show (i + 1) * 2 - (0 + 1 + 1) = i * 2 by omega, show (i + 1) * 2 + 1 - (0 + 1 + 1) = i * 2 + 1 by omega]
      exact this
/-- the cells of a row of spots. -/
theorem own_spots {w : World} {base : Nat} {o : Option Addr} {cap : Nat} {l : List (Nat × Nat)} (h : w.ownsRow base 26 2 (.slice o l.length cap) l.length (flatS l)) (hl : 0 < l.length) :
    ∃ g, o = some ⟨g, 0, none⟩ ∧ g < w.heap.size ∧ ∀ i (hi : i < l.length), w.cell? ⟨g, i * 2, none⟩ = some (.int .i64 ((l[i]).1 : Int)) ∧ w.cell? ⟨g, i * 2 + 1, none⟩ = some (.int .i64 ((l[i]).2 : Int)) := by
  rcases h.2 with ⟨_, h0⟩ | ⟨g, cap', cur, hv, hb, hg, hc, hm, hs, ht⟩
  · omega
  · simp at hv
    refine ⟨g, hv.1, (Array.getElem?_eq_some_iff.1 hg).1, fun i hi => ?_⟩
    have hh := flatS_at l i hi
    rw [← ht, List.getElem?_take, List.getElem?_take, if_pos (by omega), if_pos (by omega)] at hh
    rw [cell_b hg, cell_b hg]
    simpa using hh
theorem edgRow_le (T : Tp) (i m : Nat) : (edgRow T i m).length ≤ m := by
  unfold edgRow
  rw [List.length_map]
  exact Nat.le_trans (List.length_filter_le _ _) (by simp)
theorem edgs_le (T : Tp) (k : Nat) : (edgs T k).length ≤ sumL T k := by
  induction k with
  | zero => simp [edgs, sumL]
  | succ k ih =>
    have := edgRow_le T k (T.ln k)
    have e : edgs T (k + 1) = edgs T k ++ edgRow T k (T.ln k) := by simp [edgs, List.range_succ]
    rw [e, List.length_append]
    simp only [sumL]
    omega
theorem other_no {T : Tp} {sw po : Int} {q1 q2 : Int} {q3 : Bool} (h : otherF T sw po = (q1, q2, q3)) (hn : ¬ (soundE T = 0 ∧ 0 ≤ sw ∧ sw < T.n ∧ 0 ≤ po ∧ po < T.ln sw.toNat ∧ (T.pt sw.toNat po.toNat).kind = 2)) : q3 = false := by
  unfold otherF at h
  rw [if_neg hn] at h
  simp at h
  exact h.2.2
theorem other_yes {T : Tp} {sw po : Int} {q1 q2 : Int} {q3 : Bool} (h : otherF T sw po = (q1, q2, q3)) (hn : soundE T = 0 ∧ 0 ≤ sw ∧ sw < T.n ∧ 0 ≤ po ∧ po < T.ln sw.toNat ∧ (T.pt sw.toNat po.toNat).kind = 2) : q3 = true := by
  unfold otherF at h
  rw [if_pos hn] at h
  simp at h
  exact h.2.2
theorem other_f {T : Tp} {sw po : Int} {q1 q2 : Int} (h : otherF T sw po = (q1, q2, false)) : q1 = 0 ∧ q2 = 0 := by
  unfold otherF at h
  split at h
  · simp at h
  · simp at h; exact ⟨h.1.symm, h.2.symm⟩
theorem other_t {T : Tp} {sw po : Int} {q1 q2 : Int} (h : otherF T sw po = (q1, q2, true)) : (soundE T = 0 ∧ 0 ≤ sw ∧ sw < T.n ∧ 0 ≤ po ∧ po < T.ln sw.toNat ∧ (T.pt sw.toNat po.toNat).kind = 2) ∧ q1 = (T.pt sw.toNat po.toNat).peer ∧ q2 = (T.pt sw.toNat po.toNat).at_ := by
  unfold otherF at h
  split at h
  · rename_i hc; simp at h; exact ⟨hc, h.1.symm, h.2.symm⟩
  · simp at h
set_option maxHeartbeats 16000000 in
theorem sound_law {o : Option Addr} {cap : Nat} {T : Tp} {w : World} (h : TA w o cap T) (hsum : sumL T T.n ≤ 1100000) (sw po : Int) :
    Calls Try.prog 3 #[.agg #[.slice o T.n cap], .agg #[.int .i64 sw, .int .i64 po]] w fun e w' => e = .returned (.bool true) ∧ RowKit.Below w.heap.size w w' := by
  have h0 := below2 w (.cells #[.slice o T.n cap] 24) (.cells #[.int .i64 sw, .int .i64 po] 26)
  have b0 : ((w.alloc (.cells #[.slice o T.n cap] 24)).alloc (.cells #[.int .i64 sw, .int .i64 po] 26)).heap[w.heap.size]? = some (.cells #[.slice o T.n cap] 24 (0, 0)) := by
    rw [al_lt' (by simp)]; exact heap_alloc_new w _
  have b1 : ((w.alloc (.cells #[.slice o T.n cap] 24)).alloc (.cells #[.int .i64 sw, .int .i64 po] 26)).heap[w.heap.size + 1]? = some (.cells #[.int .i64 sw, .int .i64 po] 26 (0, 0)) := by
    have := heap_alloc_new (w.alloc (.cells #[.slice o T.n cap] 24)) (.cells #[.int .i64 sw, .int .i64 po] 26)
    rwa [World.size_alloc] at this
  obtain ⟨z, hz⟩ : ∃ z, Hid (soundE T = z) := ⟨_, rfl⟩
  have hc := rsound_c (h.below h0)
  rw [hz.out] at hc
  go_enter Try.func3, Try.ntmps3
  go_wp2_with fail
  refine hc.mono ?_
  rintro e w1 ⟨rfl, hb1⟩
  have hb := h0.trans (hb1.mono h0.size)
  have x0 : w1.cell? ⟨w.heap.size, 0, none⟩ = some (.slice o T.n cap) := cell_below hb1 ((cell_b b0).trans rfl)
  have s0 : w1.cell? ⟨w.heap.size + 1, 0, none⟩ = some (.int .i64 sw) := cell_below hb1 ((cell_b b1).trans rfl)
  have s1 : w1.cell? ⟨w.heap.size + 1, 1, none⟩ = some (.int .i64 po) := cell_below hb1 ((cell_b b1).trans rfl)
  clear b0 b1 hc h0
  go_upto_region 2 with (fail)
  go_cut [6, 7] from 15 to 18 (fun v6 v7 wx => ∃ (o6 o7 : Option Addr) (c6 c7 N6 N7 : Nat), v6 = .slice o6 (edgs T T.n).length c6 ∧ v7 = .slice o7 (edgs T T.n).length c7 ∧ wx.ownsRow N6 26 2 v6 (edgs T T.n).length (flatS (edgs T T.n)) ∧ wx.ownsRow N7 26 2 v7 (edgs T T.n).length (flatS (edgs T T.n)) ∧ RowKit.Below w1.heap.size w1 wx)
  case first =>
    have hE := fun (V : World) (hV : RowKit.Below w1.heap.size w1 V) => tedges_c (h.below (hb.trans (hV.mono hb.size))) hsum
    have hR := fun (V : World) (hV : RowKit.Below w1.heap.size w1 V) => redges_c (h.below (hb.trans (hV.mono hb.size))) hsum
    have HE := Lib.hid hE
    have HR := Lib.hid hR
    have HX : Hid (∀ V, RowKit.Below w1.heap.size w1 V → V.cell? ⟨w.heap.size, 0, none⟩ = some (.slice o T.n cap)) := fun V hV => cell_below hV x0
    clear hE hR
    have hdr : RowKit.Below w1.heap.size w1 w1.drew := ⟨rfl, rfl, rfl, Nat.le_refl _, fun _ _ => rfl⟩
    go_region_with (first
      | (go_at_call 15; refine (HE.out w1.drew hdr).mono ?_; rintro e wa ⟨va, rfl, hown6, hba⟩; have hba := hdr.trans (hba.mono hdr.size); have hxa := HX.out wa hba)
      | (go_at_call 16; refine (HR.out _ hba).mono ?_; rintro e wb ⟨vb, rfl, hown7, hbb⟩))
    all_goals obtain ⟨o6, c6, rfl⟩ := slice_form hown6
    all_goals obtain ⟨o7, c7, rfl⟩ := slice_form hown7
    all_goals have hown6b := owns_of hown6 (fun g hg => hbb.block g (hown6.lt g hg).2)
    all_goals have hbb2 := hba.trans (hbb.mono hba.size)
    all_goals clear HE HR HX hba hbb hdr hxa hown6
    all_goals go_wp2_with fail
    all_goals (go_meet; case rel => exact ⟨o6, o7, c6, c7, _, _, rfl, rfl, hown6b, hown7, hbb2⟩)
  case rest =>
    obtain ⟨o6, o7, c6, c7, N6, N7, rfl, rfl, hw6, hw7, hbc⟩ := hcut
    rename_i Kc hKc
    refine hKc _ _ ?_
    clear hKc
    have hbW := hb.trans (hbc.mono hb.size)
    have xc := cell_below hbc x0
    have sc0 := cell_below hbc s0
    have sc1 := cell_below hbc s1
    have hc2 := tsound_c (h.below hbW)
    rw [hz.out] at hc2
    have hzz : (z != z) = false := by simp
    have hL6 := edgs_le T T.n
    obtain ⟨l, hl⟩ : ∃ l, Hid (edgs T T.n = l) := ⟨_, rfl⟩
    rw [hl.out] at hw6 hw7 hL6 ⊢
    have hLL : ((l.length : Int) != (l.length : Int)) = false := by simp
    have hl1 : l.length ≤ 1100000 := by omega
    have HS6 := Lib.hid (own_spots hw6)
    have HS7 := Lib.hid (own_spots hw7)
    clear x0 s0 s1 hb1 hb
    go_wp2_with fail
    refine hc2.mono ?_
    rintro e w2 ⟨rfl, hb2⟩
    have hbw2 := hbW.trans (hb2.mono hbW.size)
    have x2 := cell_below hb2 xc
    have s20 := cell_below hb2 sc0
    have s21 := cell_below hb2 sc1
    go_wp2_with fail
    refine wp_world (fun W => W = w2) rfl ?_
    rintro W rfl
    go_loopw [8] (fun v wr => ∃ i : Nat, v = .int .i64 (i : Int) ∧ i ≤ l.length ∧ RowKit.Below W.heap.size W wr) (fun v _ => l.length - (intOf v).toNat)
    case atStart => exact ⟨0, rfl, Nat.zero_le _, Below.refl _ _⟩
    case round =>
      obtain ⟨i, rfl, hi, hbr⟩ := hrel
      by_cases hil : i < l.length
      · obtain ⟨g6, rfl, hg6, hs6⟩ := HS6.out (by omega)
        obtain ⟨g7, rfl, hg7, hs7⟩ := HS7.out (by omega)
        have hb2r := hb2.trans (hbr.mono hb2.size)
        have a0 := cell_below hb2r (hs6 i hil).1
        have a1 := cell_below hb2r (hs6 i hil).2
        have a2 := cell_below hb2r (hs7 i hil).1
        have a3 := cell_below hb2r (hs7 i hil).2
        have hiI : (i : Int) < (l.length : Int) := by omega
        clear hs6 hs7
        generalize l[i] = y at a0 a1 a2 a3
        obtain ⟨y1, y2⟩ := y
        simp only at a0 a1 a2 a3
        go_wp2_with fail
        (try go_quiet (fail))
        go_wp2_with fail
        go_roundw
        case rel => exact ⟨i + 1, by go_num, by omega, hbr.trans ⟨rfl, rfl, rfl, Nat.le_refl _, fun _ _ => rfl⟩⟩
        case measure => simp [intOf] <;> omega
      · have : i = l.length := by omega
        subst this
        clear HS6 HS7 hw6 hw7
        have hbwr := hbw2.trans (hbr.mono hbw2.size)
        have xr := cell_below hbr x2
        have sr0 := cell_below hbr s20
        have sr1 := cell_below hbr s21
        have xl : w.heap.size < wr.heap.size := World.block_lt_of_cell? wr _ xr
        have sl : w.heap.size + 1 < wr.heap.size := World.block_lt_of_cell? wr _ sr0
        have hot := other_c (h.below hbwr) sw po
        obtain ⟨q, hq⟩ : ∃ q, Hid (otherF T sw po = q) := ⟨_, rfl⟩
        rw [hq.out] at hot
        obtain ⟨q1, q2, q3⟩ := q
        simp only at hot
        clear x2 s20 s21 xc sc0 sc1
        go_wp2_with fail
        refine hot.mono ?_
        rintro e w3 ⟨rfl, hb3⟩
        have hbw3 := hbwr.trans (hb3.mono hbwr.size)
        have x3 := cell_below hb3 xr
        have s30 := cell_below hb3 sr0
        have s31 := cell_below hb3 sr1
        clear xr sr0 sr1
        go_upto_region 11 with (fail)
        refine wp_world (fun W => RowKit.Below w.heap.size w W ∧ W.cell? ⟨w.heap.size, 0, none⟩ = some (.slice o T.n cap) ∧ W.cell? ⟨w.heap.size + 1, 0, none⟩ = some (.int .i64 sw) ∧ W.cell? ⟨w.heap.size + 1, 1, none⟩ = some (.int .i64 po) ∧ W.heap[w3.heap.size]? = some (.cells #[.int .i64 q1, .int .i64 q2] 26 (0, 0))) ?_ ?_
        · have hba := (Below.refl w3.heap.size w3).alloc (Nat.le_refl _) (.cells #[.int .i64 q1, .int .i64 q2] 26)
          exact ⟨hbw3.trans (hba.mono hbw3.size), cell_below hba x3, cell_below hba s30, cell_below hba s31, heap_alloc_new w3 _⟩
        obtain ⟨gq, hgq⟩ : ∃ gq, Hid (gq = w3.heap.size) := ⟨_, rfl⟩
        rw [← hgq.out]
        rintro W3 ⟨hbW3, xW, sW0, sW1, qW⟩
        clear x3 s30 s31
        go_cut [11] from 51 to 96 (fun v11 wx => v11 = .bool q3 ∧ RowKit.Below W3.heap.size W3 wx)
        case first =>
          obtain ⟨b', off, ro, rcs, rb, rf, g1, g2, g3, g4, g5⟩ := h.ex
          have G1 := Lib.hid g1
          have G4 := Lib.hid g4
          have G5 := Lib.hid g5
          have HNO : Hid (∀ hn, q3 = false) := fun hn => other_no hq.out hn
          have HYES : Hid (∀ hn, q3 = true) := fun hn => other_yes hq.out hn
          clear g1 g4 g5
          by_cases c0 : z = 0
          rotate_left
          · have e3 : Hid (q3 = false) := HNO.out (fun hh => c0 (by rw [← hz.out]; exact hh.1))
            have c0b : (z == 0) = false := by simpa using c0
            (try go_quiet (fail))
            go_wp2_with fail
            go_meet
            case rel => exact ⟨by rw [e3.out], ⟨rfl, rfl, rfl, Nat.le_refl _, fun _ _ => rfl⟩⟩
          subst c0
          by_cases c1 : 0 ≤ sw
          rotate_left
          · have e3 : Hid (q3 = false) := HNO.out (fun hh => c1 hh.2.1)
            have c1b : decide (0 ≤ sw) = false := decide_eq_false c1
            (try go_quiet (fail))
            go_wp2_with fail
            go_meet
            case rel => exact ⟨by rw [e3.out], ⟨rfl, rfl, rfl, Nat.le_refl _, fun _ _ => rfl⟩⟩
          obtain ⟨sn, rfl⟩ : ∃ sn : Nat, sw = (sn : Int) := ⟨sw.toNat, by omega⟩
          by_cases c2 : sn < T.n
          rotate_left
          · have e3 : Hid (q3 = false) := HNO.out (fun hh => c2 (by have := hh.2.2.1; omega))
            have c2b : decide ((sn : Int) < (T.n : Int)) = false := decide_eq_false (by omega)
            have c2c : decide (sn < T.n) = false := decide_eq_false c2
            (try go_quiet (fail))
            go_wp2_with fail
            go_meet
            case rel => exact ⟨by rw [e3.out], ⟨rfl, rfl, rfl, Nat.le_refl _, fun _ _ => rfl⟩⟩
          have c2I : (sn : Int) < (T.n : Int) := by omega
          obtain rfl := G1.out (by omega)
          obtain ⟨r1, r2, r3, r4⟩ := G4.out sn c2
          have yW := cell_below hbW3 r1
          by_cases c3 : 0 ≤ po
          rotate_left
          · have e3 : Hid (q3 = false) := HNO.out (fun hh => c3 hh.2.2.2.1)
            have c3b : decide (0 ≤ po) = false := decide_eq_false c3
            (try go_quiet (fail))
            go_wp2_with fail
            go_meet
            case rel => exact ⟨by rw [e3.out], ⟨rfl, rfl, rfl, Nat.le_refl _, fun _ _ => rfl⟩⟩
          obtain ⟨pn, rfl⟩ : ∃ pn : Nat, po = (pn : Int) := ⟨po.toNat, by omega⟩
          by_cases c4 : pn < T.ln sn
          rotate_left
          · have e3 : Hid (q3 = false) := HNO.out (fun hh => c4 (by have := hh.2.2.2.2.1; simp at this; omega))
            have c4b : decide ((pn : Int) < (T.ln sn : Int)) = false := decide_eq_false (by omega)
            have c4c : decide (pn < T.ln sn) = false := decide_eq_false c4
            (try go_quiet (fail))
            go_wp2_with fail
            go_meet
            case rel => exact ⟨by rw [e3.out], ⟨rfl, rfl, rfl, Nat.le_refl _, fun _ _ => rfl⟩⟩
          have c4I : (pn : Int) < (T.ln sn : Int) := by omega
          obtain ⟨p0, p1, p2, p3, p4⟩ := G5.out sn pn c2 c4
          have pW := cell_below hbW3 p0
          rw [r4 (by omega)] at yW
          by_cases c5 : (T.pt sn pn).kind = 2
          · have e3 : Hid (q3 = true) := HYES.out ⟨hz.out, by omega, by omega, by omega, by simpa using c4, by simpa using c5⟩
            rw [c5] at pW
            clear p0 p1 p2 p3 p4 r1
            (try go_quiet (fail))
            go_wp2_with fail
            go_meet
            case rel => exact ⟨by rw [e3.out], ⟨rfl, rfl, rfl, Nat.le_refl _, fun _ _ => rfl⟩⟩
          · have e3 : Hid (q3 = false) := HNO.out (fun hh => c5 (by simpa using hh.2.2.2.2.2))
            generalize (T.pt sn pn).kind = kk at pW c5
            have c5b : (kk == 2) = false := by simpa using c5
            clear p0 p1 p2 p3 p4 r1
            (try go_quiet (fail))
            go_wp2_with fail
            go_meet
            case rel => exact ⟨by rw [e3.out], ⟨rfl, rfl, rfl, Nat.le_refl _, fun _ _ => rfl⟩⟩
        case rest =>
          obtain ⟨rfl, hbx⟩ := hcut
          rename_i Kc hKc
          refine hKc _ _ ?_
          clear hKc
          have hbW4 := hbW3.trans (hbx.mono hbW3.size)
          have x4 := cell_below hbx xW
          have s40 := cell_below hbx sW0
          have s41 := cell_below hbx sW1
          have q40 : wc.cell? ⟨gq, 0, none⟩ = some (.int .i64 q1) := cell_below hbx ((cell_b qW).trans rfl)
          have q41 : wc.cell? ⟨gq, 1, none⟩ = some (.int .i64 q2) := cell_below hbx ((cell_b qW).trans rfl)
          clear xW sW0 sW1 qW
          cases q3 with
          | false =>
            obtain ⟨e1, e2⟩ := other_f hq.out
            subst e1 e2
            go_wp2_with fail
            refine (awake_c wc).mono ?_
            rintro e w5 ⟨rfl, hb5⟩
            have hbw5 := hbW4.trans (hb5.mono hbW4.size)
            have q50 := cell_below hb5 q40
            have q51 := cell_below hb5 q41
            go_wp2_with fail
            go_ret
            exact ⟨rfl, hbw5⟩
          | true =>
            obtain ⟨⟨d0, d1, d2, d3, d4, d5⟩, e1, e2⟩ := other_t hq.out
            obtain ⟨sn, rfl⟩ : ∃ sn : Nat, sw = (sn : Int) := ⟨sw.toNat, by omega⟩
            obtain ⟨pn, rfl⟩ : ∃ pn : Nat, po = (pn : Int) := ⟨po.toNat, by omega⟩
            rw [Int.toNat_natCast, Int.toNat_natCast] at e1 e2 d5
            rw [Int.toNat_natCast] at d4
            obtain ⟨b', off, ro, rcs, rb, rf, g1, g2, g3, g4, g5⟩ := h.ex
            obtain rfl := g1 (by omega)
            obtain ⟨r1, r2, r3, r4⟩ := g4 sn (by omega)
            obtain ⟨p0, p1, p2, p3, p4⟩ := g5 sn pn (by omega) (by omega)
            have hd4 : pn < T.ln sn := by omega
            rw [r4 (by omega)] at r1
            clear g1 g4 g5 r4
            generalize T.pt sn pn = P at p0 p1 p2 p3 p4 e1 e2 d5
            generalize T.ln sn = la at r1 r2 d4 hd4
            obtain ⟨kind, ten, peer, at_, cost⟩ := P
            simp only at p0 p1 p2 p3 p4 e1 e2 d5
            subst e1 e2 d5
            have y4 := cell_below hbW4 r1
            have p40 := cell_below hbW4 p0
            have p41 := cell_below hbW4 p1
            have p42 := cell_below hbW4 p2
            have p43 := cell_below hbW4 p3
            have p44 := cell_below hbW4 p4
            clear p0 p1 p2 p3 p4 r1
            have hpI : (pn : Int) < (la : Int) := by omega
            go_wp2_with fail
            obtain ⟨gx, hgx⟩ : ∃ gx, Hid (gx = wc.heap.size) := ⟨_, rfl⟩
            go_cut [12] from 109 to 118 (fun v12 wx => v12 = .pointer (some ⟨gx, 0, none⟩) ∧ RowKit.Below w.heap.size w wx ∧ wx.heap[gx]? = some (.cells #[.int .i64 2, .int .i64 ten, .int .i64 q1, .int .i64 q2, .int .i64 cost] 35 (0, 0)) ∧ wx.cell? ⟨gq, 0, none⟩ = some (.int .i64 q1) ∧ wx.cell? ⟨gq, 1, none⟩ = some (.int .i64 q2))
            case first =>
              have l1 : w.heap.size < wc.heap.size := World.block_lt_of_cell? wc _ x4
              have l2 : w.heap.size + 1 < wc.heap.size := World.block_lt_of_cell? wc _ s40
              have l3 : b' < wc.heap.size := World.block_lt_of_cell? wc _ y4
              have l4 : rb sn < wc.heap.size := World.block_lt_of_cell? wc _ p40
              go_region
              all_goals rw [← hgx.out]
              all_goals go_wp2_with fail
              all_goals go_meet
              case rel =>
                have hba := (Below.refl wc.heap.size wc).alloc (Nat.le_refl _) (.cells #[.int .i64 2, .int .i64 ten, .int .i64 q1, .int .i64 q2, .int .i64 cost] 35)
                refine ⟨rfl, (hbW4.trans (hba.mono hbW4.size)).trans ⟨rfl, rfl, rfl, Nat.le_refl _, fun _ _ => rfl⟩, ?_, cell_below hba q40, cell_below hba q41⟩
                rw [hgx.out]; exact heap_alloc_new wc _
            case rest =>
              obtain ⟨rfl, hbW6, pW6, q50, q51⟩ := hcut
              rename_i Kc2 hKc2
              refine hKc2 _ _ ?_
              clear hKc2
              go_wp2_with fail
              refine (awake_c wc).mono ?_
              rintro e w5 ⟨rfl, hb5⟩
              have hbw5 := hbW6.trans (hb5.mono hbW6.size)
              have q60 := cell_below hb5 q50
              have q61 := cell_below hb5 q51
              have p62 : w5.cell? ⟨gx, 2, none⟩ = some (.int .i64 q1) := cell_below hb5 ((cell_b pW6).trans rfl)
              have p63 : w5.cell? ⟨gx, 3, none⟩ = some (.int .i64 q2) := cell_below hb5 ((cell_b pW6).trans rfl)
              go_wp2_with fail
              go_ret
              exact ⟨rfl, hbw5⟩
end Go.Proofs.Ytgebehnlfihliaa
