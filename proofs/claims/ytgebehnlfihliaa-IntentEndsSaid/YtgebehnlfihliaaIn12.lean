/- Intent: the switches that are to be passed: config's and the document's Vias. -/
import Derived.Test.YtgebehnlfihliaaIn11
import Derived.Test.YtgebehnlfihliaaTFar2
namespace Go.Proofs.Ytgebehnlfihliaa
open Go.RowKit Go.Maps
set_option linter.unusedSimpArgs false
set_option linter.unusedVariables false
set_option maxRecDepth 100000
def viaB (I : In) (a b : Int) (m : Nat) : Bool := decide ((I.wy m).1 = a) && decide ((I.wy m).2.1 = b)
def viaL (I : In) (a b : Int) (k : Nat) : List Int := ((List.range k).filter (viaB I a b)).map fun m => (I.wy m).2.2
theorem viaL_hit {I : In} {a b : Int} {k : Nat} (h : viaB I a b k = true) : viaL I a b (k + 1) = viaL I a b k ++ [(I.wy k).2.2] := by simp [viaL, List.range_succ, h]
theorem viaL_miss {I : In} {a b : Int} {k : Nat} (h : viaB I a b k = false) : viaL I a b (k + 1) = viaL I a b k := by simp [viaL, List.range_succ, h]
theorem viaL_len (I : In) (a b : Int) (k : Nat) : (viaL I a b k).length ≤ k := by
  unfold viaL
  rw [List.length_map]
  exact Nat.le_trans (List.length_filter_le _ _) (by simp)
def ints (l : List Int) : List Value := l.map fun x => .int .i64 x
theorem ints_app (a b : List Int) : ints (a ++ b) = ints a ++ ints b := by simp [ints]
theorem ints_len (l : List Int) : (ints l).length = l.length := by simp [ints]
/-- the slice v tells the numbers l; its capacity is its length. -/
def Vl (W : World) (v : Value) (l : List Int) : Prop :=
  (v = .slice none 0 0 ∧ l = []) ∨ (0 < l.length ∧ ∃ g, v = .slice (some ⟨g, 0, none⟩) l.length l.length ∧ ∀ j, (hj : j < l.length) → W.cell? ⟨g, j, none⟩ = some (.int .i64 l[j]))
/-- the slice v tells the numbers l. -/
def Lw (W : World) (v : Value) (l : List Int) : Prop :=
  ∃ o cap, v = .slice o l.length cap ∧ (0 < l.length → ∃ g, o = some ⟨g, 0, none⟩ ∧ ∀ j, (hj : j < l.length) → W.cell? ⟨g, j, none⟩ = some (.int .i64 l[j]))
theorem Vl.lw {W : World} {v : Value} {l : List Int} (h : Vl W v l) : Lw W v l := by
  rcases h with ⟨rfl, rfl⟩ | ⟨_, g, rfl, h⟩
  · exact ⟨none, 0, rfl, fun h => by simp at h⟩
  · exact ⟨_, _, rfl, fun _ => ⟨g, rfl, h⟩⟩
theorem Vl.below {W W' : World} {v : Value} {l : List Int} (h : Vl W v l) (hb : RowKit.Below W.heap.size W W') : Vl W' v l := by
  rcases h with ⟨rfl, rfl⟩ | ⟨h0, g, rfl, h⟩
  · exact .inl ⟨rfl, rfl⟩
  · exact .inr ⟨h0, g, rfl, fun j hj => cell_below hb (h j hj)⟩
theorem Lw.below {W W' : World} {v : Value} {l : List Int} (h : Lw W v l) (hb : RowKit.Below W.heap.size W W') : Lw W' v l := by
  obtain ⟨o, cap, rfl, h⟩ := h
  refine ⟨o, cap, rfl, fun h0 => ?_⟩
  obtain ⟨g, rfl, h2⟩ := h h0
  exact ⟨g, rfl, fun j hj => cell_below hb (h2 j hj)⟩
theorem owns_at {W : World} {base : Nat} {v : Value} {l : List Int} (h : W.ownsRow base 3 1 v l.length (ints l)) : (v = .slice none 0 0 ∧ l = []) ∨ ∃ g cap, v = .slice (some ⟨g, 0, none⟩) l.length cap ∧ l.length ≤ cap ∧ cap ≤ maxLen ∧ ∀ j, (hj : j < l.length) → W.cell? ⟨g, j, none⟩ = some (.int .i64 l[j]) := by
  rcases h.2 with ⟨rfl, h0⟩ | ⟨g, cap, cur, rfl, hb, hg, hc, hm, hs, ht⟩
  · exact .inl ⟨rfl, List.length_eq_zero_iff.1 h0⟩
  · refine .inr ⟨g, cap, rfl, hc, hm, fun j hj => ?_⟩
    rw [cell_b hg]
    have : (cur.toList.take (l.length * 1))[j]? = some (.int .i64 l[j]) := by
      rw [ht]
      simp [ints, hj]
    rw [List.getElem?_take_of_lt (by omega)] at this
    simpa using this
theorem clip_c (o : Option Addr) (n cap : Nat) (hn : n ≤ cap) (hm : cap ≤ maxLen) (h0 : o = none → cap = 0) (w : World) :
    Calls Try.prog 93 #[.slice o n cap] w fun e w' => e = .returned (.slice o n n) ∧ RowKit.Below w.heap.size w w' := by
  simp only [maxLen] at hm
  have hnI : (n : Int) ≤ (cap : Int) := by omega
  have hn63 : (n : Int) ≤ 9223372036854775807 := by omega
  have hc63 : (cap : Int) ≤ 9223372036854775807 := by omega
  cases o with
  | none =>
    obtain rfl := h0 rfl
    obtain rfl : n = 0 := by omega
    go_enter Try.func93, Try.ntmps93
    go_wp2_with fail
    go_ret
    exact ⟨rfl, Below.refl _ _⟩
  | some a =>
    clear h0
    go_enter Try.func93, Try.ntmps93
    go_wp2_with fail
    go_ret
    exact ⟨rfl, Below.refl _ _⟩
set_option maxHeartbeats 8000000 in
theorem vias_c {r : Ir} {I : In} {w : World} (h : NA w r I) (hn : I.nw ≤ 1000000) (a b : Int) :
    Calls Try.prog 63 #[.agg #[.int .i64 I.ten, .slice r.op I.np r.cp, .slice r.ow I.nw r.cw], .int .i64 a, .int .i64 b] w fun e w' => ∃ v, e = .returned v ∧ Vl w' v (viaL I a b I.nw) ∧ RowKit.Below w.heap.size w w' := by
  have hbx : RowKit.Below w.heap.size w (w.alloc (.cells #[.int .i64 I.ten, .slice r.op I.np r.cp, .slice r.ow I.nw r.cw] 52)) := (Below.refl w.heap.size w).alloc (Nat.le_refl _) _
  have b0 := heap_alloc_new w (.cells #[.int .i64 I.ten, .slice r.op I.np r.cp, .slice r.ow I.nw r.cw] 52)
  obtain ⟨i0, hi, hz0, hz1, hz2⟩ := info_parts inf3
  have x2 : (w.alloc (.cells #[.int .i64 I.ten, .slice r.op I.np r.cp, .slice r.ow I.nw r.cw] 52)).cell? ⟨w.heap.size, 2, none⟩ = some (.slice r.ow I.nw r.cw) := (cell_b b0).trans rfl
  have HNA := Lib.hid h
  obtain ⟨LL, hLL⟩ : ∃ L, Hid (viaL I a b I.nw = L) := ⟨_, rfl⟩
  rw [hLL.out]
  clear h b0
  go_enter Try.func63, Try.ntmps63
  go_wp2_with fail
  obtain ⟨W0, hW0⟩ : ∃ W0, Hid (W0 = w.alloc (.cells #[.int .i64 I.ten, .slice r.op I.np r.cp, .slice r.ow I.nw r.cw] 52)) := ⟨_, rfl⟩
  rw [← hW0.out] at hbx x2
  refine wp_world (fun W => W = W0) hW0.out.symm ?_
  rintro W rfl
  clear hW0
  have hW0 := hbx.size
  go_loopw [7, 13] (fun v7 v13 wr => ∃ k : Nat, v13 = .int .i64 (k : Int) ∧ k ≤ I.nw ∧ wr.ownsRow w.heap.size 3 1 v7 (viaL I a b k).length (ints (viaL I a b k)) ∧ RowKit.Below w.heap.size w wr ∧ ((viaL I a b k).length = 0 → v7 = .slice none 0 0)) (fun _ v13 _ => I.nw - (intOf v13).toNat)
  case atStart => exact ⟨0, rfl, Nat.zero_le _, World.ownsRow_nil _ _ _ _, hbx, fun _ => rfl⟩
  case round =>
    obtain ⟨k, rfl, hk, hown, hbr, hnl⟩ := hrel
    have HNL := Lib.hid hnl
    clear hnl
    by_cases hkl : k < I.nw
    · have hkI : (k : Int) < (I.nw : Int) := by omega
      obtain ⟨hnc, hcm, bk, off, ho, hx⟩ := HNA.out.wy.below hbr
      simp only [maxLen] at hcm
      have ho' := ho (by omega)
      have e0 : wr.cell? ⟨bk, off + k * 3, none⟩ = some (.int .i64 (I.wy k).1) := hx k 0 hkl (by decide)
      have e1 : wr.cell? ⟨bk, off + k * 3 + 1, none⟩ = some (.int .i64 (I.wy k).2.1) := hx k 1 hkl (by decide)
      have e2 : wr.cell? ⟨bk, off + k * 3 + 2, none⟩ = some (.int .i64 (I.wy k).2.2) := hx k 2 hkl (by decide)
      clear hx ho
      have hvb : Hid (viaB I a b k = (((I.wy k).1 == a) && ((I.wy k).2.1 == b))) := rfl
      have hit := Lib.hid (viaL_hit (I := I) (a := a) (b := b) (k := k))
      have miss := Lib.hid (viaL_miss (I := I) (a := a) (b := b) (k := k))
      have hlen := viaL_len I a b k
      have lb : bk < wr.heap.size := World.block_lt_of_cell? wr _ e0
      generalize (I.wy k).1 = s1 at e0 hvb
      generalize (I.wy k).2.1 = s2 at e1 hvb
      generalize (I.wy k).2.2 = s3 at e2 hit
      obtain ⟨L, hL⟩ : ∃ L, Hid (viaL I a b k = L) := ⟨_, rfl⟩
      rw [hL.out] at hown hlen hit miss
      rw [ho']
      clear ho'
      obtain ⟨q1, hq1⟩ : ∃ q, (s1 == a) = q := ⟨_, rfl⟩
      obtain ⟨q2, hq2⟩ : ∃ q, (s2 == b) = q := ⟨_, rfl⟩
      rw [hq1, hq2] at hvb
      have hbs := hbr.size
      obtain ⟨o3, cap3, rfl⟩ := slice_form hown
      by_cases hq : (q1 && q2) = true
      · obtain ⟨rfl, rfl⟩ : q1 = true ∧ q2 = true := by simpa using hq
        have HE := Lib.hid (hit.out hvb.out)
        clear hq hit miss hvb
        have h63 : L.length + 1 ≤ maxLen := by simp only [maxLen]; omega
        have h47 : (L.length + 1) * 8 ≤ 140737488355328 := by omega
        have H63 := Lib.hid h63
        have H47 := Lib.hid h47
        clear h63 h47
        go_wp2_with (first
          | (at_builtin; refine wpList_append_own_at _ rfl _ _ 38 rfl w.heap.size 3 i0 (.int .i64 0) 1 8 und38 hi hz0 hz1 hz2 rfl (by decide) _ _ _ rfl (owns_of (w := wr) hown ?_) ⟨wr.heap.size + 1, 0, none⟩ 1 1 [.int .i64 s3] rfl rfl ?_ ?_ ?_ ?_ ?_ ?_)
          | fail)
        case refine_1 =>
          intro g hg
          have hgl := (hown.lt g hg).2
          rw [al_lt' (by rw [World.size_alloc]; omega), al_lt' hgl]
        case refine_2 =>
          intro j u hj
          have h9 := heap_alloc_new (wr.alloc (.cells #[.int .i64 s1, .int .i64 s2, .int .i64 s3] 92)) (.cells #[.int .i64 s3] 3)
          rw [World.size_alloc] at h9
          rw [Addr.add_lit, cell_b h9]
          rcases j with _ | j
          · simpa using hj
          · simp at hj
        case refine_3 => intro u hu; simp at hu; rw [hu]; rfl
        case refine_4 => exact H63.out
        case refine_5 => exact H47.out
        case refine_6 => (try simp only [World.size_alloc]); omega
        case refine_7 =>
          intro v' w3 hown3 hg3 hnil hloc
          have hs3 := hg3.size
          simp only [World.size_alloc] at hs3
          have hb3 : RowKit.Below w.heap.size w w3 := by
            refine hbr.trans ⟨hg3.os, hg3.tape, hg3.output, by omega, fun b' hbb => ?_⟩
            rw [hg3.block b' (by simp only [World.size_alloc]; omega) (fun e => by have := (hown.lt b' e.symm).1; omega), al_lt' (by rw [World.size_alloc]; omega), al_lt' (by omega)]
          have hrow : Hid (w3.ownsRow w.heap.size 3 1 v' (viaL I a b (k + 1)).length (ints (viaL I a b (k + 1)))) := by
            rw [HE.out, List.length_append, ints_app]
            exact hown3
          clear hown3 hnil hloc
          go_wp2_with fail
          go_roundw
          case rel => exact ⟨k + 1, by go_num, by omega, hrow.out, hb3, fun h0 => by rw [HE.out] at h0; simp at h0⟩
          case measure => simp [intOf]; omega
      · have HE := Lib.hid (miss.out (by rw [hvb.out]; simpa using hq))
        have hrow : Hid (∀ V, RowKit.Below wr.heap.size wr V → V.ownsRow w.heap.size 3 1 (.slice o3 L.length cap3) (viaL I a b (k + 1)).length (ints (viaL I a b (k + 1)))) := fun V hV => by
          rw [HE.out]; exact owns_of hown (fun g hg => hV.block g (hown.lt g hg).2)
        have hbal : RowKit.Below wr.heap.size wr (wr.alloc (.cells #[.int .i64 s1, .int .i64 s2, .int .i64 s3] 92)) := (Below.refl wr.heap.size wr).alloc (Nat.le_refl _) _
        clear hit miss hvb hown
        cases q1 <;> cases q2 <;> first | (exfalso; simp at hq; done) | skip
        all_goals clear hq
        all_goals go_wp2_with fail
        all_goals go_roundw
        all_goals first
          | (case rel => exact ⟨k + 1, by go_num, by omega, hrow.out _ hbal, hbr.trans (hbal.mono hbs), fun h0 => HNL.out (by rw [HE.out] at h0; rw [hL.out]; exact h0)⟩)
          | (case measure => simp [intOf] <;> omega)
    · have hke : k = I.nw := by omega
      subst hke
      have hat := owns_at hown
      rw [hLL.out] at hat hown
      rcases hat with ⟨rfl, rfl⟩ | ⟨g, cap, rfl, h1, h2, h3⟩
      · have hc := fun W => clip_c none 0 0 (Nat.le_refl _) (Nat.zero_le _) (fun _ => rfl) W
        go_wp2_with fail
        refine (hc _).mono ?_
        rintro e w4 ⟨rfl, hb4⟩
        go_wp2_with fail
        go_ret
        exact ⟨_, rfl, .inl ⟨rfl, rfl⟩, hbr.trans (hb4.mono hbr.size)⟩
      · have hpos : Hid (0 < LL.length) := by
          show 0 < LL.length
          rcases Nat.eq_zero_or_pos LL.length with h0 | h0
          · have := HNL.out (by rw [hLL.out]; exact h0)
            cases this
          · exact h0
        have hc := fun W => clip_c (some ⟨g, 0, none⟩) LL.length cap h1 h2 (fun h => by cases h) W
        have H3 := Lib.hid h3
        clear hown h1 h2 h3
        go_wp2_with fail
        refine (hc _).mono ?_
        rintro e w4 ⟨rfl, hb4⟩
        go_wp2_with fail
        go_ret
        exact ⟨_, rfl,   .inr ⟨hpos.out, g, rfl, fun j hj => cell_below hb4 (H3.out j hj)⟩, hbr.trans (hb4.mono hbr.size)⟩
set_option maxHeartbeats 8000000 in
theorem rvias_c {r : Ir} {I : In} {w : World} (h : NA w r I) (hn : I.nw ≤ 1000000) (a b : Int) :
    Calls Try.prog 67 #[.agg #[.int .i64 I.ten, .slice r.op I.np r.cp, .slice r.ow I.nw r.cw], .int .i64 a, .int .i64 b] w fun e w' => ∃ v, e = .returned v ∧ Lw w' v (viaL I a b I.nw) ∧ RowKit.Below w.heap.size w w' := by
  have hbx : RowKit.Below w.heap.size w (w.alloc (.cells #[.int .i64 I.ten, .slice r.op I.np r.cp, .slice r.ow I.nw r.cw] 52)) := (Below.refl w.heap.size w).alloc (Nat.le_refl _) _
  have b0 := heap_alloc_new w (.cells #[.int .i64 I.ten, .slice r.op I.np r.cp, .slice r.ow I.nw r.cw] 52)
  obtain ⟨i0, hi, hz0, hz1, hz2⟩ := info_parts inf3
  have x2 : (w.alloc (.cells #[.int .i64 I.ten, .slice r.op I.np r.cp, .slice r.ow I.nw r.cw] 52)).cell? ⟨w.heap.size, 2, none⟩ = some (.slice r.ow I.nw r.cw) := (cell_b b0).trans rfl
  have HNA := Lib.hid h
  obtain ⟨LL, hLL⟩ : ∃ L, Hid (viaL I a b I.nw = L) := ⟨_, rfl⟩
  rw [hLL.out]
  clear h b0
  go_enter Try.func67, Try.ntmps67
  go_wp2_with fail
  obtain ⟨gv, hgv⟩ : ∃ gv, Hid (gv = w.heap.size + 1) := ⟨_, rfl⟩
  refine wp_world (fun W => RowKit.Below w.heap.size w W ∧ W.cell? ⟨w.heap.size, 2, none⟩ = some (.slice r.ow I.nw r.cw) ∧ W.heap[gv]? = some (.cells #[] 3 (0, 0))) ⟨hbx.alloc hbx.size _, ?_, ?_⟩ ?_
  · exact cell_below ((Below.refl (w.alloc (.cells #[.int .i64 I.ten, .slice r.op I.np r.cp, .slice r.ow I.nw r.cw] 52)).heap.size _).alloc (Nat.le_refl _) _) x2
  · rw [hgv.out]
    have := heap_alloc_new (w.alloc (.cells #[.int .i64 I.ten, .slice r.op I.np r.cp, .slice r.ow I.nw r.cw] 52)) (.cells #[] 3)
    rwa [World.size_alloc] at this
  have hgw : w.heap.size + 1 ≤ gv := by rw [hgv.out]; omega
  rw [← hgv.out]
  clear x2 hbx hgv
  rintro W ⟨hbx, x2, hempty⟩
  have hW0 := hbx.size
  have kp : Hid (∀ V, RowKit.Below W.heap.size W V → V.cell? ⟨w.heap.size, 2, none⟩ = some (.slice r.ow I.nw r.cw)) := fun V hV => cell_below hV x2
  go_loopw [7, 8] (fun v7 v8 wr => ∃ k : Nat, v8 = .int .i64 (k : Int) ∧ k ≤ I.nw ∧ wr.ownsRow (w.heap.size + 1) 3 1 v7 (viaL I a b k).length (ints (viaL I a b k)) ∧ RowKit.Below w.heap.size w wr ∧ wr.cell? ⟨w.heap.size, 2, none⟩ = some (.slice r.ow I.nw r.cw)) (fun _ v8 _ => I.nw - (intOf v8).toNat)
  case atStart => exact ⟨0, rfl, Nat.zero_le _, ⟨rfl, .inr ⟨gv, 0, #[], rfl, hgw, hempty, Nat.le_refl _, Nat.zero_le _, rfl, rfl⟩⟩, hbx, x2⟩
  case round =>
    clear x2 hempty
    obtain ⟨k, rfl, hk, hown, hbr, x2⟩ := hrel
    by_cases hkl : k < I.nw
    · have hkI : (k : Int) < (I.nw : Int) := by omega
      obtain ⟨hnc, hcm, bk, off, ho, hx⟩ := HNA.out.wy.below hbr
      simp only [maxLen] at hcm
      have ho' := ho (by omega)
      have e0 : wr.cell? ⟨bk, off + k * 3, none⟩ = some (.int .i64 (I.wy k).1) := hx k 0 hkl (by decide)
      have e1 : wr.cell? ⟨bk, off + k * 3 + 1, none⟩ = some (.int .i64 (I.wy k).2.1) := hx k 1 hkl (by decide)
      have e2 : wr.cell? ⟨bk, off + k * 3 + 2, none⟩ = some (.int .i64 (I.wy k).2.2) := hx k 2 hkl (by decide)
      clear hx ho
      have hvb : Hid (viaB I a b k = (((I.wy k).1 == a) && ((I.wy k).2.1 == b))) := rfl
      have hit := Lib.hid (viaL_hit (I := I) (a := a) (b := b) (k := k))
      have miss := Lib.hid (viaL_miss (I := I) (a := a) (b := b) (k := k))
      have hlen := viaL_len I a b k
      have lb : bk < wr.heap.size := World.block_lt_of_cell? wr _ e0
      have lx : w.heap.size < wr.heap.size := World.block_lt_of_cell? wr _ x2
      generalize (I.wy k).1 = s1 at e0 hvb
      generalize (I.wy k).2.1 = s2 at e1 hvb
      generalize (I.wy k).2.2 = s3 at e2 hit
      obtain ⟨L, hL⟩ : ∃ L, Hid (viaL I a b k = L) := ⟨_, rfl⟩
      rw [hL.out] at hown hlen hit miss
      have hx2 := Lib.hid x2
      rw [ho'] at x2
      have HO' := Lib.hid ho'
      clear ho'
      obtain ⟨q1, hq1⟩ : ∃ q, (s1 == a) = q := ⟨_, rfl⟩
      obtain ⟨q2, hq2⟩ : ∃ q, (s2 == b) = q := ⟨_, rfl⟩
      rw [hq1, hq2] at hvb
      have hbs := hbr.size
      obtain ⟨o3, cap3, rfl⟩ := slice_form hown
      by_cases hq : (q1 && q2) = true
      · obtain ⟨rfl, rfl⟩ : q1 = true ∧ q2 = true := by simpa using hq
        have HE := Lib.hid (hit.out hvb.out)
        clear hq hit miss hvb
        have h63 : L.length + 1 ≤ maxLen := by simp only [maxLen]; omega
        have h47 : (L.length + 1) * 8 ≤ 140737488355328 := by omega
        have H63 := Lib.hid h63
        have H47 := Lib.hid h47
        clear h63 h47
        go_wp2_with (first
          | (at_builtin; refine wpList_append_own_at _ rfl _ _ 38 rfl (w.heap.size + 1) 3 i0 (.int .i64 0) 1 8 und38 hi hz0 hz1 hz2 rfl (by decide) _ _ _ rfl (owns_of (w := wr) hown ?_) ⟨wr.heap.size, 0, none⟩ 1 1 [.int .i64 s3] rfl rfl ?_ ?_ ?_ ?_ ?_ ?_)
          | fail)
        case refine_1 =>
          intro g hg
          have hgl := (hown.lt g hg).2
          rw [al_lt' hgl]
        case refine_2 =>
          intro j u hj
          have h9 := heap_alloc_new wr (.cells #[.int .i64 s3] 3)
          rw [Addr.add_lit, cell_b h9]
          rcases j with _ | j
          · simpa using hj
          · simp at hj
        case refine_3 => intro u hu; simp at hu; rw [hu]; rfl
        case refine_4 => exact H63.out
        case refine_5 => exact H47.out
        case refine_6 => (try simp only [World.size_alloc]); omega
        case refine_7 =>
          intro v' w3 hown3 hg3 hnil hloc
          have hs3 := hg3.size
          simp only [World.size_alloc] at hs3
          have hb3 : RowKit.Below w.heap.size w w3 := by
            refine hbr.trans ⟨hg3.os, hg3.tape, hg3.output, by omega, fun b' hbb => ?_⟩
            rw [hg3.block b' (by simp only [World.size_alloc]; omega) (fun e => by have := (hown.lt b' e.symm).1; omega), al_lt' (by omega)]
          have hx3 : Hid (w3.cell? ⟨w.heap.size, 2, none⟩ = some (.slice r.ow I.nw r.cw)) := by
            rw [show w3.cell? ⟨w.heap.size, 2, none⟩ = wr.cell? ⟨w.heap.size, 2, none⟩ from World.cell?_of_block (a := ⟨w.heap.size, 2, none⟩) ((hg3.block w.heap.size (by simp only [World.size_alloc]; omega) (fun e => by have := (hown.lt _ e.symm).1; omega)).trans (al_lt' lx))]
            exact hx2.out
          have hrow : Hid (w3.ownsRow (w.heap.size + 1) 3 1 v' (viaL I a b (k + 1)).length (ints (viaL I a b (k + 1)))) := by
            rw [HE.out, List.length_append, ints_app]
            exact hown3
          clear hown3 hnil hloc
          go_wp2_with fail
          go_roundw
          case rel => exact ⟨k + 1, by go_num, by omega, hrow.out, hb3, hx3.out⟩
          case measure => simp [intOf]; omega
      · have HE := Lib.hid (miss.out (by rw [hvb.out]; simpa using hq))
        have hrow : Hid (wr.ownsRow (w.heap.size + 1) 3 1 (.slice o3 L.length cap3) (viaL I a b (k + 1)).length (ints (viaL I a b (k + 1)))) := by
          show wr.ownsRow _ _ _ _ _ _
          rw [HE.out]; exact hown
        clear hit miss hvb hown
        cases q1 <;> cases q2 <;> first | (exfalso; simp at hq; done) | skip
        all_goals clear hq
        all_goals go_wp2_with fail
        all_goals go_roundw
        all_goals first
          | (case rel => exact ⟨k + 1, by go_num, by omega, hrow.out, hbr, hx2.out⟩)
          | (case measure => simp [intOf] <;> omega)
    · have hke : k = I.nw := by omega
      subst hke
      have hat := owns_at hown
      rw [hLL.out] at hat hown
      rcases hat with ⟨rfl, rfl⟩ | ⟨g, cap, rfl, h1, h2, h3⟩
      · go_wp2_with fail
        go_ret
        exact ⟨_, rfl, ⟨none, 0, rfl, fun h => by simp at h⟩, hbr⟩
      · have H3 := Lib.hid h3
        clear hown h1 h2 h3
        go_wp2_with fail
        go_ret
        exact ⟨_, rfl, ⟨_, cap, rfl, fun _ => ⟨g, rfl, H3.out⟩⟩, hbr⟩
end Go.Proofs.Ytgebehnlfihliaa
