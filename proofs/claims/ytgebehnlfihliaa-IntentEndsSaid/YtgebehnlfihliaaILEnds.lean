/- Intent: the walk of IntentEnds. -/
import Derived.Test.YtgebehnlfihliaaILPlain
import Derived.Deep.RegionHeldLaw
namespace Go.Proofs.Ytgebehnlfihliaa
open Go.RowKit Go.Maps
set_option linter.unusedSimpArgs false
set_option linter.unusedVariables false
set_option maxRecDepth 100000
set_option maxHeartbeats 8000000 in
theorem ends19 {r : Ir} {I : In} {w : World} (h : NA w r I) (hw : WfI I) (hb : I.ne * 32 ≤ 140737488351232) (z : En) (wz : (Lit.int .u32 z.addr).wf = true) (sw po : Int) (X : BitVec 128) : Calls Try.prog 13 #[.agg (I.cells r), .agg #[.int .i64 z.ten, .int .u32 z.addr, .int .i64 z.sw, .int .i64 z.po], .agg #[.int .i64 sw, .int .i64 po], .agg #[.int .u64 ((Plain.hiOf (X)).toNat : Int), .int .u64 ((Plain.loOf (X)).toNat : Int)]] w fun e w' => e = .returned (.bool true) ∧ RowKit.Below w.heap.size w w' := by
  have ic : Hid (I.cells r = #[.slice r.o I.T.n r.c, .int .i64 I.ten, .slice r.op I.np r.cp, .slice r.ow I.nw r.cw, .slice r.oe I.ne r.ce, .slice r.oa I.na r.ca]) := rfl
  rw [ic.out]
  obtain ⟨x, hx⟩ : ∃ x : Int, x = (Plain.hiOf X).toNat := ⟨_, rfl⟩
  obtain ⟨y, hy⟩ : ∃ y : Int, y = (Plain.loOf X).toNat := ⟨_, rfl⟩
  rw [← hx, ← hy]
  obtain ⟨e1, e2, e3, e4⟩ := z
  have WZ := Lib.hid wz
  clear wz
  obtain ⟨W, hW⟩ : ∃ W, Hid (W = (((w.alloc (.cells #[.slice r.o I.T.n r.c, .int .i64 I.ten, .slice r.op I.np r.cp, .slice r.ow I.nw r.cw, .slice r.oe I.ne r.ce, .slice r.oa I.na r.ca] 56)).alloc (.cells #[.int .i64 e1, .int .u32 e2, .int .i64 e3, .int .i64 e4] 68)).alloc (.cells #[.int .i64 sw, .int .i64 po] 26)).alloc (.cells #[.int .u64 x, .int .u64 y] 61)) := ⟨_, rfl⟩
  have hbx : RowKit.Below w.heap.size w W := by rw [hW.out]; exact below_al (below_al (below2 _ _ _) _) _
  have kp : Hid (∀ V, RowKit.Below W.heap.size W V → (V.cell? ⟨w.heap.size, 0, none⟩ = some (.slice r.o I.T.n r.c) ∧ V.cell? ⟨w.heap.size, 1, none⟩ = some (.int .i64 I.ten) ∧ V.cell? ⟨w.heap.size, 2, none⟩ = some (.slice r.op I.np r.cp) ∧ V.cell? ⟨w.heap.size, 3, none⟩ = some (.slice r.ow I.nw r.cw) ∧ V.cell? ⟨w.heap.size, 4, none⟩ = some (.slice r.oe I.ne r.ce) ∧ V.cell? ⟨w.heap.size, 5, none⟩ = some (.slice r.oa I.na r.ca)) ∧ (V.cell? ⟨w.heap.size + 1, 0, none⟩ = some (.int .i64 e1) ∧ V.cell? ⟨w.heap.size + 1, 1, none⟩ = some (.int .u32 e2) ∧ V.cell? ⟨w.heap.size + 1, 2, none⟩ = some (.int .i64 e3) ∧ V.cell? ⟨w.heap.size + 1, 3, none⟩ = some (.int .i64 e4)) ∧ (V.cell? ⟨w.heap.size + 1 + 1, 0, none⟩ = some (.int .i64 sw) ∧ V.cell? ⟨w.heap.size + 1 + 1, 1, none⟩ = some (.int .i64 po)) ∧ (V.cell? ⟨w.heap.size + 1 + 1 + 1, 0, none⟩ = some (.int .u64 x) ∧ V.cell? ⟨w.heap.size + 1 + 1 + 1, 1, none⟩ = some (.int .u64 y)) ∧ RowKit.Below w.heap.size w V) := by
    intro V hV
    have hh := heap4 w (.cells #[.slice r.o I.T.n r.c, .int .i64 I.ten, .slice r.op I.np r.cp, .slice r.ow I.nw r.cw, .slice r.oe I.ne r.ce, .slice r.oa I.na r.ca] 56) (.cells #[.int .i64 e1, .int .u32 e2, .int .i64 e3, .int .i64 e4] 68) (.cells #[.int .i64 sw, .int .i64 po] 26) (.cells #[.int .u64 x, .int .u64 y] 61)
    rw [← hW.out] at hh
    obtain ⟨b0, b1, b2, b3⟩ := hh
    exact ⟨⟨cell_below hV ((cell_b b0).trans rfl), cell_below hV ((cell_b b0).trans rfl), cell_below hV ((cell_b b0).trans rfl), cell_below hV ((cell_b b0).trans rfl), cell_below hV ((cell_b b0).trans rfl), cell_below hV ((cell_b b0).trans rfl)⟩, ⟨cell_below hV ((cell_b b1).trans rfl), cell_below hV ((cell_b b1).trans rfl), cell_below hV ((cell_b b1).trans rfl), cell_below hV ((cell_b b1).trans rfl)⟩, ⟨cell_below hV ((cell_b b2).trans rfl), cell_below hV ((cell_b b2).trans rfl)⟩, ⟨cell_below hV ((cell_b b3).trans rfl), cell_below hV ((cell_b b3).trans rfl)⟩, hbx.trans (hV.mono hbx.size)⟩
  have HNA : Hid (∀ V, RowKit.Below W.heap.size W V → NA V r I) := fun V hV => h.below (below_st hbx hV)
  have HA : Hid (∀ V, Calls Try.prog 24 #[] V fun e w' => e = .returned (.bool true) ∧ RowKit.Below V.heap.size V w') := fun V => iawake_c V
  have ww := h.wy.1
  have ww1 := h.wy.2.1
  simp only [maxLen] at ww1
  clear h
  obtain ⟨i0, hi, hz0, hz1, hz2⟩ := info_parts inf68
  have hp0 : I.ne ≤ maxLen := by simp only [maxLen]; omega
  have hq0 : I.ne * 32 ≤ 140737488355328 := by omega
  have hp1 : I.ne + 1 ≤ maxLen := by simp only [maxLen]; omega
  have hq1 : (I.ne + 1) * 32 ≤ 140737488355328 := by omega
  have hB1 : RowKit.Below W.heap.size W (W.alloc (.cells #[.slice r.o I.T.n r.c, .int .i64 I.ten, .slice r.op I.np r.cp, .slice r.ow I.nw r.cw, .slice r.oe I.ne r.ce, .slice r.oa I.na r.ca] 56)) := below_al (Below.refl _ _) _
  obtain ⟨⟨x0, x1, x2, x3, x4, x5⟩, ⟨q0, q1, q2, q3⟩, ⟨y0, y1⟩, ⟨z0, z1⟩, hbw⟩ := kp.out W (Below.refl _ _)
  have l0 : w.heap.size < W.heap.size := World.block_lt_of_cell? W _ x0
  have l1 : w.heap.size + 1 < W.heap.size := World.block_lt_of_cell? W _ q0
  obtain ⟨W8, hW8⟩ : ∃ V, Hid (V = W.alloc (.cells #[.slice r.o I.T.n r.c, .int .i64 I.ten, .slice r.op I.np r.cp, .slice r.ow I.nw r.cw, .slice r.oe I.ne r.ce, .slice r.oa I.na r.ca] 56)) := ⟨_, rfl⟩
  have hm8 : W8.heap[W.heap.size]? = some (.cells #[.slice r.o I.T.n r.c, .int .i64 I.ten, .slice r.op I.np r.cp, .slice r.ow I.nw r.cw, .slice r.oe I.ne r.ce, .slice r.oa I.na r.ca] 56 (0, 0)) := by rw [hW8.out]; exact heap_alloc_new W _
  have HS8 : Hid (W8.heap.size = W.heap.size + 1) := by rw [hW8.out]; exact Lib.hid (by simp)
  rw [← hW8.out] at hB1
  have HX := Lib.hid hx
  have HY := Lib.hid hy
  clear hx hy
  go_enter Try.func13, Try.ntmps13
  go_upto_region 1 with (fail)
  rw [← hW.out]
  go_upto_region 2 with (fail)
  rw [← hW8.out]
  go_cut [22] from 15 to 21 (fun v22 wx => ∃ o' c', ((∀ V9, RowKit.Below wx.heap.size wx V9 → V9.cell? ⟨W.heap.size, 0, none⟩ = some (.slice r.o I.T.n r.c) ∧ V9.cell? ⟨W.heap.size, 1, none⟩ = some (.int .i64 I.ten) ∧ V9.cell? ⟨W.heap.size, 2, none⟩ = some (.slice r.op I.np r.cp) ∧ V9.cell? ⟨W.heap.size, 3, none⟩ = some (.slice r.ow I.nw r.cw) ∧ V9.cell? ⟨W.heap.size, 4, none⟩ = some (.slice o' (I.ne + 1) c') ∧ V9.cell? ⟨W.heap.size, 5, none⟩ = some (.slice r.oa I.na r.ca)) ∧ Rw wx o' (I.ne + 1) c' 4 (cvE fun k => if k < I.ne then I.en k else ⟨e1, e2, e3, e4⟩) ∧ RowKit.Below W.heap.size W wx))
  case first =>
    have KS : Hid (∀ V, RowKit.Below W.heap.size W V → V.cell? ⟨w.heap.size, 4, none⟩ = some (.slice r.oe I.ne r.ce) ∧ V.cell? ⟨w.heap.size + 1, 0, none⟩ = some (.int .i64 e1) ∧ V.cell? ⟨w.heap.size + 1, 1, none⟩ = some (.int .u32 e2) ∧ V.cell? ⟨w.heap.size + 1, 2, none⟩ = some (.int .i64 e3) ∧ V.cell? ⟨w.heap.size + 1, 3, none⟩ = some (.int .i64 e4)) := fun V hV => ⟨cell_below hV x4, cell_below hV q0, cell_below hV q1, cell_below hV q2, cell_below hV q3⟩
    have KR : Hid (∀ V, RowKit.Below W.heap.size W V → Rw V r.oe I.ne r.ce 4 (cvE I.en)) := fun V hV => (HNA.out V hV).en
    have UP : Hid (∀ V, RowKit.Below W8.heap.size W8 V → RowKit.Below W.heap.size W V) := fun V hV => below_st hB1 hV
    have hs8 := HS8.out
    clear HNA HA kp x0 x1 x2 x3 x4 x5 q0 q1 q2 q3 y0 y1 z0 z1 HS8
    go_region_held_law (fun w' => w'.cell? ⟨w.heap.size, 4, none⟩ = some (.slice r.oe I.ne r.ce) ∧ w'.cell? ⟨w.heap.size + 1, 0, none⟩ = some (.int .i64 e1) ∧ w'.cell? ⟨w.heap.size + 1, 1, none⟩ = some (.int .u32 e2) ∧ w'.cell? ⟨w.heap.size + 1, 2, none⟩ = some (.int .i64 e3) ∧ w'.cell? ⟨w.heap.size + 1, 3, none⟩ = some (.int .i64 e4)) (first | (exact KS.out _ (Below.setCell (UP.out _ hbA) (Nat.le_refl _) _)) | (exact KS.out _ (UP.out _ (by (repeat (first | exact Below.refl _ _ | exact hbA | refine below_dr ?_ | refine below_al ?_ _))))))
      (first
        | (refine step_app_first rfl (.tmp 15) (.tmp 17) 53 rfl W8 68 i0 (.agg #[.int .i64 0, .int .u32 0, .int .i64 0, .int .i64 0]) 4 32 und53 hi hz0 hz1 hz2 rfl (by decide) W8.heap.size (by simp [Act.eval, Act.put]) r.oe I.ne r.ce (cvE I.en) (by simp [Act.eval, Act.put]) 18 rfl ?_ (by omega) ?_ ?_ (cvE_one _) hp0 hq0 ?_; (focus (first | exact heap_alloc_new _ _ | exact heap_new1 _ _ _)); (focus (repeat (first | exact Below.refl _ _ | exact hbA | refine below_dr ?_ | refine below_al ?_ _))); (focus (exact KR.out _ (UP.out _ (by (repeat (first | exact Below.refl _ _ | exact hbA | refine below_dr ?_ | refine below_al ?_ _)))))); intro o1 c1 w1 hown1 hbA hfr1 hsz1)
        | (refine step_app_first rfl (.tmp 15) (.tmp 17) 53 rfl W8 68 i0 (.agg #[.int .i64 0, .int .u32 0, .int .i64 0, .int .i64 0]) 4 32 und53 hi hz0 hz1 hz2 rfl (by decide) (W8.heap.size + 1) (by simp [Act.eval, Act.put]) r.oe I.ne r.ce (cvE I.en) (by simp [Act.eval, Act.put]) 18 rfl ?_ (by omega) ?_ ?_ (cvE_one _) hp0 hq0 ?_; (focus (exact heap_new2 _ _ _)); (focus (repeat (first | exact Below.refl _ _ | exact hbA | refine below_dr ?_ | refine below_al ?_ _))); (focus (exact KR.out _ (UP.out _ (by (repeat (first | exact Below.refl _ _ | exact hbA | refine below_dr ?_ | refine below_al ?_ _)))))); intro o1 c1 w1 hown1 hbA hfr1 hsz1)
        | (refine step_app_last rfl (.tmp 18) (.tmp 20) 53 rfl W8 68 i0 (.agg #[.int .i64 0, .int .u32 0, .int .i64 0, .int .i64 0]) 4 32 und53 hi hz0 hz1 hz2 rfl (by decide) I.ne o1 c1 (flatR (cvE I.en) 4 I.ne) (by simp [Act.eval, Act.put]) w1.heap.size (by simp [Act.eval, Act.put]) #[.int .i64 e1, .int .u32 e2, .int .i64 e3, .int .i64 e4] 68 (0, 0) 21 rfl ?_ rfl (by intro u hu; simp at hu; rcases hu with rfl | rfl | rfl | rfl <;> rfl) ?_ ?_ hp1 hq1 ?_; (focus (exact heap_alloc_new _ _)); (focus (first | exact own_al hown1 _ | exact hown1)); (focus (repeat (first | exact Below.refl _ _ | exact hbA | refine below_dr ?_ | refine below_al ?_ _))); intro o2 c2 w2 hown2 hbA hsz2; have hm2 := (hbA.block W.heap.size (by omega)).trans hm8; have m2 := (cell_b (o := 4) hm2).trans rfl; have mf : w2.frozen? ⟨W.heap.size, 4, none⟩ = false := by simp [World.frozen?, hm2])
        | (refine step_app_last rfl (.tmp 18) (.tmp 20) 53 rfl W8 68 i0 (.agg #[.int .i64 0, .int .u32 0, .int .i64 0, .int .i64 0]) 4 32 und53 hi hz0 hz1 hz2 rfl (by decide) I.ne o1 c1 (flatR (cvE I.en) 4 I.ne) (by simp [Act.eval, Act.put]) (W8.heap.size + 1) (by simp [Act.eval, Act.put]) #[.int .i64 e1, .int .u32 e2, .int .i64 e3, .int .i64 e4] 68 (0, 0) 21 rfl ?_ rfl (by intro u hu; simp at hu; rcases hu with rfl | rfl | rfl | rfl <;> rfl) ?_ ?_ hp1 hq1 ?_; (focus (exact (hfr1 _ (by omega) (by simp)).trans (heap_new2 _ _ _))); (focus (first | exact own_al hown1 _ | exact hown1)); (focus (repeat (first | exact Below.refl _ _ | exact hbA | refine below_dr ?_ | refine below_al ?_ _))); intro o2 c2 w2 hown2 hbA hsz2; have hm2 := (hbA.block W.heap.size (by omega)).trans hm8; have m2 := (cell_b (o := 4) hm2).trans rfl; have mf : w2.frozen? ⟨W.heap.size, 4, none⟩ = false := by simp [World.frozen?, hm2])
        | (refine step_app_last rfl (.tmp 18) (.tmp 20) 53 rfl W8 68 i0 (.agg #[.int .i64 0, .int .u32 0, .int .i64 0, .int .i64 0]) 4 32 und53 hi hz0 hz1 hz2 rfl (by decide) I.ne o1 c1 (flatR (cvE I.en) 4 I.ne) (by simp [Act.eval, Act.put]) W8.heap.size (by simp [Act.eval, Act.put]) #[.int .i64 e1, .int .u32 e2, .int .i64 e3, .int .i64 e4] 68 (0, 0) 21 rfl ?_ rfl (by intro u hu; simp at hu; rcases hu with rfl | rfl | rfl | rfl <;> rfl) ?_ ?_ hp1 hq1 ?_; (focus (exact (hfr1 _ (by omega) (by simp <;> omega)).trans (heap_new1 _ _ _))); (focus (first | exact own_al hown1 _ | exact hown1)); (focus (repeat (first | exact Below.refl _ _ | exact hbA | refine below_dr ?_ | refine below_al ?_ _))); intro o2 c2 w2 hown2 hbA hsz2; have hm2 := (hbA.block W.heap.size (by omega)).trans hm8; have m2 := (cell_b (o := 4) hm2).trans rfl; have mf : w2.frozen? ⟨W.heap.size, 4, none⟩ = false := by simp [World.frozen?, hm2]))
    all_goals
      have hm3 := sc_at9 (o := 4) (v := .slice o2 (I.ne + 1) c2) hm2
      have hown3 := own_sc hown2 (b := W.heap.size) (o := 4) (by omega) (.slice o2 (I.ne + 1) c2)
      have hbF : RowKit.Below W.heap.size W (w2.setCell ⟨W.heap.size, 4, none⟩ (.slice o2 (I.ne + 1) c2)) := Below.setCell (UP.out _ hbA) (Nat.le_refl _) _
      have hrw := own_rw (cv := cvE fun k => if k < I.ne then I.en k else ⟨e1, e2, e3, e4⟩) hown3 (flat_snoc rfl (fun i k hi _ => by simp [cvE, hi]) (fun k hk => by
        have : k = 0 ∨ k = 1 ∨ k = 2 ∨ k = 3 := by omega
        rcases this with rfl | rfl | rfl | rfl <;> simp [cvE]))
      have hk9 : ∀ V9, RowKit.Below (w2.setCell ⟨W.heap.size, 4, none⟩ (.slice o2 (I.ne + 1) c2)).heap.size (w2.setCell ⟨W.heap.size, 4, none⟩ (.slice o2 (I.ne + 1) c2)) V9 → V9.cell? ⟨W.heap.size, 0, none⟩ = some (.slice r.o I.T.n r.c) ∧ V9.cell? ⟨W.heap.size, 1, none⟩ = some (.int .i64 I.ten) ∧ V9.cell? ⟨W.heap.size, 2, none⟩ = some (.slice r.op I.np r.cp) ∧ V9.cell? ⟨W.heap.size, 3, none⟩ = some (.slice r.ow I.nw r.cw) ∧ V9.cell? ⟨W.heap.size, 4, none⟩ = some (.slice o2 (I.ne + 1) c2) ∧ V9.cell? ⟨W.heap.size, 5, none⟩ = some (.slice r.oa I.na r.ca) := fun V9 h9 => ⟨cell_below h9 ((cell_b hm3).trans rfl), cell_below h9 ((cell_b hm3).trans rfl), cell_below h9 ((cell_b hm3).trans rfl), cell_below h9 ((cell_b hm3).trans rfl), cell_below h9 ((cell_b hm3).trans rfl), cell_below h9 ((cell_b hm3).trans rfl)⟩
      have HK9 := Lib.hid hk9
      clear hk9 hm3 hm2 m2 mf hown2 hown3 hown1 hfr1 hsz1 hsz2 KS KR UP hi hz0 hz1 hz2
      go_wp2_with fail
      (go_meet; case rel => exact ⟨o2, c2, HK9.out, hrw, hbF⟩)
  case rest =>
    obtain ⟨o', c', hmm, hrw, hB3⟩ := hcut
    rename_i Kc hKc
    refine hKc _ _ ?_
    have KM := Lib.hid hmm
    have hRW := Lib.hid hrw
    clear hKc hmm hrw x0 x1 x2 x3 x4 x5 q0 q1 q2 q3 y0 y1 z0 z1 hbw l0 l1 hm8 hi hz0 hz1 hz2 HS8 hB1 hW8
    refine wp_world (fun W1 => W1 = wc) rfl ?_
    rintro W3 rfl
    obtain ⟨M, hM⟩ : ∃ M, Hid (M = ended I ⟨e1, e2, e3, e4⟩) := ⟨_, rfl⟩
    have hmc : Hid (M.cells { r with oe := o', ce := c' } = #[.slice r.o I.T.n r.c, .int .i64 I.ten, .slice r.op I.np r.cp, .slice r.ow I.nw r.cw, .slice o' (I.ne + 1) c', .slice r.oa I.na r.ca]) := by
      show M.cells _ = _
      rw [hM.out]; rfl
    have HNM : Hid (∀ V', RowKit.Below W3.heap.size W3 V' → NA V' { r with oe := o', ce := c' } M) := fun V' hV => by
      have := HNA.out V' (below_st hB3 hV)
      rw [hM.out]
      exact ⟨this.ta, this.pe, this.wy, hRW.out.below hV, this.ac⟩
    have hwM : WfI M := by
      rw [hM.out]
      refine ⟨fun i hi => ?_, hw.w⟩
      by_cases h : i < I.ne
      · rw [en_ended h]; exact hw.e i h
      · have hi : i < I.ne + 1 := hi
        obtain rfl : i = I.ne := by omega
        rw [en_last]; exact WZ.out
    obtain ⟨z, hz⟩ : ∃ z, Hid (soundI I = z) := ⟨_, rfl⟩
    obtain ⟨zm, hzm⟩ : ∃ z, Hid (soundI M = z) := ⟨_, rfl⟩
    obtain ⟨v1, v2, hv⟩ : ∃ v1 v2, Hid (wnt I sw po X = (v1, v2)) := ⟨_, _, rfl⟩
    obtain ⟨u1, u2, hu⟩ : ∃ v1 v2, Hid (wnt M sw po X = (v1, v2)) := ⟨_, _, rfl⟩
    have HS : Hid (∀ V', RowKit.Below W3.heap.size W3 V' → Calls Try.prog 25 #[.agg #[.slice r.o I.T.n r.c, .int .i64 I.ten, .slice r.op I.np r.cp, .slice r.ow I.nw r.cw, .slice r.oe I.ne r.ce, .slice r.oa I.na r.ca]] V' fun e w' => e = .returned (.int .i64 z) ∧ RowKit.Below V'.heap.size V' w') := fun V' hV => by
      have := isound_c (HNA.out V' (below_st hB3 hV)) hw
      rw [hz.out] at this
      exact this
    have HSM : Hid (∀ V', RowKit.Below W3.heap.size W3 V' → Calls Try.prog 25 #[.agg #[.slice r.o I.T.n r.c, .int .i64 I.ten, .slice r.op I.np r.cp, .slice r.ow I.nw r.cw, .slice o' (I.ne + 1) c', .slice r.oa I.na r.ca]] V' fun e w' => e = .returned (.int .i64 zm) ∧ RowKit.Below V'.heap.size V' w') := fun V' hV => by
      have := isound_c (HNM.out V' hV) hwM
      rw [hzm.out, hmc.out] at this
      exact this
    have HT : Hid (∀ V', RowKit.Below W3.heap.size W3 V' → Calls Try.prog 29 #[.agg #[.slice r.o I.T.n r.c, .int .i64 I.ten, .slice r.op I.np r.cp, .slice r.ow I.nw r.cw, .slice r.oe I.ne r.ce, .slice r.oa I.na r.ca], .agg #[.int .i64 sw, .int .i64 po], .agg #[.int .u64 x, .int .u64 y]] V' fun e w' => e = .returned (.tuple #[.int .i64 v1, .bool v2]) ∧ RowKit.Below V'.heap.size V' w') := fun V' hV => by
      have := wants_c (HNA.out V' (below_st hB3 hV)) hw sw po HX.out HY.out
      rw [hv.out] at this
      exact this
    have HTM : Hid (∀ V', RowKit.Below W3.heap.size W3 V' → Calls Try.prog 29 #[.agg #[.slice r.o I.T.n r.c, .int .i64 I.ten, .slice r.op I.np r.cp, .slice r.ow I.nw r.cw, .slice o' (I.ne + 1) c', .slice r.oa I.na r.ca], .agg #[.int .i64 sw, .int .i64 po], .agg #[.int .u64 x, .int .u64 y]] V' fun e w' => e = .returned (.tuple #[.int .i64 u1, .bool u2]) ∧ RowKit.Below V'.heap.size V' w') := fun V' hV => by
      have := wants_c (HNM.out V' hV) hwM sw po HX.out HY.out
      rw [hu.out, hmc.out] at this
      exact this
    have KQ : Hid (∀ V', RowKit.Below W3.heap.size W3 V' → _) := fun V' hV => kp.out V' (below_st hB3 hV)
    obtain ⟨nn, hnn⟩ : ∃ nn : Int, Hid ((n32 X : Int) = nn) := ⟨_, rfl⟩
    have hlaw : Hid (zm = 0 → z = 0 → (nn = e2 → v2 = false ∧ (u2 = false ∨ u1 = (I.ne : Int))) ∧ (¬ nn = e2 → u1 = v1 ∧ u2 = v2)) := fun h1 h2 => by
      have h3 := hzm.out
      rw [h1, hM.out] at h3
      have h4 := hz.out
      rw [h2] at h4
      have h7 := hu.out
      rw [hM.out] at h7
      refine ⟨fun he => ?_, fun he => ?_⟩
      · obtain ⟨h5, h6⟩ := ends_own (z := ⟨e1, e2, e3, e4⟩) h4 h3 sw po (X := X) (by rw [hnn.out]; exact he)
        rw [hv.out] at h5
        rw [h7] at h6
        exact ⟨h5, h6⟩
      · have h5 := ends_other (z := ⟨e1, e2, e3, e4⟩) h4 h3 sw po (X := X) (by rw [hnn.out]; exact he)
        rw [h7, hv.out] at h5
        simpa using h5
    have hwr : IntKind.u32.wrap y = nn := by
      rw [← hnn.out, HY.out]
      simp [IntKind.wrap, IntKind.signed, IntKind.bits, n32]
    clear hu hv hz hzm hM hmc HNM HNA kp hW hwM hw ww ww1 hb hp1 hq1 HX HY hRW hp0 hq0 hnn WZ
    obtain ⟨m0, m1, m2, m3, m4, m5⟩ := KM.out W3 (Below.refl _ _)
    go_wp2_with fail
    refine (HA.out _).mono ?_
    rintro e w4 ⟨rfl, hb4⟩
    clear m0 m1 m2 m3 m4 m5
    obtain ⟨⟨x0, x1, x2, x3, x4, x5⟩, ⟨q0, q1, q2, q3⟩, ⟨y0, y1⟩, ⟨z0, z1⟩, hbw⟩ := KQ.out w4 hb4
    go_wp2_with fail
    refine (HS.out _ hb4).mono ?_
    rintro e w5 ⟨rfl, hb5⟩
    have hB5 := below_st hb4 hb5
    clear x0 x1 x2 x3 x4 x5 q0 q1 q2 q3 y0 y1 z0 z1 hbw
    obtain ⟨m0, m1, m2, m3, m4, m5⟩ := KM.out w5 hB5
    by_cases hz0 : z = 0
    rotate_left
    · have hzb : (z != 0) = true := by simpa using hz0
      clear hz0
      go_wp2_with fail
      refine (HA.out _).mono ?_
      rintro e w8 ⟨rfl, hb8⟩
      have hbF := (KQ.out w8 (below_st hB5 hb8)).2.2.2.2
      go_wp2_with fail
      go_ret
      exact ⟨rfl, hbF⟩
    have hzb : (z != 0) = false := by simpa using hz0
    have HL := Lib.hid (fun h => hlaw.out h hz0)
    clear hz0 hlaw
    go_wp2_with fail
    refine (HSM.out _ hB5).mono ?_
    rintro e w6 ⟨rfl, hb6⟩
    have hB6 := below_st hB5 hb6
    clear m0 m1 m2 m3 m4 m5
    by_cases hz1 : zm = 0
    rotate_left
    · have hzc : (zm != 0) = true := by simpa using hz1
      clear hz1
      go_wp2_with fail
      refine (HA.out _).mono ?_
      rintro e w9 ⟨rfl, hb9⟩
      have hbF := (KQ.out w9 (below_st hB6 hb9)).2.2.2.2
      go_wp2_with fail
      go_ret
      exact ⟨rfl, hbF⟩
    have hzc : (zm != 0) = false := by simpa using hz1
    have HL2 := Lib.hid (HL.out hz1)
    clear hz1 HL
    obtain ⟨⟨x0, x1, x2, x3, x4, x5⟩, ⟨q0, q1, q2, q3⟩, ⟨y0, y1⟩, ⟨z0, z1⟩, hbw⟩ := KQ.out w6 hB6
    go_wp2_with fail
    refine (HT.out _ hB6).mono ?_
    rintro e w7 ⟨rfl, hb7⟩
    have hB7 := below_st hB6 hb7
    clear x0 x1 x2 x3 x4 x5 q0 q1 q2 q3 y0 y1 z0 z1 hbw
    obtain ⟨⟨x0, x1, x2, x3, x4, x5⟩, ⟨q0, q1, q2, q3⟩, ⟨y0, y1⟩, ⟨z0, z1⟩, hbw⟩ := KQ.out w7 hB7
    obtain ⟨m0, m1, m2, m3, m4, m5⟩ := KM.out w7 hB7
    go_wp2_with fail
    refine (HTM.out _ hB7).mono ?_
    rintro e w8 ⟨rfl, hb8⟩
    have hB8 := below_st hB7 hb8
    clear x0 x1 x2 x3 x4 x5 q0 q1 q2 q3 y0 y1 z0 z1 hbw m0 m1 m2 m3 m4 m5
    obtain ⟨⟨x0, x1, x2, x3, x4, x5⟩, ⟨q0, q1, q2, q3⟩, ⟨y0, y1⟩, ⟨z0, z1⟩, hbw⟩ := KQ.out w8 hB8
    by_cases hne : nn = e2
    · have hnb : (nn == e2) = true := by simpa using hne
      obtain ⟨rfl, h9⟩ := HL2.out.1 hne
      clear hne
      cases u2 with
      | false =>
        clear h9
        go_wp2_with fail
        go_ret
        exact ⟨rfl, hbw⟩
      | true =>
        obtain rfl : u1 = (I.ne : Int) := by simpa using h9
        clear h9
        have hee : ((I.ne : Int) == (I.ne : Int)) = true := by simp
        go_wp2_with fail
        go_ret
        exact ⟨rfl, hbw⟩
    · have hnb : (nn == e2) = false := by simpa using hne
      obtain ⟨rfl, rfl⟩ := HL2.out.2 hne
      clear hne
      have hee : (u1 == u1) = true := by simp
      cases u2 with
      | false =>
        go_wp2_with fail
        go_ret
        exact ⟨rfl, hbw⟩
      | true =>
        go_wp2_with fail
        go_ret
        exact ⟨rfl, hbw⟩
end Go.Proofs.Ytgebehnlfihliaa
