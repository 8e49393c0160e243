/- Intent: the walk of IntentPeers. -/
import Derived.Test.YtgebehnlfihliaaILPlain
import Derived.Test.YtgebehnlfihliaaIn17
import Derived.Test.YtgebehnlfihliaaAppSrc
import Derived.Deep.RegionHeldLaw
namespace Go.Proofs.Ytgebehnlfihliaa
open Go.RowKit Go.Maps
set_option linter.unusedSimpArgs false
set_option linter.unusedVariables false
set_option maxRecDepth 100000
set_option maxHeartbeats 8000000 in
theorem peers19 {r : Ir} {I : In} {w : World} (h : NA w r I) (hw : WfI I) (wt : (Lit.int .i64 I.ten).wf = true) (sw po : Int) (X : BitVec 128) (a b : Int) (wa : (Lit.int .u8 a).wf = true) (wb : (Lit.int .u8 b).wf = true) : Calls Try.prog 11 #[.agg (I.cells r), .agg #[.int .i64 sw, .int .i64 po], .agg #[.int .u64 ((Plain.hiOf (X)).toNat : Int), .int .u64 ((Plain.loOf (X)).toNat : Int)], .int .u8 a, .int .u8 b] w fun e w' => e = .returned (.bool true) ∧ RowKit.Below w.heap.size w w' := by
  have ic : Hid (I.cells r = #[.slice r.o I.T.n r.c, .int .i64 I.ten, .slice r.op I.np r.cp, .slice r.ow I.nw r.cw, .slice r.oe I.ne r.ce, .slice r.oa I.na r.ca]) := rfl
  rw [ic.out]
  obtain ⟨x, hx⟩ : ∃ x : Int, x = (Plain.hiOf X).toNat := ⟨_, rfl⟩
  obtain ⟨y, hy⟩ : ∃ y : Int, y = (Plain.loOf X).toNat := ⟨_, rfl⟩
  rw [← hx, ← hy]
  obtain ⟨W, hW⟩ : ∃ W, Hid (W = ((w.alloc (.cells #[.slice r.o I.T.n r.c, .int .i64 I.ten, .slice r.op I.np r.cp, .slice r.ow I.nw r.cw, .slice r.oe I.ne r.ce, .slice r.oa I.na r.ca] 56)).alloc (.cells #[.int .i64 sw, .int .i64 po] 26)).alloc (.cells #[.int .u64 x, .int .u64 y] 61)) := ⟨_, rfl⟩
  have hbx : RowKit.Below w.heap.size w W := by rw [hW.out]; exact below_al (below2 _ _ _) _
  have kp : Hid (∀ V, RowKit.Below W.heap.size W V → (V.cell? ⟨w.heap.size, 0, none⟩ = some (.slice r.o I.T.n r.c) ∧ V.cell? ⟨w.heap.size, 1, none⟩ = some (.int .i64 I.ten) ∧ V.cell? ⟨w.heap.size, 2, none⟩ = some (.slice r.op I.np r.cp) ∧ V.cell? ⟨w.heap.size, 3, none⟩ = some (.slice r.ow I.nw r.cw) ∧ V.cell? ⟨w.heap.size, 4, none⟩ = some (.slice r.oe I.ne r.ce) ∧ V.cell? ⟨w.heap.size, 5, none⟩ = some (.slice r.oa I.na r.ca)) ∧ (V.cell? ⟨w.heap.size + 1, 0, none⟩ = some (.int .i64 sw) ∧ V.cell? ⟨w.heap.size + 1, 1, none⟩ = some (.int .i64 po)) ∧ (V.cell? ⟨w.heap.size + 1 + 1, 0, none⟩ = some (.int .u64 x) ∧ V.cell? ⟨w.heap.size + 1 + 1, 1, none⟩ = some (.int .u64 y)) ∧ RowKit.Below w.heap.size w V) := by
    intro V hV
    have hh := heap3 w (.cells #[.slice r.o I.T.n r.c, .int .i64 I.ten, .slice r.op I.np r.cp, .slice r.ow I.nw r.cw, .slice r.oe I.ne r.ce, .slice r.oa I.na r.ca] 56) (.cells #[.int .i64 sw, .int .i64 po] 26) (.cells #[.int .u64 x, .int .u64 y] 61)
    rw [← hW.out] at hh
    obtain ⟨b0, b1, b2⟩ := hh
    exact ⟨⟨cell_below hV ((cell_b b0).trans rfl), cell_below hV ((cell_b b0).trans rfl), cell_below hV ((cell_b b0).trans rfl), cell_below hV ((cell_b b0).trans rfl), cell_below hV ((cell_b b0).trans rfl), cell_below hV ((cell_b b0).trans rfl)⟩, ⟨cell_below hV ((cell_b b1).trans rfl), cell_below hV ((cell_b b1).trans rfl)⟩, ⟨cell_below hV ((cell_b b2).trans rfl), cell_below hV ((cell_b b2).trans rfl)⟩, hbx.trans (hV.mono hbx.size)⟩
  have HNA : Hid (∀ V, RowKit.Below W.heap.size W V → NA V r I) := fun V hV => h.below (below_st hbx hV)
  have HA : Hid (∀ V, Calls Try.prog 24 #[] V fun e w' => e = .returned (.bool true) ∧ RowKit.Below V.heap.size V w') := fun V => iawake_c V
  have HS : Hid (∀ V, RowKit.Below W.heap.size W V → Calls Try.prog 25 #[.agg #[.slice r.o I.T.n r.c, .int .i64 I.ten, .slice r.op I.np r.cp, .slice r.ow I.nw r.cw, .slice r.oe I.ne r.ce, .slice r.oa I.na r.ca]] V fun e w' => e = .returned (.int .i64 (soundI I)) ∧ RowKit.Below V.heap.size V w') := fun V hV => isound_c (HNA.out V hV) hw
  obtain ⟨z, hz⟩ : ∃ z, Hid (soundI I = z) := ⟨_, rfl⟩
  rw [hz.out] at HS
  obtain ⟨v1, v2, hv⟩ : ∃ v1 v2, Hid (wnt I sw po X = (v1, v2)) := ⟨_, _, rfl⟩
  have HT : Hid (∀ V, RowKit.Below W.heap.size W V → Calls Try.prog 29 #[.agg #[.slice r.o I.T.n r.c, .int .i64 I.ten, .slice r.op I.np r.cp, .slice r.ow I.nw r.cw, .slice r.oe I.ne r.ce, .slice r.oa I.na r.ca], .agg #[.int .i64 sw, .int .i64 po], .agg #[.int .u64 x, .int .u64 y]] V fun e w' => e = .returned (.tuple #[.int .i64 v1, .bool v2]) ∧ RowKit.Below V.heap.size V w') := fun V hV => by
    have := wants_c (HNA.out V hV) hw sw po hx hy
    rw [hv.out] at this
    exact this
  have ww := h.wy.1
  have ww1 := h.wy.2.1
  simp only [maxLen] at ww1
  clear h
  have ht := HT.out W (Below.refl _ _)
  rw [hW.out] at ht
  by_cases hz0 : z = 0
  rotate_left
  · have hzb : (z != 0) = true := by simpa using hz0
    clear hx hy
    go_enter Try.func11, Try.ntmps11
    go_wp2_with fail
    refine ht.mono ?_
    rw [← hW.out]
    rintro e w1 ⟨rfl, hb1⟩
    obtain ⟨⟨x0, x1, x2, x3, x4, x5⟩, ⟨y0, y1⟩, ⟨z0, z1⟩, hbw1⟩ := kp.out w1 hb1
    go_wp2_with fail
    refine (HA.out _).mono ?_
    rintro e w2 ⟨rfl, hb2⟩
    have hB2 := below_st hb1 hb2
    clear x0 x1 x2 x3 x4 x5 y0 y1 z0 z1 hbw1
    obtain ⟨⟨x0, x1, x2, x3, x4, x5⟩, ⟨y0, y1⟩, ⟨z0, z1⟩, hbw2⟩ := kp.out w2 hB2
    go_wp2_with fail
    refine (HS.out _ hB2).mono ?_
    rintro e w3 ⟨rfl, hb3⟩
    have hB3 := below_st hB2 hb3
    clear x0 x1 x2 x3 x4 x5 y0 y1 z0 z1 hbw2
    obtain ⟨⟨x0, x1, x2, x3, x4, x5⟩, ⟨y0, y1⟩, ⟨z0, z1⟩, hbw3⟩ := kp.out w3 hB3
    go_wp2_with fail
    refine (HA.out _).mono ?_
    rintro e w4 ⟨rfl, hb4⟩
    go_wp2_with fail
    go_ret
    exact ⟨rfl, below_st hbx (below_st hB3 hb4)⟩
  subst hz0
  by_cases hnw : 0 < I.nw
  · have hnb : decide (0 < (I.nw : Int)) = true := decide_eq_true (by omega)
    have hnc : decide (0 < I.nw) = true := decide_eq_true hnw
    clear hx hy
    go_enter Try.func11, Try.ntmps11
    go_wp2_with fail
    refine ht.mono ?_
    rw [← hW.out]
    rintro e w1 ⟨rfl, hb1⟩
    obtain ⟨⟨x0, x1, x2, x3, x4, x5⟩, ⟨y0, y1⟩, ⟨z0, z1⟩, hbw1⟩ := kp.out w1 hb1
    go_wp2_with fail
    refine (HA.out _).mono ?_
    rintro e w2 ⟨rfl, hb2⟩
    have hB2 := below_st hb1 hb2
    clear x0 x1 x2 x3 x4 x5 y0 y1 z0 z1 hbw1
    obtain ⟨⟨x0, x1, x2, x3, x4, x5⟩, ⟨y0, y1⟩, ⟨z0, z1⟩, hbw2⟩ := kp.out w2 hB2
    go_wp2_with fail
    refine (HS.out _ hB2).mono ?_
    rintro e w3 ⟨rfl, hb3⟩
    have hB3 := below_st hB2 hb3
    clear x0 x1 x2 x3 x4 x5 y0 y1 z0 z1 hbw2
    obtain ⟨⟨x0, x1, x2, x3, x4, x5⟩, ⟨y0, y1⟩, ⟨z0, z1⟩, hbw3⟩ := kp.out w3 hB3
    go_wp2_with fail
    refine (HA.out _).mono ?_
    rintro e w4 ⟨rfl, hb4⟩
    go_wp2_with fail
    go_ret
    exact ⟨rfl, below_st hbx (below_st hB3 hb4)⟩
  have hnb : decide (0 < (I.nw : Int)) = false := decide_eq_false (by omega)
  have hnc : decide (0 < I.nw) = false := decide_eq_false hnw
  have hsn := snd_of hz.out
  have hal := alone_law hz.out sw po X
  obtain ⟨k1, k2, hk⟩ : ∃ k1 k2, Hid (wnt (alone I) sw po X = (k1, k2)) := ⟨_, _, rfl⟩
  have HU : Hid (∀ V, RowKit.Below W.heap.size W V → Calls Try.prog 29 #[.agg #[.slice r.o I.T.n r.c, .int .i64 I.ten, .slice none 0 0, .slice r.ow I.nw r.cw, .slice r.oe I.ne r.ce, .slice r.oa I.na r.ca], .agg #[.int .i64 sw, .int .i64 po], .agg #[.int .u64 x, .int .u64 y]] V fun e w' => e = .returned (.tuple #[.int .i64 k1, .bool k2]) ∧ RowKit.Below V.heap.size V w') := fun V hV => by
    have := wants_c (HNA.out V hV).alone (I := alone I) ⟨hw.e, hw.w⟩ sw po hx hy
    rw [hk.out] at this
    exact this
  rw [hk.out, hv.out] at hal
  have HAL := Lib.hid hal
  have HX := Lib.hid hx
  have HY := Lib.hid hy
  have HSN := Lib.hid hsn
  clear hal hx hy hsn
  go_enter Try.func11, Try.ntmps11
  go_wp2_with fail
  refine ht.mono ?_
  rw [← hW.out]
  rintro e w1 ⟨rfl, hb1⟩
  clear ht
  obtain ⟨⟨x0, x1, x2, x3, x4, x5⟩, ⟨y0, y1⟩, ⟨z0, z1⟩, hbw1⟩ := kp.out w1 hb1
  go_wp2_with fail
  refine (HA.out _).mono ?_
  rintro e w2 ⟨rfl, hb2⟩
  have hB2 := below_st hb1 hb2
  clear x0 x1 x2 x3 x4 x5 y0 y1 z0 z1 hbw1
  obtain ⟨⟨x0, x1, x2, x3, x4, x5⟩, ⟨y0, y1⟩, ⟨z0, z1⟩, hbw2⟩ := kp.out w2 hB2
  go_wp2_with fail
  refine (HS.out _ hB2).mono ?_
  rintro e w3 ⟨rfl, hb3⟩
  have hB3 := below_st hB2 hb3
  clear x0 x1 x2 x3 x4 x5 y0 y1 z0 z1 hbw2
  obtain ⟨⟨x0, x1, x2, x3, x4, x5⟩, ⟨y0, y1⟩, ⟨z0, z1⟩, hbw3⟩ := kp.out w3 hB3
  have l0 : w.heap.size < w3.heap.size := World.block_lt_of_cell? w3 _ x0
  have l1 : w.heap.size + 1 < w3.heap.size := World.block_lt_of_cell? w3 _ y0
  have l2 : w.heap.size + 1 + 1 < w3.heap.size := World.block_lt_of_cell? w3 _ z0
  have hB4 := below_al hB3 (.cells #[.slice r.o I.T.n r.c, .int .i64 I.ten, .slice none 0 0, .slice r.ow I.nw r.cw, .slice r.oe I.ne r.ce, .slice r.oa I.na r.ca] 56)
  go_wp2_with fail
  refine (HU.out _ hB4).mono ?_
  rintro e w5 ⟨rfl, hb5⟩
  have hB5 := below_st hB4 hb5
  clear x0 x1 x2 x3 x4 x5 y0 y1 z0 z1 hbw3
  clear l0 l1 l2
  obtain ⟨⟨x0, x1, x2, x3, x4, x5⟩, ⟨y0, y1⟩, ⟨z0, z1⟩, hbw5⟩ := kp.out w5 hB5
  go_upto_region 7 with (fail)
  go_cut [74] from 52 to 73 (fun v74 wx => v74 = .bool false ∧ RowKit.Below w5.heap.size w5 wx)
  case first =>
    have x0' := reg_c x0
    have y0' := reg_c y0
    have y1' := reg_c y1
    rcases HAL.out with hal | ⟨k, hk9, he, h1, h2⟩
    · obtain ⟨rfl, rfl⟩ : k1 = 0 ∧ k2 = false := by simpa using hal
      refine wp_region_quiet_below (by kernel_rfl) (by kernel_rfl) ?_; (repeat (go_big_quiet_step (fail))); refine wpQuiet_nil ?_; intro _ hw'; obtain ⟨⟨dq, osq⟩, hw''⟩ := hw'; subst hw''
      go_wp2_with fail
      (go_meet; case rel => exact ⟨rfl, below_regrown w5 dq osq⟩)
    · obtain ⟨rfl, rfl⟩ : k1 = (k : Int) ∧ k2 = true := by simpa using h1
      obtain ⟨rfl, rfl⟩ : v1 = (k : Int) ∧ v2 = true := by simpa using h2
      obtain ⟨hnc9, hcm9, bq, off, ho9, hx9⟩ := (HNA.out w5 hB5).en
      have ho' := Lib.hid (ho9 (by omega))
      have e0 : w5.cell? ⟨bq, off + k * 4, none⟩ = some (.int .i64 (I.en k).ten) := hx9 k 0 hk9 (by decide)
      clear ho9 hx9
      rw [ho'.out] at x4
      have x4' := reg_c x4
      have HE : Hid (∀ V, RowKit.Below W.heap.size W V → Calls Try.prog 31 #[.agg #[.slice r.o I.T.n r.c], .agg #[.int .i64 sw, .int .i64 po]] V fun e w' => e = .returned (.int .i64 (I.en k).ten) ∧ RowKit.Below V.heap.size V w') := fun V hV => by
        have := redge_c (HNA.out V hV).ta sw po
        rw [he] at this
        exact this
      clear he h1 h2 hk hv HU HT HS HA
      generalize (I.en k).ten = tn at e0 HE
      have htt : (tn != tn) = false := by simp
      have hkk : ((k : Int) != (k : Int)) = false := by simp
      have hkI : (k : Int) < (I.ne : Int) := by omega
      have hEq := fun p : Regrown => HE.out (Sort.grow (redrawn w5 p.d) p.os) (below_st hB5 (below_regrown w5 p.d p.os))
      have HEq := Lib.hid hEq
      clear hEq
      have e0' := reg_c e0
      refine wp_region_quiet_below (by kernel_rfl) (by kernel_rfl) ?_; (repeat (go_big_quiet_step ((first | (go_at_call 31; exact Calls.regrown_of (HEq.out _)))))); refine wpQuiet_nil ?_; intro _ hw'; obtain ⟨⟨dq, osq⟩, hw''⟩ := hw'; subst hw''
      go_wp2_with fail
      (go_meet; case rel => exact ⟨rfl, below_regrown w5 dq osq⟩)
  case rest =>
    obtain ⟨rfl, hbc⟩ := hcut
    rename_i Kc hKc
    refine hKc _ _ ?_
    clear hKc x0 x1 x2 x3 x4 x5 y0 y1 z0 z1 hbw5 HU hk
    have hBm := below_st hB5 hbc
    refine wp_world (fun W1 => W1 = wc) rfl ?_
    rintro Wm rfl
    obtain ⟨⟨x0, x1, x2, x3, x4, x5⟩, ⟨y0, y1⟩, ⟨z0, z1⟩, hbwm⟩ := kp.out Wm hBm
    have l0 : w.heap.size < Wm.heap.size := World.block_lt_of_cell? Wm _ x0
    go_upto_region 11 with (fail)
    obtain ⟨W8, hW8⟩ : ∃ V, Hid (V = Wm.alloc (.cells #[.slice r.o I.T.n r.c, .int .i64 I.ten, .slice r.op I.np r.cp, .slice r.ow I.nw r.cw, .slice r.oe I.ne r.ce, .slice r.oa I.na r.ca] 56)) := ⟨_, rfl⟩
    have hm8 : W8.heap[Wm.heap.size]? = some (.cells #[.slice r.o I.T.n r.c, .int .i64 I.ten, .slice r.op I.np r.cp, .slice r.ow I.nw r.cw, .slice r.oe I.ne r.ce, .slice r.oa I.na r.ca] 56 (0, 0)) := by rw [hW8.out]; exact heap_alloc_new Wm _
    have hb8 : RowKit.Below Wm.heap.size Wm W8 := by rw [hW8.out]; exact below_al (Below.refl _ _) _
    have hs8 : W8.heap.size = Wm.heap.size + 1 := by rw [hW8.out]; simp
    rw [← hW8.out]
    have ht1 : 1 ≤ I.ten ∧ I.ten ≤ 4 := by
      have h2 := HSN.out.sizes
      unfold sizesB at h2
      rw [Bool.and_eq_true, decide_eq_true_eq] at h2
      exact ⟨h2.1.1, h2.1.2.1⟩
    go_cut [96] from 79 to 95 (fun v96 wx => ∃ o' c', (wx.cell? ⟨Wm.heap.size, 0, none⟩ = some (.slice r.o I.T.n r.c) ∧ wx.cell? ⟨Wm.heap.size, 1, none⟩ = some (.int .i64 I.ten) ∧ wx.cell? ⟨Wm.heap.size, 2, none⟩ = some (.slice o' (I.np + 1) c') ∧ wx.cell? ⟨Wm.heap.size, 3, none⟩ = some (.slice r.ow I.nw r.cw) ∧ wx.cell? ⟨Wm.heap.size, 4, none⟩ = some (.slice r.oe I.ne r.ce) ∧ wx.cell? ⟨Wm.heap.size, 5, none⟩ = some (.slice r.oa I.na r.ca)) ∧ Rw wx o' (I.np + 1) c' 2 (cvP fun k => if k < I.np then I.pe k else (a.tmod I.ten, b.tmod I.ten)) ∧ RowKit.Below Wm.heap.size Wm wx)
    case first =>
      have KS : Hid (∀ V, RowKit.Below Wm.heap.size Wm V → V.cell? ⟨w.heap.size, 2, none⟩ = some (.slice r.op I.np r.cp)) := fun V hV => cell_below hV x2
      have KR : Hid (∀ V, RowKit.Below Wm.heap.size Wm V → Rw V r.op I.np r.cp 2 (cvP I.pe)) := fun V hV => (HNA.out V (below_st hBm hV)).pe
      have UP : Hid (∀ V, RowKit.Below W8.heap.size W8 V → RowKit.Below Wm.heap.size Wm V) := fun V hV => below_st hb8 (hV.mono (Nat.le_refl _))
      obtain ⟨i0, hi, hz0, hz1, hz2⟩ := info_parts inf70
      have hnp := HSN.out.np
      have hp1 : I.np ≤ maxLen := by simp only [maxLen]; omega
      have hp2 : I.np + 1 ≤ maxLen := by simp only [maxLen]; omega
      clear HNA HT HS HA kp x0 x1 x2 x3 x4 x5 y0 y1 z0 z1
      have hq1 : I.np * 16 ≤ 140737488355328 := by omega
      have hq2 : (I.np + 1) * 16 ≤ 140737488355328 := by omega
      have ht0 : ¬ I.ten = 0 := by omega
      have htb : (I.ten == 0) = false := by simpa using ht0
      obtain ⟨wa1, wa2⟩ : 0 ≤ a ∧ a < 256 := by
        simp [Lit.wf, IntKind.min, IntKind.max, IntKind.signed, IntKind.bits] at wa
        omega
      obtain ⟨wb1, wb2⟩ : 0 ≤ b ∧ b < 256 := by
        simp [Lit.wf, IntKind.min, IntKind.max, IntKind.signed, IntKind.bits] at wb
        omega
      have hwa := wrap_small wa1 wa2
      have hwb := wrap_small wb1 wb2
      go_region_held_law (fun w' => w'.cell? ⟨w.heap.size, 2, none⟩ = some (.slice r.op I.np r.cp)) (first | (exact KS.out _ (Below.setCell (UP.out _ hbA) (Nat.le_refl _) _)) | (exact KS.out _ (UP.out _ (by (repeat (first | exact Below.refl _ _ | exact hbA | refine below_dr ?_ | refine below_al ?_ _))))))
        (first
          | (refine step_app_first rfl (.tmp 79) (.tmp 82) 49 rfl W8 70 i0 (.agg #[.int .i64 0, .int .i64 0]) 2 16 und49 hi hz0 hz1 hz2 rfl (by decide) W8.heap.size (by simp [Act.eval, Act.put]) r.op I.np r.cp (cvP I.pe) (by simp [Act.eval, Act.put]) 83 rfl ?_ (by omega) ?_ ?_ (cvP_one _) hp1 hq1 ?_; (focus (first | exact heap_alloc_new _ _ | exact heap_new1 _ _ _)); (focus (repeat (first | exact Below.refl _ _ | exact hbA | refine below_dr ?_ | refine below_al ?_ _))); (focus (exact KR.out _ (UP.out _ (by (repeat (first | exact Below.refl _ _ | exact hbA | refine below_dr ?_ | refine below_al ?_ _)))))); intro o1 c1 w1 hown1 hbA hfr1 hsz1)
          | (refine step_app_first rfl (.tmp 79) (.tmp 82) 49 rfl W8 70 i0 (.agg #[.int .i64 0, .int .i64 0]) 2 16 und49 hi hz0 hz1 hz2 rfl (by decide) (W8.heap.size + 1) (by simp [Act.eval, Act.put]) r.op I.np r.cp (cvP I.pe) (by simp [Act.eval, Act.put]) 83 rfl ?_ (by omega) ?_ ?_ (cvP_one _) hp1 hq1 ?_; (focus (exact heap_new2 _ _ _)); (focus (repeat (first | exact Below.refl _ _ | exact hbA | refine below_dr ?_ | refine below_al ?_ _))); (focus (exact KR.out _ (UP.out _ (by (repeat (first | exact Below.refl _ _ | exact hbA | refine below_dr ?_ | refine below_al ?_ _)))))); intro o1 c1 w1 hown1 hbA hfr1 hsz1)
          | (refine step_app_last rfl (.tmp 83) (.tmp 93) 49 rfl W8 70 i0 (.agg #[.int .i64 0, .int .i64 0]) 2 16 und49 hi hz0 hz1 hz2 rfl (by decide) I.np o1 c1 (flatR (cvP I.pe) 2 I.np) (by simp [Act.eval, Act.put]) w1.heap.size (by simp [Act.eval, Act.put]) #[.int .i64 (a.tmod I.ten), .int .i64 (b.tmod I.ten)] 70 (0, 0) 94 rfl ?_ rfl (by intro u hu; simp at hu; rcases hu with rfl | rfl <;> rfl) ?_ ?_ hp2 hq2 ?_; (focus (exact heap_alloc_new _ _)); (focus (first | exact own_al hown1 _ | exact hown1)); (focus (repeat (first | exact Below.refl _ _ | exact hbA | refine below_dr ?_ | refine below_al ?_ _))); intro o2 c2 w2 hown2 hbA hsz2; have hm2 := (hbA.block Wm.heap.size (by omega)).trans hm8; have m2 := (cell_b (o := 2) hm2).trans rfl; have mf : w2.frozen? ⟨Wm.heap.size, 2, none⟩ = false := by simp [World.frozen?, hm2])
          | (refine step_app_last rfl (.tmp 83) (.tmp 93) 49 rfl W8 70 i0 (.agg #[.int .i64 0, .int .i64 0]) 2 16 und49 hi hz0 hz1 hz2 rfl (by decide) I.np o1 c1 (flatR (cvP I.pe) 2 I.np) (by simp [Act.eval, Act.put]) (W8.heap.size + 1) (by simp [Act.eval, Act.put]) #[.int .i64 (a.tmod I.ten), .int .i64 (b.tmod I.ten)] 70 (0, 0) 94 rfl ?_ rfl (by intro u hu; simp at hu; rcases hu with rfl | rfl <;> rfl) ?_ ?_ hp2 hq2 ?_; (focus (exact (hfr1 _ (by omega) (by simp)).trans (heap_new2 _ _ _))); (focus (first | exact own_al hown1 _ | exact hown1)); (focus (repeat (first | exact Below.refl _ _ | exact hbA | refine below_dr ?_ | refine below_al ?_ _))); intro o2 c2 w2 hown2 hbA hsz2; have hm2 := (hbA.block Wm.heap.size (by omega)).trans hm8; have m2 := (cell_b (o := 2) hm2).trans rfl; have mf : w2.frozen? ⟨Wm.heap.size, 2, none⟩ = false := by simp [World.frozen?, hm2])
          | (refine step_app_last rfl (.tmp 83) (.tmp 93) 49 rfl W8 70 i0 (.agg #[.int .i64 0, .int .i64 0]) 2 16 und49 hi hz0 hz1 hz2 rfl (by decide) I.np o1 c1 (flatR (cvP I.pe) 2 I.np) (by simp [Act.eval, Act.put]) W8.heap.size (by simp [Act.eval, Act.put]) #[.int .i64 (a.tmod I.ten), .int .i64 (b.tmod I.ten)] 70 (0, 0) 94 rfl ?_ rfl (by intro u hu; simp at hu; rcases hu with rfl | rfl <;> rfl) ?_ ?_ hp2 hq2 ?_; (focus (exact (hfr1 _ (by omega) (by simp <;> omega)).trans (heap_new1 _ _ _))); (focus (first | exact own_al hown1 _ | exact hown1)); (focus (repeat (first | exact Below.refl _ _ | exact hbA | refine below_dr ?_ | refine below_al ?_ _))); intro o2 c2 w2 hown2 hbA hsz2; have hm2 := (hbA.block Wm.heap.size (by omega)).trans hm8; have m2 := (cell_b (o := 2) hm2).trans rfl; have mf : w2.frozen? ⟨Wm.heap.size, 2, none⟩ = false := by simp [World.frozen?, hm2]))
      all_goals
        have hm3 := sc_at9 (o := 2) (v := .slice o2 (I.np + 1) c2) hm2
        have hown3 := own_sc hown2 (b := Wm.heap.size) (o := 2) (by omega) (.slice o2 (I.np + 1) c2)
        have hbF : RowKit.Below Wm.heap.size Wm (w2.setCell ⟨Wm.heap.size, 2, none⟩ (.slice o2 (I.np + 1) c2)) := Below.setCell (UP.out _ hbA) (Nat.le_refl _) _
        have hrw := own_rw (cv := cvP fun k => if k < I.np then I.pe k else (a.tmod I.ten, b.tmod I.ten)) hown3 (flat_snoc rfl (fun i k hi _ => by simp [cvP, hi]) (fun k hk => by
          have : k = 0 ∨ k = 1 := by omega
          rcases this with rfl | rfl <;> simp [cvP]))
        clear hm2 m2 mf hown2 hown3 hown1 hfr1 hsz1 hsz2 KS KR UP hi hz0 hz1 hz2
        go_wp2_with fail
        (go_meet; case rel => exact ⟨o2, c2, ⟨(cell_b hm3).trans rfl, (cell_b hm3).trans rfl, (cell_b hm3).trans rfl, (cell_b hm3).trans rfl, (cell_b hm3).trans rfl, (cell_b hm3).trans rfl⟩, hrw, hbF⟩)
    case rest =>
      obtain ⟨o', c', ⟨m0, m1, m2, m3, m4, m5⟩, hrw, hbd⟩ := hcut
      rename_i Kd hKd
      refine hKd _ _ ?_
      clear hKd x0 x1 x2 x3 x4 x5 y0 y1 z0 z1 hbwm l0 hm8 hb8 hs8 hW8
      have hB9 := below_st hBm hbd
      refine wp_world (fun W1 => W1 = wc) rfl ?_
      rintro W9 rfl
      obtain ⟨⟨x0, x1, x2, x3, x4, x5⟩, ⟨y0, y1⟩, ⟨z0, z1⟩, hbw9⟩ := kp.out W9 hB9
      obtain ⟨wa1, wa2⟩ : 0 ≤ a ∧ a < 256 := by
        simp [Lit.wf, IntKind.min, IntKind.max, IntKind.signed, IntKind.bits] at wa
        omega
      obtain ⟨wb1, wb2⟩ : 0 ≤ b ∧ b < 256 := by
        simp [Lit.wf, IntKind.min, IntKind.max, IntKind.signed, IntKind.bits] at wb
        omega
      have hta : tenB I.ten (a.tmod I.ten) = true := by
        unfold tenB
        rw [Int.tmod_eq_emod_of_nonneg wa1]
        exact decide_eq_true ⟨Int.emod_nonneg _ (by omega), Int.emod_lt_of_pos _ (by omega)⟩
      have htb : tenB I.ten (b.tmod I.ten) = true := by
        unfold tenB
        rw [Int.tmod_eq_emod_of_nonneg wb1]
        exact decide_eq_true ⟨Int.emod_nonneg _ (by omega), Int.emod_lt_of_pos _ (by omega)⟩
      obtain ⟨M, hM⟩ : ∃ M, Hid (M = more I (a.tmod I.ten) (b.tmod I.ten)) := ⟨_, rfl⟩
      have hna9 := HNA.out W9 hB9
      have hNM : NA W9 { r with op := o', cp := c' } M := by rw [hM.out]; exact ⟨hna9.ta, hrw, hna9.wy, hna9.en, hna9.ac⟩
      have hwm := wants_c hNM (by rw [hM.out]; exact ⟨hw.e, hw.w⟩) sw po HX.out HY.out
      have hmc : Hid (M.cells { r with op := o', cp := c' } = #[.slice r.o I.T.n r.c, .int .i64 I.ten, .slice o' (I.np + 1) c', .slice r.ow I.nw r.cw, .slice r.oe I.ne r.ce, .slice r.oa I.na r.ca]) := by
        show M.cells _ = _
        rw [hM.out]; rfl
      rw [hmc.out] at hwm
      have hml := fun hn => more_law hz.out sw po X hta htb hn
      rw [← hM.out, hv.out] at hml
      obtain ⟨p1, p2, hp⟩ : ∃ p1 p2, Hid (wnt M sw po X = (p1, p2)) := ⟨_, _, rfl⟩
      rw [hp.out] at hwm hml
      have hnp := HSN.out.np
      have HML := Lib.hid hml
      clear hml HSN hta htb hna9 hNM hmc hrw HNA HT HS HA hv hz hw hM hp
      by_cases h16 : 16 < I.np + 1
      · have h1 : decide (16 < I.np + 1) = true := decide_eq_true h16
        have h2 : decide ((16 : Int) < ((I.np + 1 : Nat) : Int)) = true := decide_eq_true (by omega)
        have h3 : decide ((16 : Int) < (I.np : Int) + 1) = true := decide_eq_true (by omega)
        go_wp2_with fail
        refine hwm.mono ?_
        rintro e w10 ⟨rfl, hb10⟩
        have n2 := cell_below hb10 m2
        have hbF := (kp.out w10 (below_st hB9 hb10)).2.2.2
        clear m0 m1 m2 m3 m4 m5 x0 x1 x2 x3 x4 x5 y0 y1 z0 z1 kp
        go_wp2_with fail
        go_ret
        exact ⟨rfl, hbF⟩
      have h1 : decide (16 < I.np + 1) = false := decide_eq_false h16
      have h2 : decide ((16 : Int) < ((I.np + 1 : Nat) : Int)) = false := decide_eq_false (by omega)
      have h3 : decide ((16 : Int) < (I.np : Int) + 1) = false := decide_eq_false (by omega)
      have hq := HML.out (by omega)
      clear HML
      rcases hq with hq | hq
      · obtain ⟨rfl, rfl⟩ : v1 = 0 ∧ v2 = false := by simpa using hq
        clear hq
        go_wp2_with fail
        refine hwm.mono ?_
        rintro e w10 ⟨rfl, hb10⟩
        have n2 := cell_below hb10 m2
        have hbF := (kp.out w10 (below_st hB9 hb10)).2.2.2
        clear m0 m1 m2 m3 m4 m5 x0 x1 x2 x3 x4 x5 y0 y1 z0 z1 kp
        go_wp2_with fail
        go_ret
        exact ⟨rfl, hbF⟩
      · obtain ⟨rfl, rfl⟩ : p1 = v1 ∧ p2 = v2 := by simpa using hq
        clear hq
        have hpp : (p1 == p1) = true := by simp
        cases p2 with
        | true =>
          go_wp2_with fail
          refine hwm.mono ?_
          rintro e w10 ⟨rfl, hb10⟩
          have n2 := cell_below hb10 m2
          have hbF := (kp.out w10 (below_st hB9 hb10)).2.2.2
          clear m0 m1 m2 m3 m4 m5 x0 x1 x2 x3 x4 x5 y0 y1 z0 z1 kp
          go_wp2_with fail
          go_ret
          exact ⟨rfl, hbF⟩
        | false =>
          go_wp2_with fail
          refine hwm.mono ?_
          rintro e w10 ⟨rfl, hb10⟩
          have n2 := cell_below hb10 m2
          have hbF := (kp.out w10 (below_st hB9 hb10)).2.2.2
          clear m0 m1 m2 m3 m4 m5 x0 x1 x2 x3 x4 x5 y0 y1 z0 z1 kp
          go_wp2_with fail
          go_ret
          exact ⟨rfl, hbF⟩
end Go.Proofs.Ytgebehnlfihliaa
