/- Intent: the document's Sound. -/
import Derived.Test.YtgebehnlfihliaaIn8
import Derived.Test.YtgebehnlfihliaaIn7
import Derived.Test.YtgebehnlfihliaaIText
namespace Go.Proofs.Ytgebehnlfihliaa.Hd
open Go.RowKit Go.Sort Go.Maps
set_option linter.unusedSimpArgs false
set_option linter.unusedVariables false
set_option maxRecDepth 100000
attribute [local go_sem ↓] execOp_ld33 execOp_st33
theorem acl_bits (V C : BitVec 128) : aclB V C = (cubeOk V C && allB (fun m => !C.getLsbD (88 + m)) 40) := by
  unfold aclB
  congr 1
  have key : ∀ i, (C &&& ~~~(Plain.low (88 : Int).toNat <<< (0 : Int).toNat)).getLsbD i = (C.getLsbD i && (decide (i < 128) && !decide (i < 88))) := by
    intro i
    simp only [BitVec.getLsbD_and, BitVec.getLsbD_not, BitVec.getLsbD_shiftLeft, Plain.low_bit]
    by_cases h : i < 128 <;> simp [h]
  by_cases h : allB (fun m => !C.getLsbD (88 + m)) 40 = true
  · rw [h, decide_eq_true_eq]
    apply BitVec.eq_of_getLsbD_eq
    intro i hi
    rw [key i]
    by_cases h1 : i < 88
    · simp [h1]
    · unfold allB at h
      rw [List.all_eq_true] at h
      have := h (i - 88) (by rw [List.mem_range]; omega)
      rw [show 88 + (i - 88) = i by omega] at this
      simp at this
      simp [this]
  · rw [Bool.not_eq_true] at h
    rw [h, decide_eq_false_iff_not]
    intro h2
    have : allB (fun m => !C.getLsbD (88 + m)) 40 = true := all_t (fun m hm => by
      have := key (88 + m)
      rw [h2] at this
      have h3 : ¬ 88 + m < 88 := by omega
      have h4 : 88 + m < 128 := by omega
      simp only [h3, h4, decide_true, decide_false, Bool.not_false, Bool.and_true, BitVec.getLsbD_zero] at this
      simp [← this])
    rw [this] at h
    cases h
theorem soundI_pol {I : In} (hz : soundE I.T = 0) (hn : I.ne ≤ 10 ∧ I.na ≤ 8) :
    soundI I = if polE I ≠ 0 then polE I else if allB (endsB I) I.ne = false then 2 else if allB (aclsB I) I.na = false then 2 else if dupB (qE I) I.ne = true then 8 else if dupB (qW I) I.nw = true then 8 else 0 := by
  have hs : sizesB I = (szB I && allB (edB I) (edgs I.T I.T.n).length) := by
    unfold sizesB szB edgesB
    congr 1
    rw [decide_eq_decide]
    omega
  unfold soundI polE formB
  rw [if_neg (by rw [hz]; simp), hs]
  cases szB I <;> cases allB (edB I) (edgs I.T I.T.n).length <;> cases allB (pairsB I) I.np <;> cases allB (waysB I) I.nw <;> cases allB (endsB I) I.ne <;> cases allB (aclsB I) I.na <;> simp
theorem soundI_many {I : In} (hz : soundE I.T = 0) (hn : ¬ (I.ne ≤ 10 ∧ I.na ≤ 8)) : soundI I = 4 := by
  unfold soundI
  rw [if_neg (by rw [hz]; simp), if_pos]
  unfold sizesB
  rw [Bool.and_eq_false_iff]
  left
  exact decide_eq_false (fun h => hn (by omega))
set_option maxHeartbeats 16000000 in
theorem risound_c {r : Ir} {I : In} {w : World} (h : NA w r I) :
    Calls Try.prog 26 #[.agg (I.cells r)] w fun e w' => e = .returned (.int .i64 (soundI I)) ∧ RowKit.Below w.heap.size w w' := by
  have ic : Hid (I.cells r = #[.slice r.o I.T.n r.c, .int .i64 I.ten, .slice r.op I.np r.cp, .slice r.ow I.nw r.cw, .slice r.oe I.ne r.ce, .slice r.oa I.na r.ca]) := rfl
  rw [ic.out]
  have hbx : RowKit.Below w.heap.size w (w.alloc (.cells #[.slice r.o I.T.n r.c, .int .i64 I.ten, .slice r.op I.np r.cp, .slice r.ow I.nw r.cw, .slice r.oe I.ne r.ce, .slice r.oa I.na r.ca] 56)) := (Below.refl w.heap.size w).alloc (Nat.le_refl _) _
  have kp : Hid (∀ V, RowKit.Below (w.alloc (.cells #[.slice r.o I.T.n r.c, .int .i64 I.ten, .slice r.op I.np r.cp, .slice r.ow I.nw r.cw, .slice r.oe I.ne r.ce, .slice r.oa I.na r.ca] 56)).heap.size (w.alloc (.cells #[.slice r.o I.T.n r.c, .int .i64 I.ten, .slice r.op I.np r.cp, .slice r.ow I.nw r.cw, .slice r.oe I.ne r.ce, .slice r.oa I.na r.ca] 56)) V →
      (V.cell? ⟨w.heap.size, 0, none⟩ = some (.slice r.o I.T.n r.c) ∧ V.cell? ⟨w.heap.size, 1, none⟩ = some (.int .i64 I.ten) ∧ V.cell? ⟨w.heap.size, 2, none⟩ = some (.slice r.op I.np r.cp) ∧ V.cell? ⟨w.heap.size, 3, none⟩ = some (.slice r.ow I.nw r.cw) ∧ V.cell? ⟨w.heap.size, 4, none⟩ = some (.slice r.oe I.ne r.ce) ∧ V.cell? ⟨w.heap.size, 5, none⟩ = some (.slice r.oa I.na r.ca)) ∧ RowKit.Below w.heap.size w V) := by
    intro V hV
    have b0 := heap_alloc_new w (.cells #[.slice r.o I.T.n r.c, .int .i64 I.ten, .slice r.op I.np r.cp, .slice r.ow I.nw r.cw, .slice r.oe I.ne r.ce, .slice r.oa I.na r.ca] 56)
    exact ⟨⟨cell_below hV ((cell_b b0).trans rfl), cell_below hV ((cell_b b0).trans rfl), cell_below hV ((cell_b b0).trans rfl), cell_below hV ((cell_b b0).trans rfl), cell_below hV ((cell_b b0).trans rfl), cell_below hV ((cell_b b0).trans rfl)⟩, hbx.trans (hV.mono hbx.size)⟩
  obtain ⟨z, hz⟩ : ∃ z, Hid (soundE I.T = z) := ⟨_, rfl⟩
  have hc1 := rsound_c (h.ta.below hbx)
  rw [hz.out] at hc1
  by_cases hz0 : z = 0
  rotate_left
  · have hzb : (z != 0) = true := by simpa using hz0
    have hr : Hid (soundI I = z) := by show soundI I = z; unfold soundI; rw [hz.out, if_pos hz0]
    go_enter Try.func26, Try.ntmps26
    go_wp2_with fail
    refine hc1.mono ?_
    rintro e w1 ⟨rfl, hb1⟩
    have hb := (kp.out w1 hb1).2
    go_wp2_with fail
    go_ret
    exact ⟨by rw [hr.out]; rfl, hb⟩
  subst hz0
  have hsum := sd_sum (sd_of hz.out)
  by_cases hn : I.ne ≤ 10 ∧ I.na ≤ 8
  rotate_left
  · have hr := Lib.hid (soundI_many hz.out hn)
    rw [hr.out]
    by_cases n1 : 10 < I.ne
    · have n1b : decide (10 < (I.ne : Int)) = true := decide_eq_true (by omega)
      have n1c : decide (10 < I.ne) = true := decide_eq_true n1
      go_enter Try.func26, Try.ntmps26
      go_wp2_with fail
      refine hc1.mono ?_
      rintro e w1 ⟨rfl, hb1⟩
      obtain ⟨⟨x0, x1, x2, x3, x4, x5⟩, hbw1⟩ := kp.out w1 hb1
      go_wp2_with fail
      go_ret
      exact ⟨rfl, hbw1⟩
    · have n1b : decide (10 < (I.ne : Int)) = false := decide_eq_false (by omega)
      have n1c : decide (10 < I.ne) = false := decide_eq_false n1
      have n2b : decide (8 < (I.na : Int)) = true := decide_eq_true (by omega)
      have n2c : decide (8 < I.na) = true := decide_eq_true (by omega)
      go_enter Try.func26, Try.ntmps26
      go_wp2_with fail
      refine hc1.mono ?_
      rintro e w1 ⟨rfl, hb1⟩
      obtain ⟨⟨x0, x1, x2, x3, x4, x5⟩, hbw1⟩ := kp.out w1 hb1
      go_wp2_with fail
      go_ret
      exact ⟨rfl, hbw1⟩
  have n1b : decide (10 < (I.ne : Int)) = false := decide_eq_false (by omega)
  have n1c : decide (10 < I.ne) = false := decide_eq_false (by omega)
  have n2b : decide (8 < (I.na : Int)) = false := decide_eq_false (by omega)
  have n2c : decide (8 < I.na) = false := decide_eq_false (by omega)
  have hr := Lib.hid (soundI_pol hz.out hn)
  obtain ⟨p, hp⟩ : ∃ p, Hid (polE I = p) := ⟨_, rfl⟩
  rw [hp.out] at hr
  go_enter Try.func26, Try.ntmps26
  go_wp2_with fail
  refine hc1.mono ?_
  rintro e w1 ⟨rfl, hb1⟩
  obtain ⟨⟨x0, x1, x2, x3, x4, x5⟩, hbw1⟩ := kp.out w1 hb1
  have hc2 := rpolicy_c (h.below hbw1) hsum
  rw [hp.out] at hc2
  go_wp2_with fail
  refine hc2.mono ?_
  rintro e w2 ⟨rfl, hb2⟩
  have hB2 := hb1.trans (hb2.mono hb1.size)
  clear hc1 hc2 x0 x1 x2 x3 x4 x5 n1b n1c n2b n2c
  obtain ⟨⟨x0, x1, x2, x3, x4, x5⟩, hbw2⟩ := kp.out w2 hB2
  by_cases hp0 : p = 0
  rotate_left
  · have hpb : (p != 0) = true := by simpa using hp0
    have hr2 : Hid (soundI I = p) := by show soundI I = p; rw [hr.out, if_pos hp0]
    go_wp2_with fail
    go_ret
    exact ⟨by rw [hr2.out]; rfl, hbw2⟩
  subst hp0
  have hr2 : Hid (soundI I = if allB (endsB I) I.ne = false then 2 else if allB (aclsB I) I.na = false then 2 else if dupB (qE I) I.ne = true then 8 else if dupB (qW I) I.nw = true then 8 else 0) := by
    show soundI I = _
    rw [hr.out, if_neg (by simp)]
  clear hr
  have hkp := fun V hV => kp.out V (hB2.trans (Below.mono hV hB2.size))
  have KP := Lib.hid hkp
  clear hkp kp
  have hne := hn.1
  have hna := hn.2
  have hnw : I.nw ≤ 1000000 := by
    by_cases hh : I.nw ≤ 4
    · omega
    · have : szB I = false := decide_eq_false (fun h => hh h.2.2.2)
      have h2 := hp.out
      unfold polE at h2
      rw [if_pos this] at h2
      cases h2
  clear hn hb1 hb2 hbx hbw1
  go_wp2_with fail
  clear x0 x1 x2 x3 x4 x5
  refine wp_world (fun W => W = w2) rfl ?_
  rintro W rfl
  go_loopw [4] (fun v4 wr => ∃ i : Nat, v4 = .int .i64 (i : Int) ∧ i ≤ I.ne ∧ RowKit.Below W.heap.size W wr ∧ ∀ j, j < i → endsB I j = true) (fun v4 _ => I.ne - (intOf v4).toNat)
  case atStart => exact ⟨0, rfl, Nat.zero_le _, Below.refl _ _, fun j hj => by omega⟩
  case round =>
    obtain ⟨i, rfl, hi, hbr, hall⟩ := hrel
    have HALL := Lib.hid hall
    clear hall
    obtain ⟨⟨x0, x1, x2, x3, x4, x5⟩, hbwr⟩ := KP.out wr hbr
    by_cases hil : i < I.ne
    · have hiI : (i : Int) < (I.ne : Int) := by omega
      obtain ⟨hnc, hcm, b, off, ho, hx⟩ := h.en.below hbwr
      have ho' := ho (by omega)
      have e0 : wr.cell? ⟨b, off + i * 4, none⟩ = some (.int .i64 (I.en i).ten) := hx i 0 hil (by decide)
      have e2 : wr.cell? ⟨b, off + i * 4 + 2, none⟩ = some (.int .i64 (I.en i).sw) := hx i 2 hil (by decide)
      have e3 : wr.cell? ⟨b, off + i * 4 + 3, none⟩ = some (.int .i64 (I.en i).po) := hx i 3 hil (by decide)
      clear hx ho
      rw [ho'] at x4
      have HO' := Lib.hid ho'
      clear ho'
      have hD := fun p : Regrown => redge_c ((h.ta.below hbwr).below (below_regrown wr p.d p.os)) (I.en i).sw (I.en i).po
      obtain ⟨s, hs⟩ : ∃ s, Hid (edgeF I.T (I.en i).sw (I.en i).po = s) := ⟨_, rfl⟩
      have hq : Hid (endsB I i = decide (0 ≤ (I.en i).ten ∧ s = (I.en i).ten)) := by
        show endsB I i = _
        unfold endsB endB
        rw [hs.out]
      rw [hs.out] at hD
      have HD := Lib.hid hD
      clear hD
      have hfin : Hid (endsB I i = false → soundI I = 2) := fun hh => by rw [hr2.out, if_pos (all_f hil hh)]
      have hnext : Hid (endsB I i = true → ∀ j, j < i + 1 → endsB I j = true) := fun hh j hj => by
        by_cases e : j = i
        · subst e; exact hh
        · exact HALL.out j (by omega)
      generalize (I.en i).ten = tn at e0 hq
      generalize (I.en i).sw = sw at e2 HD
      generalize (I.en i).po = po at e3 HD
      have x0' := reg_c x0
      have x4' := reg_c x4
      have e0' := reg_c e0
      have e2' := reg_c e2
      have e3' := reg_c e3
      go_upto_region 12 with (fail)
      by_cases t1 : tn < 0
      · have t1b : decide (tn < 0) = true := decide_eq_true t1
        refine wp_region_quiet_below (by kernel_rfl) (by kernel_rfl) ?_; (repeat (go_big_quiet_step ((first | (go_at_call 31; exact Calls.regrown_of (HD.out _)))))); refine wpQuiet_nil ?_; intro _ hw'; obtain ⟨⟨dq, osq⟩, hw''⟩ := hw'; subst hw''
        have HF := Lib.hid (hfin.out (by rw [hq.out]; exact decide_eq_false (fun hh => by omega)))
        go_wp2_with fail
        go_ret
        exact ⟨by rw [HF.out]; rfl, hbwr.trans ((below_regrown wr dq osq).mono hbwr.size)⟩
      have t1b : decide (tn < 0) = false := decide_eq_false t1
      by_cases t2 : s = tn
      · have t2b : (s != tn) = false := by simpa using t2
        have HF := Lib.hid (hnext.out (by rw [hq.out]; exact decide_eq_true ⟨by omega, t2⟩))
        clear t2
        refine wp_region_quiet_below (by kernel_rfl) (by kernel_rfl) ?_; (repeat (go_big_quiet_step ((first | (go_at_call 31; exact Calls.regrown_of (HD.out _)))))); refine wpQuiet_nil ?_; intro _ hw'; obtain ⟨⟨dq, osq⟩, hw''⟩ := hw'; subst hw''
        go_wp2_with fail
        go_roundw
        case rel => exact ⟨i + 1, by go_num, by omega, hbr.trans ((below_regrown wr dq osq).mono hbr.size), HF.out⟩
        case measure => simp [intOf] <;> omega
      · have t2b : (s != tn) = true := by simpa using t2
        have HF := Lib.hid (hfin.out (by rw [hq.out]; exact decide_eq_false (fun hh => t2 hh.2)))
        clear t2
        refine wp_region_quiet_below (by kernel_rfl) (by kernel_rfl) ?_; (repeat (go_big_quiet_step ((first | (go_at_call 31; exact Calls.regrown_of (HD.out _)))))); refine wpQuiet_nil ?_; intro _ hw'; obtain ⟨⟨dq, osq⟩, hw''⟩ := hw'; subst hw''
        go_wp2_with fail
        go_ret
        exact ⟨by rw [HF.out]; rfl, hbwr.trans ((below_regrown wr dq osq).mono hbwr.size)⟩
    · have hie : i = I.ne := by omega
      subst hie
      have hr3 : Hid (soundI I = if allB (aclsB I) I.na = false then 2 else if dupB (qE I) I.ne = true then 8 else if dupB (qW I) I.nw = true then 8 else 0) := by
        show soundI I = _
        rw [hr2.out, if_neg]
        rw [all_t HALL.out]
        simp
      clear hr2 HALL
      go_wp2_with fail
      obtain ⟨V0, hV0⟩ : ∃ V0, Hid (V0 = wr) := ⟨_, rfl⟩
      refine wp_world (fun W1 => W1 = V0) hV0.out.symm ?_
      rw [← hV0.out] at hbr
      clear x0 x1 x2 x3 x4 x5 hbwr
      rintro W1 rfl
      go_loopw [5, 6, 7, 8, 9] (fun v5 v6 v7 v8 v9 wr => ∃ k : Nat, v5 = .int .i64 (k : Int) ∧ k ≤ I.na ∧ RowKit.Below W.heap.size W wr ∧ ∀ j, j < k → aclsB I j = true) (fun v5 _ _ _ _ _ => I.na - (intOf v5).toNat)
      case atStart => exact ⟨0, rfl, Nat.zero_le _, hbr, fun j hj => by omega⟩
      case round =>
        obtain ⟨k, rfl, hk, hbr, hall⟩ := hrel
        have HALL := Lib.hid hall
        clear hall
        obtain ⟨⟨x0, x1, x2, x3, x4, x5⟩, hbwr⟩ := KP.out wr hbr
        by_cases hkl : k < I.na
        · have hkI : (k : Int) < (I.na : Int) := by omega
          obtain ⟨hnc, hcm, b, off, ho, hx⟩ := h.ac.below hbwr
          have ho' := ho (by omega)
          have e0 : wr.cell? ⟨b, off + k * 5, none⟩ = some (.int .u64 ((Plain.hiOf (I.ac k).V).toNat : Int)) := hx k 0 hkl (by decide)
          have e1 : wr.cell? ⟨b, off + k * 5 + 1, none⟩ = some (.int .u64 ((Plain.loOf (I.ac k).V).toNat : Int)) := hx k 1 hkl (by decide)
          have e2 : wr.cell? ⟨b, off + k * 5 + 2, none⟩ = some (.int .u64 ((Plain.hiOf (I.ac k).C).toNat : Int)) := hx k 2 hkl (by decide)
          have e3 : wr.cell? ⟨b, off + k * 5 + 3, none⟩ = some (.int .u64 ((Plain.loOf (I.ac k).C).toNat : Int)) := hx k 3 hkl (by decide)
          clear hx ho
          rw [ho'] at x5
          have HO' := Lib.hid ho'
          clear ho'
          have hq : Hid (aclsB I k = (cubeOk (I.ac k).V (I.ac k).C && allB (fun m => !(I.ac k).C.getLsbD (88 + m)) 40)) := acl_bits _ _
          have hfin : Hid (aclsB I k = false → soundI I = 2) := fun hh => by rw [hr3.out, if_pos (all_f hkl hh)]
          have hnext : Hid (aclsB I k = true → ∀ j, j < k + 1 → aclsB I j = true) := fun hh j hj => by
            by_cases e : j = k
            · subst e; exact hh
            · exact HALL.out j (by omega)
          clear HALL
          generalize (I.ac k).V = V at e0 e1 hq
          generalize (I.ac k).C = C at e2 e3 hq
          have hTX := fun W => text_c V C rfl rfl rfl rfl W
          have hBI := fun W => Bits_c C W
          generalize ((Plain.hiOf V).toNat : Int) = a1 at *
          generalize ((Plain.loOf V).toNat : Int) = a2 at *
          generalize ((Plain.hiOf C).toNat : Int) = a3 at *
          generalize ((Plain.loOf C).toNat : Int) = a4 at *
          have HTX := Lib.hid hTX
          have HBI := Lib.hid hBI
          clear hTX hBI
          obtain ⟨s, t, hst⟩ : ∃ s t, Hid (textR V C = .tuple #[.string s, .bool t] ∧ t = cubeOk V C) := by
            unfold textR
            cases cubeOk V C
            · exact ⟨_, false, rfl, rfl⟩
            · exact ⟨_, true, rfl, rfl⟩
          rw [hst.out.1] at HTX
          have hq2 : Hid (aclsB I k = (t && allB (fun m => !C.getLsbD (88 + m)) 40)) := by show aclsB I k = _; rw [hq.out, hst.out.2]
          have hzz := (zero_of_info zero33).1
          have hst33 := store33
          have lb : b < wr.heap.size := World.block_lt_of_cell? wr _ e0
          go_wp2_with fail
          refine (HTX.out _).mono ?_
          rintro e w4 ⟨rfl, hb4⟩
          have hbr4 := hbr.trans (hb4.mono hbr.size)
          have f2 := cell_below hb4 e2
          have f3 := cell_below hb4 e3
          clear x0 x1 x2 x3 x4 x5 e0 e1 e2 e3 hbwr
          obtain ⟨⟨x0, x1, x2, x3, x4, x5⟩, hbwr⟩ := KP.out w4 hbr4
          rw [HO'.out] at x5
          go_wp2_with fail
          refine (HBI.out _).mono ?_
          rintro e w5 ⟨rfl, hb5⟩
          have hbr5 := hbr4.trans (hb5.mono hbr4.size)
          go_wp2_with fail
          obtain ⟨gx, hgx⟩ : ∃ gx, Hid (gx = w5.heap.size) := ⟨_, rfl⟩
          refine wp_world (fun V1 => RowKit.Below W.heap.size W V1 ∧ V1.heap[gx]? = some (.cells (arr C.getLsbD) 105 (0, 0))) ⟨hbr5.alloc hbr5.size _, by rw [hgx.out]; exact heap_alloc_new w5 _⟩ ?_
          rw [← hgx.out]
          rintro V1 ⟨hbV, m1⟩
          clear x0 x1 x2 x3 x4 x5 f2 f3 hbwr hb4 hb5 hbr4 hbr5 lb hgx hbr
          go_loopw [7, 9] (fun v7 v9 wr => ∃ (n : Nat) (q : Bool), v9 = .int .i64 (n : Int) ∧ 88 ≤ n ∧ n ≤ 128 ∧ wr = V1 ∧ v7 = .bool q ∧ q = (t && allB (fun m => !C.getLsbD (88 + m)) (n - 88))) (fun _ v9 _ => 128 - (intOf v9).toNat)
          case atStart => exact ⟨88, t, rfl, by omega, by omega, rfl, rfl, by simp [allB]⟩
          case round =>
            obtain ⟨n, q, rfl, hn1, hn2, hwe, rfl, hqe⟩ := hrel
            obtain rfl := hwe.symm
            have HQ := Lib.hid hqe
            clear hqe
            by_cases hnl : n < 128
            · have hnI : (n : Int) < 128 := by omega
              have e7 : V1.cell? ⟨gx, n, none⟩ = some (.bool (C.getLsbD n)) := (cell_b m1).trans (arr_get _ n hnl)
              have hstep : ∀ x, x = (q && !C.getLsbD n) → x = (t && allB (fun m => !C.getLsbD (88 + m)) (n + 1 - 88)) := fun x hx => by
                rw [hx, HQ.out, show n + 1 - 88 = (n - 88) + 1 by omega]
                unfold allB
                rw [List.range_succ, List.all_append]
                simp only [List.all_cons, List.all_nil, Bool.and_true]
                rw [show 88 + (n - 88) = n by omega, Bool.and_assoc]
              obtain ⟨cb, hcb⟩ : ∃ cb, Hid (C.getLsbD n = cb) := ⟨_, rfl⟩
              rw [hcb.out] at e7 hstep
              have HS := Lib.hid hstep
              clear hstep
              cases q with
              | false =>
                go_wp2_with fail
                go_roundw
                case rel => exact ⟨n + 1, false, by go_num, by omega, by omega, (by first | rfl | trivial), (by first | rfl | trivial), HS.out _ rfl⟩
                case measure => simp [intOf] <;> omega
              | true =>
                cases cb with
                | false =>
                  go_wp2_with fail
                  go_roundw
                  case rel => exact ⟨n + 1, true, by go_num, by omega, by omega, (by first | rfl | trivial), (by first | rfl | trivial), HS.out _ rfl⟩
                  case measure => simp [intOf] <;> omega
                | true =>
                  go_wp2_with fail
                  go_roundw
                  case rel => exact ⟨n + 1, false, by go_num, by omega, by omega, (by first | rfl | trivial), (by first | rfl | trivial), HS.out _ rfl⟩
                  case measure => simp [intOf] <;> omega
            · have hne' : n = 128 := by omega
              subst hne'
              have hq3 : Hid (aclsB I k = q) := by show aclsB I k = q; rw [hq2.out, HQ.out]
              cases q with
              | false =>
                have HF := Lib.hid (hfin.out hq3.out)
                go_wp2_with fail
                go_ret
                exact ⟨by rw [HF.out]; rfl, (KP.out _ hbV).2⟩
              | true =>
                have HF := Lib.hid (hnext.out hq3.out)
                go_wp2_with fail
                go_roundw
                case rel => exact ⟨k + 1, by go_num, by omega, hbV, HF.out⟩
                case measure => simp [intOf] <;> omega
        · have hke : k = I.na := by omega
          subst hke
          have hr4 : Hid (soundI I = if dupB (qE I) I.ne = true then 8 else if dupB (qW I) I.nw = true then 8 else 0) := by
            show soundI I = _
            rw [hr3.out, if_neg]
            rw [all_t HALL.out]
            simp
          clear hr3 HALL
          go_wp2_with fail
          obtain ⟨V1, hV1⟩ : ∃ V1, Hid (V1 = wr) := ⟨_, rfl⟩
          refine wp_world (fun W1 => W1 = V1) hV1.out.symm ?_
          rw [← hV1.out] at hbr
          clear x0 x1 x2 x3 x4 x5 hbwr
          rintro W2 rfl
          go_loopw [10, 11] (fun v10 v11 wr => ∃ k : Nat, v10 = .int .i64 (k : Int) ∧ k ≤ I.ne ∧ RowKit.Below W.heap.size W wr ∧ ∀ j, j < k → ∀ i, i < j → qE I i j = false) (fun v10 _ _ => I.ne - (intOf v10).toNat)
          case atStart => exact ⟨0, rfl, Nat.zero_le _, hbr, fun j hj => by omega⟩
          case round =>
            obtain ⟨k, rfl, hk, hbr, hall⟩ := hrel
            have HALL := Lib.hid hall
            clear hall
            obtain ⟨⟨x0, x1, x2, x3, x4, x5⟩, hbwr⟩ := KP.out wr hbr
            by_cases hkl : k < I.ne
            · have hkI : (k : Int) < (I.ne : Int) := by omega
              go_wp2_with fail
              obtain ⟨V2, hV2⟩ : ∃ V2, Hid (V2 = wr) := ⟨_, rfl⟩
              refine wp_world (fun W1 => W1 = V2) hV2.out.symm ?_
              rw [← hV2.out] at hbr
              clear x0 x1 x2 x3 x4 x5 hbwr
              rintro W2 rfl
              go_loopw [11] (fun v11 wr => ∃ j : Nat, v11 = .int .i64 (j : Int) ∧ j ≤ k ∧ RowKit.Below W.heap.size W wr ∧ ∀ i, i < j → qE I i k = false) (fun v11 _ => k - (intOf v11).toNat)
              case atStart => exact ⟨0, rfl, Nat.zero_le _, hbr, fun i hi => by omega⟩
              case round =>
                obtain ⟨j, rfl, hj, hbr, hno⟩ := hrel
                have HN := Lib.hid hno
                clear hno
                obtain ⟨⟨x0, x1, x2, x3, x4, x5⟩, hbwr⟩ := KP.out wr hbr
                by_cases hjl : j < k
                · have hjI : (j : Int) < (k : Int) := by omega
                  have hjn : (j : Int) < (I.ne : Int) := by omega
                  have hjn2 : j < I.ne := by omega
                  obtain ⟨hnc, hcm, b, off, ho, hx⟩ := h.en.below hbwr
                  have ho' := ho (by omega)
                  have ek : wr.cell? ⟨b, off + k * 4 + 1, none⟩ = some (.int .u32 (I.en k).addr) := hx k 1 hkl (by decide)
                  have ej : wr.cell? ⟨b, off + j * 4 + 1, none⟩ = some (.int .u32 (I.en j).addr) := hx j 1 (by omega) (by decide)
                  clear hx ho
                  rw [ho'] at x4
                  have HO' := Lib.hid ho'
                  clear ho'
                  have hq : Hid (qE I j k = decide ((I.en j).addr = (I.en k).addr)) := rfl
                  generalize (I.en j).addr = aj at ej hq
                  generalize (I.en k).addr = ak at ek hq
                  have x4' := reg_c x4
                  have ej' := reg_c ej
                  have ek' := reg_c ek
                  by_cases hd : aj = ak
                  · have hdb : (aj == ak) = true := by simpa using hd
                    have hfin : Hid (soundI I = 8) := by
                      show soundI I = 8
                      rw [hr4.out, if_pos (dup_yes hkl hjl (by rw [hq.out]; exact decide_eq_true hd))]
                    clear hd
                    go_upto_region 31 with (fail)
                    refine wp_region_quiet_below (by kernel_rfl) (by kernel_rfl) ?_; (repeat (go_big_quiet_step (fail))); refine wpQuiet_nil ?_; intro _ hw'; obtain ⟨⟨dq, osq⟩, hw''⟩ := hw'; subst hw''
                    go_wp2_with fail
                    go_ret
                    exact ⟨by rw [hfin.out]; rfl, hbwr.trans ((below_regrown wr dq osq).mono hbwr.size)⟩
                  · have hdb : (aj == ak) = false := by simpa using hd
                    have hnx : Hid (∀ i, i < j + 1 → qE I i k = false) := fun i hi => by
                      by_cases e : i = j
                      · subst e; rw [hq.out]; exact decide_eq_false hd
                      · exact HN.out i (by omega)
                    clear hd
                    go_upto_region 31 with (fail)
                    refine wp_region_quiet_below (by kernel_rfl) (by kernel_rfl) ?_; (repeat (go_big_quiet_step (fail))); refine wpQuiet_nil ?_; intro _ hw'; obtain ⟨⟨dq, osq⟩, hw''⟩ := hw'; subst hw''
                    go_wp2_with fail
                    go_roundw
                    case rel => exact ⟨j + 1, by go_num, by omega, hbr.trans ((below_regrown wr dq osq).mono hbr.size), hnx.out⟩
                    case measure => simp [intOf] <;> omega
                · have hje : j = k := by omega
                  subst hje
                  have hnx : Hid (∀ j', j' < j + 1 → ∀ i, i < j' → qE I i j' = false) := fun j' hj' i hi => by
                    by_cases e : j' = j
                    · subst e; exact HN.out i hi
                    · exact HALL.out j' (by omega) i hi
                  go_wp2_with fail
                  go_roundw
                  case rel => exact ⟨j + 1, by go_num, by omega, hbr, hnx.out⟩
                  case measure => simp [intOf] <;> omega
            · have hke : k = I.ne := by omega
              subst hke
              have hr5 : Hid (soundI I = if dupB (qW I) I.nw = true then 8 else 0) := by
                show soundI I = _
                rw [hr4.out, dup_no HALL.out]
                rfl
              clear hr4 HALL
              go_wp2_with fail
              obtain ⟨V3, hV3⟩ : ∃ V3, Hid (V3 = wr) := ⟨_, rfl⟩
              refine wp_world (fun W1 => W1 = V3) hV3.out.symm ?_
              rw [← hV3.out] at hbr
              clear x0 x1 x2 x3 x4 x5 hbwr
              rintro W3 rfl
              go_loopw [12, 13] (fun v12 v13 wr => ∃ k : Nat, v12 = .int .i64 (k : Int) ∧ k ≤ I.nw ∧ RowKit.Below W.heap.size W wr ∧ ∀ j, j < k → ∀ i, i < j → qW I i j = false) (fun v12 _ _ => I.nw - (intOf v12).toNat)
              case atStart => exact ⟨0, rfl, Nat.zero_le _, hbr, fun j hj => by omega⟩
              case round =>
                obtain ⟨k, rfl, hk, hbr, hall⟩ := hrel
                have HALL := Lib.hid hall
                clear hall
                obtain ⟨⟨x0, x1, x2, x3, x4, x5⟩, hbwr⟩ := KP.out wr hbr
                by_cases hkl : k < I.nw
                · have hkI : (k : Int) < (I.nw : Int) := by omega
                  go_wp2_with fail
                  obtain ⟨V2, hV2⟩ : ∃ V2, Hid (V2 = wr) := ⟨_, rfl⟩
                  refine wp_world (fun W1 => W1 = V2) hV2.out.symm ?_
                  rw [← hV2.out] at hbr
                  clear x0 x1 x2 x3 x4 x5 hbwr
                  rintro W2 rfl
                  go_loopw [13] (fun v13 wr => ∃ j : Nat, v13 = .int .i64 (j : Int) ∧ j ≤ k ∧ RowKit.Below W.heap.size W wr ∧ ∀ i, i < j → qW I i k = false) (fun v13 _ => k - (intOf v13).toNat)
                  case atStart => exact ⟨0, rfl, Nat.zero_le _, hbr, fun i hi => by omega⟩
                  case round =>
                    obtain ⟨j, rfl, hj, hbr, hno⟩ := hrel
                    have HN := Lib.hid hno
                    clear hno
                    obtain ⟨⟨x0, x1, x2, x3, x4, x5⟩, hbwr⟩ := KP.out wr hbr
                    by_cases hjl : j < k
                    · have hjI : (j : Int) < (k : Int) := by omega
                      have hjn : (j : Int) < (I.nw : Int) := by omega
                      have hjn2 : j < I.nw := by omega
                      obtain ⟨hnc, hcm, b, off, ho, hx⟩ := h.wy.below hbwr
                      have ho' := ho (by omega)
                      have ek : wr.cell? ⟨b, off + k * 3, none⟩ = some (.int .i64 (I.wy k).1) := hx k 0 hkl (by decide)
                      have ek1 : wr.cell? ⟨b, off + k * 3 + 1, none⟩ = some (.int .i64 (I.wy k).2.1) := hx k 1 hkl (by decide)
                      have ej : wr.cell? ⟨b, off + j * 3, none⟩ = some (.int .i64 (I.wy j).1) := hx j 0 (by omega) (by decide)
                      have ej1 : wr.cell? ⟨b, off + j * 3 + 1, none⟩ = some (.int .i64 (I.wy j).2.1) := hx j 1 (by omega) (by decide)
                      clear hx ho
                      rw [ho'] at x3
                      have HO' := Lib.hid ho'
                      clear ho'
                      have hq : Hid (qW I j k = decide ((I.wy j).1 = (I.wy k).1 ∧ (I.wy j).2.1 = (I.wy k).2.1)) := rfl
                      generalize (I.wy j).1 = aj at ej hq
                      generalize (I.wy k).1 = ak at ek hq
                      generalize (I.wy j).2.1 = bj at ej1 hq
                      generalize (I.wy k).2.1 = bk at ek1 hq
                      have x3' := reg_c x3
                      have ej' := reg_c ej
                      have ek' := reg_c ek
                      have ej1' := reg_c ej1
                      have ek1' := reg_c ek1
                      have hnx : Hid (qW I j k = false → ∀ i, i < j + 1 → qW I i k = false) := fun hh i hi => by
                        by_cases e : i = j
                        · subst e; exact hh
                        · exact HN.out i (by omega)
                      by_cases hd : aj = ak
                      · have hdb : (aj == ak) = true := by simpa using hd
                        by_cases hd2 : bj = bk
                        · have hdb2 : (bj == bk) = true := by simpa using hd2
                          have hfin : Hid (soundI I = 8) := by
                            show soundI I = 8
                            rw [hr5.out, if_pos (dup_yes hkl hjl (by rw [hq.out]; exact decide_eq_true ⟨hd, hd2⟩))]
                          clear hd hd2
                          go_upto_region 39 with (fail)
                          refine wp_region_quiet_below (by kernel_rfl) (by kernel_rfl) ?_; (repeat (go_big_quiet_step (fail))); refine wpQuiet_nil ?_; intro _ hw'; obtain ⟨⟨dq, osq⟩, hw''⟩ := hw'; subst hw''
                          go_wp2_with fail
                          go_ret
                          exact ⟨by rw [hfin.out]; rfl, hbwr.trans ((below_regrown wr dq osq).mono hbwr.size)⟩
                        · have hdb2 : (bj == bk) = false := by simpa using hd2
                          have HF := Lib.hid (hnx.out (by rw [hq.out]; exact decide_eq_false (fun hh => hd2 hh.2)))
                          clear hd hd2
                          go_upto_region 39 with (fail)
                          refine wp_region_quiet_below (by kernel_rfl) (by kernel_rfl) ?_; (repeat (go_big_quiet_step (fail))); refine wpQuiet_nil ?_; intro _ hw'; obtain ⟨⟨dq, osq⟩, hw''⟩ := hw'; subst hw''
                          go_wp2_with fail
                          go_roundw
                          case rel => exact ⟨j + 1, by go_num, by omega, hbr.trans ((below_regrown wr dq osq).mono hbr.size), HF.out⟩
                          case measure => simp [intOf] <;> omega
                      · have hdb : (aj == ak) = false := by simpa using hd
                        have HF := Lib.hid (hnx.out (by rw [hq.out]; exact decide_eq_false (fun hh => hd hh.1)))
                        clear hd
                        go_upto_region 39 with (fail)
                        refine wp_region_quiet_below (by kernel_rfl) (by kernel_rfl) ?_; (repeat (go_big_quiet_step (fail))); refine wpQuiet_nil ?_; intro _ hw'; obtain ⟨⟨dq, osq⟩, hw''⟩ := hw'; subst hw''
                        go_wp2_with fail
                        go_roundw
                        case rel => exact ⟨j + 1, by go_num, by omega, hbr.trans ((below_regrown wr dq osq).mono hbr.size), HF.out⟩
                        case measure => simp [intOf] <;> omega
                    · have hje : j = k := by omega
                      subst hje
                      have hnx : Hid (∀ j', j' < j + 1 → ∀ i, i < j' → qW I i j' = false) := fun j' hj' i hi => by
                        by_cases e : j' = j
                        · subst e; exact HN.out i hi
                        · exact HALL.out j' (by omega) i hi
                      go_wp2_with fail
                      go_roundw
                      case rel => exact ⟨j + 1, by go_num, by omega, hbr, hnx.out⟩
                      case measure => simp [intOf] <;> omega
                · have hke : k = I.nw := by omega
                  subst hke
                  have hr6 : Hid (soundI I = 0) := by
                    show soundI I = _
                    rw [hr5.out, dup_no HALL.out]
                    rfl
                  clear hr5 HALL
                  go_wp2_with fail
                  go_ret
                  exact ⟨by rw [hr6.out]; rfl, hbwr⟩
end Go.Proofs.Ytgebehnlfihliaa.Hd
