/- Intent: intent's Sound. -/
import Derived.Test.YtgebehnlfihliaaIn6
namespace Go.Proofs.Ytgebehnlfihliaa
open Go.RowKit Go.Maps
set_option linter.unusedSimpArgs false
set_option linter.unusedVariables false
set_option maxRecDepth 100000
theorem eg40 : ∀ args w, (callFunc 40 args).run Try.prog w = .ok (.enter 40 args) w := enters_of Try.func40 (by kernel_rfl) rfl
theorem eg42 : ∀ args w, (callFunc 42 args).run Try.prog w = .ok (.enter 42 args) w := enters_of Try.func42 (by kernel_rfl) rfl
theorem eg44 : ∀ args w, (callFunc 44 args).run Try.prog w = .ok (.enter 44 args) w := enters_of Try.func44 (by kernel_rfl) rfl
theorem eg46 : ∀ args w, (callFunc 46 args).run Try.prog w = .ok (.enter 46 args) w := enters_of Try.func46 (by kernel_rfl) rfl
theorem allP_c {r : Ir} {I : In} {w : World} (h : NA w r I) (v0 v2 v3 v4 v5 : Value) :
    Calls Try.prog 39 #[.slice r.op I.np r.cp, .func (.func 40) #[.agg #[v0, .int .i64 I.ten, v2, v3, v4, v5]] #[]] w fun e w' => e = .returned (.bool (allB (pairsB I) I.np)) ∧ RowKit.Below w.heap.size w w' :=
  allPr h.pe 40 #[.agg #[v0, .int .i64 I.ten, v2, v3, v4, v5]] (pairsB I) eg40 (fun W i hW hi => pair_c v0 v2 v3 v4 v5 I.ten (I.pe i).1 (I.pe i).2 W)
theorem allW_c {r : Ir} {I : In} {w : World} (h : NA w r I) (v2 v3 v4 v5 : Value) :
    Calls Try.prog 41 #[.slice r.ow I.nw r.cw, .func (.func 42) #[.agg #[.slice r.o I.T.n r.c, .int .i64 I.ten, v2, v3, v4, v5]] #[]] w fun e w' => e = .returned (.bool (allB (waysB I) I.nw)) ∧ RowKit.Below w.heap.size w w' :=
  allWy h.wy 42 #[.agg #[.slice r.o I.T.n r.c, .int .i64 I.ten, v2, v3, v4, v5]] (waysB I) eg42 (fun W i hW hi => way_c r.o I.T.n r.c v2 v3 v4 v5 I.ten (I.wy i).1 (I.wy i).2.1 (I.wy i).2.2 W)
theorem allE_c {r : Ir} {I : In} {w : World} (h : NA w r I) (hsum : sumL I.T I.T.n ≤ 1100000) (v1 v2 v3 v4 v5 : Value) :
    Calls Try.prog 43 #[.slice r.oe I.ne r.ce, .func (.func 44) #[.agg #[.slice r.o I.T.n r.c, v1, v2, v3, v4, v5]] #[]] w fun e w' => e = .returned (.bool (allB (endsB I) I.ne)) ∧ RowKit.Below w.heap.size w w' :=
  allEn h.en 44 #[.agg #[.slice r.o I.T.n r.c, v1, v2, v3, v4, v5]] (endsB I) eg44 (fun W i hW hi => end_c (h.ta.below hW) hsum v1 v2 v3 v4 v5 (I.en i).ten (I.en i).addr (I.en i).sw (I.en i).po)
theorem allA_c {r : Ir} {I : In} {w : World} (h : NA w r I) (v0 v1 v2 v3 v4 v5 : Value) :
    Calls Try.prog 45 #[.slice r.oa I.na r.ca, .func (.func 46) #[.agg #[v0, v1, v2, v3, v4, v5]] #[]] w fun e w' => e = .returned (.bool (allB (aclsB I) I.na)) ∧ RowKit.Below w.heap.size w w' :=
  allAc h.ac 46 #[.agg #[v0, v1, v2, v3, v4, v5]] (aclsB I) eg46 (fun W i hW hi => acl_c v0 v1 v2 v3 v4 v5 (V := (I.ac i).V) (C := (I.ac i).C) rfl rfl rfl rfl (I.ac i).per W)
set_option maxHeartbeats 8000000 in
theorem isound_c {r : Ir} {I : In} {w : World} (h : NA w r I) (hw : WfI I) :
    Calls Try.prog 25 #[.agg (I.cells r)] w fun e w' => e = .returned (.int .i64 (soundI I)) ∧ RowKit.Below w.heap.size w w' := by
  obtain ⟨z, hz⟩ : ∃ z, Hid (soundE I.T = z) := ⟨_, rfl⟩
  obtain ⟨s, hs⟩ : ∃ s, Hid (sizesB I = s) := ⟨_, rfl⟩
  obtain ⟨t1, ht1⟩ : ∃ t, Hid (allB (pairsB I) I.np = t) := ⟨_, rfl⟩
  obtain ⟨t2, ht2⟩ : ∃ t, Hid (allB (waysB I) I.nw = t) := ⟨_, rfl⟩
  obtain ⟨t3, ht3⟩ : ∃ t, Hid (allB (endsB I) I.ne = t) := ⟨_, rfl⟩
  obtain ⟨t4, ht4⟩ : ∃ t, Hid (allB (aclsB I) I.na = t) := ⟨_, rfl⟩
  obtain ⟨u1, hu1⟩ : ∃ t, Hid (dupB (qE I) I.ne = t) := ⟨_, rfl⟩
  obtain ⟨u2, hu2⟩ : ∃ t, Hid (dupB (qW I) I.nw = t) := ⟨_, rfl⟩
  have hr : Hid (soundI I = if z ≠ 0 then z else if s = false then 4 else if (((t1 && t2) && t3) && t4) = false then 2 else if u1 = true then 8 else if u2 = true then 8 else 0) := by
    unfold soundI formB
    rw [hz.out, hs.out, ht1.out, ht2.out, ht3.out, ht4.out, hu1.out, hu2.out]
    exact rfl
  rw [hr.out]
  have ic : Hid (I.cells r = #[.slice r.o I.T.n r.c, .int .i64 I.ten, .slice r.op I.np r.cp, .slice r.ow I.nw r.cw, .slice r.oe I.ne r.ce, .slice r.oa I.na r.ca]) := rfl
  rw [ic.out]
  have hbx := below2 w (.cells #[.slice r.o I.T.n r.c, .int .i64 I.ten, .slice r.op I.np r.cp, .slice r.ow I.nw r.cw, .slice r.oe I.ne r.ce, .slice r.oa I.na r.ca] 56) (.cells #[.slice r.o I.T.n r.c, .int .i64 I.ten, .slice r.op I.np r.cp, .slice r.ow I.nw r.cw, .slice r.oe I.ne r.ce, .slice r.oa I.na r.ca] 87)
  have hc1 := tsound_c (h.ta.below hbx)
  rw [hz.out] at hc1
  have kp : Hid (∀ V, RowKit.Below ((w.alloc (.cells #[.slice r.o I.T.n r.c, .int .i64 I.ten, .slice r.op I.np r.cp, .slice r.ow I.nw r.cw, .slice r.oe I.ne r.ce, .slice r.oa I.na r.ca] 56)).alloc (.cells #[.slice r.o I.T.n r.c, .int .i64 I.ten, .slice r.op I.np r.cp, .slice r.ow I.nw r.cw, .slice r.oe I.ne r.ce, .slice r.oa I.na r.ca] 87)).heap.size ((w.alloc (.cells #[.slice r.o I.T.n r.c, .int .i64 I.ten, .slice r.op I.np r.cp, .slice r.ow I.nw r.cw, .slice r.oe I.ne r.ce, .slice r.oa I.na r.ca] 56)).alloc (.cells #[.slice r.o I.T.n r.c, .int .i64 I.ten, .slice r.op I.np r.cp, .slice r.ow I.nw r.cw, .slice r.oe I.ne r.ce, .slice r.oa I.na r.ca] 87)) V →
      (V.cell? ⟨w.heap.size, 0, none⟩ = some (.slice r.o I.T.n r.c) ∧ V.cell? ⟨w.heap.size, 1, none⟩ = some (.int .i64 I.ten) ∧ V.cell? ⟨w.heap.size, 2, none⟩ = some (.slice r.op I.np r.cp) ∧ V.cell? ⟨w.heap.size, 3, none⟩ = some (.slice r.ow I.nw r.cw) ∧ V.cell? ⟨w.heap.size, 4, none⟩ = some (.slice r.oe I.ne r.ce) ∧ V.cell? ⟨w.heap.size, 5, none⟩ = some (.slice r.oa I.na r.ca)) ∧
      (V.cell? ⟨w.heap.size + 1, 0, none⟩ = some (.slice r.o I.T.n r.c) ∧ V.cell? ⟨w.heap.size + 1, 1, none⟩ = some (.int .i64 I.ten) ∧ V.cell? ⟨w.heap.size + 1, 2, none⟩ = some (.slice r.op I.np r.cp) ∧ V.cell? ⟨w.heap.size + 1, 3, none⟩ = some (.slice r.ow I.nw r.cw) ∧ V.cell? ⟨w.heap.size + 1, 4, none⟩ = some (.slice r.oe I.ne r.ce) ∧ V.cell? ⟨w.heap.size + 1, 5, none⟩ = some (.slice r.oa I.na r.ca)) ∧ RowKit.Below w.heap.size w V) := by
    intro V hV
    have b0 : ((w.alloc (.cells #[.slice r.o I.T.n r.c, .int .i64 I.ten, .slice r.op I.np r.cp, .slice r.ow I.nw r.cw, .slice r.oe I.ne r.ce, .slice r.oa I.na r.ca] 56)).alloc (.cells #[.slice r.o I.T.n r.c, .int .i64 I.ten, .slice r.op I.np r.cp, .slice r.ow I.nw r.cw, .slice r.oe I.ne r.ce, .slice r.oa I.na r.ca] 87)).heap[w.heap.size]? = some (.cells #[.slice r.o I.T.n r.c, .int .i64 I.ten, .slice r.op I.np r.cp, .slice r.ow I.nw r.cw, .slice r.oe I.ne r.ce, .slice r.oa I.na r.ca] 56 (0, 0)) := by
      rw [al_lt' (by simp)]; exact heap_alloc_new w _
    have b1 : ((w.alloc (.cells #[.slice r.o I.T.n r.c, .int .i64 I.ten, .slice r.op I.np r.cp, .slice r.ow I.nw r.cw, .slice r.oe I.ne r.ce, .slice r.oa I.na r.ca] 56)).alloc (.cells #[.slice r.o I.T.n r.c, .int .i64 I.ten, .slice r.op I.np r.cp, .slice r.ow I.nw r.cw, .slice r.oe I.ne r.ce, .slice r.oa I.na r.ca] 87)).heap[w.heap.size + 1]? = some (.cells #[.slice r.o I.T.n r.c, .int .i64 I.ten, .slice r.op I.np r.cp, .slice r.ow I.nw r.cw, .slice r.oe I.ne r.ce, .slice r.oa I.na r.ca] 87 (0, 0)) := by
      have := heap_alloc_new (w.alloc (.cells #[.slice r.o I.T.n r.c, .int .i64 I.ten, .slice r.op I.np r.cp, .slice r.ow I.nw r.cw, .slice r.oe I.ne r.ce, .slice r.oa I.na r.ca] 56)) (.cells #[.slice r.o I.T.n r.c, .int .i64 I.ten, .slice r.op I.np r.cp, .slice r.ow I.nw r.cw, .slice r.oe I.ne r.ce, .slice r.oa I.na r.ca] 87)
      rwa [World.size_alloc] at this
    exact ⟨⟨cell_below hV ((cell_b b0).trans rfl), cell_below hV ((cell_b b0).trans rfl), cell_below hV ((cell_b b0).trans rfl), cell_below hV ((cell_b b0).trans rfl), cell_below hV ((cell_b b0).trans rfl), cell_below hV ((cell_b b0).trans rfl)⟩,
      ⟨cell_below hV ((cell_b b1).trans rfl), cell_below hV ((cell_b b1).trans rfl), cell_below hV ((cell_b b1).trans rfl), cell_below hV ((cell_b b1).trans rfl), cell_below hV ((cell_b b1).trans rfl), cell_below hV ((cell_b b1).trans rfl)⟩, hbx.trans (hV.mono hbx.size)⟩
  by_cases hz0 : z = 0
  rotate_left
  · have hzb : (z != 0) = true := by simpa using hz0
    go_enter Try.func25, Try.ntmps25
    go_wp2_with fail
    refine hc1.mono ?_
    rintro e w1 ⟨rfl, hb1⟩
    have hb := (kp.out w1 hb1).2.2
    go_wp2_with fail
    go_ret
    exact ⟨by simp [hz0], hb⟩
  subst hz0
  have hsum := sd_sum (sd_of hz.out)
  go_enter Try.func25, Try.ntmps25
  go_wp2_with fail
  refine hc1.mono ?_
  rintro e w1 ⟨rfl, hb1⟩
  obtain ⟨⟨x0, x1, x2, x3, x4, x5⟩, _, hbw1⟩ := kp.out w1 hb1
  have hc2 := sizes_c (h.below hbw1) hsum
  rw [hs.out, ic.out] at hc2
  go_wp2_with fail
  refine hc2.mono ?_
  rintro e w2 ⟨rfl, hb2⟩
  have hB2 := hb1.trans (hb2.mono hb1.size)
  clear hc1 hc2 x0 x1 x2 x3 x4 x5
  obtain ⟨⟨x0, x1, x2, x3, x4, x5⟩, ⟨y0, y1, y2, y3, y4, y5⟩, hbw2⟩ := kp.out w2 hB2
  cases s with
  | false =>
    go_wp2_with fail
    go_ret
    exact ⟨by simp, hbw2⟩
  | true =>
    have hlim : I.ne ≤ 1000000 ∧ I.nw ≤ 1000000 := by
      have := hs.out
      unfold sizesB at this
      rw [Bool.and_eq_true, decide_eq_true_eq] at this
      omega
    have hcA := allP_c (h.below hbw2) (.slice r.o I.T.n r.c) (.slice r.op I.np r.cp) (.slice r.ow I.nw r.cw) (.slice r.oe I.ne r.ce) (.slice r.oa I.na r.ca)
    rw [ht1.out] at hcA
    go_wp2_with fail
    refine hcA.mono ?_
    rintro e w3 ⟨rfl, hb3⟩
    have hB3 := hB2.trans (hb3.mono hB2.size)
    clear hcA x0 x1 x2 x3 x4 x5 y0 y1 y2 y3 y4 y5
    obtain ⟨⟨x0, x1, x2, x3, x4, x5⟩, ⟨y0, y1, y2, y3, y4, y5⟩, hbw3⟩ := kp.out w3 hB3
    cases t1 with
    | false =>
      go_wp2_with fail
      go_ret
      exact ⟨by simp, hbw3⟩
    | true =>
      have hcA := allW_c (h.below hbw3) (.slice r.op I.np r.cp) (.slice r.ow I.nw r.cw) (.slice r.oe I.ne r.ce) (.slice r.oa I.na r.ca)
      rw [ht2.out] at hcA
      go_wp2_with fail
      refine hcA.mono ?_
      rintro e w4 ⟨rfl, hb4⟩
      have hB4 := hB3.trans (hb4.mono hB3.size)
      clear hcA x0 x1 x2 x3 x4 x5 y0 y1 y2 y3 y4 y5
      obtain ⟨⟨x0, x1, x2, x3, x4, x5⟩, ⟨y0, y1, y2, y3, y4, y5⟩, hbw4⟩ := kp.out w4 hB4
      cases t2 with
      | false =>
        go_wp2_with fail
        go_ret
        exact ⟨by simp, hbw4⟩
      | true =>
        have hcA := allE_c (h.below hbw4) hsum (.int .i64 I.ten) (.slice r.op I.np r.cp) (.slice r.ow I.nw r.cw) (.slice r.oe I.ne r.ce) (.slice r.oa I.na r.ca)
        rw [ht3.out] at hcA
        go_wp2_with fail
        refine hcA.mono ?_
        rintro e w5 ⟨rfl, hb5⟩
        have hB5 := hB4.trans (hb5.mono hB4.size)
        clear hcA x0 x1 x2 x3 x4 x5 y0 y1 y2 y3 y4 y5
        obtain ⟨⟨x0, x1, x2, x3, x4, x5⟩, ⟨y0, y1, y2, y3, y4, y5⟩, hbw5⟩ := kp.out w5 hB5
        cases t3 with
        | false =>
          go_wp2_with fail
          go_ret
          exact ⟨by simp, hbw5⟩
        | true =>
          have hcA := allA_c (h.below hbw5) (.slice r.o I.T.n r.c) (.int .i64 I.ten) (.slice r.op I.np r.cp) (.slice r.ow I.nw r.cw) (.slice r.oe I.ne r.ce) (.slice r.oa I.na r.ca)
          rw [ht4.out] at hcA
          go_wp2_with fail
          refine hcA.mono ?_
          rintro e w6 ⟨rfl, hb6⟩
          have hB6 := hB5.trans (hb6.mono hB5.size)
          clear hcA x0 x1 x2 x3 x4 x5 y0 y1 y2 y3 y4 y5
          obtain ⟨⟨x0, x1, x2, x3, x4, x5⟩, ⟨y0, y1, y2, y3, y4, y5⟩, hbw6⟩ := kp.out w6 hB6
          cases t4 with
          | false =>
            go_wp2_with fail
            go_ret
            exact ⟨by simp, hbw6⟩
          | true =>
            have hcA := dupE_c (h.below hbw6) hw hlim.1
            rw [hu1.out] at hcA
            go_wp2_with fail
            refine hcA.mono ?_
            rintro e w7 ⟨rfl, hb7⟩
            have hB7 := hB6.trans (hb7.mono hB6.size)
            clear hcA x0 x1 x2 x3 x4 x5 y0 y1 y2 y3 y4 y5
            obtain ⟨⟨x0, x1, x2, x3, x4, x5⟩, ⟨y0, y1, y2, y3, y4, y5⟩, hbw7⟩ := kp.out w7 hB7
            cases u1 with
            | true =>
              go_wp2_with fail
              go_ret
              exact ⟨by simp, hbw7⟩
            | false =>
              have hcA := dupW_c (h.below hbw7) hw hlim.2
              rw [hu2.out] at hcA
              go_wp2_with fail
              refine hcA.mono ?_
              rintro e w8 ⟨rfl, hb8⟩
              have hB8 := hB7.trans (hb8.mono hB7.size)
              have hbw8 := (kp.out w8 hB8).2.2
              cases u2 with
              | true =>
                go_wp2_with fail
                go_ret
                exact ⟨by simp, hbw8⟩
              | false =>
                go_wp2_with fail
                go_ret
                exact ⟨by simp, hbw8⟩
end Go.Proofs.Ytgebehnlfihliaa
