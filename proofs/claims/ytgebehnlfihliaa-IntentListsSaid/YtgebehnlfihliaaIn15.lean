/- Intent: the document's Wants. -/
import Derived.Test.YtgebehnlfihliaaIn14
import Derived.Test.YtgebehnlfihliaaIRef2
namespace Go.Proofs.Ytgebehnlfihliaa
open Go.RowKit Go.Maps
set_option linter.unusedSimpArgs false
set_option linter.unusedVariables false
set_option maxRecDepth 100000
theorem via_le {I : In} (hd : dupB (qW I) I.nw = false) (a b : Int) : ∀ k, k ≤ I.nw → (viaL I a b k).length ≤ 1 := by
  have none : ∀ k, (∀ m, m < k → viaB I a b m = false) → viaL I a b k = [] := by
    intro k hk
    unfold viaL
    rw [List.map_eq_nil_iff, List.filter_eq_nil_iff]
    intro m hm
    rw [hk m (by simpa using hm)]
    simp
  intro k
  induction k with
  | zero => intro _; simp [viaL]
  | succ k ih =>
    intro hk
    cases hv : viaB I a b k with
    | false => rw [viaL_miss hv]; exact ih (by omega)
    | true =>
      rw [viaL_hit hv, none k (fun m hm => ?_)]
      · simp
      · cases hm2 : viaB I a b m with
        | false => rfl
        | true =>
          unfold viaB at hv hm2
          rw [Bool.and_eq_true, decide_eq_true_eq, decide_eq_true_eq] at hv hm2
          have := dup_yes (q := qW I) (n := I.nw) (i := m) (j := k) (by omega) hm (by
            unfold qW
            rw [decide_eq_true_eq]
            exact ⟨by rw [hv.1, hm2.1], by rw [hv.2, hm2.2]⟩)
          rw [this] at hd
          cases hd
set_option maxHeartbeats 8000000 in
theorem riwants_c {r : Ir} {I : In} {w : World} (h : NA w r I) (hw : WfI I) (sw po : Int) {x y : Int} {X : BitVec 128} (hx : x = (Plain.hiOf X).toNat) (hy : y = (Plain.loOf X).toNat) :
    Calls Try.prog 30 #[.agg (I.cells r), .agg #[.int .i64 sw, .int .i64 po], .agg #[.int .u64 x, .int .u64 y]] w fun e w' => e = .returned (.tuple #[.int .i64 (wnt I sw po X).1, .bool (wnt I sw po X).2]) ∧ RowKit.Below w.heap.size w w' := by
  have ic : Hid (I.cells r = #[.slice r.o I.T.n r.c, .int .i64 I.ten, .slice r.op I.np r.cp, .slice r.ow I.nw r.cw, .slice r.oe I.ne r.ce, .slice r.oa I.na r.ca]) := rfl
  rw [ic.out]
  obtain ⟨W0, hW0⟩ : ∃ W0, Hid (W0 = ((w.alloc (.cells #[.slice r.o I.T.n r.c, .int .i64 I.ten, .slice r.op I.np r.cp, .slice r.ow I.nw r.cw, .slice r.oe I.ne r.ce, .slice r.oa I.na r.ca] 56)).alloc (.cells #[.int .i64 sw, .int .i64 po] 26)).alloc (.cells #[.int .u64 x, .int .u64 y] 61)) := ⟨_, rfl⟩
  have hbx : RowKit.Below w.heap.size w W0 := by rw [hW0.out]; exact below_al (below2 _ _ _) _
  have kp : Hid (∀ V, RowKit.Below W0.heap.size W0 V → (V.cell? ⟨w.heap.size, 0, none⟩ = some (.slice r.o I.T.n r.c) ∧ V.cell? ⟨w.heap.size, 1, none⟩ = some (.int .i64 I.ten) ∧ V.cell? ⟨w.heap.size, 2, none⟩ = some (.slice r.op I.np r.cp) ∧ V.cell? ⟨w.heap.size, 3, none⟩ = some (.slice r.ow I.nw r.cw) ∧ V.cell? ⟨w.heap.size, 4, none⟩ = some (.slice r.oe I.ne r.ce) ∧ V.cell? ⟨w.heap.size, 5, none⟩ = some (.slice r.oa I.na r.ca)) ∧ (V.cell? ⟨w.heap.size + 1, 0, none⟩ = some (.int .i64 sw) ∧ V.cell? ⟨w.heap.size + 1, 1, none⟩ = some (.int .i64 po)) ∧ (V.cell? ⟨w.heap.size + 1 + 1, 0, none⟩ = some (.int .u64 x) ∧ V.cell? ⟨w.heap.size + 1 + 1, 1, none⟩ = some (.int .u64 y)) ∧ RowKit.Below w.heap.size w V) := by
    intro V hV
    have hh := heap3 w (.cells #[.slice r.o I.T.n r.c, .int .i64 I.ten, .slice r.op I.np r.cp, .slice r.ow I.nw r.cw, .slice r.oe I.ne r.ce, .slice r.oa I.na r.ca] 56) (.cells #[.int .i64 sw, .int .i64 po] 26) (.cells #[.int .u64 x, .int .u64 y] 61)
    rw [← hW0.out] at hh
    obtain ⟨b0, b1, b2⟩ := hh
    exact ⟨⟨cell_below hV ((cell_b b0).trans rfl), cell_below hV ((cell_b b0).trans rfl), cell_below hV ((cell_b b0).trans rfl), cell_below hV ((cell_b b0).trans rfl), cell_below hV ((cell_b b0).trans rfl), cell_below hV ((cell_b b0).trans rfl)⟩, ⟨cell_below hV ((cell_b b1).trans rfl), cell_below hV ((cell_b b1).trans rfl)⟩, ⟨cell_below hV ((cell_b b2).trans rfl), cell_below hV ((cell_b b2).trans rfl)⟩, hbx.trans (hV.mono hbx.size)⟩
  have HNA : Hid (∀ V, RowKit.Below W0.heap.size W0 V → NA V r I) := fun V hV => h.below (hbx.trans (hV.mono hbx.size))
  have HS : Hid (∀ V, RowKit.Below W0.heap.size W0 V → Calls Try.prog 26 #[.agg #[.slice r.o I.T.n r.c, .int .i64 I.ten, .slice r.op I.np r.cp, .slice r.ow I.nw r.cw, .slice r.oe I.ne r.ce, .slice r.oa I.na r.ca]] V fun e w' => e = .returned (.int .i64 (soundI I)) ∧ RowKit.Below V.heap.size V w') := fun V hV => Hd.risound_c (HNA.out V hV)
  obtain ⟨z, hz⟩ : ∃ z, Hid (soundI I = z) := ⟨_, rfl⟩
  rw [hz.out] at HS
  obtain ⟨v1, v2, hv⟩ : ∃ v1 v2, Hid (wnt I sw po X = (v1, v2)) := ⟨_, _, rfl⟩
  rw [hv.out]
  have hW : Hid (wnt I sw po X = if z ≠ 0 ∨ edgeF I.T sw po < 0 then (0, false) else if fidx (adB I X) I.ne < 0 then (0, false) else if wok I sw po X (fidx (adB I X) I.ne).toNat = true then (fidx (adB I X) I.ne, true) else (0, false)) := by
    show wnt I sw po X = _
    unfold wnt; rw [hz.out]
  rw [hv.out] at hW
  have no : Hid ((v1, v2) = (0, false) → v1 = 0 ∧ v2 = false) := fun hh => by simpa using hh
  clear h
  by_cases hz0 : z = 0
  rotate_left
  · have hzb : (z != 0) = true := by simpa using hz0
    obtain ⟨rfl, rfl⟩ := no.out (by rw [hW.out, if_pos (Or.inl hz0)])
    clear hx hy hW hv
    have hs := HS.out W0 (Below.refl _ _)
    rw [hW0.out] at hs
    go_enter Try.func30, Try.ntmps30
    go_wp2_with fail
    refine hs.mono ?_
    rw [← hW0.out]
    rintro e w1 ⟨rfl, hb1⟩
    have hbw := (kp.out w1 hb1).2.2.2
    go_wp2_with fail
    go_ret2
    exact ⟨rfl, hbw⟩
  subst hz0
  have hsn := snd_of hz.out
  have hsum := sd_sum (sd_of hsn.s)
  have HE : Hid (∀ V, RowKit.Below W0.heap.size W0 V → Calls Try.prog 31 #[.agg #[.slice r.o I.T.n r.c], .agg #[.int .i64 sw, .int .i64 po]] V fun e w' => e = .returned (.int .i64 (edgeF I.T sw po)) ∧ RowKit.Below V.heap.size V w') := fun V hV => redge_c (HNA.out V hV).ta sw po
  obtain ⟨own, ho⟩ : ∃ own, Hid (edgeF I.T sw po = own) := ⟨_, rfl⟩
  rw [ho.out] at HE hW
  by_cases hneg : own < 0
  · have hnb : decide (own < 0) = true := decide_eq_true hneg
    obtain ⟨rfl, rfl⟩ := no.out (by rw [hW.out, if_pos (Or.inr hneg)])
    clear hx hy hW hv
    have hs := HS.out W0 (Below.refl _ _)
    rw [hW0.out] at hs
    go_enter Try.func30, Try.ntmps30
    go_wp2_with fail
    refine hs.mono ?_
    rw [← hW0.out]
    rintro e w1 ⟨rfl, hb1⟩
    obtain ⟨⟨x0, x1, x2, x3, x4, x5⟩, ⟨y0, y1⟩, ⟨z0, z1⟩, hbw1⟩ := kp.out w1 hb1
    go_wp2_with fail
    refine (HE.out _ hb1).mono ?_
    rintro e w2 ⟨rfl, hb2⟩
    have hB2 := hb1.trans (hb2.mono hb1.size)
    have hbw := (kp.out w2 hB2).2.2.2
    go_wp2_with fail
    go_ret2
    exact ⟨rfl, hbw⟩
  have hnb : decide (own < 0) = false := decide_eq_false hneg
  have HB : Hid (∀ V, Calls Try.prog 53 #[.agg #[.int .u64 x, .int .u64 y]] V fun e w' => e = .returned (.agg (Hd.arr X.getLsbD)) ∧ RowKit.Below V.heap.size V w') := fun V => by
    have := Hd.Bits_c X V
    rw [← hx, ← hy] at this
    exact this
  have HN : Hid (∀ V, Calls Try.prog 65 #[.agg (Hd.arr X.getLsbD), .int .i64 0, .int .i64 32] V fun e w' => e = .returned (.int .u64 (n32 X : Int)) ∧ RowKit.Below V.heap.size V w') := fun V => by
    have := Hd.Number_c X.getLsbD 0 32 (by decide) (by decide) V
    rw [n32_tn] at this
    exact this
  have HP : Hid (∀ V, RowKit.Below W0.heap.size W0 V → Calls Try.prog 28 #[.agg #[.slice r.o I.T.n r.c, .int .i64 I.ten, .slice r.op I.np r.cp, .slice r.ow I.nw r.cw, .slice r.oe I.ne r.ce, .slice r.oa I.na r.ca], .agg #[.int .u64 x, .int .u64 y]] V fun e w' => e = .returned (.bool (Hd.perB I X)) ∧ RowKit.Below V.heap.size V w') := fun V hV => Hd.ripermits_c (HNA.out V hV) hx hy
  obtain ⟨nn, hnn⟩ : ∃ nn : Int, Hid ((n32 X : Int) = nn) := ⟨_, rfl⟩
  simp only [hnn.out] at HN
  have hadB : Hid (∀ j, adB I X j = decide ((I.en j).addr = nn)) := fun j => by unfold adB; rw [hnn.out]
  have hin0 := edge_in (T := I.T) (sw := sw) (po := po) (by rw [ho.out]; omega)
  have HFD := Lib.hid (fun a => farD_is (sd_of hsn.s) a)
  clear hx hy
  have hs := HS.out W0 (Below.refl _ _)
  rw [hW0.out] at hs
  obtain ⟨bits, hbits⟩ : ∃ b, Hid (Hd.arr X.getLsbD = b) := ⟨_, rfl⟩
  simp only [hbits.out] at HB HN
  go_enter Try.func30, Try.ntmps30
  go_wp2_with fail
  refine hs.mono ?_
  rw [← hW0.out]
  rintro e w1 ⟨rfl, hb1⟩
  clear hs
  obtain ⟨⟨x0, x1, x2, x3, x4, x5⟩, ⟨y0, y1⟩, ⟨z0, z1⟩, hbw1⟩ := kp.out w1 hb1
  go_wp2_with fail
  refine (HE.out _ hb1).mono ?_
  rintro e w2 ⟨rfl, hb2⟩
  have hB2 := hb1.trans (hb2.mono hb1.size)
  clear x0 x1 x2 x3 x4 x5 y0 y1 z0 z1 hbw1
  obtain ⟨⟨x0, x1, x2, x3, x4, x5⟩, ⟨y0, y1⟩, ⟨z0, z1⟩, hbw2⟩ := kp.out w2 hB2
  go_wp2_with fail
  refine (HE.out _ hB2).mono ?_
  rintro e w3 ⟨rfl, hb3⟩
  have hB3 := hB2.trans (hb3.mono hB2.size)
  clear x0 x1 x2 x3 x4 x5 y0 y1 z0 z1 hbw2
  obtain ⟨⟨x0, x1, x2, x3, x4, x5⟩, ⟨y0, y1⟩, ⟨z0, z1⟩, hbw3⟩ := kp.out w3 hB3
  go_wp2_with fail
  refine (HB.out _).mono ?_
  rintro e w4 ⟨rfl, hb4⟩
  have hB4 := hB3.trans (hb4.mono hB3.size)
  clear x0 x1 x2 x3 x4 x5 y0 y1 z0 z1 hbw3
  go_wp2_with fail
  refine (HN.out _).mono ?_
  rintro e w6 ⟨rfl, hb6⟩
  have hB6 := hB4.trans (hb6.mono hB4.size)
  have hkp := fun V hV => kp.out V (hB6.trans (Below.mono hV hB6.size))
  have KP := Lib.hid hkp
  have hna := fun V hV => HNA.out V (hB6.trans (Below.mono hV hB6.size))
  have HNB := Lib.hid hna
  have hpp := fun V hV => HP.out V (hB6.trans (Below.mono hV hB6.size))
  have HPB := Lib.hid hpp
  clear hkp kp hna hpp hb1 hb2 hb3 hb4 hb6 hB2 hB3 hB4 hB6 HB HN HE HS HP HNA
  go_wp2_with fail
  refine wp_world (fun W => W = w6) rfl ?_
  rintro W rfl
  have hne10 := hsn.ne
  go_loopw [6, 7, 10, 11, 12, 13] (fun _ _ v10 _ _ _ wr => ∃ k : Nat, v10 = .int .i64 (k : Int) ∧ k ≤ I.ne ∧ RowKit.Below W.heap.size W wr ∧ ∀ j, j < k → adB I X j = false) (fun _ _ v10 _ _ _ _ => I.ne - (intOf v10).toNat)
  case atStart => exact ⟨0, rfl, Nat.zero_le _, Below.refl _ _, fun j hj => by omega⟩
  case round =>
    obtain ⟨k, rfl, hk, hbr, hall⟩ := hrel
    have HALL := Lib.hid hall
    clear hall
    obtain ⟨⟨x0, x1, x2, x3, x4, x5⟩, ⟨y0, y1⟩, ⟨z0, z1⟩, hbwr⟩ := KP.out wr hbr
    by_cases hkl : k < I.ne
    · have hkI : (k : Int) < (I.ne : Int) := by omega
      obtain ⟨hnc, hcm, b, off, ho9, hx9⟩ := (HNB.out wr hbr).en
      have ho' := Lib.hid (ho9 (by omega))
      have e0 : wr.cell? ⟨b, off + k * 4, none⟩ = some (.int .i64 (I.en k).ten) := hx9 k 0 hkl (by decide)
      have e1 : wr.cell? ⟨b, off + k * 4 + 1, none⟩ = some (.int .u32 (I.en k).addr) := hx9 k 1 hkl (by decide)
      have e2 : wr.cell? ⟨b, off + k * 4 + 2, none⟩ = some (.int .i64 (I.en k).sw) := hx9 k 2 hkl (by decide)
      have e3 : wr.cell? ⟨b, off + k * 4 + 3, none⟩ = some (.int .i64 (I.en k).po) := hx9 k 3 hkl (by decide)
      clear ho9 hx9
      rw [ho'.out] at x4
      obtain ⟨w1, w2⟩ := wf32 (hw.e k hkl)
      have hsk := hsn.sw k hkl
      have hst := stops_in hsn sw po hkl
      have hle := via_le hsn.dup own (I.en k).ten I.nw (Nat.le_refl _)
      have hnext : Hid (adB I X k = false → ∀ j, j < k + 1 → adB I X j = false) := fun hh j hj => by
        by_cases e : j = k
        · subst e; exact hh
        · exact HALL.out j (by omega)
      have hW2 : Hid (adB I X k = true → (v1, v2) = if wok I sw po X k = true then ((k : Int), true) else (0, false)) := fun hh => by
        rw [hW.out, if_neg (by omega), fidx_hit hkl hh HALL.out, if_neg (by omega), Int.toNat_natCast]
      have hwk : Hid (wok I sw po X k = ((alB I own (I.en k).ten && Hd.perB I X) && chainB I.T sw (stops I sw po k))) := by
        show wok I sw po X k = _
        unfold wok stops; rw [ho.out]
      have hsd : Hid (stops I sw po k = viaL I own (I.en k).ten I.nw ++ [(I.en k).sw]) := by
        show stops I sw po k = _
        unfold stops; rw [ho.out]
      have HA : Hid (∀ V, RowKit.Below W.heap.size W V → Calls Try.prog 66 #[.agg #[.int .i64 I.ten, .slice r.op I.np r.cp, .slice r.ow I.nw r.cw], .int .i64 own, .int .i64 (I.en k).ten] V fun e w' => e = .returned (.bool (alB I own (I.en k).ten)) ∧ RowKit.Below V.heap.size V w') := fun V hV => rallowed_c (HNB.out V hV) own _
      have HV : Hid (∀ V, RowKit.Below W.heap.size W V → Calls Try.prog 67 #[.agg #[.int .i64 I.ten, .slice r.op I.np r.cp, .slice r.ow I.nw r.cw], .int .i64 own, .int .i64 (I.en k).ten] V fun e w' => ∃ v, e = .returned v ∧ Lw w' v (viaL I own (I.en k).ten I.nw) ∧ RowKit.Below V.heap.size V w') := fun V hV => rvias_c (HNB.out V hV) (by have := hsn.nw; omega) own _
      obtain ⟨VL, hVL⟩ : ∃ VL, Hid (viaL I own (I.en k).ten I.nw = VL) := ⟨_, rfl⟩
      rw [hVL.out] at HV hsd hle
      have hq := hadB.out k
      obtain ⟨qa, hqa⟩ : ∃ q, Hid (alB I own (I.en k).ten = q) := ⟨_, rfl⟩
      obtain ⟨qp, hqp⟩ : ∃ q, Hid (Hd.perB I X = q) := ⟨_, rfl⟩
      rw [hqa.out] at HA hwk
      have HPC := HPB.out
      rw [hqp.out] at HPC hwk
      have HPD := Lib.hid HPC
      clear HPC
      have HFR : Hid (∀ V, RowKit.Below W.heap.size W V → ∀ a : Nat, a < I.T.n → Calls Try.prog 22 #[.agg #[.slice r.o I.T.n r.c], .int .i64 (a : Int)] V fun e w' => ∃ g, e = .returned (.slice (some ⟨g, 0, none⟩) I.T.n I.T.n) ∧ IA w' g I.T.n (farD I.T a) ∧ V.heap.size ≤ g ∧ RowKit.Below V.heap.size V w') := fun V hV a ha => rfar_ok (HNB.out V hV).ta hsn.s a ha _ (HFD.out a)
      have lb : b < wr.heap.size := World.block_lt_of_cell? wr _ e0
      have l0 : w.heap.size < wr.heap.size := World.block_lt_of_cell? wr _ x0
      have l1 : w.heap.size + 1 < wr.heap.size := World.block_lt_of_cell? wr _ y0
      have l2 : w.heap.size + 1 + 1 < wr.heap.size := World.block_lt_of_cell? wr _ z0
      generalize (I.en k).ten = tn at e0 HA HV
      generalize (I.en k).addr = ad at e1 w1 w2 hq
      generalize (I.en k).sw = ts at e2 hsd hsk
      generalize (I.en k).po = tp at e3
      have hHQ := Lib.hid hq
      clear hq hW
      have hB8 := below_al hbr (.cells #[.int .i64 tn, .int .u32 ad, .int .i64 ts, .int .i64 tp] 68)
      have hnew := heap_alloc_new wr (.cells #[.int .i64 tn, .int .u32 ad, .int .i64 ts, .int .i64 tp] 68)
      by_cases had : ad = nn
      rotate_left
      · have hadb : (ad != nn) = true := by simpa using had
        have HF := Lib.hid (hnext.out (by rw [hHQ.out]; exact decide_eq_false had))
        clear had
        go_wp2_with fail
        go_roundw
        case rel => exact ⟨k + 1, by go_num, by omega, hB8, HF.out⟩
        case measure => simp [intOf] <;> omega
      have hadb : (ad != nn) = false := by simpa using had
      have HW3 := Lib.hid (hW2.out (by rw [hHQ.out]; exact decide_eq_true had))
      clear had hW2 hHQ hnext HALL
      obtain ⟨eb, heb⟩ : ∃ eb, Hid (eb = wr.heap.size) := ⟨_, rfl⟩
      go_wp2_with fail
      refine (HA.out _ hB8).mono ?_
      rintro e w8 ⟨rfl, hb8⟩
      have hB9 := below_st hB8 hb8
      have f0 : w8.cell? ⟨eb, 0, none⟩ = some (.int .i64 tn) := by rw [heb.out]; exact cell_below hb8 ((cell_b hnew).trans rfl)
      have f2 : w8.cell? ⟨eb, 2, none⟩ = some (.int .i64 ts) := by rw [heb.out]; exact cell_below hb8 ((cell_b hnew).trans rfl)
      rw [← heb.out]
      clear x0 x1 x2 x3 x4 x5 y0 y1 z0 z1 hbwr e0 e1 e2 e3 hb8 hnew lb l0 l1 l2 heb hB8
      obtain ⟨⟨x0, x1, x2, x3, x4, x5⟩, ⟨y0, y1⟩, ⟨z0, z1⟩, hbw8⟩ := KP.out w8 hB9
      cases qa with
      | false =>
        have HF := Lib.hid (no.out (by rw [HW3.out, if_neg]; rw [hwk.out]; simp))
        go_wp2_with fail
        go_ret2
        exact ⟨by rw [HF.out.1, HF.out.2]; rfl, hbw8⟩
      | true =>
        go_wp2_with fail
        refine (HPD.out _ hB9).mono ?_
        rintro e w9 ⟨rfl, hb9⟩
        have hB10 := below_st hB9 hb9
        have f0 := cell_below hb9 f0
        have f2 := cell_below hb9 f2
        clear x0 x1 x2 x3 x4 x5 y0 y1 z0 z1 hbw8 hb9 hB9
        obtain ⟨⟨x0, x1, x2, x3, x4, x5⟩, ⟨y0, y1⟩, ⟨z0, z1⟩, hbw9⟩ := KP.out w9 hB10
        cases qp with
        | false =>
          have HF := Lib.hid (no.out (by rw [HW3.out, if_neg]; rw [hwk.out]; simp))
          go_wp2_with fail
          go_ret2
          exact ⟨by rw [HF.out.1, HF.out.2]; rfl, hbw9⟩
        | true =>
          go_wp2_with fail
          refine (HV.out _ hB10).mono ?_
          rintro e w10 ⟨v, rfl, hlw, hb10⟩
          have hB10 := below_st hB10 hb10
          have f2 := cell_below hb10 f2
          clear x0 x1 x2 x3 x4 x5 y0 y1 z0 z1 hbw9 hb10 f0
          obtain ⟨⟨x0, x1, x2, x3, x4, x5⟩, ⟨y0, y1⟩, ⟨z0, z1⟩, hbw10⟩ := KP.out w10 hB10
          have hwk2 : Hid (wok I sw po X k = chainB I.T sw (VL ++ [ts])) := by show wok I sw po X k = _; rw [hwk.out, hsd.out]; simp
          have hyes : Hid (chainB I.T sw (VL ++ [ts]) = true → v1 = (k : Int) ∧ v2 = true) := fun hh => by
            have h8 := HW3.out
            rw [hwk2.out, if_pos hh] at h8
            simpa using h8
          have hnay : Hid (chainB I.T sw (VL ++ [ts]) = false → v1 = 0 ∧ v2 = false) := fun hh => no.out (by rw [HW3.out, hwk2.out, if_neg (by rw [hh]; simp)])
          have hin : ∀ x, x ∈ VL ++ [ts] → 0 ≤ x ∧ x < I.T.n := fun x hx => hst x (by rw [hsd.out]; exact hx)
          have HIN := Lib.hid hin
          clear hst hin hwk hsd HW3 hwk2 HA HV HPD x1 x2 x3 x4 x5 z0 z1
          obtain ⟨s0, rfl⟩ : ∃ s0 : Nat, sw = (s0 : Int) := ⟨sw.toNat, by omega⟩
          obtain ⟨tsn, rfl⟩ : ∃ tsn : Nat, ts = (tsn : Int) := ⟨ts.toNat, by omega⟩
          obtain ⟨o9, c9, rfl, hl9⟩ := hlw
          have hts : tsn < I.T.n := by omega
          have hs0 : s0 < I.T.n := by omega
          have htsI : (tsn : Int) < (I.T.n : Int) := by omega
          have htsI0 : ¬ (tsn : Int) < 0 := by omega
          obtain ⟨q2, hq2⟩ : ∃ q, Hid (rch I.T (s0 : Int) (tsn : Int) = q) := ⟨_, rfl⟩
          cases VL with
          | nil =>
            have hch : Hid (chainB I.T (s0 : Int) ([] ++ [(tsn : Int)]) = (q2 && true)) := by show chainB _ _ _ = _; rw [← hq2.out]; rfl
            clear hl9
            have hRq := hq2
            have hRB := hB10
            go_upto_region 18 with (fail)
            go_cut [94] from 85 to 93 (fun vS wx => vS = .bool (!q2) ∧ RowKit.Below w10.heap.size w10 wx)
            case first =>
              have KS : Hid (∀ V, RowKit.Below w10.heap.size w10 V → V.cell? ⟨w.heap.size, 0, none⟩ = some (.slice r.o I.T.n r.c) ∧ V.cell? ⟨eb, 2, none⟩ = some (.int .i64 (tsn : Int))) := fun V hV => ⟨cell_below hV x0, cell_below hV f2⟩
              obtain ⟨dz, hdz⟩ : ∃ dz, Hid (farD I.T s0 tsn = dz) := ⟨_, rfl⟩
              have hdb : decide (dz < 0) = !q2 := by
                have h8 := hRq.out
                unfold rch at h8
                rw [Int.toNat_natCast, Int.toNat_natCast, hdz.out] at h8
                rw [← h8]
                by_cases h9 : dz < 0
                · rw [decide_eq_true h9, decide_eq_false (by omega)]; rfl
                · rw [decide_eq_false h9, decide_eq_true (by omega)]; rfl
              have HF1 : Hid (∀ V, RowKit.Below w10.heap.size w10 V → Calls Try.prog 22 #[.agg #[.slice r.o I.T.n r.c], .int .i64 (s0 : Int)] V fun e w' => ∃ g, e = .returned (.slice (some ⟨g, 0, none⟩) I.T.n I.T.n) ∧ w'.cell? ⟨g, tsn, none⟩ = some (.int .i64 dz) ∧ RowKit.Below V.heap.size V w' ∧ RowKit.Below w10.heap.size w10 w') := fun V hV => by
                refine (HFR.out V (below_st hRB hV) s0 (by omega)).mono ?_
                rintro e w' ⟨g, rfl, hia, _, hb9⟩
                refine ⟨g, rfl, ?_, hb9, below_st hV hb9⟩
                rw [← hdz.out]
                exact hia.cell (by omega)
              clear HFR
              go_region_with (first
                | (go_at_call 22; refine (HF1.out _ ?_).mono ?_; (focus (first | exact Below.refl _ _ | exact below_dr (Below.refl _ _) | exact below_al (Below.refl _ _) _ | exact below_dr (below_al (Below.refl _ _) _) | exact below_al (below_dr (Below.refl _ _)) _ | exact hbA | exact below_dr hbA | exact below_al hbA _ | exact below_dr (below_al hbA _) | exact below_al (below_dr hbA) _)); rintro e wa ⟨g, rfl, hcg, hbb, hbA⟩; obtain ⟨hk1, hk2⟩ := KS.out _ hbA))
              all_goals clear KS HF1 hbb
              all_goals go_wp2_with fail
              all_goals (go_meet; case rel => exact ⟨rfl, hbA⟩)
            case rest =>
              obtain ⟨rfl, hbc⟩ := hcut
              rename_i Kc hKc
              refine hKc _ _ ?_
              clear hKc
              have hbF := (KP.out _ (below_st hB10 hbc)).2.2.2
              cases q2 with
              | false =>
                have HF := Lib.hid (hnay.out (by rw [hch.out]; rfl))
                go_wp2_with fail
                go_ret2
                exact ⟨by rw [HF.out.1, HF.out.2]; rfl, hbF⟩
              | true =>
                have HF := Lib.hid (hyes.out (by rw [hch.out]; rfl))
                go_wp2_with fail
                go_ret2
                exact ⟨by rw [HF.out.1, HF.out.2]; rfl, hbF⟩
          | cons u L =>
            obtain rfl : L = [] := by
              cases L with
              | nil => rfl
              | cons _ _ => simp at hle
            obtain ⟨gv, rfl, hcv⟩ := hl9 (by simp)
            have hcv0 := hcv 0 (by simp)
            have hui := HIN.out u (by simp)
            obtain ⟨un, rfl⟩ : ∃ un : Nat, u = (un : Int) := ⟨u.toNat, by omega⟩
            have hcv0 : w10.cell? ⟨gv, 0, none⟩ = some (.int .i64 (un : Int)) := hcv0
            have hun : un < I.T.n := by omega
            have hunI : (un : Int) < (I.T.n : Int) := by omega
            have hunI0 : ¬ (un : Int) < 0 := by omega
            obtain ⟨q1, hq1⟩ : ∃ q, Hid (rch I.T (s0 : Int) (un : Int) = q) := ⟨_, rfl⟩
            obtain ⟨q3, hq3⟩ : ∃ q, Hid (rch I.T (un : Int) (tsn : Int) = q) := ⟨_, rfl⟩
            have hch : Hid (chainB I.T (s0 : Int) ([(un : Int)] ++ [(tsn : Int)]) = (q1 && (q3 && true))) := by show chainB _ _ _ = _; rw [← hq1.out, ← hq3.out]; rfl
            clear hcv hl9
            have hRq := hq1
            have hRB := hB10
            go_upto_region 15 with (fail)
            go_cut [81] from 72 to 80 (fun vS wx => vS = .bool (!q1) ∧ RowKit.Below w10.heap.size w10 wx)
            case first =>
              have KS : Hid (∀ V, RowKit.Below w10.heap.size w10 V → V.cell? ⟨w.heap.size, 0, none⟩ = some (.slice r.o I.T.n r.c) ∧ V.cell? ⟨gv, 0, none⟩ = some (.int .i64 (un : Int))) := fun V hV => ⟨cell_below hV x0, cell_below hV hcv0⟩
              obtain ⟨dz, hdz⟩ : ∃ dz, Hid (farD I.T s0 un = dz) := ⟨_, rfl⟩
              have hdb : decide (dz < 0) = !q1 := by
                have h8 := hRq.out
                unfold rch at h8
                rw [Int.toNat_natCast, Int.toNat_natCast, hdz.out] at h8
                rw [← h8]
                by_cases h9 : dz < 0
                · rw [decide_eq_true h9, decide_eq_false (by omega)]; rfl
                · rw [decide_eq_false h9, decide_eq_true (by omega)]; rfl
              have HF1 : Hid (∀ V, RowKit.Below w10.heap.size w10 V → Calls Try.prog 22 #[.agg #[.slice r.o I.T.n r.c], .int .i64 (s0 : Int)] V fun e w' => ∃ g, e = .returned (.slice (some ⟨g, 0, none⟩) I.T.n I.T.n) ∧ w'.cell? ⟨g, un, none⟩ = some (.int .i64 dz) ∧ RowKit.Below V.heap.size V w' ∧ RowKit.Below w10.heap.size w10 w') := fun V hV => by
                refine (HFR.out V (below_st hRB hV) s0 (by omega)).mono ?_
                rintro e w' ⟨g, rfl, hia, _, hb9⟩
                refine ⟨g, rfl, ?_, hb9, below_st hV hb9⟩
                rw [← hdz.out]
                exact hia.cell (by omega)
              clear HFR
              go_region_with (first
                | (go_at_call 22; refine (HF1.out _ ?_).mono ?_; (focus (first | exact Below.refl _ _ | exact below_dr (Below.refl _ _) | exact below_al (Below.refl _ _) _ | exact below_dr (below_al (Below.refl _ _) _) | exact below_al (below_dr (Below.refl _ _)) _ | exact hbA | exact below_dr hbA | exact below_al hbA _ | exact below_dr (below_al hbA _) | exact below_al (below_dr hbA) _)); rintro e wa ⟨g, rfl, hcg, hbb, hbA⟩; obtain ⟨hk1, hk2⟩ := KS.out _ hbA))
              all_goals clear KS HF1 hbb
              all_goals go_wp2_with fail
              all_goals (go_meet; case rel => exact ⟨rfl, hbA⟩)
            case rest =>
              obtain ⟨rfl, hbc⟩ := hcut
              rename_i Kc hKc
              refine hKc _ _ ?_
              clear hKc
              have hBc := below_st hB10 hbc
              refine wp_world (fun W1 => W1 = wc) rfl ?_
              rintro W15 rfl
              have xc := cell_below hbc x0
              have gc := cell_below hbc hcv0
              have ec := cell_below hbc f2
              clear x0 hcv0 f2
              cases q1 with
              | false =>
                have HF := Lib.hid (hnay.out (by rw [hch.out]; rfl))
                have hbF := (KP.out _ hBc).2.2.2
                go_wp2_with fail
                go_ret2
                exact ⟨by rw [HF.out.1, HF.out.2]; rfl, hbF⟩
              | true =>
                have hSq := hq3
                have hSB := hBc
                go_upto_region 18 with (fail)
                go_cut [94] from 85 to 93 (fun vS wx => vS = .bool (!q3) ∧ RowKit.Below W15.heap.size W15 wx)
                case first =>
                  have KS : Hid (∀ V, RowKit.Below W15.heap.size W15 V → V.cell? ⟨w.heap.size, 0, none⟩ = some (.slice r.o I.T.n r.c) ∧ V.cell? ⟨eb, 2, none⟩ = some (.int .i64 (tsn : Int))) := fun V hV => ⟨cell_below hV xc, cell_below hV ec⟩
                  obtain ⟨dz, hdz⟩ : ∃ dz, Hid (farD I.T un tsn = dz) := ⟨_, rfl⟩
                  have hdb : decide (dz < 0) = !q3 := by
                    have h8 := hSq.out
                    unfold rch at h8
                    rw [Int.toNat_natCast, Int.toNat_natCast, hdz.out] at h8
                    rw [← h8]
                    by_cases h9 : dz < 0
                    · rw [decide_eq_true h9, decide_eq_false (by omega)]; rfl
                    · rw [decide_eq_false h9, decide_eq_true (by omega)]; rfl
                  have HF1 : Hid (∀ V, RowKit.Below W15.heap.size W15 V → Calls Try.prog 22 #[.agg #[.slice r.o I.T.n r.c], .int .i64 (un : Int)] V fun e w' => ∃ g, e = .returned (.slice (some ⟨g, 0, none⟩) I.T.n I.T.n) ∧ w'.cell? ⟨g, tsn, none⟩ = some (.int .i64 dz) ∧ RowKit.Below V.heap.size V w' ∧ RowKit.Below W15.heap.size W15 w') := fun V hV => by
                    refine (HFR.out V (below_st hSB hV) un (by omega)).mono ?_
                    rintro e w' ⟨g, rfl, hia, _, hb9⟩
                    refine ⟨g, rfl, ?_, hb9, below_st hV hb9⟩
                    rw [← hdz.out]
                    exact hia.cell (by omega)
                  clear HFR
                  go_region_with (first
                    | (go_at_call 22; refine (HF1.out _ ?_).mono ?_; (focus (first | exact Below.refl _ _ | exact below_dr (Below.refl _ _) | exact below_al (Below.refl _ _) _ | exact below_dr (below_al (Below.refl _ _) _) | exact below_al (below_dr (Below.refl _ _)) _ | exact hbA | exact below_dr hbA | exact below_al hbA _ | exact below_dr (below_al hbA _) | exact below_al (below_dr hbA) _)); rintro e wa ⟨g, rfl, hcg, hbb, hbA⟩; obtain ⟨hk1, hk2⟩ := KS.out _ hbA))
                  all_goals clear KS HF1 hbb
                  all_goals go_wp2_with fail
                  all_goals (go_meet; case rel => exact ⟨rfl, hbA⟩)
                case rest =>
                  obtain ⟨rfl, hbc⟩ := hcut
                  rename_i Kc hKc
                  refine hKc _ _ ?_
                  clear hKc
                  have hbF := (KP.out _ (below_st hBc hbc)).2.2.2
                  cases q3 with
                  | false =>
                    have HF := Lib.hid (hnay.out (by rw [hch.out]; rfl))
                    go_wp2_with fail
                    go_ret2
                    exact ⟨by rw [HF.out.1, HF.out.2]; rfl, hbF⟩
                  | true =>
                    have HF := Lib.hid (hyes.out (by rw [hch.out]; rfl))
                    go_wp2_with fail
                    go_ret2
                    exact ⟨by rw [HF.out.1, HF.out.2]; rfl, hbF⟩
    · have hke : k = I.ne := by omega
      subst hke
      have HF := Lib.hid (no.out (by rw [hW.out, if_neg (by omega), if_pos (by rw [fidx_none HALL.out]; decide)]))
      clear HALL
      go_wp2_with fail
      go_ret2
      exact ⟨by rw [HF.out.1, HF.out.2]; rfl, hbwr⟩
end Go.Proofs.Ytgebehnlfihliaa
