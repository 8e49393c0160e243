/- Delta: the law's apply. -/
import Derived.Test.YtdmakcfgcgioeaaDCopy
import Derived.Test.YtdmakcfgcgioeaaDBack
namespace Go.Proofs.Ytdmakcfgcgioeaa
open Go.RowKit Go.Maps
set_option linter.unusedSimpArgs false
set_option linter.unusedVariables false
set_option maxRecDepth 100000
attribute [local go_sem ↓] Go.wp_at_zero Go.wp_at_succ
theorem eqRZ (x : Ru) (w : World) : (Op.equalIn 10000 53 (.agg #[.int .i64 x.p, .int .u64 x.vh, .int .u64 x.vl, .int .u64 x.ch, .int .u64 x.cl, .int .i64 x.kd, .int .i64 x.po, .int .i64 x.tb, .int .u64 x.sh, .int .u64 x.sl, .int .u64 x.th, .int .u64 x.tl]) (.agg #[.int .i64 0, .int .u64 0, .int .u64 0, .int .u64 0, .int .u64 0, .int .i64 0, .int .i64 0, .int .i64 0, .int .u64 0, .int .u64 0, .int .u64 0, .int .u64 0])).run Try.prog w = .ok (decide (x = zeroR)) w := by
  have := eqRR x zeroR w
  exact this
attribute [local go_sem ↓] eqRZ
theorem below_gb {V w : World} {r : Option Nat} (h : RowKit.Below V.heap.size V w) : V.grownBy w r := ⟨h.os, h.tape, h.output, h.size, fun k hk _ => h.block k hk⟩
theorem hpn1 (w : World) (x y : Obj) : ((w.alloc x).alloc y).heap[w.heap.size]? = some x := by rw [al_lt' (by simp)]; exact heap_alloc_new w x
theorem hpn2 (w : World) (x y : Obj) : ((w.alloc x).alloc y).heap[w.heap.size + 1]? = some y := by
  have := heap_alloc_new (w.alloc x) y
  rwa [World.size_alloc] at this
theorem rule_at (x : Ed) (k : Nat) (v : Value) (h : (ceR x.r)[k]? = some v) : (ceE x).toArray[4 + k]? = some v := by
  rw [Nat.add_comm]
  simpa [ceE] using h
attribute [local go_sem ↓] execOp_ld53 execOp_ld55 execOp_st55 st55_new
set_option maxHeartbeats 8000000 in
theorem lapply_c (w : World) {C : Cf} {vp ve vw vt : Value} (h : RC w C vp ve vw vt) (hbd : Bd C) {K : Nat} (hbt : BT K C.tb) {ol : Option Addr} {cl : Nat} {l : List Ed} (hr : Rd w ol l.length cl (l.flatMap ceE)) (hK : K + l.length ≤ 1466015503701) :
    Calls Try.prog 9 #[.agg #[vp, .int .i64 C.ten, ve, vw, vt], .slice ol l.length cl] w fun e w' => ∃ vp' ve' vw' vt' m, e = .returned (.tuple #[.agg #[vp', .int .i64 (applyF C l).ten, ve', vw', vt'], .int .i64 (runF C.tb l).1]) ∧ OC w' w.heap.size m (applyF C l) vp' ve' vw' vt' ∧ RowKit.Below w.heap.size w w' := by
  obtain ⟨op, cp, _, _, rfl, _⟩ := h.pt.get
  obtain ⟨oe, ce, _, _, rfl, _⟩ := h.pe.get len2
  obtain ⟨ow, cw, _, _, rfl, _⟩ := h.wy.get len3
  obtain ⟨ot, ct, _, _, rfl, _⟩ := h.tb.get
  obtain ⟨nT, hnT⟩ : ∃ n, Hid (C.tb.length = n) := ⟨_, Lib.hid rfl⟩
  rw [hnT.out] at h ⊢
  obtain ⟨W, hW⟩ : ∃ W, Hid (W = (w.alloc (.cells #[.slice op C.pt.length cp, .int .i64 C.ten, .slice oe C.pe.length ce, .slice ow C.wy.length cw, .slice ot nT ct] 31)).alloc (.cells #[.slice none 0 0, .int .i64 0, .slice none 0 0, .slice none 0 0, .slice none 0 0] 31)) := ⟨_, Lib.hid rfl⟩
  have hbx : RowKit.Below w.heap.size w W := by rw [hW.out]; exact below2 _ _ _
  have hs : W.heap.size = w.heap.size + 1 + 1 := by rw [hW.out]; simp
  have hm0 : W.heap[w.heap.size]? = some (.cells #[.slice op C.pt.length cp, .int .i64 C.ten, .slice oe C.pe.length ce, .slice ow C.wy.length cw, .slice ot nT ct] 31 (0, 0)) := by
    rw [hW.out, al_lt' (by simp)]; exact heap_alloc_new w _
  have hm1 : W.heap[w.heap.size + 1]? = some (.cells #[.slice none 0 0, .int .i64 0, .slice none 0 0, .slice none 0 0, .slice none 0 0] 31 (0, 0)) := by
    have := heap_alloc_new (w.alloc (.cells #[.slice op C.pt.length cp, .int .i64 C.ten, .slice oe C.pe.length ce, .slice ow C.wy.length cw, .slice ot nT ct] 31)) (.cells #[.slice none 0 0, .int .i64 0, .slice none 0 0, .slice none 0 0, .slice none 0 0] 31)
    rw [hW.out]
    rwa [World.size_alloc] at this
  have hcl := copy_c W (h.below hbx) hbd
  have HR := Lib.hid hr
  have HB := Lib.hid hbd
  have HBT := Lib.hid hbt
  clear h hbd hbt hr
  have y0 : W.cell? ⟨w.heap.size, 0, none⟩ = some (.slice op C.pt.length cp) := (cell_b hm0).trans rfl
  have y1 : W.cell? ⟨w.heap.size, 1, none⟩ = some (.int .i64 C.ten) := (cell_b hm0).trans rfl
  have y2 : W.cell? ⟨w.heap.size, 2, none⟩ = some (.slice oe C.pe.length ce) := (cell_b hm0).trans rfl
  have y3 : W.cell? ⟨w.heap.size, 3, none⟩ = some (.slice ow C.wy.length cw) := (cell_b hm0).trans rfl
  have y4 : W.cell? ⟨w.heap.size, 4, none⟩ = some (.slice ot nT ct) := (cell_b hm0).trans rfl
  go_enter Try.func9, Try.ntmps9
  refine wp_hide ?_
  intro ZZ HZZ
  go_upto_region 1 with (fail)
  rw [← hW.out]
  go_wp2_with fail
  refine hcl.mono ?_
  rintro e w1 ⟨vp1, ve1, vw1, vt1, m, rfl, hoc, hb1⟩
  clear hcl y0 y1 y2 y3 y4
  obtain ⟨op1, cp1, rfl⟩ := hoc.pt.form
  obtain ⟨oe1, ce1, rfl⟩ := Ow.form hoc.pe
  obtain ⟨ow1, cw1, rfl⟩ := Ow.form hoc.wy
  obtain ⟨ot1, ct1, rfl⟩ := hoc.tb.form
  rw [hnT.out] at hoc ⊢
  have HOC := Lib.hid hoc
  have ham := hoc.am
  have hmw := hoc.mw
  have hs1 := hb1.size
  have N1 := (hb1.block (w.heap.size) (by omega)).trans hm0
  have M1 := (hb1.block (w.heap.size + 1) (by omega)).trans hm1
  have HM1' := Lib.hid M1
  clear hoc hm0 hm1 M1
  have r0 : w1.cell? ⟨w.heap.size, 0, none⟩ = some (.slice op C.pt.length cp) := (cell_b N1).trans rfl
  have r1 : w1.cell? ⟨w.heap.size, 1, none⟩ = some (.int .i64 C.ten) := (cell_b N1).trans rfl
  have r2 : w1.cell? ⟨w.heap.size, 2, none⟩ = some (.slice oe C.pe.length ce) := (cell_b N1).trans rfl
  have r3 : w1.cell? ⟨w.heap.size, 3, none⟩ = some (.slice ow C.wy.length cw) := (cell_b N1).trans rfl
  have r4 : w1.cell? ⟨w.heap.size, 4, none⟩ = some (.slice ot nT ct) := (cell_b N1).trans rfl
  have g0 : w1.frozen? ⟨w.heap.size, 0, none⟩ = false := by simp [World.frozen?, N1]
  have g1 : w1.frozen? ⟨w.heap.size, 1, none⟩ = false := by simp [World.frozen?, N1]
  have g2 : w1.frozen? ⟨w.heap.size, 2, none⟩ = false := by simp [World.frozen?, N1]
  have g3 : w1.frozen? ⟨w.heap.size, 3, none⟩ = false := by simp [World.frozen?, N1]
  have g4 : w1.frozen? ⟨w.heap.size, 4, none⟩ = false := by simp [World.frozen?, N1]
  have FB := Lib.hid (five_cells (.slice op1 C.pt.length cp1) (.int .i64 C.ten) (.slice oe1 C.pe.length ce1) (.slice ow1 C.wy.length cw1) (.slice ot1 nT ct1) N1)
  clear N1
  go_upto_region 2 with (fail)
  refine wp_world (fun V => V.heap[w.heap.size]? = some (.cells #[.slice op1 C.pt.length cp1, .int .i64 C.ten, .slice oe1 C.pe.length ce1, .slice ow1 C.wy.length cw1, .slice ot1 nT ct1] 31 (0, 0)) ∧ V.heap[w.heap.size + 1]? = some (.cells #[.slice none 0 0, .int .i64 0, .slice none 0 0, .slice none 0 0, .slice none 0 0] 31 (0, 0)) ∧ (∀ g, g ≠ w.heap.size → V.heap[g]? = w1.heap[g]?) ∧ RowKit.Below w.heap.size w V ∧ V.heap.size = w1.heap.size) ?_ ?_
  · have hsm : ∀ g, g ≠ w.heap.size → (((((w1.setCell ⟨w.heap.size, 0, none⟩ (.slice op1 C.pt.length cp1)).setCell ⟨w.heap.size, 1, none⟩ (.int .i64 C.ten)).setCell ⟨w.heap.size, 2, none⟩ (.slice oe1 C.pe.length ce1)).setCell ⟨w.heap.size, 3, none⟩ (.slice ow1 C.wy.length cw1)).setCell ⟨w.heap.size, 4, none⟩ (.slice ot1 nT ct1)).heap[g]? = w1.heap[g]? := fun g hg => (Below.heap_setCell _ _ _ _ hg).trans ((Below.heap_setCell _ _ _ _ hg).trans ((Below.heap_setCell _ _ _ _ hg).trans ((Below.heap_setCell _ _ _ _ hg).trans (Below.heap_setCell _ _ _ _ hg))))
    exact ⟨FB.out, (hsm _ (by omega)).trans HM1'.out, hsm, Below.setCell (Below.setCell (Below.setCell (Below.setCell (Below.setCell (below_st hbx hb1) (by simp) _) (by simp) _) (by simp) _) (by simp) _) (by simp) _, by simp⟩
  rintro W3 ⟨n0, m1', hsame3, hbw, hsz3⟩
  clear r0 g0 r1 g1 r2 g2 r3 g3 r4 g4 FB
  obtain ⟨S, hS⟩ : ∃ S : Nat → Prop, Hid (S = fun g => m ≤ g) := ⟨_, Lib.hid rfl⟩
  have hT3 : OR 43 (OR 44 (O1 ceR 53 12)) W3 S C.tb (.slice ot1 nT ct1) := by
    rw [hS.out]
    exact (goodR (goodR (good1 ceR 53 12))).frame HOC.out.tb fun g hg _ => hsame3 g (by omega)
  have HT3 := Lib.hid hT3
  have HN0 := Lib.hid n0
  have HS3 := Lib.hid hsame3
  have HM1 := Lib.hid m1'
  obtain ⟨hr1, hr2, b, off, hr3, hr4⟩ := HR.out
  have HR3 := Lib.hid hr3
  have HR4 := Lib.hid hr4
  obtain ⟨nl, hnl⟩ : ∃ n, Hid (l.length = n) := ⟨_, Lib.hid rfl⟩
  rw [hnl.out] at hr1 HR3 hK
  simp only [maxLen] at hr2
  have mm : ∀ g, S g → m ≤ g := fun g hg => by rw [hS.out] at hg; exact hg
  have MM := Lib.hid mm
  have mk : ∀ g, m ≤ g → S g := fun g hg => by rw [hS.out]; exact hg
  have MK := Lib.hid mk
  have hwm : w.heap.size + 1 < m := by omega
  obtain ⟨l0, li, lz0, lz1, lz2⟩ := info_parts inf53
  clear hT3 n0 hsame3 hr3 hr4 mm mk m1' hW
  go_wp2_with fail
  go_loopw [6] (fun v6 wr => ∃ (j : Nat) (T : List (List (List Ru))), v6 = .int .i64 (j : Int) ∧ j ≤ nl ∧ Hid (T.length = nT) ∧ Hid (BT (K + j) T) ∧ Hid (OR 43 (OR 44 (O1 ceR 53 12)) wr S T (.slice ot1 nT ct1)) ∧ Fr S W3 wr ∧ Hid (runF C.tb l = runF T (l.drop j))) (fun v6 _ => nl - (intOf v6).toNat)
  case atStart => exact ⟨0, C.tb, rfl, Nat.zero_le _, hnT, HBT, HT3, Fr.refl _ _, Lib.hid rfl⟩
  case round =>
    obtain ⟨j, T, rfl, hj, hTl, HBTT, HOR, hfr, HRUN⟩ := hrel
    have hwr : ∀ g, g < w.heap.size → wr.heap[g]? = w.heap[g]? := fun g hg => (hfr.same g (Nat.lt_of_lt_of_le hg hbw.size) (fun h => by have := MM.out g h; omega)).trans (hbw.block g hg)
    have hwc : wr.heap[w.heap.size]? = some (.cells #[.slice op1 C.pt.length cp1, .int .i64 C.ten, .slice oe1 C.pe.length ce1, .slice ow1 C.wy.length cw1, .slice ot1 nT ct1] 31 (0, 0)) := (hfr.same _ (by omega) (fun h => by have := MM.out _ h; omega)).trans HN0.out
    have HWC := Lib.hid hwc
    have hfs := hfr.size
    have hFR := Lib.hid hfr
    clear hfr hwc
    by_cases hlt : j < nl
    · have hltI : (j : Int) < (nl : Int) := by omega
      have hjl : j < l.length := by rw [hnl.out]; exact hlt
      obtain ⟨x, hx⟩ : ∃ x, Hid (l[j] = x) := ⟨_, Lib.hid rfl⟩
      have hd : l.drop j = x :: l.drop (j + 1) := by rw [List.drop_eq_getElem_cons hjl, hx.out]
      have HD := Lib.hid hd
      have hcell : ∀ k, k < 16 → wr.cell? ⟨b, off + (j * 16 + k), none⟩ = (ceE x)[k]? := fun k hk => by
        have e1 := flat_at lenE l j hjl k hk
        rw [hx.out] at e1
        obtain ⟨u, hu⟩ : ∃ u, (ceE x)[k]? = some u := ⟨_, List.getElem?_eq_getElem (by rw [lenE]; exact hk)⟩
        rw [hu] at e1 ⊢
        have e2 := HR4.out _ u e1
        rw [World.cell?_of_block (w := w) (hwr _ (World.block_lt_of_cell? w _ e2))]
        exact e2
      clear hd hwr
      obtain ⟨sw, tb, at_, gone, r⟩ := x
      have hld : (ld55 (.pointer (some ⟨b, off + j * 16, none⟩))).run Try.prog wr = .ok (.value (.agg #[.int .i64 sw, .int .i64 tb, .int .i64 at_, .bool gone, .int .i64 r.p, .int .u64 r.vh, .int .u64 r.vl, .int .u64 r.ch, .int .u64 r.cl, .int .i64 r.kd, .int .i64 r.po, .int .i64 r.tb, .int .u64 r.sh, .int .u64 r.sl, .int .u64 r.th, .int .u64 r.tl])) wr := run_ld55 (y := ⟨sw, tb, at_, gone, r⟩) fun k v hv => by
        have := hcell k (List.getElem?_eq_some_iff.1 hv).1
        rw [← Nat.add_assoc] at this
        exact this.trans hv
      have ho' := Lib.hid (HR3.out (by omega))
      clear hcell
      rw [ho'.out]
      go_upto_region 6 with (fail)
      refine wp_world (fun V => V.heap[wr.heap.size]? = some (.cells #[.int .i64 sw, .int .i64 tb, .int .i64 at_, .bool gone, .int .i64 r.p, .int .u64 r.vh, .int .u64 r.vl, .int .u64 r.ch, .int .u64 r.cl, .int .i64 r.kd, .int .i64 r.po, .int .i64 r.tb, .int .u64 r.sh, .int .u64 r.sl, .int .u64 r.th, .int .u64 r.tl] 55 (0, 0)) ∧ RowKit.Below wr.heap.size wr V ∧ wr.heap.size < V.heap.size) ⟨heap_alloc_new wr _, below_al (Below.refl _ _) _, by simp⟩ ?_
      clear hld
      rintro V ⟨hx5, hbV, hltV⟩
      have HX5 := Lib.hid hx5
      have x0 : V.cell? ⟨wr.heap.size, 0, none⟩ = some (.int .i64 sw) := (cell_b hx5).trans rfl
      have x1 : V.cell? ⟨wr.heap.size, 1, none⟩ = some (.int .i64 tb) := (cell_b hx5).trans rfl
      have c0 : V.cell? ⟨w.heap.size, 4, none⟩ = some (.slice ot1 nT ct1) := (cell_b ((hbV.block _ (by omega)).trans HWC.out)).trans rfl
      have horV := (goodR (goodR (good1 ceR 53 12))).frame (W' := V) ((goodR (goodR (good1 ceR 53 12))).mono HOR.out (S' := fun g => S g ∧ g < wr.heap.size) fun g h1 h2 => ⟨h1, h2⟩) fun g hg _ => hbV.block g hg.2
      have HFV := Lib.hid (hFR.out.trans (Fr.of_below (S := S) hbV))
      have hsV : W3.heap.size ≤ V.heap.size := by have := hbV.size; omega
      have x0' := reg_c x0
      have x1' := reg_c x1
      have c0' := reg_c c0
      clear hx5
      by_cases hE : sw < 0 ∨ (nT : Int) ≤ sw ∨ tb < 0 ∨ ((T.getD sw.toNat []).length : Int) ≤ tb
      · have HF : Hid (oneF T ⟨sw, tb, at_, gone, r⟩ = (4, T)) := if_pos (by rw [hTl.out]; exact hE)
        have HE := Lib.hid hE
        have HORV := Lib.hid horV
        clear hE horV
        go_cut [48] from 6 to 6 (fun v48 wx => v48 = .bool true ∧ RowKit.Below V.heap.size V wx)
        case first =>
          by_cases h1 : sw < 0
          · have e1 : decide (sw < 0) = true := decide_eq_true h1
            refine wp_region_quiet_below (by kernel_rfl) (by kernel_rfl) ?_; (repeat (go_big_quiet_step (fail))); refine wpQuiet_nil ?_; intro _ hw'; obtain ⟨⟨dq, osq⟩, hw''⟩ := hw'; subst hw''
            go_wp2_with fail
            (go_meet; case rel => exact ⟨rfl, below_regrown V dq osq⟩)
          by_cases h2 : (nT : Int) ≤ sw
          · have e1 : decide (sw < 0) = false := decide_eq_false h1
            have e2 : decide ((nT : Int) ≤ sw) = true := decide_eq_true h2
            refine wp_region_quiet_below (by kernel_rfl) (by kernel_rfl) ?_; (repeat (go_big_quiet_step (fail))); refine wpQuiet_nil ?_; intro _ hw'; obtain ⟨⟨dq, osq⟩, hw''⟩ := hw'; subst hw''
            go_wp2_with fail
            (go_meet; case rel => exact ⟨rfl, below_regrown V dq osq⟩)
          by_cases h3 : tb < 0
          · have e1 : decide (sw < 0) = false := decide_eq_false h1
            have e2 : decide ((nT : Int) ≤ sw) = false := decide_eq_false h2
            have e3 : decide (tb < 0) = true := decide_eq_true h3
            refine wp_region_quiet_below (by kernel_rfl) (by kernel_rfl) ?_; (repeat (go_big_quiet_step (fail))); refine wpQuiet_nil ?_; intro _ hw'; obtain ⟨⟨dq, osq⟩, hw''⟩ := hw'; subst hw''
            go_wp2_with fail
            (go_meet; case rel => exact ⟨rfl, below_regrown V dq osq⟩)
          obtain ⟨sn, rfl⟩ : ∃ sn : Nat, sw = (sn : Int) := ⟨sw.toNat, by omega⟩
          have hsn : sn < T.length := by rw [hTl.out]; omega
          have e1 : decide ((sn : Int) < 0) = false := decide_eq_false h1
          have e2 : decide ((nT : Int) ≤ (sn : Int)) = false := decide_eq_false h2
          have e2' : decide (nT ≤ sn) = false := decide_eq_false (by omega)
          have e3 : decide (tb < 0) = false := decide_eq_false h3
          have hsnI : (sn : Int) < (nT : Int) := by omega
          clear h1 h2
          obtain ⟨vs, Ss, hox⟩ := HORV.out
          have hoxr := hox.row
          rw [hTl.out] at hoxr
          obtain ⟨bo, curo, eo, hSo, hgo, hno, hmo, hco, hto⟩ := hoxr.blk (by omega)
          obtain ⟨u, hu, hou⟩ := hox.el sn hsn
          obtain ⟨os9, cs9, rfl⟩ := hou.form
          rw [eo] at hoxr c0 c0' hox
          have y0 : V.cell? ⟨bo, sn, none⟩ = some (.slice os9 T[sn].length cs9) := by
            have := hoxr.cells (g := bo) rfl sn _ hu
            rw [Addr.add_lit, Nat.zero_add] at this
            exact this
          have hgd : T.getD sn [] = T[sn] := by rw [List.getD_eq_getElem?_getD, List.getElem?_eq_getElem hsn]; rfl
          obtain ⟨ln, hln⟩ : ∃ ln, Hid (T[sn].length = ln) := ⟨_, Lib.hid rfl⟩
          rw [hln.out] at y0
          have y0' := reg_c y0
          have HEO := Lib.hid eo
          have HGD := Lib.hid hgd
          have HOX := Lib.hid hox
          have HOU := Lib.hid hou
          have HU := Lib.hid hu
          clear hgd hox hoxr hou hu hgo hto eo
          have h4 : (ln : Int) ≤ tb := by
            rcases HE.out with h | h | h | h
            · omega
            · omega
            · omega
            · rw [Int.toNat_natCast, HGD.out, hln.out] at h; exact h
          have e4 : decide ((ln : Int) ≤ tb) = true := decide_eq_true h4
          refine wp_region_quiet_below (by kernel_rfl) (by kernel_rfl) ?_; (repeat (go_big_quiet_step (fail))); refine wpQuiet_nil ?_; intro _ hw'; obtain ⟨⟨dq, osq⟩, hw''⟩ := hw'; subst hw''
          go_wp2_with fail
          (go_meet; case rel => exact ⟨rfl, below_regrown V dq osq⟩)
        case rest =>
          obtain ⟨rfl, hb7⟩ := hcut
          rename_i Kc hKc
          refine hKc _ _ ?_
          clear hKc
          refine wp_world (fun V7 => V7 = wc) rfl ?_
          rintro V7 rfl
          clear x0' x1' c0' x0 x1 c0
          have N1 := (hb7.block (w.heap.size + 1) (by omega)).trans ((HFV.out.same (w.heap.size + 1) (by omega) (fun h => by have := MM.out _ h; omega)).trans HM1.out)
          have r0 : V7.cell? ⟨w.heap.size + 1, 0, none⟩ = some (.slice none 0 0) := (cell_b N1).trans rfl
          have r1 : V7.cell? ⟨w.heap.size + 1, 1, none⟩ = some (.int .i64 0) := (cell_b N1).trans rfl
          have r2 : V7.cell? ⟨w.heap.size + 1, 2, none⟩ = some (.slice none 0 0) := (cell_b N1).trans rfl
          have r3 : V7.cell? ⟨w.heap.size + 1, 3, none⟩ = some (.slice none 0 0) := (cell_b N1).trans rfl
          have r4 : V7.cell? ⟨w.heap.size + 1, 4, none⟩ = some (.slice none 0 0) := (cell_b N1).trans rfl
          have g0 : V7.frozen? ⟨w.heap.size + 1, 0, none⟩ = false := by simp [World.frozen?, N1]
          have g1 : V7.frozen? ⟨w.heap.size + 1, 1, none⟩ = false := by simp [World.frozen?, N1]
          have g2 : V7.frozen? ⟨w.heap.size + 1, 2, none⟩ = false := by simp [World.frozen?, N1]
          have g3 : V7.frozen? ⟨w.heap.size + 1, 3, none⟩ = false := by simp [World.frozen?, N1]
          have g4 : V7.frozen? ⟨w.heap.size + 1, 4, none⟩ = false := by simp [World.frozen?, N1]
          have FZ := Lib.hid (five_cells (.slice none 0 0) (.int .i64 0) (.slice none 0 0) (.slice none 0 0) (.slice none 0 0) N1)
          have hrn : runF C.tb l = (4, T) := by
            rw [HRUN.out, HD.out]
            simp only [runF]
            rw [HF.out]
            rfl
          have HRN := Lib.hid hrn
          have HZC : Hid (applyF C l = zeroC) := by
            show applyF C l = zeroC
            unfold applyF
            rw [hrn]
            rfl
          have hbl6 := (below_fr hbw HFV.out (fun g hg => by have := MM.out g hg; omega)).trans (hb7.mono (below_fr hbw HFV.out (fun g hg => by have := MM.out g hg; omega)).size)
          clear hrn N1
          go_wp2_with fail
          (try simp only [Exit.inBlock, Exit.then])
          rw [HZZ.out]
          refine bodyPost_ret (results_c31 rfl _ _ (w.heap.size + 1) _ _ _ _ _ (0, 0) rfl FZ.out) rfl ?_
          rw [HZC.out, HRN.out]
          first
            | exact ⟨_, _, _, _, w.heap.size, rfl, ⟨Nat.le_refl _, by have := hbl6.size; simpa using this, ⟨_, _, OX.nil⟩, Ow.nil rfl, Ow.nil rfl, ⟨_, _, OX.nil⟩⟩, Below.setCell (Below.setCell (Below.setCell (Below.setCell (Below.setCell hbl6 (by simp) _) (by simp) _) (by simp) _) (by simp) _) (by simp) _⟩
            | exact ⟨_, _, _, _, rfl, ⟨w.heap.size, Nat.le_refl _, by have := hbl6.size; simpa using this, ⟨_, _, OX.nil⟩, Ow.nil rfl, Ow.nil rfl, ⟨_, _, OX.nil⟩⟩, Below.setCell (Below.setCell (Below.setCell (Below.setCell (Below.setCell hbl6 (by simp) _) (by simp) _) (by simp) _) (by simp) _) (by simp) _⟩
      have h1 : ¬ sw < 0 := fun h => hE (.inl h)
      have h2 : ¬ (nT : Int) ≤ sw := fun h => hE (.inr (.inl h))
      have h3 : ¬ tb < 0 := fun h => hE (.inr (.inr (.inl h)))
      have h4' : ¬ ((T.getD sw.toNat []).length : Int) ≤ tb := fun h => hE (.inr (.inr (.inr h)))
      have H4 := Lib.hid h4'
      have HORV := Lib.hid horV
      clear hE h4' horV
      obtain ⟨sn, rfl⟩ : ∃ sn : Nat, sw = (sn : Int) := ⟨sw.toNat, by omega⟩
      have hsn : sn < T.length := by rw [hTl.out]; omega
      have e1 : decide ((sn : Int) < 0) = false := decide_eq_false h1
      have e2 : decide ((nT : Int) ≤ (sn : Int)) = false := decide_eq_false h2
      have e2' : decide (nT ≤ sn) = false := decide_eq_false (by omega)
      have e3 : decide (tb < 0) = false := decide_eq_false h3
      have hsnI : (sn : Int) < (nT : Int) := by omega
      clear h1 h2
      obtain ⟨vs, Ss, hox⟩ := HORV.out
      have hoxr := hox.row
      rw [hTl.out] at hoxr
      obtain ⟨bo, curo, eo, hSo, hgo, hno, hmo, hco, hto⟩ := hoxr.blk (by omega)
      obtain ⟨u, hu, hou⟩ := hox.el sn hsn
      obtain ⟨os9, cs9, rfl⟩ := hou.form
      rw [eo] at hoxr c0 c0' hox
      have y0 : V.cell? ⟨bo, sn, none⟩ = some (.slice os9 T[sn].length cs9) := by
        have := hoxr.cells (g := bo) rfl sn _ hu
        rw [Addr.add_lit, Nat.zero_add] at this
        exact this
      have hgd : T.getD sn [] = T[sn] := by rw [List.getD_eq_getElem?_getD, List.getElem?_eq_getElem hsn]; rfl
      obtain ⟨ln, hln⟩ : ∃ ln, Hid (T[sn].length = ln) := ⟨_, Lib.hid rfl⟩
      rw [hln.out] at y0
      have y0' := reg_c y0
      have HEO := Lib.hid eo
      have HGD := Lib.hid hgd
      have HOX := Lib.hid hox
      have HOU := Lib.hid hou
      have HU := Lib.hid hu
      clear hgd hox hoxr hou hu hgo hto eo
      have h4 : ¬ (ln : Int) ≤ tb := by have := H4.out; rw [Int.toNat_natCast, HGD.out, hln.out] at this; exact this
      obtain ⟨tn, rfl⟩ : ∃ tn : Nat, tb = (tn : Int) := ⟨tb.toNat, by omega⟩
      have htn : tn < ln := by omega
      have e4 : decide ((ln : Int) ≤ (tn : Int)) = false := decide_eq_false h4
      have e4' : decide (ln ≤ tn) = false := decide_eq_false (by omega)
      refine wp_region_quiet_below (by kernel_rfl) (by kernel_rfl) ?_; (repeat (go_big_quiet_step (fail))); refine wpQuiet_nil ?_; intro _ hw'; obtain ⟨⟨dq, osq⟩, hw''⟩ := hw'; subst hw''
      go_upto_region 8 with (fail)
      refine wp_world (fun V3 => RowKit.Below V.heap.size V V3) (below_regrown V dq osq) ?_
      clear x0' x1' c0' y0' e1 e2 e2' e3 e4 e4'
      rintro V3 hV3
      obtain ⟨ws, Ts, hoy⟩ := HOU.out
      have hrowy := hoy.row
      rw [hln.out] at hrowy
      obtain ⟨bs, curs, es, hSs, hgs, hns, hms, hcss, hts⟩ := hrowy.blk (by omega)
      rw [es] at hrowy hoy y0
      have htn2 : tn < T[sn].length := by rw [hln.out]; exact htn
      obtain ⟨u2, hu2, hoz⟩ := hoy.el tn htn2
      obtain ⟨o2, c2, hu2f⟩ := Ow.form hoz
      subst hu2f
      obtain ⟨t, ht⟩ : ∃ t, Hid (T[sn][tn] = t) := ⟨_, Lib.hid rfl⟩
      rw [ht.out] at hu2 hoz
      obtain ⟨tl, htl⟩ : ∃ tl, Hid (t.length = tl) := ⟨_, Lib.hid rfl⟩
      have z0 : V.cell? ⟨bs, tn, none⟩ = some (.slice o2 tl c2) := by
        have := hrowy.cells (g := bs) rfl tn _ hu2
        rw [Addr.add_lit, Nat.zero_add, htl.out] at this
        exact this
      have hbl : tl ≤ 1466015503700 := by
        rw [← htl.out, ← ht.out]
        have := HBTT.out.nl _ (List.getElem_mem hsn) _ (List.getElem_mem htn2)
        omega
      have htab : tab T sn tn = t := by
        unfold tab
        rw [HGD.out, List.getD_eq_getElem?_getD, List.getElem?_eq_getElem htn2, ← ht.out]; rfl
      have HTAB := Lib.hid htab
      have X0' := reg_c (cell_below hV3 x0)
      have X1' := reg_c (cell_below hV3 x1)
      have C0' := reg_c (cell_below hV3 c0)
      have Y0' := reg_c (cell_below hV3 y0)
      have Z0' := reg_c (cell_below hV3 z0)
      have htnI : (tn : Int) < (ln : Int) := by omega
      have HOY := Lib.hid hoy
      have HOZ := Lib.hid hoz
      have HU2 := Lib.hid hu2
      have HES := Lib.hid es
      have hfz : V.frozen? ⟨bs, tn, none⟩ = false := by simp [World.frozen?, hgs]
      clear hrowy hoy hoz hu2 hgs hts htab es
      refine wp_region_quiet_below (by kernel_rfl) (by kernel_rfl) ?_; (repeat (go_big_quiet_step (fail))); refine wpQuiet_nil ?_; intro _ hw'; obtain ⟨⟨dq, osq⟩, hw''⟩ := hw'; subst hw''
      go_upto_region 9 with (fail)
      refine wp_world (fun V5 => RowKit.Below V.heap.size V V5) (below_st hV3 (below_regrown V3 dq osq)) ?_
      clear X0' X1' C0' Y0' Z0' hV3
      rintro V5 hV5
      have hsz5 := hV5.size
      have hKX : ∀ V', RowKit.Below V5.heap.size V5 V' → (V'.cell? ⟨w.heap.size, 4, none⟩ = some (.slice (some ⟨bo, 0, none⟩) nT ct1) ∧ V'.cell? ⟨wr.heap.size, 0, none⟩ = some (.int .i64 (sn : Int)) ∧ V'.cell? ⟨wr.heap.size, 1, none⟩ = some (.int .i64 (tn : Int)) ∧ V'.cell? ⟨wr.heap.size, 2, none⟩ = some (.int .i64 at_) ∧ V'.cell? ⟨wr.heap.size, 3, none⟩ = some (.bool gone) ∧ V'.cell? ⟨bo, sn, none⟩ = some (.slice (some ⟨bs, 0, none⟩) ln cs9)) ∧ Hid (V'.rangeAt wr.heap.size 4 (ceR r)) ∧ (V'.cell? ⟨bs, tn, none⟩ = some (.slice o2 tl c2) ∧ V'.frozen? ⟨bs, tn, none⟩ = false) := fun V' hV' => by
        have hVV := below_st hV5 hV'
        have q : ∀ o, V'.cell? ⟨wr.heap.size, o, none⟩ = (#[.int .i64 (sn : Int), .int .i64 (tn : Int), .int .i64 at_, .bool gone, .int .i64 r.p, .int .u64 r.vh, .int .u64 r.vl, .int .u64 r.ch, .int .u64 r.cl, .int .i64 r.kd, .int .i64 r.po, .int .i64 r.tb, .int .u64 r.sh, .int .u64 r.sl, .int .u64 r.th, .int .u64 r.tl] : Array Value)[o]? := fun o => cell_b ((hVV.block _ hltV).trans HX5.out)
        exact ⟨⟨cell_below hVV c0, (q 0).trans rfl, (q 1).trans rfl, (q 2).trans rfl, (q 3).trans rfl, cell_below hVV y0⟩, Lib.hid (fun k v hv => (cell_b ((hVV.block _ hltV).trans HX5.out)).trans (rule_at ⟨(sn : Int), (tn : Int), at_, gone, r⟩ k v hv)), cell_below hVV z0, by rw [World.frozen?_of_block (w := V) (hVV.block _ (World.block_lt_of_cell? V _ z0))]; exact hfz⟩
      have HKX := Lib.hid hKX
      have hbso : (Value.slice o2 tl c2).ownBlock ≠ some bs := fun e => (HOY.out.sub tn bs htn2 (Ow.lt HOZ.out (by rw [htl.out]; exact e)).1).2 rfl
      have HBSO := Lib.hid hbso
      have hbsS := (HOX.out.sub sn bs hsn (HOY.out.row.lt (g := bs) rfl).1).1
      have hboS := (HOX.out.row.lt (g := bo) rfl).1
      have hne1 : w.heap.size ≠ bs := fun e => by have := MM.out bs hbsS.1; omega
      have hne2 : wr.heap.size ≠ bs := fun e => by have := hbsS.2; omega
      have hne3 : bo ≠ bs := fun e => (HOX.out.sub sn bs hsn (HOY.out.row.lt (g := bs) rfl).1).2 (by rw [← e]; rfl)
      have hPT : ∀ (w1 : World) (t' : List Ru) (n' : Nat) (o' : Option Addr) (c' : Nat), t'.length = n' → Ow w1 (fun g => V5.heap.size ≤ g) 53 12 (.slice o' n' c') n' (t'.flatMap ceR) → RowKit.Below V5.heap.size V5 w1 → OR 43 (OR 44 (O1 ceR 53 12)) (w1.setCell ⟨bs, tn, none⟩ (.slice o' n' c')) S (putT T sn tn t') (.slice ot1 nT ct1) ∧ Fr S W3 (w1.setCell ⟨bs, tn, none⟩ (.slice o' n' c')) := fun w1 t' n' o' c' hn' hn hbl => by
        subst hn'
        have hox5 := HOX.out.frame (W' := V5) (goodR (good1 ceR 53 12)) fun g _ hl => hV5.block g hl
        have hoy5 := HOY.out.frame (W' := V5) (good1 ceR 53 12) fun g _ hl => hV5.block g hl
        have hoz5 := (good1 ceR 53 12).frame (W' := V5) HOZ.out fun g _ hl => hV5.block g hl
        have hu' := HU.out
        rw [HES.out] at hu'
        have h9 := put_tab hox5 sn hsn hu' hoy5 tn htn2 (by rw [ht.out]; exact hoz5) rfl (t' := t') (Ow.mono hn fun g hg _ => .inr (hn.lt hg).1) (below_gb hbl)
        have e : putT T sn tn t' = T.set sn (T[sn].set tn t') := by unfold putT; rw [HGD.out]
        rw [e, HEO.out]
        refine ⟨(goodR (goodR (good1 ceR 53 12))).mono h9.1 fun g hg _ => ?_, HFV.out.trans (((Fr.of_below (S := S) hV5)).trans (h9.2.mono fun g _ hg => hg.1))⟩
        rcases hg with hg | hg
        · exact hg.1
        · exact MK.out g (by omega)
      have HPT := Lib.hid hPT
      have hF0 : oneF T ⟨(sn : Int), (tn : Int), at_, gone, r⟩ = if at_ < 0 ∨ (tl : Int) < at_ ∨ (gone = true ∧ at_ = (tl : Int)) then (4, T) else if gone = true ∧ r ≠ zeroR then (1, T) else (0, putT T sn tn (if gone = true then t.eraseIdx at_.toNat else t.take at_.toNat ++ r :: t.drop at_.toNat)) := by
        have e : oneF T ⟨(sn : Int), (tn : Int), at_, gone, r⟩ = _ := if_neg (by
          show ¬ ((sn : Int) < 0 ∨ (T.length : Int) ≤ (sn : Int) ∨ (tn : Int) < 0 ∨ ((T.getD ((sn : Int)).toNat []).length : Int) ≤ (tn : Int))
          rw [Int.toNat_natCast, HGD.out, hln.out, hTl.out]; omega)
        rw [e]
        simp only [Int.toNat_natCast, HTAB.out, htl.out]
      have HF0 := Lib.hid hF0
      obtain ⟨⟨c0, x0, x1, x2, x3, y0⟩, HRG, z0, zf⟩ := HKX.out V5 (Below.refl _ _)
      have h53 : (ld53 (.pointer (some ⟨wr.heap.size, 4, none⟩))).run Try.prog V5 = .ok (.value (.agg #[.int .i64 r.p, .int .u64 r.vh, .int .u64 r.vl, .int .u64 r.ch, .int .u64 r.cl, .int .i64 r.kd, .int .i64 r.po, .int .i64 r.tb, .int .u64 r.sh, .int .u64 r.sl, .int .u64 r.th, .int .u64 r.tl])) V5 := run_ld53 HRG.out
      have HV5 := Lib.hid hV5
      have hxl : Hid ((oneF T ⟨(sn : Int), (tn : Int), at_, gone, r⟩).2.length = nT) := Lib.hid ((oneF_len T _).trans hTl.out)
      have hxb : Hid (BT (K + j + 1) (oneF T ⟨(sn : Int), (tn : Int), at_, gone, r⟩).2) := Lib.hid (HBTT.out.one _)
      have hxr : Hid ((oneF T ⟨(sn : Int), (tn : Int), at_, gone, r⟩).1 = 0 → runF C.tb l = runF (oneF T ⟨(sn : Int), (tn : Int), at_, gone, r⟩).2 (l.drop (j + 1))) := Lib.hid fun h0 => by
        rw [HRUN.out, HD.out]
        simp only [runF]
        rw [if_pos h0]
      clear hKX hPT hF0 hbso hbsS hboS HX5 hfz hx
      by_cases hE2 : at_ < 0 ∨ (tl : Int) < at_ ∨ (gone = true ∧ at_ = (tl : Int))
      · have HF : Hid (oneF T ⟨(sn : Int), (tn : Int), at_, gone, r⟩ = (4, T)) := HF0.out.trans (if_pos hE2)
        have HE := Lib.hid hE2
        clear hE2
        go_cut [80] from 9 to 9 (fun v80 wx => v80 = .bool true ∧ wx = V5)
        case first =>
          by_cases a1 : at_ < 0
          · have e1 : decide (at_ < 0) = true := decide_eq_true a1
            go_wp2_with fail
            (go_meet; case rel => exact ⟨rfl, rfl⟩)
          obtain ⟨an, rfl⟩ : ∃ an : Nat, at_ = (an : Int) := ⟨at_.toNat, by omega⟩
          have e1 : decide ((an : Int) < 0) = false := decide_eq_false a1
          by_cases a2 : (tl : Int) < (an : Int)
          · have e2 : decide ((tl : Int) < (an : Int)) = true := decide_eq_true a2
            have e2' : decide (tl < an) = true := decide_eq_true (by omega)
            go_wp2_with fail
            (go_meet; case rel => exact ⟨rfl, rfl⟩)
          have e2 : decide ((tl : Int) < (an : Int)) = false := decide_eq_false a2
          have e2' : decide (tl < an) = false := decide_eq_false (by omega)
          obtain ⟨rfl, a3⟩ : gone = true ∧ (an : Int) = (tl : Int) := by
            rcases HE.out with h | h | h
            · omega
            · omega
            · exact h
          have e3 : ((an : Int) == (tl : Int)) = true := by simp; omega
          clear a3
          go_wp2_with fail
          (go_meet; case rel => exact ⟨rfl, rfl⟩)
        case rest =>
          obtain ⟨rfl, rfl⟩ := hcut
          rename_i Kc hKc
          refine hKc _ _ ?_
          clear hKc
          refine wp_world (fun V7 => V7 = wc) rfl ?_
          rintro V7 rfl
          have hb7 := HV5.out
          clear c0 x0 x1 x2 x3 y0 z0 zf h53
          have N1 := (hb7.block (w.heap.size + 1) (by omega)).trans ((HFV.out.same (w.heap.size + 1) (by omega) (fun h => by have := MM.out _ h; omega)).trans HM1.out)
          have r0 : V7.cell? ⟨w.heap.size + 1, 0, none⟩ = some (.slice none 0 0) := (cell_b N1).trans rfl
          have r1 : V7.cell? ⟨w.heap.size + 1, 1, none⟩ = some (.int .i64 0) := (cell_b N1).trans rfl
          have r2 : V7.cell? ⟨w.heap.size + 1, 2, none⟩ = some (.slice none 0 0) := (cell_b N1).trans rfl
          have r3 : V7.cell? ⟨w.heap.size + 1, 3, none⟩ = some (.slice none 0 0) := (cell_b N1).trans rfl
          have r4 : V7.cell? ⟨w.heap.size + 1, 4, none⟩ = some (.slice none 0 0) := (cell_b N1).trans rfl
          have g0 : V7.frozen? ⟨w.heap.size + 1, 0, none⟩ = false := by simp [World.frozen?, N1]
          have g1 : V7.frozen? ⟨w.heap.size + 1, 1, none⟩ = false := by simp [World.frozen?, N1]
          have g2 : V7.frozen? ⟨w.heap.size + 1, 2, none⟩ = false := by simp [World.frozen?, N1]
          have g3 : V7.frozen? ⟨w.heap.size + 1, 3, none⟩ = false := by simp [World.frozen?, N1]
          have g4 : V7.frozen? ⟨w.heap.size + 1, 4, none⟩ = false := by simp [World.frozen?, N1]
          have FZ := Lib.hid (five_cells (.slice none 0 0) (.int .i64 0) (.slice none 0 0) (.slice none 0 0) (.slice none 0 0) N1)
          have hrn : runF C.tb l = (4, T) := by
            rw [HRUN.out, HD.out]
            simp only [runF]
            rw [HF.out]
            rfl
          have HRN := Lib.hid hrn
          have HZC : Hid (applyF C l = zeroC) := by
            show applyF C l = zeroC
            unfold applyF
            rw [hrn]
            rfl
          have hbl6 := (below_fr hbw HFV.out (fun g hg => by have := MM.out g hg; omega)).trans (hb7.mono (below_fr hbw HFV.out (fun g hg => by have := MM.out g hg; omega)).size)
          clear hrn N1
          go_wp2_with fail
          (try simp only [Exit.inBlock, Exit.then])
          rw [HZZ.out]
          refine bodyPost_ret (results_c31 rfl _ _ (w.heap.size + 1) _ _ _ _ _ (0, 0) rfl FZ.out) rfl ?_
          rw [HZC.out, HRN.out]
          first
            | exact ⟨_, _, _, _, w.heap.size, rfl, ⟨Nat.le_refl _, by have := hbl6.size; simpa using this, ⟨_, _, OX.nil⟩, Ow.nil rfl, Ow.nil rfl, ⟨_, _, OX.nil⟩⟩, Below.setCell (Below.setCell (Below.setCell (Below.setCell (Below.setCell hbl6 (by simp) _) (by simp) _) (by simp) _) (by simp) _) (by simp) _⟩
            | exact ⟨_, _, _, _, rfl, ⟨w.heap.size, Nat.le_refl _, by have := hbl6.size; simpa using this, ⟨_, _, OX.nil⟩, Ow.nil rfl, Ow.nil rfl, ⟨_, _, OX.nil⟩⟩, Below.setCell (Below.setCell (Below.setCell (Below.setCell (Below.setCell hbl6 (by simp) _) (by simp) _) (by simp) _) (by simp) _) (by simp) _⟩
      have a1 : ¬ at_ < 0 := fun h => hE2 (.inl h)
      have a2 : ¬ (tl : Int) < at_ := fun h => hE2 (.inr (.inl h))
      have a3 : ¬ (gone = true ∧ at_ = (tl : Int)) := fun h => hE2 (.inr (.inr h))
      have HE3 := Lib.hid (HF0.out.trans (if_neg hE2))
      obtain ⟨an, rfl⟩ : ∃ an : Nat, at_ = (an : Int) := ⟨at_.toNat, by omega⟩
      have e1 : decide ((an : Int) < 0) = false := decide_eq_false a1
      have e2 : decide ((tl : Int) < (an : Int)) = false := decide_eq_false a2
      have e2' : decide (tl < an) = false := decide_eq_false (by omega)
      clear hE2
      have hant : an ≤ tl := by omega
      have A3 := Lib.hid a3
      clear a1 a3
      cases gone with
      | true =>
        have hanl : an < tl := by have := A3.out; simp at this; omega
        have e3 : ((an : Int) == (tl : Int)) = false := by simp; omega
        by_cases hz : r = zeroR
        rotate_left
        · have e4 : decide (r = zeroR) = false := decide_eq_false hz
          have HF : Hid (oneF T ⟨(sn : Int), (tn : Int), (an : Int), true, r⟩ = (1, T)) := HE3.out.trans (if_pos ⟨rfl, hz⟩)
          clear hz
          go_upto_region 12 with (fail)
          refine wp_world (fun V7 => V7 = V5) rfl ?_
          rintro V7 rfl
          have hb7 := HV5.out
          clear c0 x0 x1 x2 x3 y0 z0 zf h53
          have N1 := (hb7.block (w.heap.size + 1) (by omega)).trans ((HFV.out.same (w.heap.size + 1) (by omega) (fun h => by have := MM.out _ h; omega)).trans HM1.out)
          have r0 : V7.cell? ⟨w.heap.size + 1, 0, none⟩ = some (.slice none 0 0) := (cell_b N1).trans rfl
          have r1 : V7.cell? ⟨w.heap.size + 1, 1, none⟩ = some (.int .i64 0) := (cell_b N1).trans rfl
          have r2 : V7.cell? ⟨w.heap.size + 1, 2, none⟩ = some (.slice none 0 0) := (cell_b N1).trans rfl
          have r3 : V7.cell? ⟨w.heap.size + 1, 3, none⟩ = some (.slice none 0 0) := (cell_b N1).trans rfl
          have r4 : V7.cell? ⟨w.heap.size + 1, 4, none⟩ = some (.slice none 0 0) := (cell_b N1).trans rfl
          have g0 : V7.frozen? ⟨w.heap.size + 1, 0, none⟩ = false := by simp [World.frozen?, N1]
          have g1 : V7.frozen? ⟨w.heap.size + 1, 1, none⟩ = false := by simp [World.frozen?, N1]
          have g2 : V7.frozen? ⟨w.heap.size + 1, 2, none⟩ = false := by simp [World.frozen?, N1]
          have g3 : V7.frozen? ⟨w.heap.size + 1, 3, none⟩ = false := by simp [World.frozen?, N1]
          have g4 : V7.frozen? ⟨w.heap.size + 1, 4, none⟩ = false := by simp [World.frozen?, N1]
          have FZ := Lib.hid (five_cells (.slice none 0 0) (.int .i64 0) (.slice none 0 0) (.slice none 0 0) (.slice none 0 0) N1)
          have hrn : runF C.tb l = (1, T) := by
            rw [HRUN.out, HD.out]
            simp only [runF]
            rw [HF.out]
            rfl
          have HRN := Lib.hid hrn
          have HZC : Hid (applyF C l = zeroC) := by
            show applyF C l = zeroC
            unfold applyF
            rw [hrn]
            rfl
          have hbl6 := (below_fr hbw HFV.out (fun g hg => by have := MM.out g hg; omega)).trans (hb7.mono (below_fr hbw HFV.out (fun g hg => by have := MM.out g hg; omega)).size)
          clear hrn N1
          go_wp2_with fail
          (try simp only [Exit.inBlock, Exit.then])
          rw [HZZ.out]
          refine bodyPost_ret (results_c31 rfl _ _ (w.heap.size + 1) _ _ _ _ _ (0, 0) rfl FZ.out) rfl ?_
          rw [HZC.out, HRN.out]
          first
            | exact ⟨_, _, _, _, w.heap.size, rfl, ⟨Nat.le_refl _, by have := hbl6.size; simpa using this, ⟨_, _, OX.nil⟩, Ow.nil rfl, Ow.nil rfl, ⟨_, _, OX.nil⟩⟩, Below.setCell (Below.setCell (Below.setCell (Below.setCell (Below.setCell hbl6 (by simp) _) (by simp) _) (by simp) _) (by simp) _) (by simp) _⟩
            | exact ⟨_, _, _, _, rfl, ⟨w.heap.size, Nat.le_refl _, by have := hbl6.size; simpa using this, ⟨_, _, OX.nil⟩, Ow.nil rfl, Ow.nil rfl, ⟨_, _, OX.nil⟩⟩, Below.setCell (Below.setCell (Below.setCell (Below.setCell (Below.setCell hbl6 (by simp) _) (by simp) _) (by simp) _) (by simp) _) (by simp) _⟩
        have e4 : decide (r = zeroR) = true := decide_eq_true hz
        have HFF : Hid (oneF T ⟨(sn : Int), (tn : Int), (an : Int), true, r⟩ = (0, putT T sn tn (t.eraseIdx an))) := HE3.out.trans (if_neg (fun h => h.2 hz))
        clear hz
        go_upto_region 14 with (fail)
        clear e1 e2 e2' e3 e4 h53
        have hoz5 : Ow V5 (Ts tn) 53 12 (.slice o2 tl c2) tl (t.flatMap ceR) := by
          have := (good1 ceR 53 12).frame (W' := V5) HOZ.out fun g _ hl => HV5.out.block g hl
          unfold O1 at this
          rw [htl.out] at this
          exact this
        obtain ⟨g2, cur2, rfl, hB2, hg2, hnc2, hcm2, hcs2, htk2⟩ := hoz5.blk (by omega)
        have hcl : ∀ (j : Nat) (u : Value), (t.flatMap ceR)[j]? = some u → V5.cell? ⟨g2, j, none⟩ = some u := fun j u hu => by
          have := hoz5.cells (g := g2) rfl _ u hu
          rw [Addr.add_lit, Nat.zero_add] at this
          exact this
        have hlen := flat_len lenR t
        rw [htl.out] at hlen
        have hxT : ∀ (j : Nat) (u : Value), ((t.take an).flatMap ceR)[j]? = some u → V5.drew.cell? ⟨g2, 0 + j, none⟩ = some u := fun j u hu => by
          rw [flat_take lenR _ _ (by rw [htl.out]; omega), List.getElem?_take] at hu
          split at hu
          · rw [Nat.zero_add]; exact hcl j u hu
          · cases hu
        have hxD : ∀ (j : Nat) (u : Value), ((t.drop (an + 1)).flatMap ceR)[j]? = some u → V5.drew.cell? ⟨g2, (if c2 = an + 1 then 0 else (an + 1) * 12) + j, none⟩ = some u := fun j u hu => by
          rw [flat_drop lenR _ _ (by rw [htl.out]; omega), List.getElem?_drop] at hu
          have hi := (List.getElem?_eq_some_iff.1 hu).1
          rw [hlen] at hi
          rw [if_neg (by omega)]
          exact hcl _ u hu
        have HQ : Hid ((t.take an).flatMap ceR ++ (t.drop (an + 1)).flatMap ceR = (t.eraseIdx an).flatMap ceR) := by
          rw [List.eraseIdx_eq_take_drop_succ, List.flatMap_append]
          exact Lib.hid rfl
        have HLE : Hid ((t.eraseIdx an).length = tl - 1) := Lib.hid (by rw [List.length_eraseIdx_of_lt (by rw [htl.out]; exact hanl), htl.out])
        clear hoz5 hg2 hcs2 htk2
        have hsT : sn < nT := by omega
        refine Rws.wp_rows_st 21 _ [.q (.pointer (some ⟨w.heap.size, 4, none⟩)), .q (.slice (some ⟨bo, 0, none⟩) nT ct1), .q (.pointer (some ⟨wr.heap.size, 0, none⟩)), .q (.int .i64 (sn : Int)), .q (.pointer (some ⟨bo, sn, none⟩)), .q (.slice (some ⟨bs, 0, none⟩) ln cs9), .q (.pointer (some ⟨wr.heap.size, 1, none⟩)), .q (.int .i64 (tn : Int)), .row 53 12 0 [] none none, .q (.slice (some ⟨g2, 0, none⟩) tl c2), .q (.pointer (some ⟨wr.heap.size, 2, none⟩)), .q (.int .i64 (an : Int)), .q (.slice (some ⟨g2, 0, none⟩) an c2), .row 53 12 (0 + an) ([] ++ ((t.take an).flatMap ceR)) (some 8) none, .q (.slice (some ⟨g2, 0, none⟩) tl c2), .q (.pointer (some ⟨wr.heap.size, 2, none⟩)), .q (.int .i64 (an : Int)), .q (.int .i64 ((an : Int) + 1)), .q (.slice (some ⟨g2, if c2 = an + 1 then 0 else (an + 1) * 12, none⟩) (tl - (an + 1)) (c2 - (an + 1))), .row 53 12 (0 + an + (tl - (an + 1))) ([] ++ ((t.take an).flatMap ceR) ++ ((t.drop (an + 1)).flatMap ceR)) (some 13) none, .q (.pointer (some ⟨bs, tn, none⟩))] (by kernel_rfl) rfl rfl rfl rfl (by kernel_rfl) (by kernel_rfl) ?_ ?_
        · refine ⟨?_, ?_, ?_, ?_, ?_, ?_, ?_, ?_, ?_, ?_, ?_, ?_, ?_, ?_, ?_, ?_, ?_, ?_, ?_, ?_, ?_, trivial⟩
          · exact obl_fldT (by kernel_rfl) rfl
          · exact obl_ldS (.inl rfl) (jA := 0) (by kernel_rfl) rfl rfl c0
          · exact obl_fldE (by kernel_rfl) rfl (by decide)
          · exact obl_ldI (jA := 2) (by kernel_rfl) rfl rfl x0
          · exact obl_ix (.inl rfl) (j := sn) (jA := 1) (jB := 3) hsT (by kernel_rfl) rfl rfl (by kernel_rfl) rfl rfl
          · exact obl_ldS (.inr (.inl rfl)) (jA := 4) (by kernel_rfl) rfl rfl y0
          · exact obl_fldE (by kernel_rfl) rfl (by decide)
          · exact obl_ldI (jA := 6) (by kernel_rfl) rfl rfl x1
          · exact Rws.obl_lit0 und44 siz53
          · exact Rws.obl_move (by kernel_rfl) rfl
          · exact obl_fldE (by kernel_rfl) rfl (by decide)
          · exact obl_ldI (jA := 10) (by kernel_rfl) rfl rfl x2
          · exact obl_hi (j := an) (jA := 9) (jB := 11) hant hnc2 (by kernel_rfl) rfl rfl (by kernel_rfl) rfl rfl
          · exact obl_appR (c := 8) (jA := 12) rfl rfl (by kernel_rfl) rfl rfl (by rw [List.length_take, htl.out]; exact Nat.min_eq_left hant) hxT (by omega)
          · exact Rws.obl_move (by kernel_rfl) rfl
          · exact obl_fldE (by kernel_rfl) rfl (by decide)
          · exact obl_ldI (jA := 15) (by kernel_rfl) rfl rfl x2
          · exact obl_inc (jA := 16) (j := an) (by omega) (by kernel_rfl) rfl rfl
          · exact obl_lo1 (j := an) (jA := 14) (jB := 17) hanl hnc2 (by kernel_rfl) rfl rfl (by kernel_rfl) rfl rfl
          · exact obl_appR (c := 13) (jA := 18) rfl rfl (by kernel_rfl) rfl rfl (by rw [List.length_drop, htl.out]) hxD (by omega)
          · exact obl_ix (.inr rfl) (j := tn) (jA := 5) (jB := 7) htn (by kernel_rfl) rfl rfl (by kernel_rfl) rfl rfl
        intro ν w7 hbA hrow
        have hr9 := hrow 19 53 12 _ _ _ _ (by decide) rfl (Rws.con_ne (by kernel_rfl))
        have how : Ow w7 (fun g => V5.heap.size ≤ g) 53 12 (ν 19) (tl - 1) ((t.eraseIdx an).flatMap ceR) := by
          have h9 := Ow.ofR hr9.1
          rw [show 0 + an + (tl - (an + 1)) = tl - 1 by omega, List.nil_append, HQ.out] at h9
          exact h9
        obtain ⟨o7, c7, hv7⟩ := how.form
        rw [hv7] at how
        obtain ⟨_, _, z0, zf⟩ := HKX.out w7 hbA
        have hfin := HPT.out w7 (t.eraseIdx an) (tl - 1) o7 c7 HLE.out how hbA
        have HFIN := Lib.hid hfin
        clear hfin hrow hr9 how c0 x0 x1 x2 x3 y0
        simp only [Rws.MFin, Rws.kOf, Rws.Mk.val]
        simp
        rw [hv7]
        clear hv7
        go_wp2_with fail
        go_roundw
        case rel =>
          refine ⟨j + 1, (oneF T ⟨(sn : Int), (tn : Int), (an : Int), true, r⟩).2, by go_num, by omega, hxl, hxb, Lib.hid ?_, HFIN.out.2, Lib.hid (hxr.out (by rw [HFF.out]))⟩
          rw [HFF.out]
          exact HFIN.out.1
        case measure => simp [intOf]; omega
      | false =>
        have HFF : Hid (oneF T ⟨(sn : Int), (tn : Int), (an : Int), false, r⟩ = (0, putT T sn tn (t.take an ++ r :: t.drop an))) := HE3.out.trans (if_neg (fun h => by cases h.1))
        go_upto_region 15 with (fail)
        clear e1 e2 e2' h53
        have hoz5 : Ow V5 (Ts tn) 53 12 (.slice o2 tl c2) tl (t.flatMap ceR) := by
          have := (good1 ceR 53 12).frame (W' := V5) HOZ.out fun g _ hl => HV5.out.block g hl
          unfold O1 at this
          rw [htl.out] at this
          exact this
        have hnc2 := hoz5.rd.1
        have HQ : Hid ((t.take an).flatMap ceR ++ ceR r ++ (t.drop an).flatMap ceR = (t.take an ++ r :: t.drop an).flatMap ceR) := by
          rw [List.flatMap_append, List.flatMap_cons, List.append_assoc]
          exact Lib.hid rfl
        have HLE : Hid ((t.take an ++ r :: t.drop an).length = tl + 1) := Lib.hid (by have := htl.out; simp; omega)
        have hsT : sn < nT := by omega
        rcases hoz5.2 with ⟨e, hn⟩ | ⟨g2, cap2, cur2, e, hB2, hg2, _⟩
        · obtain ⟨rfl, rfl⟩ : o2 = none ∧ c2 = 0 := by have h := e; simp at h; exact ⟨h.1, h.2.2⟩
          obtain rfl : tl = 0 := hn
          obtain rfl : an = 0 := by omega
          have ht0 : t = [] := List.length_eq_zero_iff.1 htl.out
          subst ht0
          clear hoz5 e
          refine Rws.wp_rows_st 24 _ [.q (.pointer (some ⟨w.heap.size, 4, none⟩)), .q (.slice (some ⟨bo, 0, none⟩) nT ct1), .q (.pointer (some ⟨wr.heap.size, 0, none⟩)), .q (.int .i64 (sn : Int)), .q (.pointer (some ⟨bo, sn, none⟩)), .q (.slice (some ⟨bs, 0, none⟩) ln cs9), .q (.pointer (some ⟨wr.heap.size, 1, none⟩)), .q (.int .i64 (tn : Int)), .row 53 12 0 [] none none, .q (.slice none 0 0), .q (.pointer (some ⟨wr.heap.size, 2, none⟩)), .q (.int .i64 ((0 : Nat) : Int)), .q (.slice none 0 0), .row 53 12 0 [] (some 8) none, .q (.pointer (some ⟨wr.heap.size, 4, none⟩)), .q (.agg (ceR r).toArray), .row 53 12 1 (ceR r) none none, .row 53 12 (0 + 1) ([] ++ ceR r) (some 13) (some 16), .q (.slice none 0 0), .q (.pointer (some ⟨wr.heap.size, 2, none⟩)), .q (.int .i64 ((0 : Nat) : Int)), .q (.slice none 0 0), .row 53 12 (0 + 1) ([] ++ ceR r) (some 17) none, .q (.pointer (some ⟨bs, tn, none⟩))] (by kernel_rfl) rfl rfl rfl rfl (by kernel_rfl) (by kernel_rfl) ?_ ?_
          · refine ⟨?_, ?_, ?_, ?_, ?_, ?_, ?_, ?_, ?_, ?_, ?_, ?_, ?_, ?_, ?_, ?_, ?_, ?_, ?_, ?_, ?_, ?_, ?_, ?_, trivial⟩
            · exact obl_fldT (by kernel_rfl) rfl
            · exact obl_ldS (.inl rfl) (jA := 0) (by kernel_rfl) rfl rfl c0
            · exact obl_fldE (by kernel_rfl) rfl (by decide)
            · exact obl_ldI (jA := 2) (by kernel_rfl) rfl rfl x0
            · exact obl_ix (.inl rfl) (j := sn) (jA := 1) (jB := 3) hsT (by kernel_rfl) rfl rfl (by kernel_rfl) rfl rfl
            · exact obl_ldS (.inr (.inl rfl)) (jA := 4) (by kernel_rfl) rfl rfl y0
            · exact obl_fldE (by kernel_rfl) rfl (by decide)
            · exact obl_ldI (jA := 6) (by kernel_rfl) rfl rfl x1
            · exact Rws.obl_lit0 und44 siz53
            · exact Rws.obl_move (by kernel_rfl) rfl
            · exact obl_fldE (by kernel_rfl) rfl (by decide)
            · exact obl_ldI (jA := 10) (by kernel_rfl) rfl rfl x2
            · exact obl_hi0 (jA := 9) (jB := 11) (by kernel_rfl) rfl rfl (by kernel_rfl) rfl rfl
            · exact obl_app0 (c := 8) (jA := 12) rfl rfl (by kernel_rfl) rfl rfl
            · exact obl_fldE (by kernel_rfl) rfl (by decide)
            · exact obl_ldR (jA := 14) (by kernel_rfl) rfl rfl HRG.out
            · exact obl_litR (jA := 15) (by kernel_rfl) rfl rfl
            · exact Rws.obl_app_lit und44 inf53 rfl (by decide) (c := 13) (s := 16) rfl rfl rfl rfl (by decide) (oneR r) (by unfold maxLen; omega) (by omega)
            · exact Rws.obl_move (by kernel_rfl) rfl
            · exact obl_fldE (by kernel_rfl) rfl (by decide)
            · exact obl_ldI (jA := 19) (by kernel_rfl) rfl rfl x2
            · exact obl_lo0 (jA := 18) (jB := 20) (by kernel_rfl) rfl rfl (by kernel_rfl) rfl rfl
            · exact obl_app0 (c := 17) (jA := 21) rfl rfl (by kernel_rfl) rfl rfl
            · exact obl_ix (.inr rfl) (j := tn) (jA := 5) (jB := 7) htn (by kernel_rfl) rfl rfl (by kernel_rfl) rfl rfl
          intro ν w7 hbA hrow
          have hr9 := hrow 22 53 12 _ _ _ _ (by decide) rfl (Rws.con_ne (by kernel_rfl))
          have how : Ow w7 (fun g => V5.heap.size ≤ g) 53 12 (ν 22) (0 + 1) ((([] : List Ru).take 0 ++ r :: ([] : List Ru).drop 0).flatMap ceR) := by
            have h9 := Ow.ofR hr9.1
            rw [List.nil_append] at h9
            simpa using h9
          obtain ⟨o7, c7, hv7⟩ := how.form
          rw [hv7] at how
          obtain ⟨_, _, z0, zf⟩ := HKX.out w7 hbA
          have hfin := HPT.out w7 (([] : List Ru).take 0 ++ r :: ([] : List Ru).drop 0) (0 + 1) o7 c7 HLE.out how hbA
          have HFIN := Lib.hid hfin
          clear hfin hrow hr9 how c0 x0 x1 x2 x3 y0
          simp only [Rws.MFin, Rws.kOf, Rws.Mk.val]
          simp
          rw [hv7]
          clear hv7
          go_wp2_with fail
          go_roundw
          case rel =>
            refine ⟨j + 1, (oneF T ⟨(sn : Int), (tn : Int), ((0 : Nat) : Int), false, r⟩).2, by go_num, by omega, hxl, hxb, Lib.hid ?_, HFIN.out.2, Lib.hid (hxr.out (by rw [HFF.out]))⟩
            rw [HFF.out]
            exact HFIN.out.1
          case measure => simp [intOf]; omega
        · obtain ⟨rfl, rfl⟩ : o2 = some ⟨g2, 0, none⟩ ∧ c2 = cap2 := by simpa using e
          have hcl : ∀ (j : Nat) (u : Value), (t.flatMap ceR)[j]? = some u → V5.cell? ⟨g2, j, none⟩ = some u := fun j u hu => by
            have := hoz5.cells (g := g2) rfl _ u hu
            rw [Addr.add_lit, Nat.zero_add] at this
            exact this
          have hlen := flat_len lenR t
          rw [htl.out] at hlen
          have hxT : ∀ (j : Nat) (u : Value), ((t.take an).flatMap ceR)[j]? = some u → V5.drew.cell? ⟨g2, 0 + j, none⟩ = some u := fun j u hu => by
            rw [flat_take lenR _ _ (by rw [htl.out]; omega), List.getElem?_take] at hu
            split at hu
            · rw [Nat.zero_add]; exact hcl j u hu
            · cases hu
          have hxD : ∀ (j : Nat) (u : Value), ((t.drop an).flatMap ceR)[j]? = some u → V5.drew.cell? ⟨g2, (if c2 = an then 0 else an * 12) + j, none⟩ = some u := fun j u hu => by
            rw [flat_drop lenR _ _ (by rw [htl.out]; omega), List.getElem?_drop] at hu
            have hi := (List.getElem?_eq_some_iff.1 hu).1
            rw [hlen] at hi
            rw [if_neg (by omega)]
            exact hcl _ u hu
          clear hoz5 hg2 e
          refine Rws.wp_rows_st 24 _ [.q (.pointer (some ⟨w.heap.size, 4, none⟩)), .q (.slice (some ⟨bo, 0, none⟩) nT ct1), .q (.pointer (some ⟨wr.heap.size, 0, none⟩)), .q (.int .i64 (sn : Int)), .q (.pointer (some ⟨bo, sn, none⟩)), .q (.slice (some ⟨bs, 0, none⟩) ln cs9), .q (.pointer (some ⟨wr.heap.size, 1, none⟩)), .q (.int .i64 (tn : Int)), .row 53 12 0 [] none none, .q (.slice (some ⟨g2, 0, none⟩) tl c2), .q (.pointer (some ⟨wr.heap.size, 2, none⟩)), .q (.int .i64 (an : Int)), .q (.slice (some ⟨g2, 0, none⟩) an c2), .row 53 12 (0 + an) ([] ++ ((t.take an).flatMap ceR)) (some 8) none, .q (.pointer (some ⟨wr.heap.size, 4, none⟩)), .q (.agg (ceR r).toArray), .row 53 12 1 (ceR r) none none, .row 53 12 (0 + an + 1) ([] ++ ((t.take an).flatMap ceR) ++ ceR r) (some 13) (some 16), .q (.slice (some ⟨g2, 0, none⟩) tl c2), .q (.pointer (some ⟨wr.heap.size, 2, none⟩)), .q (.int .i64 (an : Int)), .q (.slice (some ⟨g2, if c2 = an then 0 else an * 12, none⟩) (tl - an) (c2 - an)), .row 53 12 (0 + an + 1 + (tl - an)) ([] ++ ((t.take an).flatMap ceR) ++ ceR r ++ ((t.drop an).flatMap ceR)) (some 17) none, .q (.pointer (some ⟨bs, tn, none⟩))] (by kernel_rfl) rfl rfl rfl rfl (by kernel_rfl) (by kernel_rfl) ?_ ?_
          · refine ⟨?_, ?_, ?_, ?_, ?_, ?_, ?_, ?_, ?_, ?_, ?_, ?_, ?_, ?_, ?_, ?_, ?_, ?_, ?_, ?_, ?_, ?_, ?_, ?_, trivial⟩
            · exact obl_fldT (by kernel_rfl) rfl
            · exact obl_ldS (.inl rfl) (jA := 0) (by kernel_rfl) rfl rfl c0
            · exact obl_fldE (by kernel_rfl) rfl (by decide)
            · exact obl_ldI (jA := 2) (by kernel_rfl) rfl rfl x0
            · exact obl_ix (.inl rfl) (j := sn) (jA := 1) (jB := 3) hsT (by kernel_rfl) rfl rfl (by kernel_rfl) rfl rfl
            · exact obl_ldS (.inr (.inl rfl)) (jA := 4) (by kernel_rfl) rfl rfl y0
            · exact obl_fldE (by kernel_rfl) rfl (by decide)
            · exact obl_ldI (jA := 6) (by kernel_rfl) rfl rfl x1
            · exact Rws.obl_lit0 und44 siz53
            · exact Rws.obl_move (by kernel_rfl) rfl
            · exact obl_fldE (by kernel_rfl) rfl (by decide)
            · exact obl_ldI (jA := 10) (by kernel_rfl) rfl rfl x2
            · exact obl_hi (j := an) (jA := 9) (jB := 11) hant hnc2 (by kernel_rfl) rfl rfl (by kernel_rfl) rfl rfl
            · exact obl_appR (c := 8) (jA := 12) rfl rfl (by kernel_rfl) rfl rfl (by rw [List.length_take, htl.out]; exact Nat.min_eq_left hant) hxT (by omega)
            · exact obl_fldE (by kernel_rfl) rfl (by decide)
            · exact obl_ldR (jA := 14) (by kernel_rfl) rfl rfl HRG.out
            · exact obl_litR (jA := 15) (by kernel_rfl) rfl rfl
            · exact Rws.obl_app_lit und44 inf53 rfl (by decide) (c := 13) (s := 16) rfl rfl rfl rfl (by decide) (oneR r) (by unfold maxLen; omega) (by omega)
            · exact Rws.obl_move (by kernel_rfl) rfl
            · exact obl_fldE (by kernel_rfl) rfl (by decide)
            · exact obl_ldI (jA := 19) (by kernel_rfl) rfl rfl x2
            · exact obl_lo (j := an) (jA := 18) (jB := 20) hant hnc2 (by kernel_rfl) rfl rfl (by kernel_rfl) rfl rfl
            · exact obl_appR (c := 17) (jA := 21) rfl rfl (by kernel_rfl) rfl rfl (by rw [List.length_drop, htl.out]) hxD (by omega)
            · exact obl_ix (.inr rfl) (j := tn) (jA := 5) (jB := 7) htn (by kernel_rfl) rfl rfl (by kernel_rfl) rfl rfl
          intro ν w7 hbA hrow
          have hr9 := hrow 22 53 12 _ _ _ _ (by decide) rfl (Rws.con_ne (by kernel_rfl))
          have how : Ow w7 (fun g => V5.heap.size ≤ g) 53 12 (ν 22) (tl + 1) ((t.take an ++ r :: t.drop an).flatMap ceR) := by
            have h9 := Ow.ofR hr9.1
            rw [show 0 + an + 1 + (tl - an) = tl + 1 by omega, List.nil_append, HQ.out] at h9
            exact h9
          obtain ⟨o7, c7, hv7⟩ := how.form
          rw [hv7] at how
          obtain ⟨_, _, z0, zf⟩ := HKX.out w7 hbA
          have hfin := HPT.out w7 (t.take an ++ r :: t.drop an) (tl + 1) o7 c7 HLE.out how hbA
          have HFIN := Lib.hid hfin
          clear hfin hrow hr9 how c0 x0 x1 x2 x3 y0
          simp only [Rws.MFin, Rws.kOf, Rws.Mk.val]
          simp
          rw [hv7]
          clear hv7
          go_wp2_with fail
          go_roundw
          case rel =>
            refine ⟨j + 1, (oneF T ⟨(sn : Int), (tn : Int), (an : Int), false, r⟩).2, by go_num, by omega, hxl, hxb, Lib.hid ?_, HFIN.out.2, Lib.hid (hxr.out (by rw [HFF.out]))⟩
            rw [HFF.out]
            exact HFIN.out.1
          case measure => simp [intOf]; omega
    · obtain rfl : j = nl := by omega
      have hle1 : ¬ j < l.length := by rw [hnl.out]; omega
      have hle2 : ¬ (j : Int) < (l.length : Int) := by rw [hnl.out]; omega
      have hdn : l.drop j = [] := by rw [← hnl.out]; exact List.drop_length
      have hrn : runF C.tb l = (0, T) := by rw [HRUN.out, hdn]; rfl
      have hap : applyF C l = { C with tb := T } := by unfold applyF; rw [hrn]; rfl
      have HRN := Lib.hid hrn
      have HAP := Lib.hid hap
      have hbl6 := below_fr hbw hFR.out (fun g hg => by have := MM.out g hg; omega)
      have N1 := (hFR.out.same (w.heap.size + 1) (by omega) (fun h => by have := MM.out _ h; omega)).trans HM1.out
      have q0 : wr.cell? ⟨w.heap.size, 0, none⟩ = some (.slice op1 C.pt.length cp1) := (cell_b HWC.out).trans rfl
      have q1 : wr.cell? ⟨w.heap.size, 1, none⟩ = some (.int .i64 C.ten) := (cell_b HWC.out).trans rfl
      have q2 : wr.cell? ⟨w.heap.size, 2, none⟩ = some (.slice oe1 C.pe.length ce1) := (cell_b HWC.out).trans rfl
      have q3 : wr.cell? ⟨w.heap.size, 3, none⟩ = some (.slice ow1 C.wy.length cw1) := (cell_b HWC.out).trans rfl
      have q4 : wr.cell? ⟨w.heap.size, 4, none⟩ = some (.slice ot1 nT ct1) := (cell_b HWC.out).trans rfl
      have r0 : wr.cell? ⟨w.heap.size + 1, 0, none⟩ = some (.slice none 0 0) := (cell_b N1).trans rfl
      have r1 : wr.cell? ⟨w.heap.size + 1, 1, none⟩ = some (.int .i64 0) := (cell_b N1).trans rfl
      have r2 : wr.cell? ⟨w.heap.size + 1, 2, none⟩ = some (.slice none 0 0) := (cell_b N1).trans rfl
      have r3 : wr.cell? ⟨w.heap.size + 1, 3, none⟩ = some (.slice none 0 0) := (cell_b N1).trans rfl
      have r4 : wr.cell? ⟨w.heap.size + 1, 4, none⟩ = some (.slice none 0 0) := (cell_b N1).trans rfl
      have g0 : wr.frozen? ⟨w.heap.size + 1, 0, none⟩ = false := by simp [World.frozen?, N1]
      have g1 : wr.frozen? ⟨w.heap.size + 1, 1, none⟩ = false := by simp [World.frozen?, N1]
      have g2 : wr.frozen? ⟨w.heap.size + 1, 2, none⟩ = false := by simp [World.frozen?, N1]
      have g3 : wr.frozen? ⟨w.heap.size + 1, 3, none⟩ = false := by simp [World.frozen?, N1]
      have g4 : wr.frozen? ⟨w.heap.size + 1, 4, none⟩ = false := by simp [World.frozen?, N1]
      have FZ := Lib.hid (five_cells (.slice op1 C.pt.length cp1) (.int .i64 C.ten) (.slice oe1 C.pe.length ce1) (.slice ow1 C.wy.length cw1) (.slice ot1 nT ct1) N1)
      have HN1 := Lib.hid N1
      clear hdn hrn hap N1
      go_wp2_with fail
      (try simp only [Exit.inBlock, Exit.then])
      rw [HZZ.out]
      refine bodyPost_ret (results_c31 rfl _ _ (w.heap.size + 1) _ _ _ _ _ (0, 0) rfl FZ.out) rfl ?_
      rw [HAP.out, HRN.out]
      have hne : ∀ g, g ≠ w.heap.size + 1 → ((((((wr.setCell ⟨w.heap.size + 1, 0, none⟩ (.slice op1 C.pt.length cp1)).setCell ⟨w.heap.size + 1, 1, none⟩ (.int .i64 C.ten)).setCell ⟨w.heap.size + 1, 2, none⟩ (.slice oe1 C.pe.length ce1)).setCell ⟨w.heap.size + 1, 3, none⟩ (.slice ow1 C.wy.length cw1)).setCell ⟨w.heap.size + 1, 4, none⟩ (.slice ot1 nT ct1))).heap[g]? = wr.heap[g]? := fun g hne =>
        (Below.heap_setCell _ _ _ _ hne).trans ((Below.heap_setCell _ _ _ _ hne).trans ((Below.heap_setCell _ _ _ _ hne).trans ((Below.heap_setCell _ _ _ _ hne).trans (Below.heap_setCell _ _ _ _ hne))))
      have hwr1 : ∀ g, w.heap.size + 1 < g → g < m → ((((((wr.setCell ⟨w.heap.size + 1, 0, none⟩ (.slice op1 C.pt.length cp1)).setCell ⟨w.heap.size + 1, 1, none⟩ (.int .i64 C.ten)).setCell ⟨w.heap.size + 1, 2, none⟩ (.slice oe1 C.pe.length ce1)).setCell ⟨w.heap.size + 1, 3, none⟩ (.slice ow1 C.wy.length cw1)).setCell ⟨w.heap.size + 1, 4, none⟩ (.slice ot1 nT ct1))).heap[g]? = w1.heap[g]? := fun g h1 h2 =>
        (hne g (by omega)).trans ((hFR.out.same g (by omega) (fun h => by have := MM.out g h; omega)).trans (HS3.out g (by omega)))
      have hoc : OC ((((((wr.setCell ⟨w.heap.size + 1, 0, none⟩ (.slice op1 C.pt.length cp1)).setCell ⟨w.heap.size + 1, 1, none⟩ (.int .i64 C.ten)).setCell ⟨w.heap.size + 1, 2, none⟩ (.slice oe1 C.pe.length ce1)).setCell ⟨w.heap.size + 1, 3, none⟩ (.slice ow1 C.wy.length cw1)).setCell ⟨w.heap.size + 1, 4, none⟩ (.slice ot1 nT ct1))) w.heap.size m { C with tb := T } (.slice op1 C.pt.length cp1) (.slice oe1 C.pe.length ce1) (.slice ow1 C.wy.length cw1) (.slice ot1 nT ct1) :=
        ⟨by omega, by have := hfs; simp; omega,
         (goodR (good1 _ _ _)).mono ((goodR (good1 _ _ _)).frame HOC.out.pt fun g hg hl => hwr1 g (by omega) hg.2) fun g hg _ => ⟨by omega, hg.2⟩,
         (good1 _ _ _).mono ((good1 _ _ _).frame HOC.out.pe fun g hg hl => hwr1 g (by omega) hg.2) fun g hg _ => ⟨by omega, hg.2⟩,
         (good1 _ _ _).mono ((good1 _ _ _).frame HOC.out.wy fun g hg hl => hwr1 g (by omega) hg.2) fun g hg _ => ⟨by omega, hg.2⟩,
         (goodR (goodR (good1 _ _ _))).mono ((goodR (goodR (good1 _ _ _))).frame HOR.out fun g hg hl => hne g (by have := MM.out g hg; omega)) fun g hg _ => MM.out g hg⟩
      first
        | exact ⟨_, _, _, _, m, rfl, hoc, Below.setCell (Below.setCell (Below.setCell (Below.setCell (Below.setCell hbl6 (by simp) _) (by simp) _) (by simp) _) (by simp) _) (by simp) _⟩
        | exact ⟨_, _, _, _, rfl, ⟨m, hoc⟩, Below.setCell (Below.setCell (Below.setCell (Below.setCell (Below.setCell hbl6 (by simp) _) (by simp) _) (by simp) _) (by simp) _) (by simp) _⟩
        | exact ⟨_, _, _, _, rfl, m, hoc, Below.setCell (Below.setCell (Below.setCell (Below.setCell (Below.setCell hbl6 (by simp) _) (by simp) _) (by simp) _) (by simp) _) (by simp) _⟩
end Go.Proofs.Ytdmakcfgcgioeaa
