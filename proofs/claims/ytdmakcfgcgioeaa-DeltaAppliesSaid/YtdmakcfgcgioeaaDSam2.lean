/- Delta: Same. -/
import Derived.Test.YtdmakcfgcgioeaaDSame
namespace Go.Proofs.Ytdmakcfgcgioeaa
open Go.RowKit Go.Maps
set_option linter.unusedSimpArgs false
set_option linter.unusedVariables false
set_option maxRecDepth 100000
set_option maxHeartbeats 8000000 in
attribute [local go_sem ↓] eq22 eq33 in
theorem same_c (w : World) {A B : Cf} {vp ve vw vt up ue uw ut : Value} (ha : RC w A vp ve vw vt) (hb : RC w B up ue uw ut) :
    Calls Try.prog 11 #[.agg #[vp, .int .i64 A.ten, ve, vw, vt], .agg #[up, .int .i64 B.ten, ue, uw, ut]] w fun e w' => e = .returned (.bool (decide (A = B))) ∧ RowKit.Below w.heap.size w w' := by
  obtain ⟨op, cp, _, _, rfl, _⟩ := ha.pt.get
  obtain ⟨oe, ce, be, fe, rfl, ae1, ae2, ae3, ae4⟩ := ha.pe.get len2
  obtain ⟨ow, cw, bw, fw, rfl, aw1, aw2, aw3, aw4⟩ := ha.wy.get len3
  obtain ⟨ot, ct, bt, ft, rfl, at1, at2, at3, at4⟩ := ha.tb.get
  obtain ⟨qp, dp, _, _, rfl, _⟩ := hb.pt.get
  obtain ⟨qe, de, xe, ye, rfl, be1, be2, be3, be4⟩ := hb.pe.get len2
  obtain ⟨qw, dw, xw, yw, rfl, bw1, bw2, bw3, bw4⟩ := hb.wy.get len3
  obtain ⟨qt, dt, xt, yt, rfl, bt1, bt2, bt3, bt4⟩ := hb.tb.get
  have AE4 := Lib.hid ae4
  have AW4 := Lib.hid aw4
  have AT4 := Lib.hid at4
  have BE4 := Lib.hid be4
  have BW4 := Lib.hid bw4
  have BT4 := Lib.hid bt4
  obtain ⟨ne, hne⟩ : ∃ n, Hid (A.pe.length = n) := ⟨_, Lib.hid rfl⟩
  obtain ⟨nw, hnw⟩ : ∃ n, Hid (A.wy.length = n) := ⟨_, Lib.hid rfl⟩
  obtain ⟨nt, hnt⟩ : ∃ n, Hid (A.tb.length = n) := ⟨_, Lib.hid rfl⟩
  obtain ⟨me, hme⟩ : ∃ n, Hid (B.pe.length = n) := ⟨_, Lib.hid rfl⟩
  obtain ⟨mw, hmw⟩ : ∃ n, Hid (B.wy.length = n) := ⟨_, Lib.hid rfl⟩
  obtain ⟨mt, hmt⟩ : ∃ n, Hid (B.tb.length = n) := ⟨_, Lib.hid rfl⟩
  have hap := ha.pt
  have hbp := hb.pt
  have HAP := Lib.hid hap
  have HBP := Lib.hid hbp
  clear ha hb hap hbp ae4 aw4 at4 be4 bw4 bt4
  rw [hne.out] at ae1 ae3 ⊢
  rw [hnw.out] at aw1 aw3 ⊢
  rw [hnt.out] at at1 at3 ⊢
  rw [hme.out] at be1 be3 ⊢
  rw [hmw.out] at bw1 bw3 ⊢
  rw [hmt.out] at bt1 bt3 ⊢
  have AE3 := Lib.hid ae3
  have AW3 := Lib.hid aw3
  have AT3 := Lib.hid at3
  have BE3 := Lib.hid be3
  have BW3 := Lib.hid bw3
  have BT3 := Lib.hid bt3
  clear ae3 aw3 at3 be3 bw3 bt3
  obtain ⟨W, hW⟩ : ∃ W, Hid (W = (w.alloc (.cells #[.slice op A.pt.length cp, .int .i64 A.ten, .slice oe ne ce, .slice ow nw cw, .slice ot nt ct] 31)).alloc (.cells #[.slice qp B.pt.length dp, .int .i64 B.ten, .slice qe me de, .slice qw mw dw, .slice qt mt dt] 31)) := ⟨_, Lib.hid rfl⟩
  have hbx : RowKit.Below w.heap.size w W := by rw [hW.out]; exact below2 _ _ _
  have hs : W.heap.size = w.heap.size + 1 + 1 := by rw [hW.out]; simp
  have hm0 : W.heap[w.heap.size]? = some (.cells #[.slice op A.pt.length cp, .int .i64 A.ten, .slice oe ne ce, .slice ow nw cw, .slice ot nt ct] 31 (0, 0)) := by
    rw [hW.out, al_lt' (by simp)]; exact heap_alloc_new w _
  have hm1 : W.heap[w.heap.size + 1]? = some (.cells #[.slice qp B.pt.length dp, .int .i64 B.ten, .slice qe me de, .slice qw mw dw, .slice qt mt dt] 31 (0, 0)) := by
    have := heap_alloc_new (w.alloc (.cells #[.slice op A.pt.length cp, .int .i64 A.ten, .slice oe ne ce, .slice ow nw cw, .slice ot nt ct] 31)) (.cells #[.slice qp B.pt.length dp, .int .i64 B.ten, .slice qe me de, .slice qw mw dw, .slice qt mt dt] 31)
    rw [hW.out]
    rwa [World.size_alloc] at this
  have x1 : W.cell? ⟨w.heap.size, 1, none⟩ = some (.int .i64 A.ten) := (cell_b hm0).trans rfl
  have x2 : W.cell? ⟨w.heap.size, 2, none⟩ = some (.slice oe ne ce) := (cell_b hm0).trans rfl
  have x3 : W.cell? ⟨w.heap.size, 3, none⟩ = some (.slice ow nw cw) := (cell_b hm0).trans rfl
  have y1 : W.cell? ⟨w.heap.size + 1, 1, none⟩ = some (.int .i64 B.ten) := (cell_b hm1).trans rfl
  have y2 : W.cell? ⟨w.heap.size + 1, 2, none⟩ = some (.slice qe me de) := (cell_b hm1).trans rfl
  have y3 : W.cell? ⟨w.heap.size + 1, 3, none⟩ = some (.slice qw mw dw) := (cell_b hm1).trans rfl
  go_enter Try.func11, Try.ntmps11
  go_upto_region 1 with (fail)
  rw [← hW.out]
  go_cut [5, 6] from 1 to 1 (fun v5 v6 wx => ∃ g5 g6 : Nat, v5 = .pointer (some ⟨g5, 0, none⟩) ∧ v6 = .pointer (some ⟨g6, 0, none⟩) ∧ wx.heap[g5]? = some (.cells #[.int .i64 A.ten, .slice oe ne ce, .slice ow nw cw] 28 (0, 0)) ∧ wx.heap[g6]? = some (.cells #[.int .i64 B.ten, .slice qe me de, .slice qw mw dw] 28 (0, 0)) ∧ RowKit.Below W.heap.size W wx)
  case first =>
    have P5 : Hid (∀ x y : Obj, ((W.alloc x).alloc y).drew.heap[W.heap.size]? = some x ∧ ((W.alloc x).alloc y).drew.heap[W.heap.size + 1]? = some y) := Lib.hid fun x y => by
      refine ⟨?_, ?_⟩
      · show ((W.alloc x).alloc y).heap[W.heap.size]? = _
        rw [al_lt' (by simp)]; exact heap_alloc_new W x
      · show ((W.alloc x).alloc y).heap[W.heap.size + 1]? = _
        have := heap_alloc_new (W.alloc x) y
        rwa [World.size_alloc] at this
    rw [hs] at P5
    go_region_with fail
    all_goals clear x1 x2 x3 y1 y2 y3
    all_goals go_wp2_with fail
    all_goals (go_meet; case rel => first | exact ⟨_, _, rfl, rfl, (P5.out _ _).1, (P5.out _ _).2, below_dr (below2 _ _ _)⟩ | exact ⟨_, _, rfl, rfl, (P5.out _ _).2, (P5.out _ _).1, below_dr (below2 _ _ _)⟩)
  case rest =>
    obtain ⟨g5, g6, rfl, rfl, n5, n6, hbv⟩ := hcut
    rename_i Kc hKc
    refine hKc _ _ ?_
    clear hKc
    refine wp_world (fun V => V = wc) rfl ?_
    rintro V rfl
    have n0 := (hbv.block _ (by omega)).trans hm0
    have n1 := (hbv.block _ (by omega)).trans hm1
    have hbw0 := below_st hbx hbv
    have hp := ports_c V (HAP.out.below (fun _ _ h => h.below hbw0) hbw0) (HBP.out.below (fun _ _ h => h.below hbw0) hbw0)
    have hcx : ∀ V', RowKit.Below V.heap.size V V' → ((V'.cell? ⟨w.heap.size, 0, none⟩ = some (.slice op A.pt.length cp) ∧ V'.cell? ⟨w.heap.size, 2 + 2, none⟩ = some (.slice ot nt ct) ∧ V'.cell? ⟨w.heap.size + 1, 0, none⟩ = some (.slice qp B.pt.length dp) ∧ V'.cell? ⟨w.heap.size + 1, 2 + 2, none⟩ = some (.slice qt mt dt)) ∧ (V'.cell? ⟨g5, 0, none⟩ = some (.int .i64 A.ten) ∧ V'.cell? ⟨g5, 1, none⟩ = some (.slice oe ne ce) ∧ V'.cell? ⟨g5, 2, none⟩ = some (.slice ow nw cw)) ∧ (V'.cell? ⟨g6, 0, none⟩ = some (.int .i64 B.ten) ∧ V'.cell? ⟨g6, 1, none⟩ = some (.slice qe me de) ∧ V'.cell? ⟨g6, 2, none⟩ = some (.slice qw mw dw))) := fun V' hV =>
      ⟨⟨cell_below hV ((cell_b n0).trans rfl), cell_below hV ((cell_b n0).trans rfl), cell_below hV ((cell_b n1).trans rfl), cell_below hV ((cell_b n1).trans rfl)⟩, ⟨cell_below hV ((cell_b n5).trans rfl), cell_below hV ((cell_b n5).trans rfl), cell_below hV ((cell_b n5).trans rfl)⟩, cell_below hV ((cell_b n6).trans rfl), cell_below hV ((cell_b n6).trans rfl), cell_below hV ((cell_b n6).trans rfl)⟩
    simp only [Nat.reduceAdd] at hcx
    have HCX := Lib.hid hcx
    have HBW0 := Lib.hid hbw0
    obtain ⟨⟨x0, x4, y0, y4⟩, ⟨z0, z1, z2⟩, u0, u1, u2⟩ := hcx V (Below.refl _ _)
    have HP := Lib.hid hp
    clear hp hm0 hm1 n0 n1 n5 n6 hcx hW
    go_wp2_with fail
    refine HP.out.mono ?_
    rintro e w1 ⟨rfl, hb1⟩
    clear x0 x4 y0 y4 z0 z1 z2 u0 u1 u2
    obtain ⟨⟨x0, x4, y0, y4⟩, ⟨z0, z1, z2⟩, u0, u1, u2⟩ := HCX.out w1 hb1
    have hbw : RowKit.Below w.heap.size w w1 := below_st HBW0.out hb1
    by_cases hc : A.pt = B.pt
    rotate_left
    · have e1 : decide (A.pt = B.pt) = false := decide_eq_false hc
      have hf : decide (A = B) = false := decide_eq_false (fun e => hc (by rw [e]))
      have HF := Lib.hid hf
      clear hf hc
      go_wp2_with fail
      go_ret
      rw [HF.out]
      exact ⟨rfl, hbw⟩
    have e1 : decide (A.pt = B.pt) = true := decide_eq_true hc
    have H1 := Lib.hid hc
    clear hc
    by_cases hc : A.ten = B.ten
    rotate_left
    · have e2 : (A.ten != B.ten) = true := by simp [hc]
      have hf : decide (A = B) = false := decide_eq_false (fun e => hc (by rw [e]))
      have HF := Lib.hid hf
      clear hf hc
      go_wp2_with fail
      go_ret
      rw [HF.out]
      exact ⟨rfl, hbw⟩
    have H2 := Lib.hid hc
    have e2 : (A.ten != B.ten) = false := by simp [hc]
    clear hc
    by_cases hc : ne = me
    rotate_left
    · have e3 : ((ne : Int) != (me : Int)) = true := by simp; omega
      have hf : decide (A = B) = false := decide_eq_false (fun e => hc (by rw [← hne.out, ← hme.out, e]))
      have HF := Lib.hid hf
      clear hf hc
      go_wp2_with fail
      go_ret
      rw [HF.out]
      exact ⟨rfl, hbw⟩
    subst hc
    by_cases hc : nw = mw
    rotate_left
    · have e4 : ((nw : Int) != (mw : Int)) = true := by simp; omega
      have hf : decide (A = B) = false := decide_eq_false (fun e => hc (by rw [← hnw.out, ← hmw.out, e]))
      have HF := Lib.hid hf
      clear hf hc
      go_wp2_with fail
      go_ret
      rw [HF.out]
      exact ⟨rfl, hbw⟩
    subst hc
    by_cases hc : nt = mt
    rotate_left
    · have e5 : ((nt : Int) != (mt : Int)) = true := by simp; omega
      have hf : decide (A = B) = false := decide_eq_false (fun e => hc (by rw [← hnt.out, ← hmt.out, e]))
      have HF := Lib.hid hf
      clear hf hc
      go_wp2_with fail
      go_ret
      rw [HF.out]
      exact ⟨rfl, hbw⟩
    subst hc
    go_upto_region 4 with (fail)
    clear x0 x4 y0 y4 z0 z1 z2 u0 u1 u2 e1 e2
    go_wp2_with fail
    go_loopw [7] (fun v5 wr => ∃ i : Nat, v5 = .int .i64 (i : Int) ∧ i ≤ ne ∧ Hid (A.pe.take i = B.pe.take i) ∧ RowKit.Below V.heap.size V wr) (fun v5 _ => ne - (intOf v5).toNat)
    case atStart => exact ⟨0, rfl, Nat.zero_le _, Lib.hid rfl, hb1⟩
    case round =>
      obtain ⟨i, rfl, hi, htk, hbr⟩ := hrel
      obtain ⟨⟨x0, x4, y0, y4⟩, ⟨z0, z1, z2⟩, u0, u1, u2⟩ := HCX.out wr hbr
      by_cases hlt : i < ne
      · have hltI : (i : Int) < (ne : Int) := by omega
        have hiA : i < A.pe.length := by rw [hne.out]; exact hlt
        have hiB : i < B.pe.length := by rw [hme.out]; exact hlt
        obtain ea := Lib.hid (AE3.out (by omega))
        obtain eb := Lib.hid (BE3.out (by omega))
        rw [ea.out] at z1
        rw [eb.out] at u1
        have hbw : RowKit.Below w.heap.size w wr := below_st HBW0.out hbr
        obtain ⟨r, hr⟩ : ∃ r, Hid (A.pe[i] = r) := ⟨_, Lib.hid rfl⟩
        obtain ⟨s, hs⟩ : ∃ r, Hid (B.pe[i] = r) := ⟨_, Lib.hid rfl⟩
        have px := AE4.out i hiA
        have qx := BE4.out i hiB
        rw [hr.out] at px
        rw [hs.out] at qx
        have PX := Lib.hid px
        have QX := Lib.hid qx
        have hne2 : r ≠ s → Hid (decide (A = B) = false) := fun h => decide_eq_false (fun e => take_ne hiA hiB (by rw [hr.out, hs.out]; exact h) (by rw [e]))
        have hsn2 : r = s → Hid (A.pe.take (i + 1) = B.pe.take (i + 1)) := fun h => takes_snoc hiA hiB htk.out (by rw [hr.out, hs.out]; exact h)
        have HNE2 := Lib.hid hne2
        have HSN2 := Lib.hid hsn2
        clear px qx hne2 hsn2
        go_upto_region 7 with (fail)
        have z0' := reg_c z1
        have u0' := reg_c u1
        have p0 := reg_c (show wr.cell? ⟨be, fe + i * 2, none⟩ = some (.int .i64 r.1) from cell_below hbw (by have := PX.out 0 (by decide); rw [← Nat.add_assoc] at this; exact this))
        have p1 := reg_c (show wr.cell? ⟨be, fe + i * 2 + 1, none⟩ = some (.int .i64 r.2) from cell_below hbw (by have := PX.out 1 (by decide); rw [← Nat.add_assoc] at this; exact this))
        have q0 := reg_c (show wr.cell? ⟨xe, ye + i * 2, none⟩ = some (.int .i64 s.1) from cell_below hbw (by have := QX.out 0 (by decide); rw [← Nat.add_assoc] at this; exact this))
        have q1 := reg_c (show wr.cell? ⟨xe, ye + i * 2 + 1, none⟩ = some (.int .i64 s.2) from cell_below hbw (by have := QX.out 1 (by decide); rw [← Nat.add_assoc] at this; exact this))
        by_cases hrs : r = s
        rotate_left
        · have e1 : decide (r = s) = false := decide_eq_false hrs
          have hnn := HNE2.out hrs
          clear hrs
          refine wp_region_quiet_below (by kernel_rfl) (by kernel_rfl) ?_; (repeat (go_big_quiet_step (fail))); refine wpQuiet_nil ?_; intro _ hw'; obtain ⟨⟨dq, osq⟩, hw''⟩ := hw'; subst hw''
          go_wp2_with fail
          go_ret
          rw [hnn.out]
          exact ⟨rfl, below_st hbw (below_regrown wr dq osq)⟩
        have e1 : decide (r = s) = true := decide_eq_true hrs
        have hss := HSN2.out hrs
        clear hrs
        refine wp_region_quiet_below (by kernel_rfl) (by kernel_rfl) ?_; (repeat (go_big_quiet_step (fail))); refine wpQuiet_nil ?_; intro _ hw'; obtain ⟨⟨dq, osq⟩, hw''⟩ := hw'; subst hw''
        go_wp2_with fail
        go_roundw
        case rel => exact ⟨i + 1, by go_num, by omega, hss, below_st hbr (below_regrown wr dq osq)⟩
        case measure => simp [intOf]; omega
      · obtain rfl : i = ne := by omega
        have H3 : Hid (A.pe = B.pe) := takes_eq hne.out hme.out (Nat.le_refl _) htk.out
        go_wp2_with fail
        go_loopw [8] (fun v5 wr => ∃ i : Nat, v5 = .int .i64 (i : Int) ∧ i ≤ nw ∧ Hid (A.wy.take i = B.wy.take i) ∧ RowKit.Below V.heap.size V wr) (fun v5 _ => nw - (intOf v5).toNat)
        case atStart => exact ⟨0, rfl, Nat.zero_le _, Lib.hid rfl, hbr⟩
        case round =>
          obtain ⟨i, rfl, hi, htk, hbr⟩ := hrel
          obtain ⟨⟨x0, x4, y0, y4⟩, ⟨z0, z1, z2⟩, u0, u1, u2⟩ := HCX.out wr hbr
          by_cases hlt : i < nw
          · have hltI : (i : Int) < (nw : Int) := by omega
            have hiA : i < A.wy.length := by rw [hnw.out]; exact hlt
            have hiB : i < B.wy.length := by rw [hmw.out]; exact hlt
            obtain ea := Lib.hid (AW3.out (by omega))
            obtain eb := Lib.hid (BW3.out (by omega))
            rw [ea.out] at z2
            rw [eb.out] at u2
            have hbw : RowKit.Below w.heap.size w wr := below_st HBW0.out hbr
            obtain ⟨r, hr⟩ : ∃ r, Hid (A.wy[i] = r) := ⟨_, Lib.hid rfl⟩
            obtain ⟨s, hs⟩ : ∃ r, Hid (B.wy[i] = r) := ⟨_, Lib.hid rfl⟩
            have px := AW4.out i hiA
            have qx := BW4.out i hiB
            rw [hr.out] at px
            rw [hs.out] at qx
            have PX := Lib.hid px
            have QX := Lib.hid qx
            have hne2 : r ≠ s → Hid (decide (A = B) = false) := fun h => decide_eq_false (fun e => take_ne hiA hiB (by rw [hr.out, hs.out]; exact h) (by rw [e]))
            have hsn2 : r = s → Hid (A.wy.take (i + 1) = B.wy.take (i + 1)) := fun h => takes_snoc hiA hiB htk.out (by rw [hr.out, hs.out]; exact h)
            have HNE2 := Lib.hid hne2
            have HSN2 := Lib.hid hsn2
            clear px qx hne2 hsn2
            go_upto_region 12 with (fail)
            have z0' := reg_c z2
            have u0' := reg_c u2
            have p0 := reg_c (show wr.cell? ⟨bw, fw + i * 3, none⟩ = some (.int .i64 r.1) from cell_below hbw (by have := PX.out 0 (by decide); rw [← Nat.add_assoc] at this; exact this))
            have p1 := reg_c (show wr.cell? ⟨bw, fw + i * 3 + 1, none⟩ = some (.int .i64 r.2.1) from cell_below hbw (by have := PX.out 1 (by decide); rw [← Nat.add_assoc] at this; exact this))
            have p2 := reg_c (show wr.cell? ⟨bw, fw + i * 3 + 2, none⟩ = some (.int .i64 r.2.2) from cell_below hbw (by have := PX.out 2 (by decide); rw [← Nat.add_assoc] at this; exact this))
            have q0 := reg_c (show wr.cell? ⟨xw, yw + i * 3, none⟩ = some (.int .i64 s.1) from cell_below hbw (by have := QX.out 0 (by decide); rw [← Nat.add_assoc] at this; exact this))
            have q1 := reg_c (show wr.cell? ⟨xw, yw + i * 3 + 1, none⟩ = some (.int .i64 s.2.1) from cell_below hbw (by have := QX.out 1 (by decide); rw [← Nat.add_assoc] at this; exact this))
            have q2 := reg_c (show wr.cell? ⟨xw, yw + i * 3 + 2, none⟩ = some (.int .i64 s.2.2) from cell_below hbw (by have := QX.out 2 (by decide); rw [← Nat.add_assoc] at this; exact this))
            by_cases hrs : r = s
            rotate_left
            · have e1 : decide (r = s) = false := decide_eq_false hrs
              have hnn := HNE2.out hrs
              clear hrs
              refine wp_region_quiet_below (by kernel_rfl) (by kernel_rfl) ?_; (repeat (go_big_quiet_step (fail))); refine wpQuiet_nil ?_; intro _ hw'; obtain ⟨⟨dq, osq⟩, hw''⟩ := hw'; subst hw''
              go_wp2_with fail
              go_ret
              rw [hnn.out]
              exact ⟨rfl, below_st hbw (below_regrown wr dq osq)⟩
            have e1 : decide (r = s) = true := decide_eq_true hrs
            have hss := HSN2.out hrs
            clear hrs
            refine wp_region_quiet_below (by kernel_rfl) (by kernel_rfl) ?_; (repeat (go_big_quiet_step (fail))); refine wpQuiet_nil ?_; intro _ hw'; obtain ⟨⟨dq, osq⟩, hw''⟩ := hw'; subst hw''
            go_wp2_with fail
            go_roundw
            case rel => exact ⟨i + 1, by go_num, by omega, hss, below_st hbr (below_regrown wr dq osq)⟩
            case measure => simp [intOf]; omega
          · obtain rfl : i = nw := by omega
            have H4 : Hid (A.wy = B.wy) := takes_eq hnw.out hmw.out (Nat.le_refl _) htk.out
            go_wp2_with fail
            go_loopw [9] (fun v5 wr => ∃ i : Nat, v5 = .int .i64 (i : Int) ∧ i ≤ nt ∧ Hid (A.tb.take i = B.tb.take i) ∧ RowKit.Below V.heap.size V wr) (fun v5 _ => nt - (intOf v5).toNat)
            case atStart => exact ⟨0, rfl, Nat.zero_le _, Lib.hid rfl, hbr⟩
            case round =>
              obtain ⟨i, rfl, hi, htk, hbr⟩ := hrel
              obtain ⟨⟨x0, x4, y0, y4⟩, ⟨z0, z1, z2⟩, u0, u1, u2⟩ := HCX.out wr hbr
              by_cases hlt : i < nt
              · have hltI : (i : Int) < (nt : Int) := by omega
                have hiA : i < A.tb.length := by rw [hnt.out]; exact hlt
                have hiB : i < B.tb.length := by rw [hmt.out]; exact hlt
                obtain ea := Lib.hid (AT3.out (by omega))
                obtain eb := Lib.hid (BT3.out (by omega))
                rw [ea.out] at x4
                rw [eb.out] at y4
                have hbw : RowKit.Below w.heap.size w wr := below_st HBW0.out hbr
                obtain ⟨ua, c1, s1⟩ := AT4.out i hiA
                obtain ⟨ub, c2, s2⟩ := BT4.out i hiB
                obtain ⟨r, hr⟩ : ∃ r, Hid (A.tb[i] = r) := ⟨_, Lib.hid rfl⟩
                obtain ⟨s, hs⟩ : ∃ r, Hid (B.tb[i] = r) := ⟨_, Lib.hid rfl⟩
                rw [hr.out] at s1
                rw [hs.out] at s2
                obtain ⟨oc, cc, _, _, rfl, _⟩ := s1.get
                obtain ⟨od, cd, _, _, rfl, _⟩ := s2.get
                have hrl := fun p : Regrown => rules_c (Sort.grow (redrawn wr p.d) p.os) (s1.below (fun _ _ h => h.below (below_st hbw (below_regrown wr p.d p.os))) (below_st hbw (below_regrown wr p.d p.os))) (s2.below (fun _ _ h => h.below (below_st hbw (below_regrown wr p.d p.os))) (below_st hbw (below_regrown wr p.d p.os)))
                have HRL := Lib.hid hrl
                have hne2 : r ≠ s → Hid (decide (A = B) = false) := fun h => decide_eq_false (fun e => take_ne hiA hiB (by rw [hr.out, hs.out]; exact h) (by rw [e]))
                have hsn2 : r = s → Hid (A.tb.take (i + 1) = B.tb.take (i + 1)) := fun h => takes_snoc hiA hiB htk.out (by rw [hr.out, hs.out]; exact h)
                have HNE2 := Lib.hid hne2
                have HSN2 := Lib.hid hsn2
                have c1' := reg_c (cell_below hbw c1)
                have c2' := reg_c (cell_below hbw c2)
                obtain ⟨lr, hlr⟩ : ∃ n, Hid (r.length = n) := ⟨_, Lib.hid rfl⟩
                obtain ⟨ls, hls⟩ : ∃ n, Hid (s.length = n) := ⟨_, Lib.hid rfl⟩
                clear hrl s1 s2 c1 c2 hne2 hsn2
                rw [hlr.out] at HRL c1'
                rw [hls.out] at HRL c2'
                go_upto_region 17 with (fail)
                have z0' := reg_c x4
                have u0' := reg_c y4
                by_cases hrs : r = s
                rotate_left
                · have e1 : decide (r = s) = false := decide_eq_false hrs
                  have hnn := HNE2.out hrs
                  clear hrs
                  refine wp_region_quiet_below (by kernel_rfl) (by kernel_rfl) ?_; (repeat (go_big_quiet_step ((first | (go_at_call 18; exact Calls.regrown_of (HRL.out _)))))); refine wpQuiet_nil ?_; intro _ hw'; obtain ⟨⟨dq, osq⟩, hw''⟩ := hw'; subst hw''
                  go_wp2_with fail
                  go_ret
                  rw [hnn.out]
                  exact ⟨rfl, below_st hbw (below_regrown wr dq osq)⟩
                have e1 : decide (r = s) = true := decide_eq_true hrs
                have hss := HSN2.out hrs
                clear hrs
                refine wp_region_quiet_below (by kernel_rfl) (by kernel_rfl) ?_; (repeat (go_big_quiet_step ((first | (go_at_call 18; exact Calls.regrown_of (HRL.out _)))))); refine wpQuiet_nil ?_; intro _ hw'; obtain ⟨⟨dq, osq⟩, hw''⟩ := hw'; subst hw''
                go_wp2_with fail
                go_roundw
                case rel => exact ⟨i + 1, by go_num, by omega, hss, below_st hbr (below_regrown wr dq osq)⟩
                case measure => simp [intOf]; omega
              · obtain rfl : i = nt := by omega
                have H5 : Hid (A.tb = B.tb) := takes_eq hnt.out hmt.out (Nat.le_refl _) htk.out
                go_wp2_with fail
                have hab : decide (A = B) = true := decide_eq_true (by
                  cases A; cases B
                  simp only [Cf.mk.injEq]
                  exact ⟨H1.out, H2.out, H3.out, H4.out, H5.out⟩)
                have HAB := Lib.hid hab
                clear hab
                go_ret
                rw [HAB.out]
                exact ⟨rfl, below_st HBW0.out hbr⟩
