/- Delta: the law's simplest facts. -/
import Derived.Test.YtdmakcfgcgioeaaDLine
import Derived.Test.YtdmakcfgcgioeaaDSam2
namespace Go.Proofs.Ytdmakcfgcgioeaa
open Go.RowKit Go.Maps
set_option linter.unusedSimpArgs false
set_option linter.unusedVariables false
set_option maxRecDepth 100000
def e0 : Ed := ⟨1, 0, 0, true, zeroR⟩
def lineR : Ru := ⟨1, 0, 1, 0, 1, 2, 1, 0, 0, 0, 0, 0⟩
def e1 : Ed := ⟨1, 0, 0, false, lineR⟩
def downT : List (List (List Ru)) := [[[⟨1, 0, 1, 0, 1, 3, 1, 0, 0, 0, 0, 0⟩, dropR]], [[dropR]]]
def downC : Cf := ⟨lineC.pt, 1, [], [], downT⟩
theorem c1 : runF lineT [e0] = (0, downT) := by decide
theorem c2 : applyF lineC [e0] = downC := by decide
theorem c3 : diffR lineT downT = (0, [e0]) := by decide
theorem c4 : backF lineT [e0] = (0, [e1]) := by decide
theorem c5 : runF downT [e1] = (0, lineT) := by decide
theorem c6 : applyF downC [e1] = lineC := by decide
theorem bdL : Bd lineC := ⟨by decide, by decide, by decide, by decide, by decide, by decide, by decide⟩
theorem bdD : Bd downC := ⟨by decide, by decide, by decide, by decide, by decide, by decide, by decide⟩
theorem btL : BT 2 lineT := ⟨by decide, by decide, by decide⟩
theorem btD : BT 2 downT := ⟨by decide, by decide, by decide⟩
theorem b1 : Bt lineT := ⟨by decide, by decide, by decide⟩
theorem b2 : Bt downT := ⟨by decide, by decide, by decide⟩
theorem Rd.lie {W : World} {b n : Nat} {xs : List Value} {t : TypeId} {fr : Nat × Nat} (h : W.heap[b]? = some (.cells xs.toArray t fr)) (hn : n ≤ maxLen) : Rd W (some ⟨b, 0, none⟩) n n xs :=
  ⟨Nat.le_refl _, hn, b, 0, fun _ => rfl, fun j u hu => by rw [cell_b h, Nat.zero_add]; simpa using hu⟩
theorem RC.forms {W : World} {C : Cf} {vp ve vw vt : Value} (h : RC W C vp ve vw vt) : ∃ o1 c1 o2 c2 o3 c3 o4 c4, vp = .slice o1 C.pt.length c1 ∧ ve = .slice o2 C.pe.length c2 ∧ vw = .slice o3 C.wy.length c3 ∧ vt = .slice o4 C.tb.length c4 := by
  obtain ⟨op, cp, ep⟩ : ∃ o c, vp = .slice o C.pt.length c := by obtain ⟨o, c, vs, e, _⟩ := h.pt; exact ⟨o, c, e⟩
  obtain ⟨oe, ce, ee⟩ : ∃ o c, ve = .slice o C.pe.length c := by obtain ⟨o, c, e, _⟩ := h.pe; exact ⟨o, c, e⟩
  obtain ⟨ow, cw, ew⟩ : ∃ o c, vw = .slice o C.wy.length c := by obtain ⟨o, c, e, _⟩ := h.wy; exact ⟨o, c, e⟩
  obtain ⟨ot, ct, et⟩ : ∃ o c, vt = .slice o C.tb.length c := by obtain ⟨o, c, vs, e, _⟩ := h.tb; exact ⟨o, c, e⟩
  exact ⟨op, cp, oe, ce, ow, cw, ot, ct, ep, ee, ew, et⟩
set_option maxHeartbeats 4000000 in
theorem awake_c (w : World) : Calls Try.prog 10 #[] w fun e w' => e = .returned (.bool true) ∧ RowKit.Below w.heap.size w w' := by
  have hl := line_c w
  have HL := Lib.hid hl
  clear hl
  go_enter Try.func10, Try.ntmps10
  refine wp_hide ?_
  intro ZZ HZZ
  go_wp2_with fail
  refine HL.out.mono ?_
  rintro e w1 ⟨vp, ve, vw, vt, rfl, hrc, hb1⟩
  obtain ⟨o1, k1, o2, k2, o3, k3, o4, k4, f1, f2, f3, f4⟩ := hrc.forms
  change vp = .slice o1 2 k1 at f1
  change ve = .slice o2 0 k2 at f2
  change vw = .slice o3 0 k3 at f3
  change vt = .slice o4 2 k4 at f4
  subst f1 f2 f3 f4
  have HRC := Lib.hid hrc
  have hap : ∀ W ol cl, RowKit.Below w1.heap.size w1 W → Rd W ol 1 cl (ceE e0) → Calls Try.prog 8 #[.agg #[.slice o1 2 k1, .int .i64 1, .slice o2 0 k2, .slice o3 0 k3, .slice o4 2 k4], .slice ol 1 cl] W fun e w' => ∃ vp' ve' vw' vt' m, e = .returned (.tuple #[.agg #[vp', .int .i64 1, ve', vw', vt'], .int .i64 0]) ∧ OC w' W.heap.size m downC vp' ve' vw' vt' ∧ RowKit.Below W.heap.size W w' := fun W ol cl hW hr => by
    have := apply_c W (C := lineC) (hrc.below hW) bdL btL (l := [e0]) (ol := ol) (cl := cl) (by simpa using hr) (by decide)
    rw [c2, show runF lineC.tb [e0] = (0, downT) from c1] at this
    exact this
  have HAP := Lib.hid hap
  clear hrc hap HL
  go_wp2_with fail
  refine (HAP.out _ _ _ (below2 _ _ _) (Rd.lie (hpm2 w1 _ _) (by decide))).mono ?_
  rintro e w2 ⟨vp2, ve2, vw2, vt2, m2, rfl, hoc, hb2⟩
  have hrd := hoc.rc
  obtain ⟨o5, k5, o6, k6, o7, k7, o8, k8, f1, f2, f3, f4⟩ := hrd.forms
  change vp2 = .slice o5 2 k5 at f1
  change ve2 = .slice o6 0 k6 at f2
  change vw2 = .slice o7 0 k7 at f3
  change vt2 = .slice o8 2 k8 at f4
  subst f1 f2 f3 f4
  have HRD := Lib.hid hrd
  have hs2 := hb2.size
  simp only [World.size_alloc] at hs2
  have N1 := (hb2.block w1.heap.size (by simp; omega)).trans (hpm1 w1 _ _)
  have hb12 : RowKit.Below w1.heap.size w1 w2 := below_st (below2 _ _ _) hb2
  clear hoc hrd hb2 HAP
  go_upto_region 3 with (fail)
  refine wp_world (fun W => W.heap[w1.heap.size]? = some (.cells #[.slice o1 2 k1, .int .i64 1, .slice o2 0 k2, .slice o3 0 k3, .slice o4 2 k4] 31 (0, 0)) ∧ W.heap[w2.heap.size]? = some (.cells #[.slice o5 2 k5, .int .i64 1, .slice o6 0 k6, .slice o7 0 k7, .slice o8 2 k8] 31 (0, 0)) ∧ RowKit.Below w2.heap.size w2 W ∧ w2.heap.size < W.heap.size) ⟨(al_lt' (by omega)).trans N1, heap_alloc_new w2 _, below_al (Below.refl _ _) _, by simp⟩ ?_
  clear N1
  rintro W3 ⟨m0, m1, hbW, hltW⟩
  have HM0 := Lib.hid m0
  have HM1 := Lib.hid m1
  have hb13 := below_st hb12 hbW
  have hb03 := below_st hb1 hb13
  have y0 : W3.cell? ⟨w1.heap.size, 0, none⟩ = some (.slice o1 2 k1) := (cell_b m0).trans rfl
  have y1 : W3.cell? ⟨w1.heap.size, 1, none⟩ = some (.int .i64 1) := (cell_b m0).trans rfl
  have y2 : W3.cell? ⟨w1.heap.size, 2, none⟩ = some (.slice o2 0 k2) := (cell_b m0).trans rfl
  have y3 : W3.cell? ⟨w1.heap.size, 3, none⟩ = some (.slice o3 0 k3) := (cell_b m0).trans rfl
  have y4 : W3.cell? ⟨w1.heap.size, 4, none⟩ = some (.slice o4 2 k4) := (cell_b m0).trans rfl
  have z0 : W3.cell? ⟨w2.heap.size, 0, none⟩ = some (.slice o5 2 k5) := (cell_b m1).trans rfl
  have z1 : W3.cell? ⟨w2.heap.size, 1, none⟩ = some (.int .i64 1) := (cell_b m1).trans rfl
  have z2 : W3.cell? ⟨w2.heap.size, 2, none⟩ = some (.slice o6 0 k6) := (cell_b m1).trans rfl
  have z3 : W3.cell? ⟨w2.heap.size, 3, none⟩ = some (.slice o7 0 k7) := (cell_b m1).trans rfl
  have z4 : W3.cell? ⟨w2.heap.size, 4, none⟩ = some (.slice o8 2 k8) := (cell_b m1).trans rfl
  have hrc3 := HRC.out.below hb13
  have hrd3 := HRD.out.below hbW
  obtain ⟨oo, cc, bt, ft, eq, a1, a2, a3, a4⟩ := hrd3.tb.get
  obtain ⟨rfl, rfl⟩ : o8 = oo ∧ k8 = cc := by simp at eq; exact ⟨eq.1, eq.2.2⟩
  obtain rfl := a3 (by decide)
  obtain ⟨u1, t1, s1⟩ := a4 1 (by decide)
  obtain ⟨oo2, cc2, bu, fu, rfl, a5, a6, a7, a8⟩ := s1.get
  obtain rfl := a7 (by decide)
  obtain ⟨u2, t2, s2⟩ := a8 0 (by decide)
  obtain ⟨oo3, cc3, _, _, rfl, _⟩ := s2.get lenR
  change W3.cell? ⟨bt, ft + 1, none⟩ = some (.slice (some ⟨bu, fu, none⟩) 1 cc2) at t1
  change W3.cell? ⟨bu, fu, none⟩ = some (.slice oo3 1 cc3) at t2
  have T1 := Lib.hid t1
  have T2 := Lib.hid t2
  change 2 ≤ k8 at a1
  change 1 ≤ cc2 at a5
  have HC3 := Lib.hid hrc3
  have HD3 := Lib.hid hrd3
  have hdf : ∀ W, RowKit.Below W3.heap.size W3 W → Calls Try.prog 12 #[.agg #[.slice o1 2 k1, .int .i64 1, .slice o2 0 k2, .slice o3 0 k3, .slice o4 2 k4], .agg #[.slice o5 2 k5, .int .i64 1, .slice o6 0 k6, .slice o7 0 k7, .slice (some ⟨bt, ft, none⟩) 2 k8]] W fun e w' => ∃ ov kv, e = .returned (.tuple #[.slice ov 1 kv, .int .i64 0]) ∧ Rd w' ov 1 kv (ceE e0) ∧ RowKit.Below W.heap.size W w' := fun W hW => by
    have := diff_c W (T := lineT) (U := downT) (o1 := o1) (n1 := 2) (c1 := k1) (o2 := o2) (n2 := 0) (c2 := k2) (o3 := o3) (n3 := 0) (c3 := k3) (x := 1) (o4 := o5) (n4 := 2) (c4 := k5) (o5 := o6) (n5 := 0) (c5 := k6) (o6 := o7) (n6 := 0) (c6 := k7) (y := 1) (hrc3.below hW).tb (hrd3.below hW).tb b1 b2 (by decide)
    rw [c3] at this
    refine this.mono ?_
    rintro e w' ⟨v, rfl, h1, h2⟩
    obtain ⟨ov, kv, rfl⟩ := Ow.form h1
    exact ⟨ov, kv, rfl, by simpa using Ow.rd h1, h2⟩
  have HDF := Lib.hid hdf
  clear m0 m1 hrc3 hrd3 hdf a2 a3 a4 a6 a7 a8 s1 s2 eq
  go_wp2_with fail
  refine (HDF.out W3 (Below.refl _ _)).mono ?_
  rintro e w4 ⟨ov, kv, rfl, hrv, hb4⟩
  have m0 := (hb4.block _ (by omega)).trans HM0.out
  have m1 := (hb4.block _ (by omega)).trans HM1.out
  clear y0 y1 y2 y3 y4 z0 z1 z2 z3 z4 t1 t2 HDF
  have y0 : w4.cell? ⟨w1.heap.size, 0, none⟩ = some (.slice o1 2 k1) := (cell_b m0).trans rfl
  have y1 : w4.cell? ⟨w1.heap.size, 1, none⟩ = some (.int .i64 1) := (cell_b m0).trans rfl
  have y2 : w4.cell? ⟨w1.heap.size, 2, none⟩ = some (.slice o2 0 k2) := (cell_b m0).trans rfl
  have y3 : w4.cell? ⟨w1.heap.size, 3, none⟩ = some (.slice o3 0 k3) := (cell_b m0).trans rfl
  have y4 : w4.cell? ⟨w1.heap.size, 4, none⟩ = some (.slice o4 2 k4) := (cell_b m0).trans rfl
  have hbk := back_c w4 (C := lineC) (HC3.out.below hb4) bdL btL (l := [e0]) (ol := ov) (cl := kv) (by simpa using hrv) (by decide)
  rw [show backF lineC.tb [e0] = (0, [e1]) from c4] at hbk
  have hbk2 : Calls Try.prog 13 #[.agg #[.slice o1 2 k1, .int .i64 1, .slice o2 0 k2, .slice o3 0 k3, .slice o4 2 k4], .slice ov 1 kv] w4 fun e w' => ∃ ov kv, e = .returned (.tuple #[.slice ov 1 kv, .int .i64 0]) ∧ Rd w' ov 1 kv (ceE e1) ∧ RowKit.Below w4.heap.size w4 w' := by
    refine Calls.mono hbk ?_
    rintro e w' ⟨v, rfl, h1, h2⟩
    obtain ⟨ov, kv, rfl⟩ := Ow.form h1
    exact ⟨ov, kv, rfl, by simpa using Ow.rd h1, h2⟩
  have HBK := Lib.hid hbk2
  clear m0 m1 hbk hbk2
  go_wp2_with fail
  refine HBK.out.mono ?_
  rintro e w5 ⟨ou, ku, rfl, hru, hb5⟩
  have hb35 := below_st hb4 hb5
  have m0 := (hb35.block _ (by omega)).trans HM0.out
  have m1 := (hb35.block _ (by omega)).trans HM1.out
  clear y0 y1 y2 y3 y4 HBK
  have z0 : w5.cell? ⟨w2.heap.size, 0, none⟩ = some (.slice o5 2 k5) := (cell_b m1).trans rfl
  have z1 : w5.cell? ⟨w2.heap.size, 1, none⟩ = some (.int .i64 1) := (cell_b m1).trans rfl
  have z2 : w5.cell? ⟨w2.heap.size, 2, none⟩ = some (.slice o6 0 k6) := (cell_b m1).trans rfl
  have z3 : w5.cell? ⟨w2.heap.size, 3, none⟩ = some (.slice o7 0 k7) := (cell_b m1).trans rfl
  have z4 : w5.cell? ⟨w2.heap.size, 4, none⟩ = some (.slice (some ⟨bt, ft, none⟩) 2 k8) := (cell_b m1).trans rfl
  have hap := apply_c w5 (C := downC) (HD3.out.below hb35) bdD btD (l := [e1]) (ol := ou) (cl := ku) (by simpa using hru) (by decide)
  rw [c6, show runF downC.tb [e1] = (0, lineT) from c5] at hap
  have hap2 : Calls Try.prog 8 #[.agg #[.slice o5 2 k5, .int .i64 1, .slice o6 0 k6, .slice o7 0 k7, .slice (some ⟨bt, ft, none⟩) 2 k8], .slice ou 1 ku] w5 fun e w' => ∃ vp' ve' vw' vt', e = .returned (.tuple #[.agg #[vp', .int .i64 1, ve', vw', vt'], .int .i64 0]) ∧ RC w' lineC vp' ve' vw' vt' ∧ RowKit.Below w5.heap.size w5 w' := by
    refine Calls.mono hap ?_
    rintro e w' ⟨a, b, c, d, m, h1, h2, h3⟩
    exact ⟨a, b, c, d, h1, h2.rc, h3⟩
  have HAP2 := Lib.hid hap2
  clear m0 m1 hap hap2
  go_wp2_with fail
  refine HAP2.out.mono ?_
  rintro e w6 ⟨vp3, ve3, vw3, vt3, rfl, hrx, hb6⟩
  obtain ⟨o9, k9, p1, q1, p2, q2, p3, q3, f1, f2, f3, f4⟩ := hrx.forms
  change vp3 = .slice o9 2 k9 at f1
  change ve3 = .slice p1 0 q1 at f2
  change vw3 = .slice p2 0 q2 at f3
  change vt3 = .slice p3 2 q3 at f4
  subst f1 f2 f3 f4
  have HRX := Lib.hid hrx
  have hb36 := below_st hb35 hb6
  have hs6 := hb36.size
  have m0 := (hb36.block _ (by omega)).trans HM0.out
  have m1 := (hb36.block _ (by omega)).trans HM1.out
  clear z0 z1 z2 z3 z4 HAP2 hrx
  go_upto_region 8 with (fail)
  refine wp_world (fun W => W.heap[w1.heap.size]? = some (.cells #[.slice o1 2 k1, .int .i64 1, .slice o2 0 k2, .slice o3 0 k3, .slice o4 2 k4] 31 (0, 0)) ∧ W.heap[w2.heap.size]? = some (.cells #[.slice o5 2 k5, .int .i64 1, .slice o6 0 k6, .slice o7 0 k7, .slice (some ⟨bt, ft, none⟩) 2 k8] 31 (0, 0)) ∧ W.heap[w6.heap.size]? = some (.cells #[.slice o9 2 k9, .int .i64 1, .slice p1 0 q1, .slice p2 0 q2, .slice p3 2 q3] 31 (0, 0)) ∧ RowKit.Below w6.heap.size w6 W ∧ w6.heap.size < W.heap.size) ⟨(al_lt' (by omega)).trans m0, (al_lt' (by omega)).trans m1, heap_alloc_new w6 _, below_al (Below.refl _ _) _, by simp⟩ ?_
  clear m0 m1
  rintro W7 ⟨m0, m1, m6, hb7, hlt7⟩
  have hb37 := below_st hb36 hb7
  have y0 : W7.cell? ⟨w1.heap.size, 0, none⟩ = some (.slice o1 2 k1) := (cell_b m0).trans rfl
  have y1 : W7.cell? ⟨w1.heap.size, 1, none⟩ = some (.int .i64 1) := (cell_b m0).trans rfl
  have y2 : W7.cell? ⟨w1.heap.size, 2, none⟩ = some (.slice o2 0 k2) := (cell_b m0).trans rfl
  have y3 : W7.cell? ⟨w1.heap.size, 3, none⟩ = some (.slice o3 0 k3) := (cell_b m0).trans rfl
  have y4 : W7.cell? ⟨w1.heap.size, 4, none⟩ = some (.slice o4 2 k4) := (cell_b m0).trans rfl
  have z0 : W7.cell? ⟨w2.heap.size, 0, none⟩ = some (.slice o5 2 k5) := (cell_b m1).trans rfl
  have z1 : W7.cell? ⟨w2.heap.size, 1, none⟩ = some (.int .i64 1) := (cell_b m1).trans rfl
  have z2 : W7.cell? ⟨w2.heap.size, 2, none⟩ = some (.slice o6 0 k6) := (cell_b m1).trans rfl
  have z3 : W7.cell? ⟨w2.heap.size, 3, none⟩ = some (.slice o7 0 k7) := (cell_b m1).trans rfl
  have z4 : W7.cell? ⟨w2.heap.size, 4, none⟩ = some (.slice (some ⟨bt, ft, none⟩) 2 k8) := (cell_b m1).trans rfl
  have x0 : W7.cell? ⟨w6.heap.size, 0, none⟩ = some (.slice o9 2 k9) := (cell_b m6).trans rfl
  have x1 : W7.cell? ⟨w6.heap.size, 1, none⟩ = some (.int .i64 1) := (cell_b m6).trans rfl
  have x2 : W7.cell? ⟨w6.heap.size, 2, none⟩ = some (.slice p1 0 q1) := (cell_b m6).trans rfl
  have x3 : W7.cell? ⟨w6.heap.size, 3, none⟩ = some (.slice p2 0 q2) := (cell_b m6).trans rfl
  have x4 : W7.cell? ⟨w6.heap.size, 4, none⟩ = some (.slice p3 2 q3) := (cell_b m6).trans rfl
  have t1 := cell_below hb37 T1.out
  have t2 := cell_below hb37 T2.out
  have hsa := same_c W7 (HRX.out.below hb7) (HC3.out.below hb37)
  rw [show decide (lineC = lineC) = true from by simp] at hsa
  have HSA := Lib.hid hsa
  clear m0 m1 m6 hsa
  go_wp2_with fail
  refine HSA.out.mono ?_
  rintro e w8 ⟨rfl, hb8⟩
  go_wp2_with fail
  (try simp only [Exit.inBlock, Exit.then])
  rw [HZZ.out]
  refine bodyPost_ret (results_tmp rfl _ _ _) rfl ?_
  exact ⟨rfl, below_st (below_st hb03 hb37) hb8⟩
end Go.Proofs.Ytdmakcfgcgioeaa
