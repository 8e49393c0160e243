/- Delta: Back. -/
import Derived.Test.YtdmakcfgcgioeaaDApply
import Derived.Test.YtdmakcfgcgioeaaDDif2
import Derived.Test.YtdmakcfgcgioeaaDRev
import Derived.Test.YtdmakcfgcgioeaaDObl
namespace Go.Proofs.Ytdmakcfgcgioeaa
open Go.RowKit Go.Maps
set_option linter.unusedSimpArgs false
set_option linter.unusedVariables false
set_option maxRecDepth 100000
/-- what undoes a change. -/
def turnF (T : List (List (List Ru))) (x : Ed) : Ed := ⟨x.sw, x.tb, x.at_, !x.gone, if x.gone = true then (tab T x.sw.toNat x.tb.toNat).getD x.at_.toNat zeroR else zeroR⟩
def turns : List (List (List Ru)) → List Ed → List Ed
  | _, [] => []
  | T, x :: l => turnF T x :: turns (oneF T x).2 l
def backF (T : List (List (List Ru))) (l : List Ed) : Int × List Ed := if (runF T l).1 = 0 then (0, (turns T l).reverse) else ((runF T l).1, [])
theorem turns_len : ∀ (T : List (List (List Ru))) (l : List Ed), (turns T l).length = l.length
  | _, [] => rfl
  | T, x :: l => by simp [turns, turns_len]
theorem oneF_ok {T : List (List (List Ru))} {x : Ed} (h : (oneF T x).1 = 0) (hg : x.gone = true) : ∃ sn tn an : Nat, x.sw = (sn : Int) ∧ x.tb = (tn : Int) ∧ x.at_ = (an : Int) ∧ ∃ (h1 : sn < T.length) (h2 : tn < T[sn].length), an < T[sn][tn].length ∧ (turnF T x).r = T[sn][tn].getD an zeroR := by
  unfold oneF at h
  split at h
  · cases h
  · rename_i h1
    split at h
    · cases h
    · rename_i h2
      have a1 : ¬ x.sw < 0 := fun e => h1 (.inl e)
      have a2 : ¬ (T.length : Int) ≤ x.sw := fun e => h1 (.inr (.inl e))
      have a3 : ¬ x.tb < 0 := fun e => h1 (.inr (.inr (.inl e)))
      have a4 : ¬ ((T.getD x.sw.toNat []).length : Int) ≤ x.tb := fun e => h1 (.inr (.inr (.inr e)))
      have b1 : ¬ x.at_ < 0 := fun e => h2 (.inl e)
      have b2 : ¬ ((tab T x.sw.toNat x.tb.toNat).length : Int) < x.at_ := fun e => h2 (.inr (.inl e))
      have b3 : ¬ x.at_ = ((tab T x.sw.toNat x.tb.toNat).length : Int) := fun e => h2 (.inr (.inr ⟨hg, e⟩))
      have c1 : x.sw.toNat < T.length := by omega
      have e1 : T.getD x.sw.toNat [] = T[x.sw.toNat] := by rw [List.getD_eq_getElem?_getD, List.getElem?_eq_getElem c1]; rfl
      have c2 : x.tb.toNat < T[x.sw.toNat].length := by rw [← e1]; omega
      have e2 : tab T x.sw.toNat x.tb.toNat = T[x.sw.toNat][x.tb.toNat] := by unfold tab; rw [e1, List.getD_eq_getElem?_getD, List.getElem?_eq_getElem c2]; rfl
      refine ⟨x.sw.toNat, x.tb.toNat, x.at_.toNat, by omega, by omega, by omega, c1, c2, by rw [← e2]; omega, ?_⟩
      unfold turnF
      rw [if_pos hg, e2]
theorem twelve_cells {w : World} {g : Nat} {t : TypeId} {fr : Nat × Nat} {p0 p1 p2 p3 z0 z1 z2 z3 z4 z5 z6 z7 z8 z9 z10 z11 : Value} (a0 a1 a2 a3 a4 a5 a6 a7 a8 a9 a10 a11 : Value) (h : w.heap[g]? = some (.cells #[p0, p1, p2, p3, z0, z1, z2, z3, z4, z5, z6, z7, z8, z9, z10, z11] t fr)) :
    (((((((((((((w).setCell ⟨g, 4, none⟩ a0).setCell ⟨g, 5, none⟩ a1).setCell ⟨g, 6, none⟩ a2).setCell ⟨g, 7, none⟩ a3).setCell ⟨g, 8, none⟩ a4).setCell ⟨g, 9, none⟩ a5).setCell ⟨g, 10, none⟩ a6).setCell ⟨g, 11, none⟩ a7).setCell ⟨g, 12, none⟩ a8).setCell ⟨g, 13, none⟩ a9).setCell ⟨g, 14, none⟩ a10).setCell ⟨g, 15, none⟩ a11).heap[g]? = some (.cells #[p0, p1, p2, p3, a0, a1, a2, a3, a4, a5, a6, a7, a8, a9, a10, a11] t fr) := by
  have h0 : ((w).setCell ⟨g, 4, none⟩ a0).heap[g]? = some (.cells #[p0, p1, p2, p3, a0, z1, z2, z3, z4, z5, z6, z7, z8, z9, z10, z11] t fr) := (sc_at9 (o := 4) (v := a0) h).trans rfl
  have h1 : (((w).setCell ⟨g, 4, none⟩ a0).setCell ⟨g, 5, none⟩ a1).heap[g]? = some (.cells #[p0, p1, p2, p3, a0, a1, z2, z3, z4, z5, z6, z7, z8, z9, z10, z11] t fr) := (sc_at9 (o := 5) (v := a1) h0).trans rfl
  have h2 : ((((w).setCell ⟨g, 4, none⟩ a0).setCell ⟨g, 5, none⟩ a1).setCell ⟨g, 6, none⟩ a2).heap[g]? = some (.cells #[p0, p1, p2, p3, a0, a1, a2, z3, z4, z5, z6, z7, z8, z9, z10, z11] t fr) := (sc_at9 (o := 6) (v := a2) h1).trans rfl
  have h3 : (((((w).setCell ⟨g, 4, none⟩ a0).setCell ⟨g, 5, none⟩ a1).setCell ⟨g, 6, none⟩ a2).setCell ⟨g, 7, none⟩ a3).heap[g]? = some (.cells #[p0, p1, p2, p3, a0, a1, a2, a3, z4, z5, z6, z7, z8, z9, z10, z11] t fr) := (sc_at9 (o := 7) (v := a3) h2).trans rfl
  have h4 : ((((((w).setCell ⟨g, 4, none⟩ a0).setCell ⟨g, 5, none⟩ a1).setCell ⟨g, 6, none⟩ a2).setCell ⟨g, 7, none⟩ a3).setCell ⟨g, 8, none⟩ a4).heap[g]? = some (.cells #[p0, p1, p2, p3, a0, a1, a2, a3, a4, z5, z6, z7, z8, z9, z10, z11] t fr) := (sc_at9 (o := 8) (v := a4) h3).trans rfl
  have h5 : (((((((w).setCell ⟨g, 4, none⟩ a0).setCell ⟨g, 5, none⟩ a1).setCell ⟨g, 6, none⟩ a2).setCell ⟨g, 7, none⟩ a3).setCell ⟨g, 8, none⟩ a4).setCell ⟨g, 9, none⟩ a5).heap[g]? = some (.cells #[p0, p1, p2, p3, a0, a1, a2, a3, a4, a5, z6, z7, z8, z9, z10, z11] t fr) := (sc_at9 (o := 9) (v := a5) h4).trans rfl
  have h6 : ((((((((w).setCell ⟨g, 4, none⟩ a0).setCell ⟨g, 5, none⟩ a1).setCell ⟨g, 6, none⟩ a2).setCell ⟨g, 7, none⟩ a3).setCell ⟨g, 8, none⟩ a4).setCell ⟨g, 9, none⟩ a5).setCell ⟨g, 10, none⟩ a6).heap[g]? = some (.cells #[p0, p1, p2, p3, a0, a1, a2, a3, a4, a5, a6, z7, z8, z9, z10, z11] t fr) := (sc_at9 (o := 10) (v := a6) h5).trans rfl
  have h7 : (((((((((w).setCell ⟨g, 4, none⟩ a0).setCell ⟨g, 5, none⟩ a1).setCell ⟨g, 6, none⟩ a2).setCell ⟨g, 7, none⟩ a3).setCell ⟨g, 8, none⟩ a4).setCell ⟨g, 9, none⟩ a5).setCell ⟨g, 10, none⟩ a6).setCell ⟨g, 11, none⟩ a7).heap[g]? = some (.cells #[p0, p1, p2, p3, a0, a1, a2, a3, a4, a5, a6, a7, z8, z9, z10, z11] t fr) := (sc_at9 (o := 11) (v := a7) h6).trans rfl
  have h8 : ((((((((((w).setCell ⟨g, 4, none⟩ a0).setCell ⟨g, 5, none⟩ a1).setCell ⟨g, 6, none⟩ a2).setCell ⟨g, 7, none⟩ a3).setCell ⟨g, 8, none⟩ a4).setCell ⟨g, 9, none⟩ a5).setCell ⟨g, 10, none⟩ a6).setCell ⟨g, 11, none⟩ a7).setCell ⟨g, 12, none⟩ a8).heap[g]? = some (.cells #[p0, p1, p2, p3, a0, a1, a2, a3, a4, a5, a6, a7, a8, z9, z10, z11] t fr) := (sc_at9 (o := 12) (v := a8) h7).trans rfl
  have h9 : (((((((((((w).setCell ⟨g, 4, none⟩ a0).setCell ⟨g, 5, none⟩ a1).setCell ⟨g, 6, none⟩ a2).setCell ⟨g, 7, none⟩ a3).setCell ⟨g, 8, none⟩ a4).setCell ⟨g, 9, none⟩ a5).setCell ⟨g, 10, none⟩ a6).setCell ⟨g, 11, none⟩ a7).setCell ⟨g, 12, none⟩ a8).setCell ⟨g, 13, none⟩ a9).heap[g]? = some (.cells #[p0, p1, p2, p3, a0, a1, a2, a3, a4, a5, a6, a7, a8, a9, z10, z11] t fr) := (sc_at9 (o := 13) (v := a9) h8).trans rfl
  have h10 : ((((((((((((w).setCell ⟨g, 4, none⟩ a0).setCell ⟨g, 5, none⟩ a1).setCell ⟨g, 6, none⟩ a2).setCell ⟨g, 7, none⟩ a3).setCell ⟨g, 8, none⟩ a4).setCell ⟨g, 9, none⟩ a5).setCell ⟨g, 10, none⟩ a6).setCell ⟨g, 11, none⟩ a7).setCell ⟨g, 12, none⟩ a8).setCell ⟨g, 13, none⟩ a9).setCell ⟨g, 14, none⟩ a10).heap[g]? = some (.cells #[p0, p1, p2, p3, a0, a1, a2, a3, a4, a5, a6, a7, a8, a9, a10, z11] t fr) := (sc_at9 (o := 14) (v := a10) h9).trans rfl
  have h11 : (((((((((((((w).setCell ⟨g, 4, none⟩ a0).setCell ⟨g, 5, none⟩ a1).setCell ⟨g, 6, none⟩ a2).setCell ⟨g, 7, none⟩ a3).setCell ⟨g, 8, none⟩ a4).setCell ⟨g, 9, none⟩ a5).setCell ⟨g, 10, none⟩ a6).setCell ⟨g, 11, none⟩ a7).setCell ⟨g, 12, none⟩ a8).setCell ⟨g, 13, none⟩ a9).setCell ⟨g, 14, none⟩ a10).setCell ⟨g, 15, none⟩ a11).heap[g]? = some (.cells #[p0, p1, p2, p3, a0, a1, a2, a3, a4, a5, a6, a7, a8, a9, a10, a11] t fr) := (sc_at9 (o := 15) (v := a11) h10).trans rfl
  exact h11
theorem twelve_set {w : World} {g : Nat} {t : TypeId} {fr : Nat × Nat} {p0 p1 p2 p3 z0 z1 z2 z3 z4 z5 z6 z7 z8 z9 z10 z11 : Value} (y : Ru) (h : w.heap[g]? = some (.cells #[p0, p1, p2, p3, z0, z1, z2, z3, z4, z5, z6, z7, z8, z9, z10, z11] t fr)) :
    (w.setCells g 4 (ceR y)).heap[g]? = some (.cells #[p0, p1, p2, p3, .int .i64 y.p, .int .u64 y.vh, .int .u64 y.vl, .int .u64 y.ch, .int .u64 y.cl, .int .i64 y.kd, .int .i64 y.po, .int .i64 y.tb, .int .u64 y.sh, .int .u64 y.sl, .int .u64 y.th, .int .u64 y.tl] t fr) := by
  simp only [ceR, World.setCells]
  exact twelve_cells (.int .i64 y.p) (.int .u64 y.vh) (.int .u64 y.vl) (.int .u64 y.ch) (.int .u64 y.cl) (.int .i64 y.kd) (.int .i64 y.po) (.int .i64 y.tb) (.int .u64 y.sh) (.int .u64 y.sl) (.int .u64 y.th) (.int .u64 y.tl) h
theorem Fr.sc {S : Nat → Prop} {w w' : World} (h : Fr S w w') (a : Addr) (v : Value) (ha : S a.block) : Fr S w (w'.setCell a v) :=
  ⟨h.os, h.tape, h.output, by rw [World.size_setCell]; exact h.size, fun g hg hn => (Below.heap_setCell _ _ _ _ (fun e => hn (by rw [e]; exact ha))).trans (h.same g hg hn)⟩
theorem Fr.scs {S : Nat → Prop} {w : World} {b : Nat} (hb : S b) : ∀ (vs : List Value) (o : Nat) (w' : World), Fr S w w' → Fr S w (w'.setCells b o vs)
  | [], _, _, h => h
  | v :: vs, o, w', h => by
    unfold World.setCells
    exact Fr.scs hb vs _ _ (h.sc _ _ hb)
theorem wp_worldS {P : Program} {ops : Array Oper} {Q : Exit → Act → World → Prop} {rest : List Oper} {a : Act} {w : World} (S : World → Prop) (h : S w) (H : ∀ W, S W → wpList P ops Q rest a W) : wpList P ops Q rest a w := H w h
attribute [local go_sem ↓] execOp_ld55 execOp_st55 st55_new
/-- the walk does not see what is asked at the end. -/
theorem wp_hide {P : Program} {c : Code} {Q : Exit → Act → World → Prop} {a : Act} {w : World} (h : ∀ Z, Hid (Z = Q) → c.wp P Z a w) : c.wp P Q a w := h Q (Lib.hid rfl)
set_option maxHeartbeats 8000000 in
theorem back_c (w : World) {C : Cf} {vp ve vw vt : Value} (h : RC w C vp ve vw vt) (hbd : Bd C) {K : Nat} (hbt : BT K C.tb) {ol : Option Addr} {cl : Nat} {l : List Ed} (hr : Rd w ol l.length cl (l.flatMap ceE)) (hK : K + l.length ≤ 10000000) :
    Calls Try.prog 13 #[.agg #[vp, .int .i64 C.ten, ve, vw, vt], .slice ol l.length cl] w fun e w' => ∃ v, e = .returned (.tuple #[v, .int .i64 (backF C.tb l).1]) ∧ O1 ceE 55 16 w' (fun g => w.heap.size ≤ g) (backF C.tb l).2 v ∧ RowKit.Below w.heap.size w w' := by
  obtain ⟨op, cp, ep⟩ : ∃ o c, vp = .slice o C.pt.length c := by obtain ⟨o, c, vs, e, _⟩ := h.pt; exact ⟨o, c, e⟩
  obtain ⟨oe, ce, ee⟩ : ∃ o c, ve = .slice o C.pe.length c := by obtain ⟨o, c, e, _⟩ := h.pe; exact ⟨o, c, e⟩
  obtain ⟨ow, cw, ew⟩ : ∃ o c, vw = .slice o C.wy.length c := by obtain ⟨o, c, e, _⟩ := h.wy; exact ⟨o, c, e⟩
  obtain ⟨ot, ct, et⟩ : ∃ o c, vt = .slice o C.tb.length c := by obtain ⟨o, c, vs, e, _⟩ := h.tb; exact ⟨o, c, e⟩
  subst ep ee ew et
  obtain ⟨nT, hnT⟩ : ∃ n, Hid (C.tb.length = n) := ⟨_, Lib.hid rfl⟩
  rw [hnT.out] at h ⊢
  obtain ⟨W, hW⟩ : ∃ W, Hid (W = w.alloc (.cells #[.slice op C.pt.length cp, .int .i64 C.ten, .slice oe C.pe.length ce, .slice ow C.wy.length cw, .slice ot nT ct] 31)) := ⟨_, Lib.hid rfl⟩
  have hbx : RowKit.Below w.heap.size w W := by rw [hW.out]; exact below_al (Below.refl _ _) _
  have hs : W.heap.size = w.heap.size + 1 := by rw [hW.out]; simp
  have hm0 : W.heap[w.heap.size]? = some (.cells #[.slice op C.pt.length cp, .int .i64 C.ten, .slice oe C.pe.length ce, .slice ow C.wy.length cw, .slice ot nT ct] 31 (0, 0)) := by rw [hW.out]; exact heap_alloc_new w _
  have hcl := clone_cf W (h.below hbx) hbd
  have HCL := Lib.hid hcl
  have HR := Lib.hid hr
  have HB := Lib.hid hbd
  have HBT := Lib.hid hbt
  clear h hbd hbt hr hcl
  have y0 : W.cell? ⟨w.heap.size, 0, none⟩ = some (.slice op C.pt.length cp) := (cell_b hm0).trans rfl
  have y1 : W.cell? ⟨w.heap.size, 1, none⟩ = some (.int .i64 C.ten) := (cell_b hm0).trans rfl
  have y2 : W.cell? ⟨w.heap.size, 2, none⟩ = some (.slice oe C.pe.length ce) := (cell_b hm0).trans rfl
  have y3 : W.cell? ⟨w.heap.size, 3, none⟩ = some (.slice ow C.wy.length cw) := (cell_b hm0).trans rfl
  have y4 : W.cell? ⟨w.heap.size, 4, none⟩ = some (.slice ot nT ct) := (cell_b hm0).trans rfl
  obtain ⟨i0, hi0, hz0, hz1, hz2⟩ := info_parts inf55
  go_enter Try.func13, Try.ntmps13
  refine wp_hide ?_
  intro ZZ HZZ
  go_upto_region 1 with (fail)
  rw [← hW.out]
  go_wp2_with fail
  refine HCL.out.mono ?_
  rintro e w1 ⟨vp1, ve1, vw1, vt1, m, rfl, hoc, hb1⟩
  clear y0 y1 y2 y3 y4 HCL
  obtain ⟨op1, cp1, rfl⟩ := hoc.pt.form
  obtain ⟨oe1, ce1, rfl⟩ := Ow.form hoc.pe
  obtain ⟨ow1, cw1, rfl⟩ := Ow.form hoc.wy
  obtain ⟨ot1, ct1, rfl⟩ := hoc.tb.form
  rw [hnT.out] at hoc ⊢
  have HOC := Lib.hid hoc
  have ham := hoc.am
  have hmw := hoc.mw
  clear hoc
  go_upto_region 2 with (fail)
  have hs1 := hb1.size
  refine wp_world (fun V => V.heap[w1.heap.size]? = some (.cells #[.slice op1 C.pt.length cp1, .int .i64 C.ten, .slice oe1 C.pe.length ce1, .slice ow1 C.wy.length cw1, .slice ot1 nT ct1] 31 (0, 0)) ∧ (∀ g, g < w1.heap.size → V.heap[g]? = w1.heap[g]?) ∧ RowKit.Below w1.heap.size w1 V ∧ w1.heap.size < V.heap.size) ⟨heap_alloc_new w1 _, fun g hg => al_lt' hg, below_al (Below.refl _ _) _, by simp⟩ ?_
  rintro W3 ⟨n0, hsame3, hb3, hlt3⟩
  have hT3 : OR 43 (OR 44 (O1 ceR 53 12)) W3 (fun g => m ≤ g ∧ g < w1.heap.size) C.tb (.slice ot1 nT ct1) :=
    (goodR (goodR (good1 ceR 53 12))).frame ((goodR (goodR (good1 ceR 53 12))).mono HOC.out.tb fun g h1 h2 => (⟨h1, h2⟩ : m ≤ g ∧ g < w1.heap.size)) fun g hg _ => hsame3 g hg.2
  have HT3 := Lib.hid hT3
  have HN0 := Lib.hid n0
  have HS3 := Lib.hid hsame3
  have hbw : RowKit.Below w.heap.size w W3 := below_st hbx (below_st hb1 (hb3.mono (by omega)))
  obtain ⟨hr1, hr2, b, off, hr3, hr4⟩ := HR.out
  have HR3 := Lib.hid hr3
  have HR4 := Lib.hid hr4
  obtain ⟨nl, hnl⟩ : ∃ n, Hid (l.length = n) := ⟨_, Lib.hid rfl⟩
  rw [hnl.out] at hr1 HR3 hK ⊢
  simp only [maxLen] at hr2
  clear hT3 n0 hsame3 hr3 hr4 hW
  go_wp2_with fail
  go_loopw [7, 17] (fun v7 v17 wr => ∃ (j : Nat) (T : List (List (List Ru))) (S : Nat → Prop) (D : List Ed), v17 = .int .i64 (j : Int) ∧ j ≤ nl ∧ Hid (T.length = nT) ∧ Hid (BT (K + j) T) ∧ Hid (OR 43 (OR 44 (O1 ceR 53 12)) wr S T (.slice ot1 nT ct1)) ∧ Hid (∀ g, S g → m ≤ g ∧ g ≠ w1.heap.size ∧ g < wr.heap.size) ∧ Hid (O1 ceE 55 16 wr (fun g => w1.heap.size < g ∧ ¬ S g) D v7) ∧ Hid (Fr (fun g => m ≤ g ∧ g ≠ w1.heap.size) W3 wr) ∧ Hid (D.length = j) ∧ Hid (runF C.tb l = runF T (l.drop j)) ∧ Hid (turns C.tb l = D ++ turns T (l.drop j))) (fun _ v17 _ => nl - (intOf v17).toNat)
  case atStart => exact ⟨0, C.tb, _, [], rfl, Nat.zero_le _, hnT, HBT, HT3, Lib.hid fun g hg => ⟨hg.1, by have := hg.2; omega, by have := hg.2; omega⟩, Lib.hid (Ow.nil rfl), Lib.hid (Fr.refl _ _), Lib.hid rfl, Lib.hid rfl, Lib.hid rfl⟩
  case round =>
    obtain ⟨j, T, S, D, rfl, hj, hTl, HBTT, HOR, HSS, HOUT, hFR, HDL, HRUN, HTUR⟩ := hrel
    have hfs := hFR.out.size
    have hwr : ∀ g, g < w.heap.size → wr.heap[g]? = w.heap[g]? := fun g hg => (hFR.out.same g (Nat.lt_of_lt_of_le hg hbw.size) (fun h => by have := h.1; omega)).trans (hbw.block g hg)
    have HWR := Lib.hid hwr
    have hwc : wr.heap[w1.heap.size]? = some (.cells #[.slice op1 C.pt.length cp1, .int .i64 C.ten, .slice oe1 C.pe.length ce1, .slice ow1 C.wy.length cw1, .slice ot1 nT ct1] 31 (0, 0)) := (hFR.out.same _ hlt3 (fun h => h.2 rfl)).trans HN0.out
    have HWC := Lib.hid hwc
    have hbc : w1.heap.size < wr.heap.size := by omega
    obtain ⟨o7, c7, e7⟩ := Ow.form HOUT.out
    rw [HDL.out] at e7
    subst e7
    have HOW : Hid (Ow wr (fun g => w1.heap.size < g ∧ ¬ S g) 55 16 (.slice o7 j c7) j (D.flatMap ceE)) := Lib.hid (by have := HOUT.out; unfold O1 at this; rw [HDL.out] at this; exact this)
    clear hwr hwc HOUT
    by_cases hlt : j < nl
    · have hltI : (j : Int) < (nl : Int) := by omega
      have hjl : j < l.length := by rw [hnl.out]; exact hlt
      obtain ⟨x, hx⟩ : ∃ x, Hid (l[j] = x) := ⟨_, Lib.hid rfl⟩
      have hd : l.drop j = x :: l.drop (j + 1) := by rw [List.drop_eq_getElem_cons hjl, hx.out]
      have HD := Lib.hid hd
      have hcell : ∀ k, k < 16 → wr.cell? ⟨b, off + (j * 16 + k), none⟩ = (ceE x)[k]? := fun k hk => by
        have e1 := flat_at lenE l j hjl k hk
        rw [hx.out] at e1
        obtain ⟨u, hu⟩ : ∃ u, (ceE x)[k]? = some u := ⟨_, List.getElem?_eq_getElem (by rw [lenE]; exact hk)⟩
        rw [hu] at e1 ⊢
        have e2 := HR4.out _ u e1
        rw [World.cell?_of_block (w := w) (HWR.out _ (World.block_lt_of_cell? w _ e2))]
        exact e2
      have hld : (ld55 (.pointer (some ⟨b, off + j * 16, none⟩))).run Try.prog wr = .ok (.value (.agg #[.int .i64 x.sw, .int .i64 x.tb, .int .i64 x.at_, .bool x.gone, .int .i64 x.r.p, .int .u64 x.r.vh, .int .u64 x.r.vl, .int .u64 x.r.ch, .int .u64 x.r.cl, .int .i64 x.r.kd, .int .i64 x.r.po, .int .i64 x.r.tb, .int .u64 x.r.sh, .int .u64 x.r.sl, .int .u64 x.r.th, .int .u64 x.r.tl])) wr := run_ld55 (y := x) fun k v hv => by
        have := hcell k (List.getElem?_eq_some_iff.1 hv).1
        rw [← Nat.add_assoc] at this
        exact this.trans hv
      have ho' := Lib.hid (HR3.out (by omega))
      clear hd hcell
      rw [ho'.out]
      go_upto_region 7 with (fail)
      refine wp_world (fun V => V.heap[wr.heap.size]? = some (.cells #[.int .i64 x.sw, .int .i64 x.tb, .int .i64 x.at_, .bool x.gone, .int .i64 x.r.p, .int .u64 x.r.vh, .int .u64 x.r.vl, .int .u64 x.r.ch, .int .u64 x.r.cl, .int .i64 x.r.kd, .int .i64 x.r.po, .int .i64 x.r.tb, .int .u64 x.r.sh, .int .u64 x.r.sl, .int .u64 x.r.th, .int .u64 x.r.tl] 55 (0, 0)) ∧ V.heap[wr.heap.size + 1]? = some (.cells #[.int .i64 x.sw, .int .i64 x.tb, .int .i64 x.at_, .bool !x.gone, .int .i64 0, .int .u64 0, .int .u64 0, .int .u64 0, .int .u64 0, .int .i64 0, .int .i64 0, .int .i64 0, .int .u64 0, .int .u64 0, .int .u64 0, .int .u64 0] 55 (0, 0)) ∧ RowKit.Below wr.heap.size wr V ∧ V.heap.size = wr.heap.size + 2) ⟨hpm1 wr _ _, hpm2 wr _ _, below2 _ _ _, by simp⟩ ?_
      clear hld
      rintro V ⟨hx5, ht5, hbV, hszV⟩
      have HX5 := Lib.hid hx5
      have HT5 := Lib.hid ht5
      have hwcV := (hbV.block _ hbc).trans HWC.out
      have q0 : V.cell? ⟨w1.heap.size, 0, none⟩ = some (.slice op1 C.pt.length cp1) := (cell_b hwcV).trans rfl
      have q1 : V.cell? ⟨w1.heap.size, 1, none⟩ = some (.int .i64 C.ten) := (cell_b hwcV).trans rfl
      have q2 : V.cell? ⟨w1.heap.size, 2, none⟩ = some (.slice oe1 C.pe.length ce1) := (cell_b hwcV).trans rfl
      have q3 : V.cell? ⟨w1.heap.size, 3, none⟩ = some (.slice ow1 C.wy.length cw1) := (cell_b hwcV).trans rfl
      have q4 : V.cell? ⟨w1.heap.size, 4, none⟩ = some (.slice ot1 nT ct1) := (cell_b hwcV).trans rfl
      have hV1 : ∀ g, g < m → V.heap[g]? = w1.heap[g]? := fun g hg => (hbV.block g (by omega)).trans ((hFR.out.same g (by omega) (fun h => by have := h.1; omega)).trans (HS3.out g (by omega)))
      have horV := (goodR (goodR (good1 ceR 53 12))).frame (W' := V) HOR.out fun g _ hl => hbV.block g hl
      have hrc : RC V { C with tb := T } (.slice op1 C.pt.length cp1) (.slice oe1 C.pe.length ce1) (.slice ow1 C.wy.length cw1) (.slice ot1 nT ct1) :=
        ⟨((goodR (good1 ceP 73 5)).frame HOC.out.pt fun g hg _ => hV1 g hg.2).rows _ fun h => h.sl, O1.sl ((good1 ce2 63 2).frame HOC.out.pe fun g hg _ => hV1 g hg.2), O1.sl ((good1 ce3 65 3).frame HOC.out.wy fun g hg _ => hV1 g hg.2), horV.rows _ fun h => h.rows _ fun h => h.sl⟩
      have hbd' : Bd { C with tb := T } := ⟨HB.out.pt, HB.out.pts, HB.out.pe, HB.out.wy, HBTT.out.n, HBTT.out.ns, fun t ht l hl => Nat.le_trans (HBTT.out.nl t ht l hl) (by omega)⟩
      have hcl2 : Calls Try.prog 14 #[.agg #[.slice op1 C.pt.length cp1, .int .i64 C.ten, .slice oe1 C.pe.length ce1, .slice ow1 C.wy.length cw1, .slice ot1 nT ct1]] V fun e w' => ∃ vp' ve' vw' vt' m, e = .returned (.agg #[vp', .int .i64 C.ten, ve', vw', vt']) ∧ OC w' V.heap.size m { C with tb := T } vp' ve' vw' vt' ∧ RowKit.Below V.heap.size V w' := clone_cf V hrc hbd'
      have HCL2 := Lib.hid hcl2
      have HORV := Lib.hid horV
      clear hx5 ht5 hV1 hrc hbd' hcl2 horV
      go_wp2_with fail
      refine HCL2.out.mono ?_
      rintro e wc ⟨vp2, ve2, vw2, vt2, m2, rfl, hoc2, hb7⟩
      clear q0 q1 q2 q3 q4
      obtain ⟨op2, cp2, rfl⟩ : ∃ o c, vp2 = .slice o C.pt.length c := hoc2.pt.form
      obtain ⟨oe2, ke2, rfl⟩ : ∃ o c, ve2 = .slice o C.pe.length c := Ow.form hoc2.pe
      obtain ⟨ow2, cw2, rfl⟩ : ∃ o c, vw2 = .slice o C.wy.length c := Ow.form hoc2.wy
      obtain ⟨ot2, ct2, rfl⟩ : ∃ o c, vt2 = .slice o nT c := by
        obtain ⟨o, c, e⟩ := hoc2.tb.form
        refine ⟨o, c, e.trans ?_⟩
        show Value.slice o T.length c = _
        rw [hTl.out]
      have HOC2 := Lib.hid hoc2
      have hsc := hb7.size
      clear hoc2 hwcV
      go_upto_region 8 with (fail)
      refine wp_world (fun Z => Z.heap[wc.heap.size]? = some (.cells #[.slice op2 C.pt.length cp2, .int .i64 C.ten, .slice oe2 C.pe.length ke2, .slice ow2 C.wy.length cw2, .slice ot2 nT ct2] 31 (0, 0)) ∧ RowKit.Below wc.heap.size wc Z ∧ wc.heap.size < Z.heap.size) ⟨heap_alloc_new wc _, below_al (Below.refl _ _) _, by simp⟩ ?_
      rintro Z ⟨hold, hbZ, hltZ⟩
      have HOLD := Lib.hid hold
      have hbVZ : RowKit.Below V.heap.size V Z := below_st hb7 hbZ
      have hx6 := (hbVZ.block wr.heap.size (by omega)).trans HX5.out
      have HX6 := Lib.hid hx6
      have hld : (ld55 (.pointer (some ⟨wr.heap.size, 0, none⟩))).run Try.prog Z = .ok (.value (.agg #[.int .i64 x.sw, .int .i64 x.tb, .int .i64 x.at_, .bool x.gone, .int .i64 x.r.p, .int .u64 x.r.vh, .int .u64 x.r.vl, .int .u64 x.r.ch, .int .u64 x.r.cl, .int .i64 x.r.kd, .int .i64 x.r.po, .int .i64 x.r.tb, .int .u64 x.r.sh, .int .u64 x.r.sl, .int .u64 x.r.th, .int .u64 x.r.tl])) Z := run_ld55b (cs := [.int .i64 x.sw, .int .i64 x.tb, .int .i64 x.at_, .bool x.gone, .int .i64 x.r.p, .int .u64 x.r.vh, .int .u64 x.r.vl, .int .u64 x.r.ch, .int .u64 x.r.cl, .int .i64 x.r.kd, .int .i64 x.r.po, .int .i64 x.r.tb, .int .u64 x.r.sh, .int .u64 x.r.sl, .int .u64 x.r.th, .int .u64 x.r.tl]) rfl hx6
      have hor5 := (goodR (goodR (good1 ceR 53 12))).frame (W' := Z) HORV.out fun g _ hl => hbVZ.block g hl
      rw [← hTl.out] at hor5
      have hc5 : Z.cell? ⟨w1.heap.size, 4, none⟩ = some (.slice ot1 T.length ct1) := by
        rw [hTl.out]
        exact (cell_b ((hbVZ.block _ (by omega)).trans ((hbV.block _ hbc).trans HWC.out))).trans rfl
      have hone := one_c Z (x := x) hor5 ⟨HBTT.out.n, HBTT.out.ns, fun t ht l hl => Nat.le_trans (HBTT.out.nl t ht l hl) (by omega)⟩ hc5
      rw [edc] at hone
      obtain ⟨en, hen⟩ : ∃ en, Hid ((oneF T x).1 = en) := ⟨_, Lib.hid rfl⟩
      rw [hen.out] at hone
      have HONE := Lib.hid hone
      have hFZ : Fr (fun g => m ≤ g ∧ g ≠ w1.heap.size) W3 Z := hFR.out.trans (Fr.of_below (below_st hbV hbVZ))
      have HFZ := Lib.hid hFZ
      clear hold hor5 hc5 hone hx6 hFZ
      go_wp2_with fail
      refine HONE.out.mono ?_
      rintro e w6 ⟨rfl, hor6, hfr6⟩
      have hF6 : Fr (fun g => m ≤ g ∧ g ≠ w1.heap.size) W3 w6 := HFZ.out.trans (hfr6.mono fun g _ h => ⟨(HSS.out g h).1, (HSS.out g h).2.1⟩)
      have HF6 := Lib.hid hF6
      clear hld hF6
      by_cases he : en = 0
      rotate_left
      · have heb : (en != 0) = true := by simpa using he
        have hrn : runF C.tb l = (en, T) := by
          rw [HRUN.out, HD.out]
          simp only [runF]
          rw [if_neg (by rw [hen.out]; exact he), hen.out]
        have HRN := Lib.hid hrn
        have HE := Lib.hid he
        have HOR6 := Lib.hid hor6
        have HFR6 := Lib.hid hfr6
        clear hrn he hor6 hfr6
        go_wp2_with fail
        (try simp only [Exit.inBlock, Exit.then])
        rw [HZZ.out]
        refine bodyPost_ret (results_tmp2 rfl _ _ _) rfl ?_
        unfold backF
        rw [HRN.out, if_neg HE.out]
        exact ⟨_, rfl, Ow.nil rfl, below_fr hbw HF6.out (fun g hg => by have := hg.1; omega)⟩
      · subst he
        have heb : ((0 : Int) != 0) = false := rfl
        have hs6 := hfr6.size
        have sameZ : ∀ g, wr.heap.size ≤ g → g < Z.heap.size → w6.heap[g]? = Z.heap[g]? := fun g h1 h2 => hfr6.same g h2 (fun h => by have := (HSS.out g h).2.2; omega)
        have ht6 := (sameZ (wr.heap.size + 1) (by omega) (by omega)).trans ((hbVZ.block (wr.heap.size + 1) (by omega)).trans HT5.out)
        have HT6 := Lib.hid ht6
        have hx7 := (sameZ wr.heap.size (by omega) (by omega)).trans HX6.out
        have ho6 := (sameZ wc.heap.size (by omega) hltZ).trans HOLD.out
        have HO6 := Lib.hid ho6
        have htb6 : OR 43 (OR 44 (O1 ceR 53 12)) w6 (fun g => m2 ≤ g ∧ g < wc.heap.size) T (.slice ot2 nT ct2) :=
          (goodR (goodR (good1 ceR 53 12))).frame (W' := w6) ((goodR (goodR (good1 ceR 53 12))).mono HOC2.out.tb (S' := fun g => m2 ≤ g ∧ g < wc.heap.size) fun g h1 h2 => ⟨h1, h2⟩) fun g hg _ => by
            have h9 := HOC2.out.am
            exact (sameZ g (by have := hg.1; omega) (by have := hg.2; omega)).trans (hbZ.block g hg.2)
        have HTB6 := Lib.hid htb6
        have ham2 := HOC2.out.am
        obtain ⟨S6, hS6⟩ : ∃ S6 : Nat → Prop, Hid (S6 = fun g => S g ∨ (Z.heap.size ≤ g ∧ g < w6.heap.size)) := ⟨_, Lib.hid rfl⟩
        have ms : ∀ g, S6 g ↔ (S g ∨ (Z.heap.size ≤ g ∧ g < w6.heap.size)) := fun g => by rw [hS6.out]
        have MS := Lib.hid ms
        have hor7 : OR 43 (OR 44 (O1 ceR 53 12)) w6 S6 (oneF T x).2 (.slice ot1 nT ct1) := by
          rw [hTl.out] at hor6
          exact (goodR (goodR (good1 ceR 53 12))).mono hor6 fun g hg hl => (MS.out g).2 (hg.imp id fun h => ⟨h, hl⟩)
        have hbw6 : ∀ g, (w1.heap.size < g ∧ ¬ S g) → g < wr.heap.size → w6.heap[g]? = wr.heap[g]? := fun g hg hl => (hfr6.same g (by omega) hg.2).trans ((hbVZ.block g (by omega)).trans (hbV.block g hl))
        have how6 : Ow w6 (fun g => w1.heap.size < g ∧ ¬ S6 g) 55 16 (.slice o7 j c7) j (D.flatMap ceE) :=
          (HOW.out.keep (W' := w6) fun g hg => hbw6 g (HOW.out.lt hg).1 (HOW.out.lt hg).2).mono fun g hg h => ⟨h.1, fun h6 => ((MS.out g).1 h6).elim h.2 fun h7 => by have := (HOW.out.lt hg).2; omega⟩
        have hol : ∀ g, (Value.slice o7 j c7).ownBlock = some g → w1.heap.size < g ∧ ¬ S6 g ∧ g < wr.heap.size := fun g hg => ⟨(how6.lt hg).1.1, (how6.lt hg).1.2, (HOW.out.lt hg).2⟩
        have HOW6 := Lib.hid how6
        have HOL := Lib.hid hol
        have HOR7 := Lib.hid hor7
        obtain ⟨T6, hT6⟩ : ∃ T6, Hid ((oneF T x).2 = T6) := ⟨_, Lib.hid rfl⟩
        rw [hT6.out] at HOR7
        have hrn : runF C.tb l = runF T6 (l.drop (j + 1)) := by
          rw [HRUN.out, HD.out]
          simp only [runF]
          rw [if_pos hen.out, hT6.out]
        have HRN := Lib.hid hrn
        have htn : turns C.tb l = (D ++ [turnF T x]) ++ turns T6 (l.drop (j + 1)) := by
          rw [HTUR.out, HD.out]
          simp only [turns]
          rw [hT6.out, List.append_assoc]
          rfl
        have HTN := Lib.hid htn
        have hBT6 : BT (K + (j + 1)) T6 := by rw [← hT6.out]; exact HBTT.out.one x
        have HBT6 := Lib.hid hBT6
        have hTL6 : T6.length = nT := by rw [← hT6.out]; exact (oneF_len T x).trans hTl.out
        have HTL6 := Lib.hid hTL6
        have hfin : ∀ (Y w7 : World) (ob : Obj) (o' : Option Addr) (c' : Nat), Fr (fun g => g = wr.heap.size + 1) w6 Y → Ow w7 (fun g => w1.heap.size < g ∧ ¬ S6 g) 55 16 (.slice o' (j + 1) c') (j + 1) (D.flatMap ceE ++ ceE (turnF T x)) → (Y.alloc ob).grownBy w7 (Value.slice o7 j c7).ownBlock →
            Hid (OR 43 (OR 44 (O1 ceR 53 12)) w7 S6 T6 (.slice ot1 nT ct1)) ∧ Hid (∀ g, S6 g → m ≤ g ∧ g ≠ w1.heap.size ∧ g < w7.heap.size) ∧ Hid (O1 ceE 55 16 w7 (fun g => w1.heap.size < g ∧ ¬ S6 g) (D ++ [turnF T x]) (.slice o' (j + 1) c')) ∧ Hid (Fr (fun g => m ≤ g ∧ g ≠ w1.heap.size) W3 w7) ∧ Hid ((D ++ [turnF T x]).length = j + 1) := by
          intro Y w7 ob o' c' hY how7 hg7
          have hsY := hY.size
          have hs7 : Y.heap.size + 1 ≤ w7.heap.size := by have := hg7.size; simpa using this
          have h67 : ∀ g, g < w6.heap.size → g ≠ wr.heap.size + 1 → (Value.slice o7 j c7).ownBlock ≠ some g → w7.heap[g]? = w6.heap[g]? := fun g h1 h2 h3 =>
            (hg7.block g (by simp; omega) (fun e => h3 e.symm)).trans ((al_lt' (by omega)).trans (hY.same g h1 h2))
          refine ⟨Lib.hid ((goodR (goodR (good1 ceR 53 12))).frame HOR7.out fun g hg hl => h67 g hl (fun e => ?_) (fun e => (HOL.out g e).2.1 hg)), Lib.hid fun g hg => ?_, Lib.hid ?_, Lib.hid ?_, Lib.hid (by rw [List.length_append, HDL.out]; rfl)⟩
          · rcases (MS.out g).1 hg with h | h
            · have := (HSS.out g h).2.2; omega
            · omega
          · rcases (MS.out g).1 hg with h | h
            · have h9 := HSS.out g h; exact ⟨h9.1, h9.2.1, by omega⟩
            · exact ⟨by omega, by omega, by omega⟩
          · unfold O1
            rw [List.length_append, HDL.out, List.flatMap_append]
            simpa using how7
          · refine HF6.out.trans ((hY.mono fun g _ h => (by rw [h]; exact ⟨by omega, by omega⟩ : m ≤ g ∧ g ≠ w1.heap.size)).trans ((Fr.of_below (below_al (Below.refl _ _) ob)).trans ⟨hg7.os, hg7.tape, hg7.output, hg7.size, fun g hg hn => hg7.block g hg (fun e => hn ?_)⟩))
            have := (HOL.out g e.symm).1
            exact ⟨by omega, by omega⟩
        have HFIN := Lib.hid hfin
        have hbn : ∀ g, w6.heap.size ≤ g → w1.heap.size < g ∧ ¬ S6 g := fun g hg => ⟨by omega, fun h => by
          rcases (MS.out g).1 h with h | h
          · have := (HSS.out g h).2.2; omega
          · omega⟩
        have HBN := Lib.hid hbn
        have p3 : w6.cell? ⟨wr.heap.size, 3, none⟩ = some (.bool x.gone) := (cell_b hx7).trans rfl
        have HX7 := Lib.hid hx7
        have hp : j + 1 ≤ maxLen := by simp only [maxLen]; omega
        have hq : (j + 1) * 128 ≤ 140737488355328 := by omega
        have HSZ := Lib.hid sameZ
        clear hor6 hfr6 sameZ ht6 hx7 ho6 htb6 ms hor7 hbw6 how6 hol hrn htn hBT6 hTL6 hfin hbn
        cases hgo : x.gone with
        | false =>
          have htf : turnF T x = ⟨x.sw, x.tb, x.at_, true, zeroR⟩ := by unfold turnF; rw [hgo]; rfl
          have HTF := Lib.hid htf
          have ht7 : w6.heap[wr.heap.size + 1]? = some (.cells #[.int .i64 x.sw, .int .i64 x.tb, .int .i64 x.at_, .bool true, .int .i64 0, .int .u64 0, .int .u64 0, .int .u64 0, .int .u64 0, .int .i64 0, .int .i64 0, .int .i64 0, .int .u64 0, .int .u64 0, .int .u64 0, .int .u64 0] 55 (0, 0)) := by have := HT6.out; rw [hgo] at this; exact this
          rw [hgo] at p3
          have hldt : (ld55 (.pointer (some ⟨wr.heap.size + 1, 0, none⟩))).run Try.prog w6 = .ok (.value (.agg #[.int .i64 x.sw, .int .i64 x.tb, .int .i64 x.at_, .bool true, .int .i64 0, .int .u64 0, .int .u64 0, .int .u64 0, .int .u64 0, .int .i64 0, .int .i64 0, .int .i64 0, .int .u64 0, .int .u64 0, .int .u64 0, .int .u64 0])) w6 := run_ld55b (cs := [.int .i64 x.sw, .int .i64 x.tb, .int .i64 x.at_, .bool true, .int .i64 0, .int .u64 0, .int .u64 0, .int .u64 0, .int .u64 0, .int .i64 0, .int .i64 0, .int .i64 0, .int .u64 0, .int .u64 0, .int .u64 0, .int .u64 0]) rfl ht7
          clear htf hgo ht7
          go_wp2_with (at_builtin; refine wpList_app_ow rfl _ _ 32 rfl (fun g => w1.heap.size < g ∧ ¬ S6 g) 55 i0 (.agg #[.int .i64 0, .int .i64 0, .int .i64 0, .bool false, .int .i64 0, .int .u64 0, .int .u64 0, .int .u64 0, .int .u64 0, .int .i64 0, .int .i64 0, .int .i64 0, .int .u64 0, .int .u64 0, .int .u64 0, .int .u64 0]) 16 128 und32 hi0 hz0 hz1 hz2 rfl (by decide) (.slice o7 j c7) j (D.flatMap ceE) (by simp [Act.eval, Act.put]) (some ⟨w6.heap.size, 0, none⟩) 1 1 (ceE ⟨x.sw, x.tb, x.at_, true, zeroR⟩) (by simp [Act.eval, Act.put]) (HOW6.out.keep fun g hg => al_lt' (HOW6.out.lt hg).2) rfl (fun _ => ⟨_, rfl, row_cells2 (cs := ceE ⟨x.sw, x.tb, x.at_, true, zeroR⟩) (heap_alloc_new w6 _)⟩) (oneE _) hp hq (HBN.out _ (by simp)) ?_; intro o9 c9 w7 hown9 hg9 hat9 hsm9; have HO9 := Lib.hid hown9; have HG9 := Lib.hid hg9; clear hown9 hg9 hat9 hsm9)
          go_roundw
          case rel =>
            obtain ⟨f1, f2, f3, f4, f5⟩ := HFIN.out w6 w7 _ o9 c9 (Fr.refl _ _) (by rw [HTF.out]; exact HO9.out) HG9.out
            exact ⟨j + 1, T6, S6, _, by go_num, by omega, HTL6, HBT6, f1, f2, f3, f4, f5, HRN, HTN⟩
          case measure => simp [intOf]; omega
        | true =>
          have hgn : x.gone = true := hgo
          obtain ⟨sn, tn, an, e1, e2, e3, h1, h2, h3, h4⟩ := oneF_ok hen.out hgn
          obtain ⟨bt, b3, b4, c3, c4, rfl, d1, d2, z1, d3, d4, z2, d5, d6, hz, ne1, ne2, ne3⟩ : ∃ bt b3 b4 c3 c4, ot2 = some ⟨bt, 0, none⟩ ∧ nT ≤ ct2 ∧ ct2 ≤ 9223372036854775807 ∧ w6.cell? ⟨bt, sn, none⟩ = some (.slice (some ⟨b3, 0, none⟩) T[sn].length c3) ∧ T[sn].length ≤ c3 ∧ c3 ≤ 9223372036854775807 ∧ w6.cell? ⟨b3, tn, none⟩ = some (.slice (some ⟨b4, 0, none⟩) T[sn][tn].length c4) ∧ T[sn][tn].length ≤ c4 ∧ c4 ≤ 9223372036854775807 ∧ (∀ k, k < 12 → w6.cell? ⟨b4, an * 12 + k, none⟩ = (ceR T[sn][tn][an])[k]?) ∧ bt ≠ wr.heap.size + 1 ∧ b3 ≠ wr.heap.size + 1 ∧ b4 ≠ wr.heap.size + 1 := by
            obtain ⟨vs, Ss, hox⟩ := HTB6.out
            have hr := hox.row
            rw [hTl.out] at hr
            obtain ⟨bt, _, rfl, hS, _, q1, q2, _, _⟩ := hr.blk (by have := hTl.out; omega)
            obtain ⟨u, hu, ws, Ts, hoy⟩ := hox.el sn h1
            obtain ⟨o3, c3, rfl⟩ := hoy.row.form
            obtain ⟨b3, _, rfl, hS3, _, q3, q4, _, _⟩ := hoy.row.blk (by omega)
            obtain ⟨u2, hu2, hoz⟩ := hoy.el tn h2
            obtain ⟨o4, c4, rfl⟩ := Ow.form hoz
            obtain ⟨b4, _, rfl, hS4, _, q5, q6, _, _⟩ := Ow.blk hoz (by omega)
            have k3 := (hox.sub sn b3 h1 hS3).1
            have k4 := (hox.sub sn b4 h1 (hoy.sub tn b4 h2 hS4).1).1
            have m1 := hr.cells (g := bt) rfl sn _ hu
            have m3 := hoy.row.cells (g := b3) rfl tn _ hu2
            rw [Addr.add_lit, Nat.zero_add] at m1 m3
            simp only [maxLen] at q2 q4 q6
            refine ⟨bt, b3, b4, c3, c4, rfl, q1, by omega, m1, q3, by omega, m3, q5, by omega, fun k hk => ?_, by have := hS.1; omega, by have := k3.1; omega, by have := k4.1; omega⟩
            have e1 := flat_at lenR T[sn][tn] an h3 k hk
            obtain ⟨v, hv⟩ : ∃ v, (ceR T[sn][tn][an])[k]? = some v := ⟨_, List.getElem?_eq_getElem (l := ceR T[sn][tn][an]) (i := k) hk⟩
            rw [hv] at e1 ⊢
            have := Ow.cells hoz (g := b4) rfl _ v e1
            rw [Addr.add_lit, Nat.zero_add] at this
            exact this
          obtain ⟨y, hy⟩ : ∃ y, Hid (T[sn][tn][an] = y) := ⟨_, Lib.hid rfl⟩
          have htf : turnF T x = ⟨x.sw, x.tb, x.at_, false, y⟩ := by
            have hge : T[sn][tn].getD an zeroR = y := (getD_at zeroR h3).trans hy.out
            rw [hge] at h4
            have : turnF T x = ⟨x.sw, x.tb, x.at_, !x.gone, (turnF T x).r⟩ := rfl
            rw [this, h4, hgn]
            rfl
          have HTF := Lib.hid htf
          have ht7 : w6.heap[wr.heap.size + 1]? = some (.cells #[.int .i64 x.sw, .int .i64 x.tb, .int .i64 x.at_, .bool false, .int .i64 0, .int .u64 0, .int .u64 0, .int .u64 0, .int .u64 0, .int .i64 0, .int .i64 0, .int .i64 0, .int .u64 0, .int .u64 0, .int .u64 0, .int .u64 0] 55 (0, 0)) := by have := HT6.out; rw [hgn] at this; exact this
          have HT7 := Lib.hid ht7
          rw [hgn] at p3
          rw [hy.out] at hz
          obtain ⟨l3, hl3⟩ : ∃ l3, Hid (T[sn].length = l3) := ⟨_, Lib.hid rfl⟩
          obtain ⟨l4, hl4⟩ : ∃ l4, Hid (T[sn][tn].length = l4) := ⟨_, Lib.hid rfl⟩
          rw [hl4.out] at z2 d5 h3
          rw [hl3.out] at z1 d3 h2
          rw [hTl.out] at h1
          have i1 : (sn : Int) < (nT : Int) := by omega
          have i2 : (tn : Int) < (l3 : Int) := by omega
          have i3 : (an : Int) < (l4 : Int) := by omega
          have p0 : w6.cell? ⟨wr.heap.size, 0, none⟩ = some (.int .i64 (sn : Int)) := by rw [← e1]; exact (cell_b HX7.out).trans rfl
          have p1 : w6.cell? ⟨wr.heap.size, 1, none⟩ = some (.int .i64 (tn : Int)) := by rw [← e2]; exact (cell_b HX7.out).trans rfl
          have p2 : w6.cell? ⟨wr.heap.size, 2, none⟩ = some (.int .i64 (an : Int)) := by rw [← e3]; exact (cell_b HX7.out).trans rfl
          have z0 : w6.cell? ⟨wc.heap.size, 4, none⟩ = some (.slice (some ⟨bt, 0, none⟩) nT ct2) := (cell_b HO6.out).trans rfl
          have HZ := Lib.hid hz
          have NE1 := Lib.hid ne1
          have NE2 := Lib.hid ne2
          have NE3 := Lib.hid ne3
          clear htf hgo hgn ht7 h4 e1 e2 e3 hz ne1 ne2 ne3
          have hzr : w6.drew.rangeAt b4 (an * 12) (ceR y) := fun k v hv => (HZ.out k (List.getElem?_eq_some_iff.1 hv).1).trans hv
          go_upto_region 12 with (fail)
          refine Rws.wp_rows_st 15 _ [.q (.pointer (some ⟨wc.heap.size, 4, none⟩)), .q (.slice (some ⟨bt, 0, none⟩) nT ct2), .q (.pointer (some ⟨wr.heap.size, 0, none⟩)), .q (.int .i64 (sn : Int)), .q (.pointer (some ⟨bt, sn, none⟩)), .q (.slice (some ⟨b3, 0, none⟩) l3 c3), .q (.pointer (some ⟨wr.heap.size, 1, none⟩)), .q (.int .i64 (tn : Int)), .q (.pointer (some ⟨b3, tn, none⟩)), .q (.slice (some ⟨b4, 0, none⟩) l4 c4), .q (.pointer (some ⟨wr.heap.size, 2, none⟩)), .q (.int .i64 (an : Int)), .q (.pointer (some ⟨b4, an * 12, none⟩)), .q (.agg (ceR y).toArray), .q (.pointer (some ⟨wr.heap.size + 1, 4, none⟩))] (by as_aux_lemma => kernel_rfl) rfl rfl rfl rfl (by as_aux_lemma => kernel_rfl) (by as_aux_lemma => kernel_rfl) ?_ ?_
          · refine ⟨?_, ?_, ?_, ?_, ?_, ?_, ?_, ?_, ?_, ?_, ?_, ?_, ?_, ?_, ?_, trivial⟩
            · exact obl_fldT (by as_aux_lemma => kernel_rfl) rfl
            · exact obl_ldS (.inl rfl) (jA := 0) (by as_aux_lemma => kernel_rfl) rfl rfl z0
            · exact obl_fldE (by as_aux_lemma => kernel_rfl) rfl (by decide)
            · exact obl_ldI (jA := 2) (by as_aux_lemma => kernel_rfl) rfl rfl p0
            · exact obl_ix (.inl rfl) (j := sn) (jA := 1) (jB := 3) h1 (by as_aux_lemma => kernel_rfl) rfl rfl (by as_aux_lemma => kernel_rfl) rfl rfl
            · exact obl_ldS (.inr (.inl rfl)) (jA := 4) (by as_aux_lemma => kernel_rfl) rfl rfl z1
            · exact obl_fldE (by as_aux_lemma => kernel_rfl) rfl (by decide)
            · exact obl_ldI (jA := 6) (by as_aux_lemma => kernel_rfl) rfl rfl p1
            · exact obl_ix (.inr rfl) (j := tn) (jA := 5) (jB := 7) h2 (by as_aux_lemma => kernel_rfl) rfl rfl (by as_aux_lemma => kernel_rfl) rfl rfl
            · exact obl_ldS (.inr (.inr rfl)) (jA := 8) (by as_aux_lemma => kernel_rfl) rfl rfl z2
            · exact obl_fldE (by as_aux_lemma => kernel_rfl) rfl (by decide)
            · exact obl_ldI (jA := 10) (by as_aux_lemma => kernel_rfl) rfl rfl p2
            · exact obl_ixR (j := an) (jA := 9) (jB := 11) h3 (by as_aux_lemma => kernel_rfl) rfl rfl (by as_aux_lemma => kernel_rfl) rfl rfl
            · exact obl_ldR (jA := 12) (by as_aux_lemma => kernel_rfl) rfl rfl hzr
            · exact obl_fldE (by as_aux_lemma => kernel_rfl) rfl (by decide)
          intro ν W6 hbW6 hrow
          clear hrow hzr p0 p1 p2 p3 z0 z1 z2
          have htW : W6.heap[wr.heap.size + 1]? = some (.cells #[.int .i64 x.sw, .int .i64 x.tb, .int .i64 x.at_, .bool false, .int .i64 0, .int .u64 0, .int .u64 0, .int .u64 0, .int .u64 0, .int .i64 0, .int .i64 0, .int .i64 0, .int .u64 0, .int .u64 0, .int .u64 0, .int .u64 0] 55 (0, 0)) := (hbW6.block _ (by omega)).trans HT7.out
          have hth : W6.there (wr.heap.size + 1) 4 (ceR y).toArray.size := fun k hk => by
            have hk' : k < 12 := hk
            refine ⟨?_, by simp [World.frozen?, htW]⟩
            rw [cell_b htW, Array.getElem?_eq_getElem (by simp; omega)]
            rfl
          have FZ := Lib.hid (twelve_set y htW)
          have HFV : Hid (Fr (fun g => g = wr.heap.size + 1) w6 W6) := Lib.hid (Fr.of_below hbW6)
          have HTH := Lib.hid hth
          clear htW hth hbW6
          simp only [Rws.MFin, Rws.kOf, Rws.Mk.val]
          simp
          refine wpList_store_mid rfl 53 _ _ rfl (wr.heap.size + 1) 4 (ceR y).toArray rfl rfl HTH.out siz53 (all_oneCell_toArray (oneR y)) ?_
          refine wp_worldS (fun Y => Y.heap[wr.heap.size + 1]? = some (.cells #[.int .i64 x.sw, .int .i64 x.tb, .int .i64 x.at_, .bool false, .int .i64 y.p, .int .u64 y.vh, .int .u64 y.vl, .int .u64 y.ch, .int .u64 y.cl, .int .i64 y.kd, .int .i64 y.po, .int .i64 y.tb, .int .u64 y.sh, .int .u64 y.sl, .int .u64 y.th, .int .u64 y.tl] 55 (0, 0)) ∧ Fr (fun g => g = wr.heap.size + 1) w6 Y) ⟨FZ.out, Fr.scs (S := fun g => g = wr.heap.size + 1) rfl _ _ _ HFV.out⟩ ?_
          rintro Y ⟨htY, hFY⟩
          have HFY := Lib.hid hFY
          have hyw := hFY.size
          have HOWY : Hid (Ow Y (fun g => w1.heap.size < g ∧ ¬ S6 g) 55 16 (.slice o7 j c7) j (D.flatMap ceE)) := Lib.hid (HOW6.out.keep fun g hg => hFY.same g (HOW6.out.lt hg).2 (fun e => by
            have := (HOL.out g hg).2.2
            omega))
          have hldt : (ld55 (.pointer (some ⟨wr.heap.size + 1, 0, none⟩))).run Try.prog Y = .ok (.value (.agg #[.int .i64 x.sw, .int .i64 x.tb, .int .i64 x.at_, .bool false, .int .i64 y.p, .int .u64 y.vh, .int .u64 y.vl, .int .u64 y.ch, .int .u64 y.cl, .int .i64 y.kd, .int .i64 y.po, .int .i64 y.tb, .int .u64 y.sh, .int .u64 y.sl, .int .u64 y.th, .int .u64 y.tl])) Y := run_ld55b (cs := [.int .i64 x.sw, .int .i64 x.tb, .int .i64 x.at_, .bool false, .int .i64 y.p, .int .u64 y.vh, .int .u64 y.vl, .int .u64 y.ch, .int .u64 y.cl, .int .i64 y.kd, .int .i64 y.po, .int .i64 y.tb, .int .u64 y.sh, .int .u64 y.sl, .int .u64 y.th, .int .u64 y.tl]) rfl htY
          clear htY hFY
          go_wp2_with (at_builtin; refine wpList_app_ow rfl _ _ 32 rfl (fun g => w1.heap.size < g ∧ ¬ S6 g) 55 i0 (.agg #[.int .i64 0, .int .i64 0, .int .i64 0, .bool false, .int .i64 0, .int .u64 0, .int .u64 0, .int .u64 0, .int .u64 0, .int .i64 0, .int .i64 0, .int .i64 0, .int .u64 0, .int .u64 0, .int .u64 0, .int .u64 0]) 16 128 und32 hi0 hz0 hz1 hz2 rfl (by decide) (.slice o7 j c7) j (D.flatMap ceE) (by simp [Act.eval, Act.put]) (some ⟨Y.heap.size, 0, none⟩) 1 1 (ceE ⟨x.sw, x.tb, x.at_, false, y⟩) (by simp [Act.eval, Act.put]) (HOWY.out.keep fun g hg => al_lt' (HOWY.out.lt hg).2) rfl (fun _ => ⟨_, rfl, row_cells2 (cs := ceE ⟨x.sw, x.tb, x.at_, false, y⟩) (heap_alloc_new Y _)⟩) (oneE _) hp hq (HBN.out _ (by simp; omega)) ?_; intro o9 c9 w7 hown9 hg9 hat9 hsm9; have HO9 := Lib.hid hown9; have HG9 := Lib.hid hg9; clear hown9 hg9 hat9 hsm9)
          go_roundw
          case rel =>
            obtain ⟨f1, f2, f3, f4, f5⟩ := HFIN.out Y w7 _ o9 c9 HFY.out (by rw [HTF.out]; exact HO9.out) HG9.out
            exact ⟨j + 1, T6, S6, _, by go_num, by omega, HTL6, HBT6, f1, f2, f3, f4, f5, HRN, HTN⟩
          case measure => simp [intOf]; omega
    · obtain rfl : j = nl := by omega
      have hdn : l.drop j = [] := by rw [← hnl.out]; exact List.drop_length
      have hrn : runF C.tb l = (0, T) := by rw [HRUN.out, hdn]; rfl
      have htn : turns C.tb l = D := by rw [HTUR.out, hdn]; simp [turns]
      have hbf : backF C.tb l = (0, D.reverse) := by unfold backF; rw [hrn, htn]; rfl
      have HBF := Lib.hid hbf
      have hrv := rev_c wr (B := fun g => w1.heap.size < g ∧ ¬ S g) (v := .slice o7 j c7) (l := D) (by unfold O1; rw [HDL.out]; exact HOW.out)
      have HRV := Lib.hid hrv
      clear hdn hrn htn hbf hrv
      go_wp2_with fail
      refine HRV.out.mono ?_
      rintro e w8 ⟨rfl, ho8, hf8⟩
      have hlr : D.reverse.length = j := by rw [List.length_reverse]; exact HDL.out
      have how8 : Ow w8 (fun g => w1.heap.size < g ∧ ¬ S g) 55 16 (.slice o7 j c7) j (D.reverse.flatMap ceE) := by unfold O1 at ho8; rw [hlr] at ho8; exact ho8
      have hcl := clipE w8 (fun h => how8.nn h) how8.rd.1 how8.rd.2.1
      have HCL := Lib.hid hcl
      have HOW8 := Lib.hid how8
      have HF8 := Lib.hid hf8
      have HLR := Lib.hid hlr
      clear ho8 hf8 hlr how8 hcl
      go_wp2_with fail
      refine HCL.out.mono ?_
      rintro e w9 ⟨rfl, rfl⟩
      go_wp2_with fail
      (try simp only [Exit.inBlock, Exit.then])
      rw [HZZ.out]
      refine bodyPost_ret (results_tmp2 rfl _ _ _) rfl ?_
      rw [HBF.out]
      refine ⟨_, rfl, ?_, below_fr (below_fr hbw hFR.out (fun g hg => by have := hg.1; omega)) HF8.out (fun g hg => by have := (HOW.out.lt hg).1.1; omega)⟩
      unfold O1
      rw [HLR.out]
      exact HOW8.out.clip.mono fun g _ h => by have := h.1; omega
end Go.Proofs.Ytdmakcfgcgioeaa
