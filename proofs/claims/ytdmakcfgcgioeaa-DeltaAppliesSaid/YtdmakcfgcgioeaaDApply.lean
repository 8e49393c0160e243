/- Delta: Apply. -/
import Derived.Test.YtdmakcfgcgioeaaDOne
import Derived.Test.YtdmakcfgcgioeaaDCfg
import Derived.Laws.ResultCell
namespace Go.Proofs.Ytdmakcfgcgioeaa
open Go.RowKit Go.Maps
set_option linter.unusedSimpArgs false
set_option linter.unusedVariables false
set_option maxRecDepth 100000
/-- what some changes do. -/
def runF : List (List (List Ru)) → List Ed → Int × List (List (List Ru))
  | T, [] => (0, T)
  | T, x :: l => if (oneF T x).1 = 0 then runF (oneF T x).2 l else ((oneF T x).1, T)
def zeroC : Cf := ⟨[], 0, [], [], []⟩
def applyF (C : Cf) (l : List Ed) : Cf := if (runF C.tb l).1 = 0 then { C with tb := (runF C.tb l).2 } else zeroC
/-- no list is longer than K. -/
structure BT (K : Nat) (T : List (List (List Ru))) : Prop where
  n : T.length ≤ 5864062014805
  ns : ∀ t ∈ T, t.length ≤ 5864062014805
  nl : ∀ t ∈ T, ∀ l ∈ t, l.length ≤ K
theorem mem_getD {α : Type} {T : List (List α)} {n : Nat} {l : α} (h : l ∈ T.getD n []) : ∃ t ∈ T, l ∈ t := by
  rw [List.getD_eq_getElem?_getD] at h
  cases e : T[n]? with
  | none => rw [e] at h; simp at h
  | some t => rw [e] at h; exact ⟨t, List.mem_of_getElem? e, h⟩
theorem BT.tabl {K : Nat} {T : List (List (List Ru))} (h : BT K T) (n m : Nat) : (tab T n m).length ≤ K := by
  unfold tab
  rw [List.getD_eq_getElem?_getD]
  cases e : (T.getD n [])[m]? with
  | none => simp
  | some l =>
    obtain ⟨t, h1, h2⟩ := mem_getD (List.mem_of_getElem? e)
    exact h.nl t h1 l h2
theorem BT.put {K : Nat} {T : List (List (List Ru))} (h : BT K T) (n m : Nat) {l : List Ru} (hl : l.length ≤ K + 1) : BT (K + 1) (putT T n m l) := by
  unfold putT
  refine ⟨by rw [List.length_set]; exact h.n, fun t ht => ?_, fun t ht l' hl' => ?_⟩
  · rcases List.mem_or_eq_of_mem_set ht with h1 | rfl
    · exact h.ns t h1
    · rw [List.length_set, List.getD_eq_getElem?_getD]
      cases e : T[n]? with
      | none => simp
      | some t => exact h.ns t (List.mem_of_getElem? e)
  · rcases List.mem_or_eq_of_mem_set ht with h1 | rfl
    · exact Nat.le_succ_of_le (h.nl t h1 l' hl')
    · rcases List.mem_or_eq_of_mem_set hl' with h1 | rfl
      · obtain ⟨t, h2, h3⟩ := mem_getD h1
        exact Nat.le_succ_of_le (h.nl t h2 l' h3)
      · exact hl
theorem BT.succ {K : Nat} {T : List (List (List Ru))} (h : BT K T) : BT (K + 1) T := ⟨h.n, h.ns, fun t ht l hl => Nat.le_succ_of_le (h.nl t ht l hl)⟩
theorem BT.one {K : Nat} {T : List (List (List Ru))} (h : BT K T) (x : Ed) : BT (K + 1) (oneF T x).2 := by
  unfold oneF
  split
  · exact h.succ
  · split
    · exact h.succ
    · split
      · exact h.succ
      · refine h.put _ _ ?_
        have := h.tabl x.sw.toNat x.tb.toNat
        split
        · have := List.length_eraseIdx_le (tab T x.sw.toNat x.tb.toNat) x.at_.toNat
          omega
        · simp only [List.length_append, List.length_cons, List.length_take, List.length_drop]; omega
theorem edc (x : Ed) : (ceE x).toArray = #[.int .i64 x.sw, .int .i64 x.tb, .int .i64 x.at_, .bool x.gone, .int .i64 x.r.p, .int .u64 x.r.vh, .int .u64 x.r.vl, .int .u64 x.r.ch, .int .u64 x.r.cl, .int .i64 x.r.kd, .int .i64 x.r.po, .int .i64 x.r.tb, .int .u64 x.r.sh, .int .u64 x.r.sl, .int .u64 x.r.th, .int .u64 x.r.tl] := rfl
theorem results_cr {P : Program} {fn : Func} {p u : Tmp} {ty : TypeId} (h : fn.results = #[.cell p ty, .tmp u]) (tmps : Array Value) (w : World) (g : Nat) (t : TypeId) (cs : Array Value) (fr : Nat × Nat) (d : TypeDesc)
    (hp : tmps.getD p undef = .pointer (some ⟨g, 0, none⟩)) (hg : w.heap[g]? = some (.cells cs t fr))
    (hu : P.underlying ty = some d) (hd : (match d with | .struct _ | .array _ _ => true | _ => false) = true) (hi : (P.info? ty).map (·.size) = some cs.size) :
    (results fn tmps).run P w = .ok (.tuple #[.agg cs, tmps.getD u undef]) w := by
  rw [results_cell_tmp h, hp]
  simp [asAddr, run_loadVar_row w g t ty cs fr d hg hu (by cases d <;> first | rfl | (simp at hd)) hi]
theorem results_c31 {fn : Func} {p u : Tmp} (h : fn.results = #[.cell p 31, .tmp u]) (tmps : Array Value) (w : World) (g : Nat) (a b c d e : Value) (fr : Nat × Nat)
    (hp : tmps.getD p undef = .pointer (some ⟨g, 0, none⟩)) (hg : w.heap[g]? = some (.cells #[a, b, c, d, e] 31 fr)) :
    (results fn tmps).run Try.prog w = .ok (.tuple #[.agg #[a, b, c, d, e], tmps.getD u undef]) w := by
  obtain ⟨d31, hu31, hd31⟩ := wide_of wide31
  exact results_cr h tmps w g 31 _ fr d31 hp hg hu31 (by cases d31 <;> first | rfl | (simp at hd31)) siz31
theorem five_cells {w : World} {g : Nat} {t : TypeId} {fr : Nat × Nat} {a b c d e : Value} (a' b' c' d' e' : Value) (h : w.heap[g]? = some (.cells #[a, b, c, d, e] t fr)) :
    (((((w.setCell ⟨g, 0, none⟩ a').setCell ⟨g, 1, none⟩ b').setCell ⟨g, 2, none⟩ c').setCell ⟨g, 3, none⟩ d').setCell ⟨g, 4, none⟩ e').heap[g]? = some (.cells #[a', b', c', d', e'] t fr) :=
  (sc_at9 (o := 4) (v := e') (sc_at9 (o := 3) (v := d') (sc_at9 (o := 2) (v := c') (sc_at9 (o := 1) (v := b') (sc_at9 (o := 0) (v := a') h))))).trans rfl
theorem OC.to {W Z : World} {a a' m : Nat} {C : Cf} {vp ve vw vt : Value} (h : OC W a m C vp ve vw vt) (ha : a' ≤ a) (hf : ∀ g, a ≤ g → g < W.heap.size → Z.heap[g]? = W.heap[g]?) (hs : W.heap.size ≤ Z.heap.size) : OC Z a' m C vp ve vw vt :=
  ⟨Nat.le_trans ha h.am, Nat.le_trans h.mw hs,
   (goodR (good1 _ _ _)).mono ((goodR (good1 _ _ _)).frame h.pt fun g hg hl => hf g hg.1 hl) fun g hg _ => ⟨Nat.le_trans ha hg.1, hg.2⟩,
   (good1 _ _ _).mono ((good1 _ _ _).frame h.pe fun g hg hl => hf g hg.1 hl) fun g hg _ => ⟨Nat.le_trans ha hg.1, hg.2⟩,
   (good1 _ _ _).mono ((good1 _ _ _).frame h.wy fun g hg hl => hf g hg.1 hl) fun g hg _ => ⟨Nat.le_trans ha hg.1, hg.2⟩,
   (goodR (goodR (good1 _ _ _))).frame h.tb fun g hg hl => hf g (Nat.le_trans h.am hg) hl⟩
theorem below_fr {S : Nat → Prop} {w W3 w6 : World} (hb : RowKit.Below w.heap.size w W3) (hf : Fr S W3 w6) (hS : ∀ g, S g → w.heap.size ≤ g) : RowKit.Below w.heap.size w w6 :=
  hb.trans ⟨hf.os, hf.tape, hf.output, hf.size, fun g hg => hf.same g (Nat.lt_of_lt_of_le hg hb.size) (fun h => by have := hS g h; omega)⟩
theorem oneF_len (T : List (List (List Ru))) (x : Ed) : (oneF T x).2.length = T.length := by
  unfold oneF putT
  split
  · rfl
  · split
    · rfl
    · split
      · rfl
      · simp
set_option maxHeartbeats 8000000 in
theorem apply_c (w : World) {C : Cf} {vp ve vw vt : Value} (h : RC w C vp ve vw vt) (hbd : Bd C) {K : Nat} (hbt : BT K C.tb) {ol : Option Addr} {cl : Nat} {l : List Ed} (hr : Rd w ol l.length cl (l.flatMap ceE)) (hK : K + l.length ≤ 1466015503701) :
    Calls Try.prog 8 #[.agg #[vp, .int .i64 C.ten, ve, vw, vt], .slice ol l.length cl] w fun e w' => ∃ vp' ve' vw' vt' m, e = .returned (.tuple #[.agg #[vp', .int .i64 (applyF C l).ten, ve', vw', vt'], .int .i64 (runF C.tb l).1]) ∧ OC w' w.heap.size m (applyF C l) vp' ve' vw' vt' ∧ RowKit.Below w.heap.size w w' := by
  obtain ⟨op, cp, ep⟩ : ∃ o c, vp = .slice o C.pt.length c := by obtain ⟨o, c, vs, e, _⟩ := h.pt; exact ⟨o, c, e⟩
  obtain ⟨oe, ce, ee⟩ : ∃ o c, ve = .slice o C.pe.length c := by obtain ⟨o, c, e, _⟩ := h.pe; exact ⟨o, c, e⟩
  obtain ⟨ow, cw, ew⟩ : ∃ o c, vw = .slice o C.wy.length c := by obtain ⟨o, c, e, _⟩ := h.wy; exact ⟨o, c, e⟩
  obtain ⟨ot, ct, et⟩ : ∃ o c, vt = .slice o C.tb.length c := by obtain ⟨o, c, vs, e, _⟩ := h.tb; exact ⟨o, c, e⟩
  subst ep ee ew et
  obtain ⟨W, hW⟩ : ∃ W, Hid (W = (w.alloc (.cells #[.slice op C.pt.length cp, .int .i64 C.ten, .slice oe C.pe.length ce, .slice ow C.wy.length cw, .slice ot C.tb.length ct] 31)).alloc (.cells #[.slice none 0 0, .int .i64 0, .slice none 0 0, .slice none 0 0, .slice none 0 0] 31)) := ⟨_, Lib.hid rfl⟩
  have hbx : RowKit.Below w.heap.size w W := by rw [hW.out]; exact below2 _ _ _
  have hs : W.heap.size = w.heap.size + 1 + 1 := by rw [hW.out]; simp
  have hm0 : W.heap[w.heap.size]? = some (.cells #[.slice op C.pt.length cp, .int .i64 C.ten, .slice oe C.pe.length ce, .slice ow C.wy.length cw, .slice ot C.tb.length ct] 31 (0, 0)) := by
    rw [hW.out, al_lt' (by simp)]; exact heap_alloc_new w _
  have hm1 : W.heap[w.heap.size + 1]? = some (.cells #[.slice none 0 0, .int .i64 0, .slice none 0 0, .slice none 0 0, .slice none 0 0] 31 (0, 0)) := by
    have := heap_alloc_new (w.alloc (.cells #[.slice op C.pt.length cp, .int .i64 C.ten, .slice oe C.pe.length ce, .slice ow C.wy.length cw, .slice ot C.tb.length ct] 31)) (.cells #[.slice none 0 0, .int .i64 0, .slice none 0 0, .slice none 0 0, .slice none 0 0] 31)
    rw [hW.out]
    rwa [World.size_alloc] at this
  have hcl := clone_cf W (h.below hbx) hbd
  rw [hW.out] at hcl
  have HR := Lib.hid hr
  have HB := Lib.hid hbd
  have HBT := Lib.hid hbt
  clear h hbd hbt hr
  have y0 : W.cell? ⟨w.heap.size, 0, none⟩ = some (.slice op C.pt.length cp) := (cell_b hm0).trans rfl
  go_enter Try.func8, Try.ntmps8
  go_wp2_with fail
  refine hcl.mono ?_
  rw [← hW.out]
  rintro e w1 ⟨vp1, ve1, vw1, vt1, m, rfl, hoc, hb1⟩
  clear hcl
  obtain ⟨op1, cp1, rfl⟩ := hoc.pt.form
  obtain ⟨oe1, ce1, rfl⟩ := Ow.form hoc.pe
  obtain ⟨ow1, cw1, rfl⟩ := Ow.form hoc.wy
  obtain ⟨ot1, ct1, rfl⟩ := hoc.tb.form
  have HOC := Lib.hid hoc
  have ham := hoc.am
  have hmw := hoc.mw
  clear hoc
  go_upto_region 2 with (fail)
  have hs1 := hb1.size
  refine wp_world (fun V => V.heap[w1.heap.size]? = some (.cells #[.slice op1 C.pt.length cp1, .int .i64 C.ten, .slice oe1 C.pe.length ce1, .slice ow1 C.wy.length cw1, .slice ot1 C.tb.length ct1] 31 (0, 0)) ∧ (∀ g, g < w1.heap.size → V.heap[g]? = w1.heap[g]?) ∧ RowKit.Below w1.heap.size w1 V ∧ w1.heap.size < V.heap.size) ⟨heap_alloc_new w1 _, fun g hg => al_lt' hg, below_al (Below.refl _ _) _, by simp⟩ ?_
  rintro W3 ⟨n0, hsame3, hb3, hlt3⟩
  -- what may turn from here on
  obtain ⟨S, hS⟩ : ∃ S : Nat → Prop, Hid (S = fun g => m ≤ g ∧ g ≠ w1.heap.size) := ⟨_, Lib.hid rfl⟩
  have hT3 : OR 43 (OR 44 (O1 ceR 53 12)) W3 S C.tb (.slice ot1 C.tb.length ct1) := by
    rw [hS.out]
    exact (goodR (goodR (good1 _ _ _))).mono ((goodR (goodR (good1 _ _ _))).frame ((goodR (goodR (good1 _ _ _))).mono HOC.out.tb fun g h1 h2 => (⟨h1, h2⟩ : m ≤ g ∧ g < w1.heap.size)) fun g hg _ => hsame3 g hg.2) fun g hg _ => ⟨hg.1, by have := hg.2; omega⟩
  have HT3 := Lib.hid hT3
  have HN0 := Lib.hid n0
  have HS3 := Lib.hid hsame3
  have hbw : RowKit.Below w.heap.size w W3 := below_st hbx (below_st hb1 (hb3.mono (by omega)))
  obtain ⟨hr1, hr2, b, off, hr3, hr4⟩ := HR.out
  have HR3 := Lib.hid hr3
  have HR4 := Lib.hid hr4
  obtain ⟨nl, hnl⟩ : ∃ n, Hid (l.length = n) := ⟨_, Lib.hid rfl⟩
  rw [hnl.out] at hr1 HR3 hK
  simp only [maxLen] at hr2
  have mm : ∀ g, S g → m ≤ g ∧ g ≠ w1.heap.size := fun g hg => by rw [hS.out] at hg; exact hg
  have MM := Lib.hid mm
  have mk : ∀ g, w1.heap.size < g → S g := fun g hg => by rw [hS.out]; exact ⟨by omega, by omega⟩
  have MK := Lib.hid mk
  have m1' := (hsame3 (w.heap.size + 1) (by omega)).trans ((hb1.block _ (by omega)).trans hm1)
  have HM1 := Lib.hid m1'
  clear hT3 n0 hsame3 hr3 hr4 mm mk m1' hm0 hm1 hW y0
  go_wp2_with fail
  go_loopw [14] (fun v14 wr => ∃ (j : Nat) (T : List (List (List Ru))), v14 = .int .i64 (j : Int) ∧ j ≤ nl ∧ T.length = C.tb.length ∧ BT (K + j) T ∧ OR 43 (OR 44 (O1 ceR 53 12)) wr S T (.slice ot1 C.tb.length ct1) ∧ Fr S W3 wr ∧ runF C.tb l = runF T (l.drop j)) (fun v14 _ => nl - (intOf v14).toNat)
  case atStart => exact ⟨0, C.tb, rfl, Nat.zero_le _, rfl, HBT.out, HT3.out, Fr.refl _ _, rfl⟩
  case round =>
    obtain ⟨j, T, rfl, hj, hTl, hbT, hor, hfr, hrun⟩ := hrel
    have hwr : ∀ g, g < w.heap.size → wr.heap[g]? = w.heap[g]? := fun g hg => (hfr.same g (Nat.lt_of_lt_of_le hg hbw.size) (fun h => by have := (MM.out g h).1; omega)).trans (hbw.block g hg)
    have hwc : wr.heap[w1.heap.size]? = some (.cells #[.slice op1 C.pt.length cp1, .int .i64 C.ten, .slice oe1 C.pe.length ce1, .slice ow1 C.wy.length cw1, .slice ot1 C.tb.length ct1] 31 (0, 0)) := (hfr.same _ hlt3 (fun h => (MM.out _ h).2 rfl)).trans HN0.out
    have HWC := Lib.hid hwc
    have hfs := hfr.size
    have hFR := Lib.hid hfr
    have HRUN := Lib.hid hrun
    have HBTT := Lib.hid hbT
    have HOR := Lib.hid hor
    have hbc : w1.heap.size < wr.heap.size := by omega
    clear hfr hrun hbT hor hwc
    by_cases hlt : j < nl
    · have hltI : (j : Int) < (nl : Int) := by omega
      have hjl : j < l.length := by rw [hnl.out]; exact hlt
      obtain ⟨x, hx⟩ : ∃ x, Hid (l[j] = x) := ⟨_, Lib.hid rfl⟩
      have hd : l.drop j = x :: l.drop (j + 1) := by rw [List.drop_eq_getElem_cons hjl, hx.out]
      have HD := Lib.hid hd
      have hcell : ∀ k, k < 16 → wr.cell? ⟨b, off + (j * 16 + k), none⟩ = (ceE x)[k]? := fun k hk => by
        have e1 := flat_at lenE l j hjl k hk
        rw [hx.out] at e1
        obtain ⟨u, hu⟩ : ∃ u, (ceE x)[k]? = some u := ⟨_, List.getElem?_eq_getElem (by rw [lenE]; exact hk)⟩
        rw [hu] at e1 ⊢
        have e2 := HR4.out _ u e1
        rw [World.cell?_of_block (w := w) (hwr _ (World.block_lt_of_cell? w _ e2))]
        exact e2
      have p0 : wr.cell? ⟨b, off + j * 16, none⟩ = some (.int .i64 x.sw) := by have := hcell 0 (by decide); rw [← Nat.add_assoc] at this; exact this
      have p1 : wr.cell? ⟨b, off + j * 16 + 1, none⟩ = some (.int .i64 x.tb) := by have := hcell 1 (by decide); rw [← Nat.add_assoc] at this; exact this
      have p2 : wr.cell? ⟨b, off + j * 16 + 2, none⟩ = some (.int .i64 x.at_) := by have := hcell 2 (by decide); rw [← Nat.add_assoc] at this; exact this
      have p3 : wr.cell? ⟨b, off + j * 16 + 3, none⟩ = some (.bool x.gone) := by have := hcell 3 (by decide); rw [← Nat.add_assoc] at this; exact this
      have p4 : wr.cell? ⟨b, off + j * 16 + 4, none⟩ = some (.int .i64 x.r.p) := by have := hcell 4 (by decide); rw [← Nat.add_assoc] at this; exact this
      have p5 : wr.cell? ⟨b, off + j * 16 + 5, none⟩ = some (.int .u64 x.r.vh) := by have := hcell 5 (by decide); rw [← Nat.add_assoc] at this; exact this
      have p6 : wr.cell? ⟨b, off + j * 16 + 6, none⟩ = some (.int .u64 x.r.vl) := by have := hcell 6 (by decide); rw [← Nat.add_assoc] at this; exact this
      have p7 : wr.cell? ⟨b, off + j * 16 + 7, none⟩ = some (.int .u64 x.r.ch) := by have := hcell 7 (by decide); rw [← Nat.add_assoc] at this; exact this
      have p8 : wr.cell? ⟨b, off + j * 16 + 8, none⟩ = some (.int .u64 x.r.cl) := by have := hcell 8 (by decide); rw [← Nat.add_assoc] at this; exact this
      have p9 : wr.cell? ⟨b, off + j * 16 + 9, none⟩ = some (.int .i64 x.r.kd) := by have := hcell 9 (by decide); rw [← Nat.add_assoc] at this; exact this
      have p10 : wr.cell? ⟨b, off + j * 16 + 10, none⟩ = some (.int .i64 x.r.po) := by have := hcell 10 (by decide); rw [← Nat.add_assoc] at this; exact this
      have p11 : wr.cell? ⟨b, off + j * 16 + 11, none⟩ = some (.int .i64 x.r.tb) := by have := hcell 11 (by decide); rw [← Nat.add_assoc] at this; exact this
      have p12 : wr.cell? ⟨b, off + j * 16 + 12, none⟩ = some (.int .u64 x.r.sh) := by have := hcell 12 (by decide); rw [← Nat.add_assoc] at this; exact this
      have p13 : wr.cell? ⟨b, off + j * 16 + 13, none⟩ = some (.int .u64 x.r.sl) := by have := hcell 13 (by decide); rw [← Nat.add_assoc] at this; exact this
      have p14 : wr.cell? ⟨b, off + j * 16 + 14, none⟩ = some (.int .u64 x.r.th) := by have := hcell 14 (by decide); rw [← Nat.add_assoc] at this; exact this
      have p15 : wr.cell? ⟨b, off + j * 16 + 15, none⟩ = some (.int .u64 x.r.tl) := by have := hcell 15 (by decide); rw [← Nat.add_assoc] at this; exact this
      have HCE := Lib.hid hcell
      have ho' := Lib.hid (HR3.out (by omega))
      clear hd hcell hwr
      rw [ho'.out]
      go_upto_region 5 with (fail)
      refine wp_world (fun V => V.heap[wr.heap.size]? = some (.cells #[.int .i64 x.sw, .int .i64 x.tb, .int .i64 x.at_, .bool x.gone, .int .i64 x.r.p, .int .u64 x.r.vh, .int .u64 x.r.vl, .int .u64 x.r.ch, .int .u64 x.r.cl, .int .i64 x.r.kd, .int .i64 x.r.po, .int .i64 x.r.tb, .int .u64 x.r.sh, .int .u64 x.r.sl, .int .u64 x.r.th, .int .u64 x.r.tl] 55 (0, 0)) ∧ RowKit.Below wr.heap.size wr V ∧ wr.heap.size < V.heap.size) ⟨heap_alloc_new wr _, below_al (Below.refl _ _) _, by simp⟩ ?_
      clear p0 p1 p2 p3 p4 p5 p6 p7 p8 p9 p10 p11 p12 p13 p14 p15
      rintro V ⟨hx5, hbV, hltV⟩
      have p0 : V.cell? ⟨wr.heap.size, 0, none⟩ = some (.int .i64 x.sw) := (cell_b hx5).trans rfl
      have p1 : V.cell? ⟨wr.heap.size, 1, none⟩ = some (.int .i64 x.tb) := (cell_b hx5).trans rfl
      have p2 : V.cell? ⟨wr.heap.size, 2, none⟩ = some (.int .i64 x.at_) := (cell_b hx5).trans rfl
      have p3 : V.cell? ⟨wr.heap.size, 3, none⟩ = some (.bool x.gone) := (cell_b hx5).trans rfl
      have p4 : V.cell? ⟨wr.heap.size, 4, none⟩ = some (.int .i64 x.r.p) := (cell_b hx5).trans rfl
      have p5 : V.cell? ⟨wr.heap.size, 5, none⟩ = some (.int .u64 x.r.vh) := (cell_b hx5).trans rfl
      have p6 : V.cell? ⟨wr.heap.size, 6, none⟩ = some (.int .u64 x.r.vl) := (cell_b hx5).trans rfl
      have p7 : V.cell? ⟨wr.heap.size, 7, none⟩ = some (.int .u64 x.r.ch) := (cell_b hx5).trans rfl
      have p8 : V.cell? ⟨wr.heap.size, 8, none⟩ = some (.int .u64 x.r.cl) := (cell_b hx5).trans rfl
      have p9 : V.cell? ⟨wr.heap.size, 9, none⟩ = some (.int .i64 x.r.kd) := (cell_b hx5).trans rfl
      have p10 : V.cell? ⟨wr.heap.size, 10, none⟩ = some (.int .i64 x.r.po) := (cell_b hx5).trans rfl
      have p11 : V.cell? ⟨wr.heap.size, 11, none⟩ = some (.int .i64 x.r.tb) := (cell_b hx5).trans rfl
      have p12 : V.cell? ⟨wr.heap.size, 12, none⟩ = some (.int .u64 x.r.sh) := (cell_b hx5).trans rfl
      have p13 : V.cell? ⟨wr.heap.size, 13, none⟩ = some (.int .u64 x.r.sl) := (cell_b hx5).trans rfl
      have p14 : V.cell? ⟨wr.heap.size, 14, none⟩ = some (.int .u64 x.r.th) := (cell_b hx5).trans rfl
      have p15 : V.cell? ⟨wr.heap.size, 15, none⟩ = some (.int .u64 x.r.tl) := (cell_b hx5).trans rfl
      have hor5 := (goodR (goodR (good1 ceR 53 12))).frame (W' := V) HOR.out fun g _ hl => hbV.block g hl
      rw [← hTl] at hor5
      have hc5 : V.cell? ⟨w1.heap.size, 4, none⟩ = some (.slice ot1 T.length ct1) := by
        rw [hTl]
        exact (cell_b ((hbV.block _ hbc).trans HWC.out)).trans rfl
      have hone := one_c V (x := x) hor5 ⟨HBTT.out.n, HBTT.out.ns, fun t ht l hl => Nat.le_trans (HBTT.out.nl t ht l hl) (by omega)⟩ hc5
      rw [edc] at hone
      obtain ⟨en, hen⟩ : ∃ en, Hid ((oneF T x).1 = en) := ⟨_, Lib.hid rfl⟩
      rw [hen.out] at hone
      have HONE := Lib.hid hone
      have hS5 : Fr S W3 V := hFR.out.trans (Fr.of_below hbV)
      clear hor5 hc5 hone hx5
      go_wp2_with fail
      refine HONE.out.mono ?_
      rintro e w6 ⟨rfl, hor6, hfr6⟩
      have hF6 : Fr S W3 w6 := hS5.trans hfr6
      clear p0 p1 p2 p3 p4 p5 p6 p7 p8 p9 p10 p11 p12 p13 p14 p15
      by_cases he : en = 0
      · have heb : (en != 0) = false := by simpa using he
        have hor7 : OR 43 (OR 44 (O1 ceR 53 12)) w6 S (oneF T x).2 (.slice ot1 C.tb.length ct1) := by
          rw [← hTl]
          exact (goodR (goodR (good1 _ _ _))).mono hor6 fun g hg _ => hg.elim id fun h => MK.out g (by omega)
        have hrn : runF C.tb l = runF (oneF T x).2 (l.drop (j + 1)) := by
          rw [HRUN.out, HD.out]
          simp only [runF]
          rw [if_pos (by rw [hen.out]; exact he)]
        have H7 := Lib.hid hor7
        have HRN := Lib.hid hrn
        have HLN := Lib.hid ((oneF_len T x).trans hTl)
        have HB7 := Lib.hid (HBTT.out.one x)
        clear hor6 hor7 hrn hfr6
        go_wp2_with fail
        go_roundw
        case rel => exact ⟨j + 1, (oneF T x).2, by go_num, by omega, HLN.out, HB7.out, H7.out, hF6, HRN.out⟩
        case measure => simp [intOf]; omega
      · have heb : (en != 0) = true := by simpa using he
        have HFF := Lib.hid hF6
        have N1 := (HFF.out.same (w.heap.size + 1) (by have := hbw.size; omega) (fun h => by have := (MM.out _ h).1; omega)).trans HM1.out
        have r0 : w6.cell? ⟨w.heap.size + 1, 0, none⟩ = some (.slice none 0 0) := (cell_b N1).trans rfl
        have r1 : w6.cell? ⟨w.heap.size + 1, 1, none⟩ = some (.int .i64 0) := (cell_b N1).trans rfl
        have r2 : w6.cell? ⟨w.heap.size + 1, 2, none⟩ = some (.slice none 0 0) := (cell_b N1).trans rfl
        have r3 : w6.cell? ⟨w.heap.size + 1, 3, none⟩ = some (.slice none 0 0) := (cell_b N1).trans rfl
        have r4 : w6.cell? ⟨w.heap.size + 1, 4, none⟩ = some (.slice none 0 0) := (cell_b N1).trans rfl
        have g0 : w6.frozen? ⟨w.heap.size + 1, 0, none⟩ = false := by simp [World.frozen?, N1]
        have g1 : w6.frozen? ⟨w.heap.size + 1, 1, none⟩ = false := by simp [World.frozen?, N1]
        have g2 : w6.frozen? ⟨w.heap.size + 1, 2, none⟩ = false := by simp [World.frozen?, N1]
        have g3 : w6.frozen? ⟨w.heap.size + 1, 3, none⟩ = false := by simp [World.frozen?, N1]
        have g4 : w6.frozen? ⟨w.heap.size + 1, 4, none⟩ = false := by simp [World.frozen?, N1]
        have FZ := Lib.hid (five_cells (.slice none 0 0) (.int .i64 0) (.slice none 0 0) (.slice none 0 0) (.slice none 0 0) N1)
        have hrn : runF C.tb l = (en, T) := by
          rw [HRUN.out, HD.out]
          simp only [runF]
          rw [if_neg (by rw [hen.out]; exact he), hen.out]
        have HRN := Lib.hid hrn
        have HZC : Hid (applyF C l = zeroC) := by
          show applyF C l = zeroC
          unfold applyF
          rw [hrn, if_neg he]
        have hbl6 := below_fr hbw hF6 (fun g hg => by have := (MM.out g hg).1; omega)
        clear hrn N1 hor6 hfr6 hS5 hF6
        go_wp2_with fail
        (try simp only [Exit.inBlock, Exit.then])
        refine bodyPost_ret (results_c31 rfl _ _ (w.heap.size + 1) _ _ _ _ _ (0, 0) rfl FZ.out) rfl ?_
        rw [HZC.out, HRN.out]
        exact ⟨_, _, _, _, w.heap.size, rfl, ⟨Nat.le_refl _, by have := hbl6.size; simpa using this, ⟨_, _, OX.nil⟩, Ow.nil rfl, Ow.nil rfl, ⟨_, _, OX.nil⟩⟩, Below.setCell (Below.setCell (Below.setCell (Below.setCell (Below.setCell hbl6 (by simp) _) (by simp) _) (by simp) _) (by simp) _) (by simp) _⟩
    · obtain rfl : j = nl := by omega
      have hle1 : ¬ j < l.length := by rw [hnl.out]; omega
      have hle2 : ¬ (j : Int) < (l.length : Int) := by rw [hnl.out]; omega
      have hdn : l.drop j = [] := by rw [← hnl.out]; exact List.drop_length
      have hrn : runF C.tb l = (0, T) := by rw [HRUN.out, hdn]; rfl
      have hap : applyF C l = { C with tb := T } := by unfold applyF; rw [hrn]; rfl
      have HRN := Lib.hid hrn
      have HAP := Lib.hid hap
      have hwr1 : ∀ g, g < m → wr.heap[g]? = w1.heap[g]? := fun g hg => (hFR.out.same g (by omega) (fun h => by have := (MM.out g h).1; omega)).trans (HS3.out g (by omega))
      have hrc : RC wr { C with tb := T } (.slice op1 C.pt.length cp1) (.slice oe1 C.pe.length ce1) (.slice ow1 C.wy.length cw1) (.slice ot1 C.tb.length ct1) :=
        ⟨((goodR (good1 ceP 73 5)).frame HOC.out.pt fun g hg _ => hwr1 g hg.2).rows _ fun h => h.sl, O1.sl ((good1 ce2 63 2).frame HOC.out.pe fun g hg _ => hwr1 g hg.2), O1.sl ((good1 ce3 65 3).frame HOC.out.wy fun g hg _ => hwr1 g hg.2), HOR.out.rows _ fun h => h.rows _ fun h => h.sl⟩
      have hbd' : Bd { C with tb := T } := ⟨HB.out.pt, HB.out.pts, HB.out.pe, HB.out.wy, HBTT.out.n, HBTT.out.ns, fun t ht l hl => Nat.le_trans (HBTT.out.nl t ht l hl) (by omega)⟩
      have hcl2 : Calls Try.prog 14 #[.agg #[.slice op1 C.pt.length cp1, .int .i64 C.ten, .slice oe1 C.pe.length ce1, .slice ow1 C.wy.length cw1, .slice ot1 C.tb.length ct1]] wr fun e w' => ∃ vp' ve' vw' vt' m, e = .returned (.agg #[vp', .int .i64 C.ten, ve', vw', vt']) ∧ OC w' wr.heap.size m { C with tb := T } vp' ve' vw' vt' ∧ RowKit.Below wr.heap.size wr w' := clone_cf wr hrc hbd'
      have HCL2 := Lib.hid hcl2
      have q0 : wr.cell? ⟨w1.heap.size, 0, none⟩ = some (.slice op1 C.pt.length cp1) := (cell_b HWC.out).trans rfl
      have q1 : wr.cell? ⟨w1.heap.size, 1, none⟩ = some (.int .i64 C.ten) := (cell_b HWC.out).trans rfl
      have q2 : wr.cell? ⟨w1.heap.size, 2, none⟩ = some (.slice oe1 C.pe.length ce1) := (cell_b HWC.out).trans rfl
      have q3 : wr.cell? ⟨w1.heap.size, 3, none⟩ = some (.slice ow1 C.wy.length cw1) := (cell_b HWC.out).trans rfl
      have q4 : wr.cell? ⟨w1.heap.size, 4, none⟩ = some (.slice ot1 C.tb.length ct1) := (cell_b HWC.out).trans rfl
      clear hdn hrn hap hrc hbd' hcl2 hwr
      go_wp2_with fail
      refine HCL2.out.mono ?_
      rintro e w7 ⟨vp2, ve2, vw2, vt2, m2, rfl, hoc2, hb7⟩
      obtain ⟨op2, cp2, rfl⟩ : ∃ o c, vp2 = .slice o C.pt.length c := hoc2.pt.form
      obtain ⟨oe2, ce2, rfl⟩ : ∃ o c, ve2 = .slice o C.pe.length c := Ow.form hoc2.pe
      obtain ⟨ow2, cw2, rfl⟩ : ∃ o c, vw2 = .slice o C.wy.length c := Ow.form hoc2.wy
      obtain ⟨ot2, ct2, rfl⟩ : ∃ o c, vt2 = .slice o C.tb.length c := by
        obtain ⟨o, c, e⟩ := hoc2.tb.form
        refine ⟨o, c, e.trans ?_⟩
        show Value.slice o T.length c = _
        rw [hTl]
      have HOC2 := Lib.hid hoc2
      have hbl6 := below_fr hbw hFR.out (fun g hg => by have := (MM.out g hg).1; omega)
      have hbl7 : RowKit.Below w.heap.size w w7 := hbl6.trans (hb7.mono hbl6.size)
      have hsw : w.heap.size + 1 < wr.heap.size := by omega
      have N1 := (hb7.block _ hsw).trans ((hFR.out.same (w.heap.size + 1) (by omega) (fun h => by have := (MM.out _ h).1; omega)).trans HM1.out)
      have r0 : w7.cell? ⟨w.heap.size + 1, 0, none⟩ = some (.slice none 0 0) := (cell_b N1).trans rfl
      have r1 : w7.cell? ⟨w.heap.size + 1, 1, none⟩ = some (.int .i64 0) := (cell_b N1).trans rfl
      have r2 : w7.cell? ⟨w.heap.size + 1, 2, none⟩ = some (.slice none 0 0) := (cell_b N1).trans rfl
      have r3 : w7.cell? ⟨w.heap.size + 1, 3, none⟩ = some (.slice none 0 0) := (cell_b N1).trans rfl
      have r4 : w7.cell? ⟨w.heap.size + 1, 4, none⟩ = some (.slice none 0 0) := (cell_b N1).trans rfl
      have g0 : w7.frozen? ⟨w.heap.size + 1, 0, none⟩ = false := by simp [World.frozen?, N1]
      have g1 : w7.frozen? ⟨w.heap.size + 1, 1, none⟩ = false := by simp [World.frozen?, N1]
      have g2 : w7.frozen? ⟨w.heap.size + 1, 2, none⟩ = false := by simp [World.frozen?, N1]
      have g3 : w7.frozen? ⟨w.heap.size + 1, 3, none⟩ = false := by simp [World.frozen?, N1]
      have g4 : w7.frozen? ⟨w.heap.size + 1, 4, none⟩ = false := by simp [World.frozen?, N1]
      have FZ := Lib.hid (five_cells (.slice op2 C.pt.length cp2) (.int .i64 C.ten) (.slice oe2 C.pe.length ce2) (.slice ow2 C.wy.length cw2) (.slice ot2 C.tb.length ct2) N1)
      clear hoc2 N1 q0 q1 q2 q3 q4
      go_wp2_with fail
      (try simp only [Exit.inBlock, Exit.then])
      refine bodyPost_ret (results_c31 rfl _ _ (w.heap.size + 1) _ _ _ _ _ (0, 0) rfl FZ.out) rfl ?_
      rw [HAP.out, HRN.out]
      refine ⟨_, _, _, _, m2, rfl, HOC2.out.to (by omega) (fun g hg _ => ?_) (by simp), Below.setCell (Below.setCell (Below.setCell (Below.setCell (Below.setCell hbl7 (by simp) _) (by simp) _) (by simp) _) (by simp) _) (by simp) _⟩
      have hne : g ≠ w.heap.size + 1 := by omega
      exact (Below.heap_setCell _ _ _ _ hne).trans ((Below.heap_setCell _ _ _ _ hne).trans ((Below.heap_setCell _ _ _ _ hne).trans ((Below.heap_setCell _ _ _ _ hne).trans (Below.heap_setCell _ _ _ _ hne))))
end Go.Proofs.Ytdmakcfgcgioeaa
