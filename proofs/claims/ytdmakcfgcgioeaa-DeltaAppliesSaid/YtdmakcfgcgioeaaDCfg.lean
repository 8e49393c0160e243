/- Delta: configs; Clone. -/
import Derived.Test.YtdmakcfgcgioeaaDDeep
import Derived.Handy
namespace Go.Proofs.Ytdmakcfgcgioeaa
open Go.RowKit Go.Maps
set_option linter.unusedSimpArgs false
set_option linter.unusedVariables false
set_option maxRecDepth 100000
structure Cf where
  pt : List (List Pt)
  ten : Int
  pe : List (Int × Int)
  wy : List (Int × Int × Int)
  tb : List (List (List Ru))
deriving DecidableEq, Inhabited
/-- as it is read. -/
structure RC (W : World) (C : Cf) (vp ve vw vt : Value) : Prop where
  pt : Rows (Sl ceP) W C.pt vp
  pe : Sl ce2 W C.pe ve
  wy : Sl ce3 W C.wy vw
  tb : Rows (Rows (Sl ceR)) W C.tb vt
theorem RC.below {W W' : World} {C : Cf} {vp ve vw vt : Value} (h : RC W C vp ve vw vt) (hb : RowKit.Below W.heap.size W W') : RC W' C vp ve vw vt :=
  ⟨h.pt.below (fun _ _ h => h.below hb) hb, h.pe.below hb, h.wy.below hb, h.tb.below (fun _ _ h => h.below (fun _ _ h => h.below hb) hb) hb⟩
/-- no list is longer than memory bears. -/
structure Bd (C : Cf) : Prop where
  pt : C.pt.length ≤ 5864062014805
  pts : ∀ l ∈ C.pt, l.length ≤ 3518437208883
  pe : C.pe.length ≤ 8796093022208
  wy : C.wy.length ≤ 5864062014805
  tb : C.tb.length ≤ 5864062014805
  tbs : ∀ t ∈ C.tb, t.length ≤ 5864062014805
  tbl : ∀ t ∈ C.tb, ∀ l ∈ t, l.length ≤ 1466015503701
/-- of its own memory: the tables from block m on, the rest between a and m. -/
structure OC (W : World) (a m : Nat) (C : Cf) (vp ve vw vt : Value) : Prop where
  am : a ≤ m
  mw : m ≤ W.heap.size
  pt : OR 58 (O1 ceP 73 5) W (fun g => a ≤ g ∧ g < m) C.pt vp
  pe : O1 ce2 63 2 W (fun g => a ≤ g ∧ g < m) C.pe ve
  wy : O1 ce3 65 3 W (fun g => a ≤ g ∧ g < m) C.wy vw
  tb : OR 43 (OR 44 (O1 ceR 53 12)) W (fun g => m ≤ g) C.tb vt
theorem OC.rc {W : World} {a m : Nat} {C : Cf} {vp ve vw vt : Value} (h : OC W a m C vp ve vw vt) : RC W C vp ve vw vt :=
  ⟨h.pt.rows _ fun h => h.sl, h.pe.sl, h.wy.sl, h.tb.rows _ fun h => h.rows _ fun h => h.sl⟩
theorem wide_of {t : TypeId} (h : ((Try.prog.underlying t).any fun d => match d with | .struct _ | .array _ _ => true | _ => false) = true) : ∃ d, Try.prog.underlying t = some d ∧ (match d with | .struct _ | .array _ _ => true | _ => false) = true := by
  cases hu : Try.prog.underlying t with
  | none => rw [hu] at h; cases h
  | some d => rw [hu] at h; exact ⟨d, rfl, h⟩
theorem wide31 : ((Try.prog.underlying 31).any fun d => match d with | .struct _ | .array _ _ => true | _ => false) = true := by kernel_rfl
theorem siz31 : (Try.prog.info? 31).map (·.size) = some 5 := by kernel_rfl
theorem inf43 : (Try.prog.info? 43).map (fun i => (i.zero, i.size, i.bytes)) = some (some (.slice none 0 0), 1, 24) := by kernel_rfl
set_option maxHeartbeats 8000000 in
theorem clone_cf (w : World) {C : Cf} {vp ve vw vt : Value} (h : RC w C vp ve vw vt) (hbd : Bd C) :
    Calls Try.prog 14 #[.agg #[vp, .int .i64 C.ten, ve, vw, vt]] w fun e w' => ∃ vp' ve' vw' vt' m, e = .returned (.agg #[vp', .int .i64 C.ten, ve', vw', vt']) ∧ OC w' w.heap.size m C vp' ve' vw' vt' ∧ RowKit.Below w.heap.size w w' := by
  obtain ⟨op, cp, ep⟩ : ∃ o c, vp = .slice o C.pt.length c := by obtain ⟨o, c, vs, e, _⟩ := h.pt; exact ⟨o, c, e⟩
  obtain ⟨oe, ce, ee⟩ : ∃ o c, ve = .slice o C.pe.length c := by obtain ⟨o, c, e, _⟩ := h.pe; exact ⟨o, c, e⟩
  obtain ⟨ow, cw, ew⟩ : ∃ o c, vw = .slice o C.wy.length c := by obtain ⟨o, c, e, _⟩ := h.wy; exact ⟨o, c, e⟩
  obtain ⟨ot, ct, et⟩ : ∃ o c, vt = .slice o C.tb.length c := by obtain ⟨o, c, vs, e, _⟩ := h.tb; exact ⟨o, c, e⟩
  subst ep ee ew et
  obtain ⟨W, hW⟩ : ∃ W, Hid (W = (w.alloc (.cells #[.slice op C.pt.length cp, .int .i64 C.ten, .slice oe C.pe.length ce, .slice ow C.wy.length cw, .slice ot C.tb.length ct] 31)).alloc (.cells #[.slice none 0 0, .int .i64 0, .slice none 0 0, .slice none 0 0, .slice none 0 0] 31)) := ⟨_, Lib.hid rfl⟩
  have hbx : RowKit.Below w.heap.size w W := by rw [hW.out]; exact below2 _ _ _
  have hs : W.heap.size = w.heap.size + 1 + 1 := by rw [hW.out]; simp
  have hm0 : W.heap[w.heap.size]? = some (.cells #[.slice op C.pt.length cp, .int .i64 C.ten, .slice oe C.pe.length ce, .slice ow C.wy.length cw, .slice ot C.tb.length ct] 31 (0, 0)) := by
    rw [hW.out, al_lt' (by simp)]; exact heap_alloc_new w _
  have hm1 : W.heap[w.heap.size + 1]? = some (.cells #[.slice none 0 0, .int .i64 0, .slice none 0 0, .slice none 0 0, .slice none 0 0] 31 (0, 0)) := by
    have := heap_alloc_new (w.alloc (.cells #[.slice op C.pt.length cp, .int .i64 C.ten, .slice oe C.pe.length ce, .slice ow C.wy.length cw, .slice ot C.tb.length ct] 31)) (.cells #[.slice none 0 0, .int .i64 0, .slice none 0 0, .slice none 0 0, .slice none 0 0] 31)
    rw [hW.out]
    rwa [World.size_alloc] at this
  have hd := deepP W (h.pt.below (fun _ _ h => h.below hbx) hbx) hbd.pt hbd.pts
  rw [hW.out] at hd
  go_enter Try.func14, Try.ntmps14
  go_wp2_with fail
  refine hd.mono ?_
  rw [← hW.out]
  rintro e w1 ⟨vp1, rfl, hp1, hb1⟩
  clear hd
  obtain ⟨op1, cp1, rfl⟩ := hp1.form
  have hm01 := (hb1.block _ (by omega)).trans hm0
  have hm11 := (hb1.block _ (by omega)).trans hm1
  have x0 : w1.cell? ⟨w.heap.size, 0, none⟩ = some (.slice op C.pt.length cp) := (cell_b (o := 0) hm01).trans rfl
  have f0 : w1.frozen? ⟨w.heap.size, 0, none⟩ = false := by simp [World.frozen?, hm01]
  have HP1 := Lib.hid hp1
  clear hp1
  have hfr : ∀ V, RowKit.Below w.heap.size w1 V → True := fun _ _ => trivial
  go_upto_region 2 with (fail)
  refine wp_world (fun V => V.heap[w.heap.size]? = some (.cells #[.slice op1 C.pt.length cp1, .int .i64 C.ten, .slice oe C.pe.length ce, .slice ow C.wy.length cw, .slice ot C.tb.length ct] 31 (0, 0)) ∧ V.heap[w.heap.size + 1]? = some (.cells #[.slice none 0 0, .int .i64 0, .slice none 0 0, .slice none 0 0, .slice none 0 0] 31 (0, 0)) ∧ OR 58 (O1 ceP 73 5) V (fun g => W.heap.size ≤ g ∧ g < V.heap.size) C.pt (.slice op1 C.pt.length cp1) ∧ RowKit.Below w.heap.size w V ∧ W.heap.size ≤ V.heap.size) ⟨(sc_at9 hm01).trans rfl, (Below.heap_setCell _ _ _ _ (by simp)).trans hm11, (goodR (good1 _ _ _)).frame ((goodR (good1 _ _ _)).mono HP1.out (fun g h1 h2 => ⟨h1, by simpa using h2⟩)) (fun g hg _ => Below.heap_setCell _ _ _ _ (by have := hg.1; simp; omega)), Below.setCell (hbx.trans (hb1.mono (by omega))) (Nat.le_refl _) _, by have := hb1.size; simpa using this⟩ ?_
  clear hm01 hm11 x0 f0 HP1 hb1 hfr
  rintro W2 ⟨m0, m1, hp, hb2, hs2⟩
  have HP := Lib.hid hp
  have RCw := Lib.hid (h.below hb2)
  clear hp
  go_cut [25] from 12 to 24 (fun v25 wx => ∃ o2 c2 o3 c3, wx.heap[w.heap.size]? = some (.cells #[.slice op1 C.pt.length cp1, .int .i64 C.ten, .slice o2 C.pe.length c2, .slice o3 C.wy.length c3, .slice ot C.tb.length ct] 31 (0, 0)) ∧ wx.heap[w.heap.size + 1]? = some (.cells #[.slice none 0 0, .int .i64 0, .slice none 0 0, .slice none 0 0, .slice none 0 0] 31 (0, 0)) ∧ OR 58 (O1 ceP 73 5) wx (fun g => W.heap.size ≤ g ∧ g < wx.heap.size) C.pt (.slice op1 C.pt.length cp1) ∧ O1 ce2 63 2 wx (fun g => W.heap.size ≤ g ∧ g < wx.heap.size) C.pe (.slice o2 C.pe.length c2) ∧ O1 ce3 65 3 wx (fun g => W.heap.size ≤ g ∧ g < wx.heap.size) C.wy (.slice o3 C.wy.length c3) ∧ RowKit.Below w.heap.size w wx ∧ W.heap.size ≤ wx.heap.size)
  case first =>
    have KS : Hid (∀ V, RowKit.Below W2.heap.size W2 V → V.heap[w.heap.size]? = some (.cells #[.slice op1 C.pt.length cp1, .int .i64 C.ten, .slice oe C.pe.length ce, .slice ow C.wy.length cw, .slice ot C.tb.length ct] 31 (0, 0))) := fun V hV => (hV.block _ (by omega)).trans m0
    have KC : Hid (∀ V, RowKit.Below W2.heap.size W2 V → (V.cell? ⟨w.heap.size, 2, none⟩ = some (.slice oe C.pe.length ce) ∧ V.cell? ⟨w.heap.size, 3, none⟩ = some (.slice ow C.wy.length cw)) ∧ V.frozen? ⟨w.heap.size, 2, none⟩ = false ∧ V.frozen? ⟨w.heap.size, 3, none⟩ = false) := fun V hV => ⟨⟨(cell_b (KS.out V hV)).trans rfl, (cell_b (KS.out V hV)).trans rfl⟩, by simp [World.frozen?, KS.out V hV], by simp [World.frozen?, KS.out V hV]⟩
    have H2 : Hid (∀ V, RowKit.Below W2.heap.size W2 V → Calls Try.prog 26 #[.slice oe C.pe.length ce] V fun e w' => ∃ o c, e = .returned (.slice o C.pe.length c) ∧ Ow w' (fun g => W2.heap.size ≤ g) 63 2 (.slice o C.pe.length c) C.pe.length (C.pe.flatMap ce2) ∧ RowKit.Below V.heap.size V w' ∧ RowKit.Below W2.heap.size W2 w') := fun V hV => by
      obtain ⟨o, c, e1, e2, e3⟩ := RCw.out.pe
      obtain ⟨rfl, rfl⟩ : oe = o ∧ ce = c := by simpa using e1
      refine (clone2 V (e3.below hV) e2 hbd.pe).mono ?_
      rintro e w' ⟨v, rfl, h1, h2⟩
      obtain ⟨o, c, rfl⟩ := h1.form
      exact ⟨o, c, rfl, h1.mono (fun g _ h => Nat.le_trans hV.size h), h2, below_st hV h2⟩
    have H3 : Hid (∀ V, RowKit.Below W2.heap.size W2 V → Calls Try.prog 28 #[.slice ow C.wy.length cw] V fun e w' => ∃ o c, e = .returned (.slice o C.wy.length c) ∧ Ow w' (fun g => W2.heap.size ≤ g) 65 3 (.slice o C.wy.length c) C.wy.length (C.wy.flatMap ce3) ∧ RowKit.Below V.heap.size V w' ∧ RowKit.Below W2.heap.size W2 w') := fun V hV => by
      obtain ⟨o, c, e1, e2, e3⟩ := RCw.out.wy
      obtain ⟨rfl, rfl⟩ : ow = o ∧ cw = c := by simpa using e1
      refine (cloneW V (e3.below hV) e2 hbd.wy).mono ?_
      rintro e w' ⟨v, rfl, h1, h2⟩
      obtain ⟨o, c, rfl⟩ := h1.form
      exact ⟨o, c, rfl, h1.mono (fun g _ h => Nat.le_trans hV.size h), h2, below_st hV h2⟩
    have FIN : Hid (∀ wa wb o2 c2 o3 c3, RowKit.Below W2.heap.size W2 wa → Ow wa (fun g => W2.heap.size ≤ g) 63 2 (.slice o2 C.pe.length c2) C.pe.length (C.pe.flatMap ce2) → RowKit.Below W2.heap.size W2 wb → RowKit.Below wa.heap.size wa wb → Ow wb (fun g => W2.heap.size ≤ g) 65 3 (.slice o3 C.wy.length c3) C.wy.length (C.wy.flatMap ce3) →
        ((wb.setCell ⟨w.heap.size, 2, none⟩ (.slice o2 C.pe.length C.pe.length)).setCell ⟨w.heap.size, 3, none⟩ (.slice o3 C.wy.length C.wy.length)).heap[w.heap.size]? = some (.cells #[.slice op1 C.pt.length cp1, .int .i64 C.ten, .slice o2 C.pe.length C.pe.length, .slice o3 C.wy.length C.wy.length, .slice ot C.tb.length ct] 31 (0, 0)) ∧ ((wb.setCell ⟨w.heap.size, 2, none⟩ (.slice o2 C.pe.length C.pe.length)).setCell ⟨w.heap.size, 3, none⟩ (.slice o3 C.wy.length C.wy.length)).heap[w.heap.size + 1]? = some (.cells #[.slice none 0 0, .int .i64 0, .slice none 0 0, .slice none 0 0, .slice none 0 0] 31 (0, 0)) ∧ OR 58 (O1 ceP 73 5) ((wb.setCell ⟨w.heap.size, 2, none⟩ (.slice o2 C.pe.length C.pe.length)).setCell ⟨w.heap.size, 3, none⟩ (.slice o3 C.wy.length C.wy.length)) (fun g => W.heap.size ≤ g ∧ g < ((wb.setCell ⟨w.heap.size, 2, none⟩ (.slice o2 C.pe.length C.pe.length)).setCell ⟨w.heap.size, 3, none⟩ (.slice o3 C.wy.length C.wy.length)).heap.size) C.pt (.slice op1 C.pt.length cp1) ∧ O1 ce2 63 2 ((wb.setCell ⟨w.heap.size, 2, none⟩ (.slice o2 C.pe.length C.pe.length)).setCell ⟨w.heap.size, 3, none⟩ (.slice o3 C.wy.length C.wy.length)) (fun g => W.heap.size ≤ g ∧ g < ((wb.setCell ⟨w.heap.size, 2, none⟩ (.slice o2 C.pe.length C.pe.length)).setCell ⟨w.heap.size, 3, none⟩ (.slice o3 C.wy.length C.wy.length)).heap.size) C.pe (.slice o2 C.pe.length C.pe.length) ∧ O1 ce3 65 3 ((wb.setCell ⟨w.heap.size, 2, none⟩ (.slice o2 C.pe.length C.pe.length)).setCell ⟨w.heap.size, 3, none⟩ (.slice o3 C.wy.length C.wy.length)) (fun g => W.heap.size ≤ g ∧ g < ((wb.setCell ⟨w.heap.size, 2, none⟩ (.slice o2 C.pe.length C.pe.length)).setCell ⟨w.heap.size, 3, none⟩ (.slice o3 C.wy.length C.wy.length)).heap.size) C.wy (.slice o3 C.wy.length C.wy.length) ∧ RowKit.Below w.heap.size w ((wb.setCell ⟨w.heap.size, 2, none⟩ (.slice o2 C.pe.length C.pe.length)).setCell ⟨w.heap.size, 3, none⟩ (.slice o3 C.wy.length C.wy.length)) ∧ W.heap.size ≤ ((wb.setCell ⟨w.heap.size, 2, none⟩ (.slice o2 C.pe.length C.pe.length)).setCell ⟨w.heap.size, 3, none⟩ (.slice o3 C.wy.length C.wy.length)).heap.size) := by
      refine Lib.hid fun wa wb o2 c2 o3 c3 ha hq2 hb hab hq3 => ?_
      obtain ⟨Z, hZ⟩ : ∃ Z, Z = (wb.setCell ⟨w.heap.size, 2, none⟩ (.slice o2 C.pe.length C.pe.length)).setCell ⟨w.heap.size, 3, none⟩ (.slice o3 C.wy.length C.wy.length) := ⟨_, rfl⟩
      rw [← hZ]
      have hzs : Z.heap.size = wb.heap.size := by rw [hZ]; simp
      have hzo : ∀ g, g ≠ w.heap.size → Z.heap[g]? = wb.heap[g]? := fun g hg => by rw [hZ]; exact (Below.heap_setCell _ _ _ _ hg).trans (Below.heap_setCell _ _ _ _ hg)
      have s1 := ha.size
      have s2 := hab.size
      refine ⟨?_, (hzo _ (by omega)).trans ((hb.block _ (by omega)).trans m1), ?_, ?_, ?_, ?_, by omega⟩
      · rw [hZ]; exact (sc_at9 (sc_at9 (KS.out _ hb))).trans rfl
      · refine (goodR (good1 _ _ _)).mono ((goodR (good1 _ _ _)).frame HP.out (fun g hg hl => (hzo g (by have := hg.1; omega)).trans (hb.block g hl))) (fun g hg hl => ⟨hg.1, hl⟩)
      · exact ((hq2.clip.below hab).keep fun g hg => hzo g (by have := (hq2.clip.lt hg).1; omega)).mono fun g hg _ => ⟨by have := (hq2.clip.lt hg).1; omega, by have := (hq2.clip.lt hg).2; omega⟩
      · exact (hq3.clip.keep fun g hg => hzo g (by have := (hq3.clip.lt hg).1; omega)).mono fun g hg _ => ⟨by have := (hq3.clip.lt hg).1; omega, by have := (hq3.clip.lt hg).2; omega⟩
      · rw [hZ]; exact Below.setCell (Below.setCell (hb2.trans (hb.mono hb2.size)) (Nat.le_refl _) _) (Nat.le_refl _) _
    obtain ⟨⟨k2, k3⟩, g2, g3⟩ := KC.out W2 (Below.refl _ _)
    go_region_with (first
      | (go_at_call 26; refine (H2.out _ ?_).mono ?_; (focus (repeat (first | exact Below.refl _ _ | exact hbA | refine below_dr ?_ | refine below_al ?_ _))); rintro e wa ⟨o2, c2, rfl, hq2, hbb, hbA⟩; obtain ⟨⟨k2, k3⟩, g2, g3⟩ := KC.out _ hbA)
      | (go_at_call 25; refine (clip2 _ hq2.nn hq2.rd.1 hq2.rd.2.1).mono ?_; rintro e wa ⟨rfl, rfl⟩)
      | (go_at_call 28; refine (H3.out _ ?_).mono ?_; (focus (repeat (first | exact Below.refl _ _ | exact hbA | refine below_dr ?_ | refine below_al ?_ _))); rintro e wb ⟨o3, c3, rfl, hq3, hbb2, hbA⟩; obtain ⟨⟨k2, k3⟩, g2, g3⟩ := KC.out _ hbA)
      | (go_at_call 27; refine (clipW _ hq3.nn hq3.rd.1 hq3.rd.2.1).mono ?_; rintro e wb ⟨rfl, rfl⟩))
    all_goals clear H2 H3 KC k2 k3 g2 g3
    all_goals go_wp2_with fail
    all_goals (go_meet; case rel => exact ⟨o2, _, o3, _, FIN.out _ _ _ _ _ _ (by assumption) hq2 hbA hbb2 hq3⟩)
  case rest =>
    obtain ⟨o2, c2, o3, c3, m0', m1', hp', hpe', hwy', hb3, hs3⟩ := hcut
    rename_i Kc hKc
    refine hKc _ _ ?_
    clear hKc HP RCw m0 m1 hb2 hs2 hm0 hm1 hW
    refine wp_world (fun W1 => W1 = wc) rfl ?_
    rintro W3 rfl
    have HPT := Lib.hid hp'
    have HPE := Lib.hid hpe'
    have HWY := Lib.hid hwy'
    have M0 := Lib.hid m0'
    have M1 := Lib.hid m1'
    have hr := (h.below hb3).tb
    obtain ⟨o', c', vs, e', h0, ⟨hr1, hr2, b, off, hr3, hr4⟩, hvl, hel⟩ := hr
    obtain ⟨rfl, rfl⟩ : ot = o' ∧ ct = c' := by simpa using e'
    have HEL : Hid (∀ i (hi : i < C.tb.length), ∃ o c, vs[i]? = some (.slice o C.tb[i].length c) ∧ Rows (Sl ceR) W3 C.tb[i] (.slice o C.tb[i].length c)) := Lib.hid fun i hi => by
      obtain ⟨u, h1, h2⟩ := hel i hi
      obtain ⟨o, c, ws, rfl, h3⟩ := h2
      exact ⟨o, c, h1, o, c, ws, rfl, h3⟩
    obtain ⟨j0, ji, jz0, jz1, jz2⟩ := info_parts inf43
    have HR := Lib.hid hr4
    have H3 := Lib.hid hr3
    have BT := Lib.hid hbd.tb
    have x4 : W3.cell? ⟨w.heap.size, 4, none⟩ = some (.slice ot C.tb.length ct) := (cell_b m0').trans rfl
    have l0 : w.heap.size < W3.heap.size := by omega
    clear hp' hpe' hwy' m0' m1' h0 hr3 hr4 hel h e'
    obtain ⟨n, hn⟩ : ∃ n, Hid (C.tb.length = n) := ⟨_, Lib.hid rfl⟩
    rw [hn.out] at x4 hr1 hvl H3 BT M0
    simp only [maxLen] at hr2
    go_wp2_with fail
    go_loopw [3, 29] (fun v3 v29 wr => ∃ k : Nat, v29 = .int .i64 (k : Int) ∧ k ≤ n ∧ OR 43 (OR 44 (O1 ceR 53 12)) wr (fun g => W3.heap.size ≤ g ∧ g < wr.heap.size) (C.tb.take k) v3 ∧ RowKit.Below W3.heap.size W3 wr) (fun _ v29 _ => n - (intOf v29).toNat)
    case atStart => exact ⟨0, rfl, Nat.zero_le _, ⟨_, _, OX.nil⟩, Below.refl _ _⟩
    case round =>
      obtain ⟨k, rfl, hk, ⟨ws, Ss, hox⟩, hbr⟩ := hrel
      have htl : (C.tb.take k).length = k := by rw [List.length_take, hn.out]; omega
      obtain ⟨o9, c9, e9⟩ := hox.row.form
      have hrow := hox.row
      rw [htl] at e9 hrow
      subst e9
      have HROW := Lib.hid hrow
      have HTL := Lib.hid htl
      have HOX := Lib.hid hox
      clear hox hrow htl
      by_cases hlt : k < n
      · have hltI : (k : Int) < (n : Int) := by omega
        obtain ⟨ou, cu, h1, h2⟩ := HEL.out k (by rw [hn.out]; exact hlt)
        have x0 := cell_below hbr (HR.out k _ h1)
        have ho' := Lib.hid (H3.out (by omega))
        have hmem : C.tb[k]'(by rw [hn.out]; exact hlt) ∈ C.tb := List.getElem_mem _
        have hb4 := hbd.tbs _ hmem
        have hb5 := hbd.tbl _ hmem
        have htk := Lib.hid (take_snoc C.tb k (by rw [hn.out]; exact hlt))
        obtain ⟨tk, htk9⟩ : ∃ tk, Hid (C.tb[k]'(by rw [hn.out]; exact hlt) = tk) := ⟨_, Lib.hid rfl⟩
        rw [htk9.out] at h2 x0 hb4 hb5 htk
        have hcl := deepR wr (h2.below (fun _ _ h => h.below hbr) hbr) hb4 hb5
        clear h1 h2 hmem hb5
        rw [ho'.out]
        go_wp2_with fail
        refine hcl.mono ?_
        rintro e w1 ⟨u, rfl, hou, hb1⟩
        obtain ⟨ou2, cu2, rfl⟩ := hou.form
        have HOU := Lib.hid hou
        clear hou hcl
        have hp : k + 1 ≤ maxLen := by have := BT.out; simp only [maxLen]; omega
        have hq : (k + 1) * 24 ≤ 140737488355328 := by have := BT.out; omega
        have hsz := hbr.size
        have hsz1 := hb1.size
        go_wp2_with (first
          | (at_builtin; refine wpList_app_ow rfl _ _ 29 rfl (fun g => W3.heap.size ≤ g) 43 j0 (.slice none 0 0) 1 24 und29 ji jz0 jz1 jz2 rfl (by decide) (.slice o9 k c9) k ws (by simp [Act.eval, Act.put]) (some ⟨w1.heap.size, 0, none⟩) 1 1 [.slice ou2 tk.length cu2] (by simp [Act.eval, Act.put]) ?_ rfl (fun _ => ⟨_, rfl, cell_one_new _ _ _⟩) (by intro u hu; simp at hu; subst hu; rfl) hp hq (by simp; omega) ?_)
          | fail)
        case refine_1 => exact (HROW.out.mono (fun g _ h => h.1)).keep fun g hg => (al_lt' (by have := (HROW.out.lt hg).2; omega)).trans (hb1.block g (HROW.out.lt hg).2)
        case refine_2 =>
          intro o' c' w3 hown hg hat hsm
          have hs3 := hg.size
          simp only [World.size_alloc] at hs3
          have hsn : OR 43 (OR 44 (O1 ceR 53 12)) w3 (fun g => W3.heap.size ≤ g ∧ g < w3.heap.size) (C.tb.take k ++ [tk]) (.slice o' (k + 1) c') := HOX.out.snoc (goodR (good1 _ _ _)) HOU.out (fun g hg => hg) hb1 (below_al (Below.refl _ _) _) (by rw [HTL.out]; exact hown) hg (by first | exact hat | simpa using hat) (fun g h hl => ⟨h.1, by omega⟩) (fun g h1 h2 => ⟨by omega, h2⟩)
          rw [← htk.out] at hsn
          have hbn := below_grown (below_al (below_st hbr hb1) _) (fun g hgv => (HROW.out.lt hgv).1.1) hg
          have HSN := Lib.hid hsn
          clear hown hat hsn hsm
          go_wp2_with fail
          go_roundw
          case rel => exact ⟨k + 1, by go_num, by omega, HSN.out, hbn⟩
          case measure => simp [intOf]; omega
      · obtain rfl : k = n := by omega
        have htk : C.tb.take k = C.tb := by rw [← hn.out, List.take_length]
        have hox := HOX.out
        rw [htk] at hox
        have hoc := clipRRR wr (o := o9) (n := k) (c := c9) HROW.out.nn HROW.out.rd.1 HROW.out.rd.2.1
        have HC := Lib.hid (hox.clip hn.out.symm)
        have N0 := (hbr.block _ l0).trans M0.out
        have N1 := (hbr.block _ (by omega : w.heap.size + 1 < W3.heap.size)).trans M1.out
        have hs9 := hbr.size
        have x4' : wr.cell? ⟨w.heap.size, 4, none⟩ = some (.slice ot k ct) := (cell_b N0).trans rfl
        have f4 : wr.frozen? ⟨w.heap.size, 4, none⟩ = false := by simp [World.frozen?, N0]
        clear hox htk x4
        go_wp2_with fail
        refine hoc.mono ?_
        rintro e wr ⟨rfl, rfl⟩
        clear hoc
        go_upto_region 10 with (fail)
        refine wp_world (fun V => V.heap[w.heap.size]? = some (.cells #[.slice op1 C.pt.length cp1, .int .i64 C.ten, .slice o2 C.pe.length c2, .slice o3 C.wy.length c3, .slice o9 k k] 31 (0, 0)) ∧ V.heap[w.heap.size + 1]? = some (.cells #[.slice none 0 0, .int .i64 0, .slice none 0 0, .slice none 0 0, .slice none 0 0] 31 (0, 0)) ∧ (∀ g, g ≠ w.heap.size → V.heap[g]? = wr.heap[g]?) ∧ RowKit.Below w.heap.size w V ∧ W3.heap.size ≤ V.heap.size) ⟨(sc_at9 N0).trans rfl, (Below.heap_setCell _ _ _ _ (by simp)).trans N1, fun g hg => Below.heap_setCell _ _ _ _ hg, Below.setCell (hb3.trans (hbr.mono hb3.size)) (Nat.le_refl _) _, by have := hbr.size; simpa using this⟩ ?_
        clear x4' f4 N0 N1
        rintro V ⟨N0, N1, hsame, hbV, hV9⟩
        have HSAME := Lib.hid hsame
        have y0 : V.cell? ⟨w.heap.size, 0, none⟩ = some (.slice op1 C.pt.length cp1) := (cell_b N0).trans rfl
        have y1 : V.cell? ⟨w.heap.size, 1, none⟩ = some (.int .i64 C.ten) := (cell_b N0).trans rfl
        have y2 : V.cell? ⟨w.heap.size, 2, none⟩ = some (.slice o2 C.pe.length c2) := (cell_b N0).trans rfl
        have y3 : V.cell? ⟨w.heap.size, 3, none⟩ = some (.slice o3 C.wy.length c3) := (cell_b N0).trans rfl
        have y4 : V.cell? ⟨w.heap.size, 4, none⟩ = some (.slice o9 k k) := (cell_b N0).trans rfl
        have r0 : V.cell? ⟨w.heap.size + 1, 0, none⟩ = some (.slice none 0 0) := (cell_b N1).trans rfl
        have r1 : V.cell? ⟨w.heap.size + 1, 1, none⟩ = some (.int .i64 0) := (cell_b N1).trans rfl
        have r2 : V.cell? ⟨w.heap.size + 1, 2, none⟩ = some (.slice none 0 0) := (cell_b N1).trans rfl
        have r3 : V.cell? ⟨w.heap.size + 1, 3, none⟩ = some (.slice none 0 0) := (cell_b N1).trans rfl
        have r4 : V.cell? ⟨w.heap.size + 1, 4, none⟩ = some (.slice none 0 0) := (cell_b N1).trans rfl
        have g0 : V.frozen? ⟨w.heap.size + 1, 0, none⟩ = false := by simp [World.frozen?, N1]
        have g1 : V.frozen? ⟨w.heap.size + 1, 1, none⟩ = false := by simp [World.frozen?, N1]
        have g2 : V.frozen? ⟨w.heap.size + 1, 2, none⟩ = false := by simp [World.frozen?, N1]
        have g3 : V.frozen? ⟨w.heap.size + 1, 3, none⟩ = false := by simp [World.frozen?, N1]
        have g4 : V.frozen? ⟨w.heap.size + 1, 4, none⟩ = false := by simp [World.frozen?, N1]
        have FZ := Lib.hid ((sc_at9 (o := 4) (v := .slice o9 k k) (sc_at9 (o := 3) (v := .slice o3 C.wy.length c3) (sc_at9 (o := 2) (v := .slice o2 C.pe.length c2) (sc_at9 (o := 1) (v := .int .i64 C.ten) (sc_at9 (o := 0) (v := .slice op1 C.pt.length cp1) N1))))).trans rfl)
        have hsm : ∀ g, g ≠ w.heap.size + 1 → (((((V.setCell ⟨w.heap.size + 1, 0, none⟩ (.slice op1 C.pt.length cp1)).setCell ⟨w.heap.size + 1, 1, none⟩ (.int .i64 C.ten)).setCell ⟨w.heap.size + 1, 2, none⟩ (.slice o2 C.pe.length c2)).setCell ⟨w.heap.size + 1, 3, none⟩ (.slice o3 C.wy.length c3)).setCell ⟨w.heap.size + 1, 4, none⟩ (.slice o9 k k)).heap[g]? = V.heap[g]? := fun g hg => (Below.heap_setCell _ _ _ _ hg).trans ((Below.heap_setCell _ _ _ _ hg).trans ((Below.heap_setCell _ _ _ _ hg).trans ((Below.heap_setCell _ _ _ _ hg).trans (Below.heap_setCell _ _ _ _ hg))))
        have HSM := Lib.hid hsm
        clear N0 N1 hsame hsm
        go_wp2_with fail
        obtain ⟨d31, hu31, hd31⟩ := wide_of wide31
        (try simp only [Exit.inBlock, Exit.then])
        refine bodyPost_ret (results_cell_row (P := Try.prog) rfl _ _ (w.heap.size + 1) 31 #[.slice op1 C.pt.length cp1, .int .i64 C.ten, .slice o2 C.pe.length c2, .slice o3 C.wy.length c3, .slice o9 k k] (0, 0) d31 rfl FZ.out hu31 (by cases d31 <;> first | rfl | (simp at hd31)) siz31) rfl ?_
        have hs10 := hb3.size
        have hfr : ∀ g, W.heap.size ≤ g → (((((V.setCell ⟨w.heap.size + 1, 0, none⟩ (.slice op1 C.pt.length cp1)).setCell ⟨w.heap.size + 1, 1, none⟩ (.int .i64 C.ten)).setCell ⟨w.heap.size + 1, 2, none⟩ (.slice o2 C.pe.length c2)).setCell ⟨w.heap.size + 1, 3, none⟩ (.slice o3 C.wy.length c3)).setCell ⟨w.heap.size + 1, 4, none⟩ (.slice o9 k k)).heap[g]? = wr.heap[g]? := fun g hg => (HSM.out g (by omega)).trans (HSAME.out g (by omega))
        refine ⟨_, _, _, _, W3.heap.size, rfl, ⟨by omega, by simpa using hV9, ?_, ?_, ?_, ?_⟩, ?_⟩
        · exact (goodR (good1 _ _ _)).mono ((goodR (good1 _ _ _)).frame HPT.out fun g hg hl => (hfr g hg.1).trans (hbr.block g hl)) fun g hg _ => ⟨by have := hg.1; omega, hg.2⟩
        · exact (good1 _ _ _).mono ((good1 _ _ _).frame HPE.out fun g hg hl => (hfr g hg.1).trans (hbr.block g hl)) fun g hg _ => ⟨by have := hg.1; omega, hg.2⟩
        · exact (good1 _ _ _).mono ((good1 _ _ _).frame HWY.out fun g hg hl => (hfr g hg.1).trans (hbr.block g hl)) fun g hg _ => ⟨by have := hg.1; omega, hg.2⟩
        · exact (goodR (goodR (good1 _ _ _))).mono ((goodR (goodR (good1 _ _ _))).frame ⟨_, _, HC.out⟩ fun g hg hl => hfr g (by have := hg.1; omega)) fun g hg _ => hg.1
        · exact Below.setCell (Below.setCell (Below.setCell (Below.setCell (Below.setCell hbV (by simp) _) (by simp) _) (by simp) _) (by simp) _) (by simp) _
end Go.Proofs.Ytdmakcfgcgioeaa
