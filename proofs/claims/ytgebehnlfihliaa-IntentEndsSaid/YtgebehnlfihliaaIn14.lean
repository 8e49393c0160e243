/- Intent: intent's Wants. -/
import Derived.Test.YtgebehnlfihliaaIn13
import Derived.Deep.RegionHeldLaw
namespace Go.Proofs.Ytgebehnlfihliaa
open Go.RowKit Go.Maps
set_option linter.unusedSimpArgs false
set_option linter.unusedVariables false
set_option maxRecDepth 100000
theorem below_al {W V : World} (h : RowKit.Below W.heap.size W V) (o : Obj) : RowKit.Below W.heap.size W (V.alloc o) := h.alloc h.size o
theorem below_dr {W V : World} (h : RowKit.Below W.heap.size W V) : RowKit.Below W.heap.size W V.drew := RowKit.Below.drew h
theorem below_st {W V V' : World} (h1 : RowKit.Below W.heap.size W V) (h2 : RowKit.Below V.heap.size V V') : RowKit.Below W.heap.size W V' := h1.trans (h2.mono h1.size)
theorem wf32 {a : Int} (h : (Lit.int .u32 a).wf = true) : 0 ≤ a ∧ a < 4294967296 := by
  simp [Lit.wf, IntKind.min, IntKind.max, IntKind.signed, IntKind.bits] at h
  omega
theorem edge_in {T : Tp} {sw po : Int} (h : 0 ≤ edgeF T sw po) : 0 ≤ sw ∧ sw < T.n := by
  unfold edgeF at h
  split at h
  · rename_i hh; exact ⟨hh.1, hh.2.1⟩
  · omega
theorem all_of {p : Nat → Bool} {n : Nat} (h : allB p n = true) {i : Nat} (hi : i < n) : p i = true := by
  unfold allB at h
  rw [List.all_eq_true] at h
  exact h i (by simpa using hi)
/-- what a sound intent is. -/
structure Snd (I : In) : Prop where
  s : soundE I.T = 0
  ne : I.ne ≤ 10
  nw : I.nw ≤ 4
  np : I.np ≤ 16
  na : I.na ≤ 8
  sw : ∀ k, k < I.ne → 0 ≤ (I.en k).sw ∧ (I.en k).sw < I.T.n
  via : ∀ m, m < I.nw → 0 ≤ (I.wy m).2.2 ∧ (I.wy m).2.2 < I.T.n
  dup : dupB (qW I) I.nw = false
  dupE : dupB (qE I) I.ne = false
  form : formB I = true
  sizes : sizesB I = true
theorem snd_of {I : In} (h : soundI I = 0) : Snd I := by
  unfold soundI at h
  split at h
  · rename_i h1; exact absurd h h1
  rename_i h1
  split at h
  · simp at h
  rename_i h2
  split at h
  · simp at h
  rename_i h3
  split at h
  · simp at h
  rename_i h4
  split at h
  · simp at h
  rename_i h5
  have hs : sizesB I = true := by simpa using h2
  have hf : formB I = true := by simpa using h3
  have hs2 := hs
  unfold sizesB at hs2
  rw [Bool.and_eq_true, decide_eq_true_eq] at hs2
  have hf2 := hf
  unfold formB at hf2
  rw [Bool.and_eq_true, Bool.and_eq_true, Bool.and_eq_true] at hf2
  refine ⟨by simpa using h1, by omega, by omega, by omega, by omega, fun k hk => ?_, fun m hm => ?_, by simpa using h5, by simpa using h4, hf, hs⟩
  · have := all_of hf2.1.2 hk
    unfold endsB endB at this
    rw [decide_eq_true_eq] at this
    exact edge_in (po := (I.en k).po) (by omega)
  · have := all_of hf2.1.1.2 hm
    unfold waysB wayB at this
    rw [Bool.and_eq_true, decide_eq_true_eq] at this
    exact this.2
theorem via_mem {I : In} {a b : Int} {x : Int} {k : Nat} (h : x ∈ viaL I a b k) : ∃ m, m < k ∧ viaB I a b m = true ∧ x = (I.wy m).2.2 := by
  unfold viaL at h
  rw [List.mem_map] at h
  obtain ⟨m, hm, rfl⟩ := h
  rw [List.mem_filter, List.mem_range] at hm
  exact ⟨m, hm.1, hm.2, rfl⟩
/-- the switches that are passed, and the last. -/
def stops (I : In) (sw po : Int) (k : Nat) : List Int := viaL I (edgeF I.T sw po) (I.en k).ten I.nw ++ [(I.en k).sw]
theorem stops_in {I : In} (hs : Snd I) (sw po : Int) {k : Nat} (hk : k < I.ne) : ∀ x, x ∈ stops I sw po k → 0 ≤ x ∧ x < I.T.n := by
  intro x hx
  unfold stops at hx
  rw [List.mem_append] at hx
  rcases hx with h | h
  · obtain ⟨m, hm, _, rfl⟩ := via_mem h
    exact hs.via m hm
  · simp at h; rw [h]; exact hs.sw k hk
theorem ads1_c (v0 v2 v3 : Value) (ad : Int) (n : Int) (h0 : 0 ≤ ad ∧ ad < 4294967296) (g : Nat) (W : World) (hg : W.cell? ⟨g, 0, none⟩ = some (.int .u64 n)) :
    Calls Try.prog 61 #[.agg #[v0, .int .u32 ad, v2, v3], .pointer (some ⟨g, 0, none⟩)] W fun e w' => e = .returned (.bool (decide (ad = n))) ∧ RowKit.Below W.heap.size W w' := by
  have hgl : g < W.heap.size := World.block_lt_of_cell? W _ hg
  have hba := (Below.refl W.heap.size W).alloc (Nat.le_refl _) (.cells #[v0, .int .u32 ad, v2, v3] 68)
  obtain ⟨h1, h2⟩ := h0
  have hr : Hid (decide (ad = n) = (ad == n)) := rfl
  rw [hr.out]
  go_enter Try.func61, Try.ntmps61
  go_wp2_with fail
  go_ret
  exact ⟨rfl, hba⟩
theorem eg61 : ∀ args w, (callFunc 61 args).run Try.prog w = .ok (.enter 61 args) w := enters_of Try.func61 (by kernel_rfl) rfl
theorem heap3 (w : World) (a b c : Obj) : (((w.alloc a).alloc b).alloc c).heap[w.heap.size]? = some a ∧ (((w.alloc a).alloc b).alloc c).heap[w.heap.size + 1]? = some b ∧ (((w.alloc a).alloc b).alloc c).heap[w.heap.size + 1 + 1]? = some c := by
  refine ⟨?_, ?_, ?_⟩
  · rw [al_lt' (by simp; omega), al_lt' (by simp)]; exact heap_alloc_new w _
  · rw [al_lt' (by simp)]
    have := heap_alloc_new (w.alloc a) b
    rwa [World.size_alloc] at this
  · have := heap_alloc_new ((w.alloc a).alloc b) c
    rwa [World.size_alloc, World.size_alloc] at this
set_option maxHeartbeats 8000000 in
theorem wants_c {r : Ir} {I : In} {w : World} (h : NA w r I) (hw : WfI I) (sw po : Int) {x y : Int} {X : BitVec 128} (hx : x = (Plain.hiOf X).toNat) (hy : y = (Plain.loOf X).toNat) :
    Calls Try.prog 29 #[.agg (I.cells r), .agg #[.int .i64 sw, .int .i64 po], .agg #[.int .u64 x, .int .u64 y]] w fun e w' => e = .returned (.tuple #[.int .i64 (wnt I sw po X).1, .bool (wnt I sw po X).2]) ∧ RowKit.Below w.heap.size w w' := by
  have ic : Hid (I.cells r = #[.slice r.o I.T.n r.c, .int .i64 I.ten, .slice r.op I.np r.cp, .slice r.ow I.nw r.cw, .slice r.oe I.ne r.ce, .slice r.oa I.na r.ca]) := rfl
  rw [ic.out]
  obtain ⟨W0, hW0⟩ : ∃ W0, Hid (W0 = ((w.alloc (.cells #[.slice r.o I.T.n r.c, .int .i64 I.ten, .slice r.op I.np r.cp, .slice r.ow I.nw r.cw, .slice r.oe I.ne r.ce, .slice r.oa I.na r.ca] 56)).alloc (.cells #[.int .i64 sw, .int .i64 po] 26)).alloc (.cells #[.int .u64 x, .int .u64 y] 61)) := ⟨_, rfl⟩
  have hbx : RowKit.Below w.heap.size w W0 := by rw [hW0.out]; exact below_al (below2 _ _ _) _
  have kp : Hid (∀ V, RowKit.Below W0.heap.size W0 V → (V.cell? ⟨w.heap.size, 0, none⟩ = some (.slice r.o I.T.n r.c) ∧ V.cell? ⟨w.heap.size, 1, none⟩ = some (.int .i64 I.ten) ∧ V.cell? ⟨w.heap.size, 2, none⟩ = some (.slice r.op I.np r.cp) ∧ V.cell? ⟨w.heap.size, 3, none⟩ = some (.slice r.ow I.nw r.cw) ∧ V.cell? ⟨w.heap.size, 4, none⟩ = some (.slice r.oe I.ne r.ce) ∧ V.cell? ⟨w.heap.size, 5, none⟩ = some (.slice r.oa I.na r.ca)) ∧ (V.cell? ⟨w.heap.size + 1, 0, none⟩ = some (.int .i64 sw) ∧ V.cell? ⟨w.heap.size + 1, 1, none⟩ = some (.int .i64 po)) ∧ (V.cell? ⟨w.heap.size + 1 + 1, 0, none⟩ = some (.int .u64 x) ∧ V.cell? ⟨w.heap.size + 1 + 1, 1, none⟩ = some (.int .u64 y)) ∧ RowKit.Below w.heap.size w V) := by
    intro V hV
    have hh := heap3 w (.cells #[.slice r.o I.T.n r.c, .int .i64 I.ten, .slice r.op I.np r.cp, .slice r.ow I.nw r.cw, .slice r.oe I.ne r.ce, .slice r.oa I.na r.ca] 56) (.cells #[.int .i64 sw, .int .i64 po] 26) (.cells #[.int .u64 x, .int .u64 y] 61)
    rw [← hW0.out] at hh
    obtain ⟨b0, b1, b2⟩ := hh
    exact ⟨⟨cell_below hV ((cell_b b0).trans rfl), cell_below hV ((cell_b b0).trans rfl), cell_below hV ((cell_b b0).trans rfl), cell_below hV ((cell_b b0).trans rfl), cell_below hV ((cell_b b0).trans rfl), cell_below hV ((cell_b b0).trans rfl)⟩, ⟨cell_below hV ((cell_b b1).trans rfl), cell_below hV ((cell_b b1).trans rfl)⟩, ⟨cell_below hV ((cell_b b2).trans rfl), cell_below hV ((cell_b b2).trans rfl)⟩, hbx.trans (hV.mono hbx.size)⟩
  have HNA : Hid (∀ V, RowKit.Below W0.heap.size W0 V → NA V r I) := fun V hV => h.below (hbx.trans (hV.mono hbx.size))
  have HS : Hid (∀ V, RowKit.Below W0.heap.size W0 V → Calls Try.prog 25 #[.agg #[.slice r.o I.T.n r.c, .int .i64 I.ten, .slice r.op I.np r.cp, .slice r.ow I.nw r.cw, .slice r.oe I.ne r.ce, .slice r.oa I.na r.ca]] V fun e w' => e = .returned (.int .i64 (soundI I)) ∧ RowKit.Below V.heap.size V w') := fun V hV => isound_c (HNA.out V hV) hw
  obtain ⟨z, hz⟩ : ∃ z, Hid (soundI I = z) := ⟨_, rfl⟩
  rw [hz.out] at HS
  obtain ⟨v1, v2, hv⟩ : ∃ v1 v2, Hid (wnt I sw po X = (v1, v2)) := ⟨_, _, rfl⟩
  rw [hv.out]
  have hW : Hid (wnt I sw po X = if z ≠ 0 ∨ edgeF I.T sw po < 0 then (0, false) else if fidx (adB I X) I.ne < 0 then (0, false) else if wok I sw po X (fidx (adB I X) I.ne).toNat = true then (fidx (adB I X) I.ne, true) else (0, false)) := by
    show wnt I sw po X = _
    unfold wnt; rw [hz.out]
  rw [hv.out] at hW
  have no : Hid ((v1, v2) = (0, false) → v1 = 0 ∧ v2 = false) := fun hh => by simpa using hh
  clear h
  by_cases hz0 : z = 0
  rotate_left
  · have hzb : (z != 0) = true := by simpa using hz0
    obtain ⟨rfl, rfl⟩ := no.out (by rw [hW.out, if_pos (Or.inl hz0)])
    clear hx hy hW hv
    have hs := HS.out W0 (Below.refl _ _)
    rw [hW0.out] at hs
    go_enter Try.func29, Try.ntmps29
    go_wp2_with fail
    refine hs.mono ?_
    rw [← hW0.out]
    rintro e w1 ⟨rfl, hb1⟩
    have hbw := (kp.out w1 hb1).2.2.2
    go_wp2_with fail
    go_ret2
    exact ⟨rfl, hbw⟩
  subst hz0
  have hsn := snd_of hz.out
  have hsum := sd_sum (sd_of hsn.s)
  have HE : Hid (∀ V, RowKit.Below W0.heap.size W0 V → Calls Try.prog 58 #[.agg #[.slice r.o I.T.n r.c], .agg #[.int .i64 sw, .int .i64 po]] V fun e w' => e = .returned (.int .i64 (edgeF I.T sw po)) ∧ RowKit.Below V.heap.size V w') := fun V hV => tedge_c (HNA.out V hV).ta hsum sw po
  obtain ⟨own, ho⟩ : ∃ own, Hid (edgeF I.T sw po = own) := ⟨_, rfl⟩
  rw [ho.out] at HE hW
  by_cases hneg : own < 0
  · have hnb : decide (own < 0) = true := decide_eq_true hneg
    obtain ⟨rfl, rfl⟩ := no.out (by rw [hW.out, if_pos (Or.inr hneg)])
    clear hx hy hW hv
    have hs := HS.out W0 (Below.refl _ _)
    rw [hW0.out] at hs
    go_enter Try.func29, Try.ntmps29
    go_wp2_with fail
    refine hs.mono ?_
    rw [← hW0.out]
    rintro e w1 ⟨rfl, hb1⟩
    obtain ⟨⟨x0, x1, x2, x3, x4, x5⟩, ⟨y0, y1⟩, ⟨z0, z1⟩, hbw1⟩ := kp.out w1 hb1
    go_wp2_with fail
    refine (HE.out _ hb1).mono ?_
    rintro e w2 ⟨rfl, hb2⟩
    have hB2 := hb1.trans (hb2.mono hb1.size)
    have hbw := (kp.out w2 hB2).2.2.2
    go_wp2_with fail
    go_ret2
    exact ⟨rfl, hbw⟩
  have hnb : decide (own < 0) = false := decide_eq_false hneg
  have HG : Hid (∀ V, Calls Try.prog 59 #[.agg #[.int .u64 x, .int .u64 y], .int .i64 0, .int .i64 32] V fun e w' => e = .returned (.tuple #[.int .u64 (n32 X : Int), .int .i64 0]) ∧ RowKit.Below V.heap.size V w') := fun V => by
    have := Hd.Get_yes hx hy 0 32 (by decide) V
    rw [n32_get] at this
    exact this
  have HP : Hid (∀ V, RowKit.Below W0.heap.size W0 V → Calls Try.prog 27 #[.agg #[.slice r.o I.T.n r.c, .int .i64 I.ten, .slice r.op I.np r.cp, .slice r.ow I.nw r.cw, .slice r.oe I.ne r.ce, .slice r.oa I.na r.ca], .agg #[.int .u64 x, .int .u64 y]] V fun e w' => e = .returned (.bool (Hd.perB I X)) ∧ RowKit.Below V.heap.size V w') := fun V hV => Hd.permits_c (HNA.out V hV) hx hy
  have hfc := fidx_cases (adB I X) I.ne
  obtain ⟨ki, hki⟩ : ∃ ki, Hid (fidx (adB I X) I.ne = ki) := ⟨_, rfl⟩
  have HI : Hid (∀ V g, RowKit.Below W0.heap.size W0 V → V.cell? ⟨g, 0, none⟩ = some (.int .u64 (n32 X : Int)) → Calls Try.prog 60 #[.slice r.oe I.ne r.ce, .func (.func 61) #[] #[.pointer (some ⟨g, 0, none⟩)]] V fun e w' => e = .returned (.int .i64 ki) ∧ RowKit.Below V.heap.size V w') := fun V g hV hg => by
    have := idxEn (HNA.out V hV).en 61 #[.pointer (some ⟨g, 0, none⟩)] (adB I X) eg61 (fun W i hW hi => ads1_c _ _ _ (I.en i).addr (n32 X : Int) (wf32 (hw.e i hi)) g W (cell_below hW hg))
    rw [hki.out] at this
    exact this
  rw [hki.out] at hfc hW
  obtain ⟨nn, hnn⟩ : ∃ nn : Int, Hid ((n32 X : Int) = nn) := ⟨_, rfl⟩
  simp only [hnn.out] at HG HI
  clear hx hy
  have hs := HS.out W0 (Below.refl _ _)
  rw [hW0.out] at hs
  go_enter Try.func29, Try.ntmps29
  go_wp2_with fail
  refine hs.mono ?_
  rw [← hW0.out]
  rintro e w1 ⟨rfl, hb1⟩
  clear hs
  obtain ⟨⟨x0, x1, x2, x3, x4, x5⟩, ⟨y0, y1⟩, ⟨z0, z1⟩, hbw1⟩ := kp.out w1 hb1
  go_wp2_with fail
  refine (HE.out _ hb1).mono ?_
  rintro e w2 ⟨rfl, hb2⟩
  have hB2 := hb1.trans (hb2.mono hb1.size)
  clear x0 x1 x2 x3 x4 x5 y0 y1 z0 z1 hbw1
  obtain ⟨⟨x0, x1, x2, x3, x4, x5⟩, ⟨y0, y1⟩, ⟨z0, z1⟩, hbw2⟩ := kp.out w2 hB2
  go_wp2_with fail
  refine (HG.out _).mono ?_
  rintro e w3 ⟨rfl, hb3⟩
  have hB3 := hB2.trans (hb3.mono hB2.size)
  clear x0 x1 x2 x3 x4 x5 y0 y1 z0 z1 hbw2
  have hB4 := below_al hB3 (.cells #[.int .u64 nn] 59)
  have hg4 : (w3.alloc (.cells #[.int .u64 nn] 59)).cell? ⟨w3.heap.size, 0, none⟩ = some (.int .u64 nn) := (cell_b (heap_alloc_new w3 _)).trans rfl
  have hi4 := HI.out _ _ hB4 hg4
  obtain ⟨⟨x0, x1, x2, x3, x4, x5⟩, ⟨y0, y1⟩, ⟨z0, z1⟩, hbw3⟩ := kp.out w3 hB3
  have l0 : w.heap.size < w3.heap.size := World.block_lt_of_cell? w3 _ x0
  have l1 : w.heap.size + 1 < w3.heap.size := World.block_lt_of_cell? w3 _ y0
  have l2 : w.heap.size + 1 + 1 < w3.heap.size := World.block_lt_of_cell? w3 _ z0
  go_wp2_with fail
  refine hi4.mono ?_
  rintro e w5 ⟨rfl, hb5⟩
  have hB5 := hB4.trans (hb5.mono hB4.size)
  clear x0 x1 x2 x3 x4 x5 y0 y1 z0 z1 hbw3 hi4 l0 l1 l2 hg4
  obtain ⟨⟨x0, x1, x2, x3, x4, x5⟩, ⟨y0, y1⟩, ⟨z0, z1⟩, hbw5⟩ := kp.out w5 hB5
  go_wp2_with fail
  refine (HE.out _ hB5).mono ?_
  rintro e w6 ⟨rfl, hb6⟩
  have hB6 := hB5.trans (hb6.mono hB5.size)
  clear x0 x1 x2 x3 x4 x5 y0 y1 z0 z1 hbw5 hb1 hb2 hb3 hb5 hb6 hB2 hB3 hB4 hB5
  have hkp := fun V hV => kp.out V (hB6.trans (Below.mono hV hB6.size))
  have KP := Lib.hid hkp
  have hna := fun V hV => HNA.out V (hB6.trans (Below.mono hV hB6.size))
  have HNB := Lib.hid hna
  clear hkp kp hna
  obtain ⟨⟨x0, x1, x2, x3, x4, x5⟩, ⟨y0, y1⟩, ⟨z0, z1⟩, hbw6⟩ := KP.out w6 (Below.refl _ _)
  rcases hfc with ⟨h1, _⟩ | ⟨k, hk, hkad, _, h1⟩
  · have HF := Lib.hid (no.out (by rw [hW.out, if_neg (by omega), if_pos (by omega)]))
    subst h1
    go_upto_region 6 with (fail)
    refine wp_region_quiet_below (by kernel_rfl) (by kernel_rfl) ?_; (repeat (go_big_quiet_step (fail))); refine wpQuiet_nil ?_; intro _ hw'; obtain ⟨⟨dq, osq⟩, hw''⟩ := hw'; subst hw''
    go_wp2_with fail
    go_ret2
    exact ⟨by rw [HF.out.1, HF.out.2]; rfl, hbw6.trans ((below_regrown w6 dq osq).mono hbw6.size)⟩
  subst h1
  have hkI : (k : Int) < (I.ne : Int) := by omega
  have hk0 : ¬ (k : Int) < 0 := by omega
  have hk0b : decide ((k : Int) < 0) = false := decide_eq_false hk0
  have hW2 : Hid ((v1, v2) = if wok I sw po X k = true then ((k : Int), true) else (0, false)) := by
    show (v1, v2) = _
    rw [hW.out, if_neg (by omega), if_neg hk0, Int.toNat_natCast]
  have hst := stops_in hsn sw po hk
  have hwk : Hid (wok I sw po X k = ((alB I own (I.en k).ten && Hd.perB I X) && chainB I.T sw (stops I sw po k))) := by
    show wok I sw po X k = _
    unfold wok stops; rw [ho.out]
  have hsd : Hid (stops I sw po k = viaL I own (I.en k).ten I.nw ++ [(I.en k).sw]) := by
    show stops I sw po k = _
    unfold stops; rw [ho.out]
  clear hW hkad
  obtain ⟨hnc, hcm, b, off, ho9, hx9⟩ := (HNB.out w6 (Below.refl _ _)).en
  have ho' := Lib.hid (ho9 (by omega))
  have e0 : w6.cell? ⟨b, off + k * 4, none⟩ = some (.int .i64 (I.en k).ten) := hx9 k 0 hk (by decide)
  have e2 : w6.cell? ⟨b, off + k * 4 + 2, none⟩ = some (.int .i64 (I.en k).sw) := hx9 k 2 hk (by decide)
  clear ho9 hx9
  have HA : Hid (∀ V, RowKit.Below w6.heap.size w6 V → Calls Try.prog 62 #[.agg #[.int .i64 I.ten, .slice r.op I.np r.cp, .slice r.ow I.nw r.cw], .int .i64 own, .int .i64 (I.en k).ten] V fun e w' => e = .returned (.bool (alB I own (I.en k).ten)) ∧ RowKit.Below V.heap.size V w') := fun V hV => allowed_c (HNB.out V hV) own _
  have HPB : Hid (∀ V, RowKit.Below w6.heap.size w6 V → Calls Try.prog 27 #[.agg #[.slice r.o I.T.n r.c, .int .i64 I.ten, .slice r.op I.np r.cp, .slice r.ow I.nw r.cw, .slice (some ⟨b, off, none⟩) I.ne r.ce, .slice r.oa I.na r.ca], .agg #[.int .u64 x, .int .u64 y]] V fun e w' => e = .returned (.bool (Hd.perB I X)) ∧ RowKit.Below V.heap.size V w') := fun V hV => by
    have := HP.out V (hB6.trans (Below.mono hV hB6.size))
    rw [ho'.out] at this
    exact this
  have HV : Hid (∀ V, RowKit.Below w6.heap.size w6 V → Calls Try.prog 63 #[.agg #[.int .i64 I.ten, .slice r.op I.np r.cp, .slice r.ow I.nw r.cw], .int .i64 own, .int .i64 (I.en k).ten] V fun e w' => ∃ v, e = .returned v ∧ Vl w' v (viaL I own (I.en k).ten I.nw) ∧ RowKit.Below V.heap.size V w') := fun V hV => vias_c (HNB.out V hV) (by have := hsn.nw; omega) own _
  have hvl : (viaL I own (I.en k).ten I.nw).length ≤ 1000000 := by have := viaL_len I own (I.en k).ten I.nw; have := hsn.nw; omega
  obtain ⟨VL, hVL⟩ : ∃ VL, Hid (viaL I own (I.en k).ten I.nw = VL) := ⟨_, rfl⟩
  rw [hVL.out] at HV hsd hvl
  rw [ho'.out] at x4
  obtain ⟨qa, hqa⟩ : ∃ q, Hid (alB I own (I.en k).ten = q) := ⟨_, rfl⟩
  obtain ⟨qp, hqp⟩ : ∃ q, Hid (Hd.perB I X = q) := ⟨_, rfl⟩
  rw [hqa.out] at HA hwk
  rw [hqp.out] at HPB hwk
  generalize (I.en k).ten = tn at e0 HA HV
  generalize (I.en k).sw = ts at e2 hsd
  have hAq := fun p : Regrown => HA.out (Sort.grow (redrawn w6 p.d) p.os) (below_regrown w6 p.d p.os)
  have hPq := fun p : Regrown => HPB.out (Sort.grow (redrawn w6 p.d) p.os) (below_regrown w6 p.d p.os)
  have HAq := Lib.hid hAq
  have HPq := Lib.hid hPq
  clear hAq hPq
  have x0' := reg_c x0
  have x1' := reg_c x1
  have x2' := reg_c x2
  have x3' := reg_c x3
  have x4' := reg_c x4
  have x5' := reg_c x5
  have z0' := reg_c z0
  have z1' := reg_c z1
  have e0' := reg_c e0
  by_cases hq : (qa && qp) = false
  · obtain ⟨rfl, rfl⟩ := no.out (by rw [hW2.out, if_neg]; rw [hwk.out, hq]; simp)
    cases qa with
    | false =>
      go_upto_region 6 with (fail)
      refine wp_region_quiet_below (by kernel_rfl) (by kernel_rfl) ?_; (repeat (go_big_quiet_step ((first | (go_at_call 62; exact Calls.regrown_of (HAq.out _)) | (go_at_call 27; exact Calls.regrown_of (HPq.out _)))))); refine wpQuiet_nil ?_; intro _ hw'; obtain ⟨⟨dq, osq⟩, hw''⟩ := hw'; subst hw''
      go_wp2_with fail
      go_ret2
      exact ⟨rfl, hbw6.trans ((below_regrown w6 dq osq).mono hbw6.size)⟩
    | true =>
      obtain rfl : qp = false := by simpa using hq
      go_upto_region 6 with (fail)
      refine wp_region_quiet_below (by kernel_rfl) (by kernel_rfl) ?_; (repeat (go_big_quiet_step ((first | (go_at_call 62; exact Calls.regrown_of (HAq.out _)) | (go_at_call 27; exact Calls.regrown_of (HPq.out _)))))); refine wpQuiet_nil ?_; intro _ hw'; obtain ⟨⟨dq, osq⟩, hw''⟩ := hw'; subst hw''
      go_wp2_with fail
      go_ret2
      exact ⟨rfl, hbw6.trans ((below_regrown w6 dq osq).mono hbw6.size)⟩
  obtain ⟨rfl, rfl⟩ : qa = true ∧ qp = true := by simpa using hq
  clear hq
  go_upto_region 6 with (fail)
  refine wp_region_quiet_below (by kernel_rfl) (by kernel_rfl) ?_; (repeat (go_big_quiet_step ((first | (go_at_call 62; exact Calls.regrown_of (HAq.out _)) | (go_at_call 27; exact Calls.regrown_of (HPq.out _)))))); refine wpQuiet_nil ?_; intro _ hw'; obtain ⟨⟨dq, osq⟩, hw''⟩ := hw'; subst hw''
  clear x0' x1' x2' x3' x4' x5' z0' z1' e0' HAq HPq x0 x1 x2 x3 x4 x5 y0 y1 z0 z1
  go_upto_region 8 with (fail)
  refine wp_world (fun W => RowKit.Below w6.heap.size w6 W) (below_regrown w6 dq osq) ?_
  rintro W hB7
  obtain ⟨⟨x0, x1, x2, x3, x4, x5⟩, ⟨y0, y1⟩, ⟨z0, z1⟩, hbW⟩ := KP.out W hB7
  rw [ho'.out] at x4
  have e0 := cell_below hB7 e0
  have e2 := cell_below hB7 e2
  go_upto_region 9 with (fail)
  go_cut [79, 80, 81] from 61 to 78 (fun v79 v80 v81 wx => ∃ g c, v79 = .slice (some ⟨g, 0, none⟩) (VL.length + 1) c ∧ v80 = .int .i64 ((VL.length + 1 : Nat) : Int) ∧ v81 = .int .i64 0 ∧ (∀ j, (hj : j < (VL ++ [ts]).length) → wx.cell? ⟨g, j, none⟩ = some (.int .i64 (VL ++ [ts])[j])) ∧ RowKit.Below W.heap.size W wx)
  case first =>
    have KS : Hid (∀ V, RowKit.Below W.heap.size W V → V.cell? ⟨w.heap.size, 1, none⟩ = some (.int .i64 I.ten) ∧ V.cell? ⟨w.heap.size, 2, none⟩ = some (.slice r.op I.np r.cp) ∧ V.cell? ⟨w.heap.size, 3, none⟩ = some (.slice r.ow I.nw r.cw) ∧ V.cell? ⟨w.heap.size, 4, none⟩ = some (.slice (some ⟨b, off, none⟩) I.ne r.ce) ∧ V.cell? ⟨b, off + k * 4, none⟩ = some (.int .i64 tn) ∧ V.cell? ⟨b, off + k * 4 + 2, none⟩ = some (.int .i64 ts)) := fun V hV =>
      ⟨cell_below hV x1, cell_below hV x2, cell_below hV x3, cell_below hV x4, cell_below hV e0, cell_below hV e2⟩
    have HV2 : Hid (∀ V, RowKit.Below W.heap.size W V → Calls Try.prog 63 #[.agg #[.int .i64 I.ten, .slice r.op I.np r.cp, .slice r.ow I.nw r.cw], .int .i64 own, .int .i64 tn] V fun e w' => ∃ v, e = .returned v ∧ Vl w' v VL ∧ RowKit.Below V.heap.size V w') := fun V hV => HV.out V (hB7.trans (Below.mono hV hB7.size))
    obtain ⟨i0, hi, hz0, hz1, hz2⟩ := info_parts inf3
    clear HNA KP HNB HS HE HG HP HI HA HPB HV x0 x1 x2 x3 x4 x5 y0 y1 z0 z1
    cases VL with
    | nil =>
      have HV0 : Hid (∀ V, RowKit.Below W.heap.size W V → Calls Try.prog 63 #[.agg #[.int .i64 I.ten, .slice r.op I.np r.cp, .slice r.ow I.nw r.cw], .int .i64 own, .int .i64 tn] V fun e w' => e = .returned (.slice none 0 0) ∧ RowKit.Below V.heap.size V w' ∧ RowKit.Below W.heap.size W w') := fun V hV => by
        refine (HV2.out V hV).mono ?_
        rintro e w' ⟨v, rfl, h9, hb9⟩
        rcases h9 with ⟨rfl, _⟩ | ⟨h9, _⟩
        · exact ⟨rfl, hb9, below_st hV hb9⟩
        · simp at h9
      clear HV2
      go_region_held_law (fun w' => w'.cell? ⟨w.heap.size, 1, none⟩ = some (.int .i64 I.ten) ∧ w'.cell? ⟨w.heap.size, 2, none⟩ = some (.slice r.op I.np r.cp) ∧ w'.cell? ⟨w.heap.size, 3, none⟩ = some (.slice r.ow I.nw r.cw) ∧ w'.cell? ⟨w.heap.size, 4, none⟩ = some (.slice (some ⟨b, off, none⟩) I.ne r.ce) ∧ w'.cell? ⟨b, off + k * 4, none⟩ = some (.int .i64 tn) ∧ w'.cell? ⟨b, off + k * 4 + 2, none⟩ = some (.int .i64 ts)) (first | (exact KS.out _ (by (first | exact Below.refl _ _ | exact below_dr (Below.refl _ _) | exact below_al (Below.refl _ _) _ | exact below_dr (below_al (Below.refl _ _) _) | exact below_al (below_dr (Below.refl _ _)) _ | exact hbA | exact below_dr hbA | exact below_al hbA _ | exact below_dr (below_al hbA _) | exact below_al (below_dr hbA) _ | exact hbC | exact below_dr hbC))))
        (first
          | (go_at_call 63; refine (HV0.out _ ?_).mono ?_; (focus (first | exact Below.refl _ _ | exact below_dr (Below.refl _ _) | exact below_al (Below.refl _ _) _ | exact below_dr (below_al (Below.refl _ _) _) | exact below_al (below_dr (Below.refl _ _)) _ | exact hbA | exact below_dr hbA | exact below_al hbA _ | exact below_dr (below_al hbA _) | exact below_al (below_dr hbA) _ | exact hbC | exact below_dr hbC)); rintro e wa ⟨rfl, hbb, hbA⟩)
          | (refine step_app_full rfl (.tmp 70) (.tmp 78) 38 rfl 3 i0 (.int .i64 0) und38 hi hz0 hz1 hz2 rfl none [] (by simp [Act.eval, Act.put]) (fun h => absurd h (by simp)) (fun _ => rfl) W.heap.size ts (by simp [Act.eval, Act.put]) ?_ hvl 79 rfl ?_; (focus (first | exact (cell_b (heap_alloc_new _ _)).trans rfl | exact cell_below hbb ((cell_b (heap_alloc_new _ _)).trans rfl))); intro g c w9 hb9 hcell; have hbC : RowKit.Below W.heap.size W w9 := below_st (by (first | exact Below.refl _ _ | exact below_dr (Below.refl _ _) | exact below_al (Below.refl _ _) _ | exact below_dr (below_al (Below.refl _ _) _) | exact below_al (below_dr (Below.refl _ _)) _ | exact hbA | exact below_dr hbA | exact below_al hbA _ | exact below_dr (below_al hbA _) | exact below_al (below_dr hbA) _ | exact hbC | exact below_dr hbC)) hb9)
          | (refine step_app_full rfl (.tmp 70) (.tmp 78) 38 rfl 3 i0 (.int .i64 0) und38 hi hz0 hz1 hz2 rfl none [] (by simp [Act.eval, Act.put]) (fun h => absurd h (by simp)) (fun _ => rfl) wa.heap.size ts (by simp [Act.eval, Act.put]) ?_ hvl 79 rfl ?_; (focus (first | exact (cell_b (heap_alloc_new _ _)).trans rfl | exact cell_below hbb ((cell_b (heap_alloc_new _ _)).trans rfl))); intro g c w9 hb9 hcell; have hbC : RowKit.Below W.heap.size W w9 := below_st (by (first | exact Below.refl _ _ | exact below_dr (Below.refl _ _) | exact below_al (Below.refl _ _) _ | exact below_dr (below_al (Below.refl _ _) _) | exact below_al (below_dr (Below.refl _ _)) _ | exact hbA | exact below_dr hbA | exact below_al hbA _ | exact below_dr (below_al hbA _) | exact below_al (below_dr hbA) _ | exact hbC | exact below_dr hbC)) hb9))
      all_goals clear KS HV0 hbb hbA hb9 hi hz0 hz1 hz2
      all_goals go_wp2_with fail
      all_goals (go_meet; case rel => exact ⟨g, c, rfl, rfl, rfl, hcell, hbC⟩)
    | cons u L =>
      have HV0 : Hid (∀ V, RowKit.Below W.heap.size W V → Calls Try.prog 63 #[.agg #[.int .i64 I.ten, .slice r.op I.np r.cp, .slice r.ow I.nw r.cw], .int .i64 own, .int .i64 tn] V fun e w' => ∃ g, e = .returned (.slice (some ⟨g, 0, none⟩) (L.length + 1) (L.length + 1)) ∧ (∀ j, (hj : j < (u :: L).length) → w'.cell? ⟨g, j, none⟩ = some (.int .i64 (u :: L)[j])) ∧ RowKit.Below V.heap.size V w' ∧ RowKit.Below W.heap.size W w') := fun V hV => by
        refine (HV2.out V hV).mono ?_
        rintro e w' ⟨v, rfl, h9, hb9⟩
        rcases h9 with ⟨_, h9⟩ | ⟨_, g, rfl, h9⟩
        · cases h9
        · exact ⟨g, rfl, h9, hb9, below_st hV hb9⟩
      clear HV2
      go_region_held_law (fun w' => w'.cell? ⟨w.heap.size, 1, none⟩ = some (.int .i64 I.ten) ∧ w'.cell? ⟨w.heap.size, 2, none⟩ = some (.slice r.op I.np r.cp) ∧ w'.cell? ⟨w.heap.size, 3, none⟩ = some (.slice r.ow I.nw r.cw) ∧ w'.cell? ⟨w.heap.size, 4, none⟩ = some (.slice (some ⟨b, off, none⟩) I.ne r.ce) ∧ w'.cell? ⟨b, off + k * 4, none⟩ = some (.int .i64 tn) ∧ w'.cell? ⟨b, off + k * 4 + 2, none⟩ = some (.int .i64 ts)) (first | (exact KS.out _ (by (first | exact Below.refl _ _ | exact below_dr (Below.refl _ _) | exact below_al (Below.refl _ _) _ | exact below_dr (below_al (Below.refl _ _) _) | exact below_al (below_dr (Below.refl _ _)) _ | exact hbA | exact below_dr hbA | exact below_al hbA _ | exact below_dr (below_al hbA _) | exact below_al (below_dr hbA) _ | exact hbC | exact below_dr hbC))))
        (first
          | (go_at_call 63; refine (HV0.out _ ?_).mono ?_; (focus (first | exact Below.refl _ _ | exact below_dr (Below.refl _ _) | exact below_al (Below.refl _ _) _ | exact below_dr (below_al (Below.refl _ _) _) | exact below_al (below_dr (Below.refl _ _)) _ | exact hbA | exact below_dr hbA | exact below_al hbA _ | exact below_dr (below_al hbA _) | exact below_al (below_dr hbA) _ | exact hbC | exact below_dr hbC)); rintro e wa ⟨gv, rfl, hcv, hbb, hbA⟩)
          | (refine step_app_full rfl (.tmp 70) (.tmp 78) 38 rfl 3 i0 (.int .i64 0) und38 hi hz0 hz1 hz2 rfl (some ⟨gv, 0, none⟩) (u :: L) (by simp [Act.eval, Act.put]) (fun _ => ⟨gv, rfl, fun j hj => hcv j hj⟩) (fun h => absurd h (by simp)) W.heap.size ts (by simp [Act.eval, Act.put]) ?_ hvl 79 rfl ?_; (focus (first | exact (cell_b (heap_alloc_new _ _)).trans rfl | exact cell_below hbb ((cell_b (heap_alloc_new _ _)).trans rfl))); intro g c w9 hb9 hcell; have hbC : RowKit.Below W.heap.size W w9 := below_st (by (first | exact Below.refl _ _ | exact below_dr (Below.refl _ _) | exact below_al (Below.refl _ _) _ | exact below_dr (below_al (Below.refl _ _) _) | exact below_al (below_dr (Below.refl _ _)) _ | exact hbA | exact below_dr hbA | exact below_al hbA _ | exact below_dr (below_al hbA _) | exact below_al (below_dr hbA) _ | exact hbC | exact below_dr hbC)) hb9)
          | (refine step_app_full rfl (.tmp 70) (.tmp 78) 38 rfl 3 i0 (.int .i64 0) und38 hi hz0 hz1 hz2 rfl (some ⟨gv, 0, none⟩) (u :: L) (by simp [Act.eval, Act.put]) (fun _ => ⟨gv, rfl, fun j hj => cell_below ((Below.refl _ _).alloc (Nat.le_refl _) _) (hcv j hj)⟩) (fun h => absurd h (by simp)) wa.heap.size ts (by simp [Act.eval, Act.put]) ?_ hvl 79 rfl ?_; (focus (first | exact (cell_b (heap_alloc_new _ _)).trans rfl | exact cell_below hbb ((cell_b (heap_alloc_new _ _)).trans rfl))); intro g c w9 hb9 hcell; have hbC : RowKit.Below W.heap.size W w9 := below_st (by (first | exact Below.refl _ _ | exact below_dr (Below.refl _ _) | exact below_al (Below.refl _ _) _ | exact below_dr (below_al (Below.refl _ _) _) | exact below_al (below_dr (Below.refl _ _)) _ | exact hbA | exact below_dr hbA | exact below_al hbA _ | exact below_dr (below_al hbA _) | exact below_al (below_dr hbA) _ | exact hbC | exact below_dr hbC)) hb9))
      all_goals clear KS HV0 hcv hbb hbA hb9 hi hz0 hz1 hz2
      all_goals go_wp2_with fail
      all_goals (go_meet; case rel => exact ⟨g, c, rfl, rfl, rfl, hcell, hbC⟩)
  case rest =>
    obtain ⟨g, c, rfl, rfl, rfl, hcell, hbc⟩ := hcut
    rename_i Kc hKc
    refine hKc _ _ ?_
    clear hKc
    have hse := edge_in (T := I.T) (sw := sw) (po := po) (by rw [ho.out]; omega)
    have hbc6 := below_st hB7 hbc
    obtain ⟨LL, hLL⟩ : ∃ LL, Hid (VL ++ [ts] = LL) := ⟨_, rfl⟩
    have hlen : LL.length = VL.length + 1 := by rw [← hLL.out]; simp
    rw [hLL.out] at hsd
    simp only [hLL.out] at hcell
    have hin : ∀ x, x ∈ LL → 0 ≤ x ∧ x < I.T.n := fun x hx => hst x (by rw [hsd.out]; exact hx)
    have HIN := Lib.hid hin
    have HC := Lib.hid hcell
    have hRr : Hid (∀ V, RowKit.Below wc.heap.size wc V → ∀ a b : Nat, a < I.T.n → b < I.T.n → Calls Try.prog 64 #[.agg #[.slice r.o I.T.n r.c], .int .i64 (a : Int), .int .i64 (b : Int)] V fun e w' => e = .returned (.bool (rch I.T a b)) ∧ RowKit.Below V.heap.size V w') := fun V hV a b ha hb => reaches_c (HNB.out V (below_st hbc6 hV)).ta hsn.s a b ha hb
    have hkx : Hid (∀ V, RowKit.Below wc.heap.size wc V → V.cell? ⟨w.heap.size, 0, none⟩ = some (.slice r.o I.T.n r.c) ∧ RowKit.Below w.heap.size w V) := fun V hV => ⟨(KP.out V (below_st hbc6 hV)).1.1, (KP.out V (below_st hbc6 hV)).2.2.2⟩
    have hwk2 : Hid (wok I sw po X k = chainB I.T sw LL) := by show wok I sw po X k = _; rw [hwk.out, hsd.out]; simp
    have hyes : Hid (chainB I.T sw LL = true → v1 = (k : Int) ∧ v2 = true) := fun hh => by
      have h8 := hW2.out
      rw [hwk2.out, if_pos hh] at h8
      simpa using h8
    have hnay : Hid (chainB I.T sw LL = false → v1 = 0 ∧ v2 = false) := fun hh => no.out (by rw [hW2.out, hwk2.out, if_neg (by rw [hh]; simp)])
    clear HA HPB HV hsd hst hin hcell hwk hW2 hwk2 x0 x1 x2 x3 x4 x5 y0 y1 z0 z1 e0 e2 HNA HS HE HG HP HI hbW hbw6 KP HNB hB7 hbc hbc6 hB6
    obtain ⟨s0, rfl⟩ : ∃ s0 : Nat, sw = (s0 : Int) := ⟨sw.toNat, by omega⟩
    rw [← hlen]
    have hl63 : LL.length ≤ 1000001 := by omega
    clear hlen
    go_wp2_with fail
    refine wp_world (fun W1 => W1 = wc) rfl ?_
    rintro W1 rfl
    go_loopw [6, 7, 12, 14, 81] (fun _ _ v12 v14 v81 wr => ∃ (j at_ : Nat), v12 = .int .i64 (at_ : Int) ∧ v81 = .int .i64 (j : Int) ∧ at_ < I.T.n ∧ j ≤ LL.length ∧ RowKit.Below W1.heap.size W1 wr ∧ chainB I.T (s0 : Int) LL = chainB I.T (at_ : Int) (LL.drop j)) (fun _ _ _ _ v81 _ => LL.length - (intOf v81).toNat)
    case atStart => exact ⟨0, s0, rfl, rfl, by omega, Nat.zero_le _, Below.refl _ _, rfl⟩
    case round =>
      obtain ⟨j, at_, rfl, rfl, hat, hj, hbr, hch⟩ := hrel
      have HCH := Lib.hid hch
      clear hch
      obtain ⟨x0, hbwr⟩ := hkx.out wr hbr
      by_cases hjl : j < LL.length
      · have hjI : (j : Int) < (LL.length : Int) := by omega
        have ej := cell_below hbr (HC.out j hjl)
        have hd := List.drop_eq_getElem_cons hjl
        obtain ⟨xb, hxb⟩ : ∃ xb, Hid (LL[j]'hjl = xb) := ⟨LL[j]'hjl, Lib.hid rfl⟩
        have hxi := HIN.out LL[j] (List.getElem_mem hjl)
        rw [hxb.out] at ej hd hxi
        obtain ⟨bn, rfl⟩ : ∃ bn : Nat, xb = (bn : Int) := ⟨xb.toNat, by omega⟩
        have hc := hRr.out wr hbr at_ bn hat (by omega)
        have hstep : Hid (chainB I.T (s0 : Int) LL = (rch I.T (at_ : Int) (bn : Int) && chainB I.T (bn : Int) (LL.drop (j + 1)))) := by
          show chainB I.T (s0 : Int) LL = _
          rw [HCH.out, hd]; rfl
        obtain ⟨q, hq⟩ : ∃ q, Hid (rch I.T (at_ : Int) (bn : Int) = q) := ⟨_, rfl⟩
        rw [hq.out] at hc hstep
        have hbn : bn < I.T.n := by omega
        clear hd hxi
        go_wp2_with fail
        refine hc.mono ?_
        rintro e w8 ⟨rfl, hb8⟩
        have hbr8 := below_st hbr hb8
        have hbw8 := (hkx.out w8 hbr8).2
        cases q with
        | false =>
          have HF := Lib.hid (hnay.out (by rw [hstep.out]; rfl))
          go_wp2_with fail
          go_ret2
          exact ⟨by rw [HF.out.1, HF.out.2]; rfl, hbw8⟩
        | true =>
          have HF : Hid (chainB I.T (s0 : Int) LL = chainB I.T (bn : Int) (LL.drop (j + 1))) := by
            show chainB I.T (s0 : Int) LL = _
            rw [hstep.out]; simp
          go_wp2_with fail
          go_roundw
          case rel => exact ⟨j + 1, bn, rfl, by go_num, hbn, by omega, hbr8, HF.out⟩
          case measure => simp [intOf] <;> omega
      · have hje : j = LL.length := by omega
        subst hje
        have HF := Lib.hid (hyes.out (by rw [HCH.out, List.drop_length]; rfl))
        go_wp2_with fail
        go_ret2
        exact ⟨by rw [HF.out.1, HF.out.2]; rfl, hbwr⟩
end Go.Proofs.Ytgebehnlfihliaa
