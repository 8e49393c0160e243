/- Delta: one. -/
import Derived.Test.YtdmakcfgcgioeaaDPut
import Derived.Test.YtdmakcfgcgioeaaDDel
import Derived.Test.YtdmakcfgcgioeaaDIns
import Derived.Test.YtdmakcfgcgioeaaDEq
namespace Go.Proofs.Ytdmakcfgcgioeaa
open Go.RowKit Go.Maps
set_option linter.unusedSimpArgs false
set_option linter.unusedVariables false
set_option maxRecDepth 100000
attribute [local go_sem ↓] eqR
set_option maxHeartbeats 8000000 in
theorem one_c (w : World) {T : List (List (List Ru))} {S : Nat → Prop} {ot : Option Addr} {ct : Nat} {bc : Nat} {x : Ed} (h : OR 43 (OR 44 (O1 ceR 53 12)) w S T (.slice ot T.length ct)) (hbt : Bq T) (hc : w.cell? ⟨bc, 4, none⟩ = some (.slice ot T.length ct)) :
    Calls Try.prog 15 #[.pointer (some ⟨bc, 0, none⟩), .agg (ceE x).toArray] w fun e w' => e = .returned (.int .i64 (oneF T x).1) ∧ OR 43 (OR 44 (O1 ceR 53 12)) w' (fun g => S g ∨ w.heap.size ≤ g) (oneF T x).2 (.slice ot T.length ct) ∧ Fr S w w' := by
  obtain ⟨sw, tb, at_, gone, ⟨r0, r1, r2, r3, r4, r5, r6, r7, r8, r9, r10, r11⟩⟩ := x
  have ec : (ceE ⟨sw, tb, at_, gone, ⟨r0, r1, r2, r3, r4, r5, r6, r7, r8, r9, r10, r11⟩⟩).toArray = #[.int .i64 sw, .int .i64 tb, .int .i64 at_, .bool gone, .int .i64 r0, .int .u64 r1, .int .u64 r2, .int .u64 r3, .int .u64 r4, .int .i64 r5, .int .i64 r6, .int .i64 r7, .int .u64 r8, .int .u64 r9, .int .u64 r10, .int .u64 r11] := rfl
  rw [ec]
  clear ec
  have hkeep : ∀ W : World, RowKit.Below w.heap.size w W → OR 43 (OR 44 (O1 ceR 53 12)) W (fun g => S g ∨ w.heap.size ≤ g) T (.slice ot T.length ct) ∧ Fr S w W := fun W hW => ⟨(goodR (goodR (good1 _ _ _))).mono ((goodR (goodR (good1 _ _ _))).frame h fun g _ hl => hW.block g hl) fun g hg _ => .inl hg, Fr.of_below hW⟩
  have HK := Lib.hid hkeep
  obtain ⟨W, hW⟩ : ∃ W, Hid (W = w.alloc (.cells #[.int .i64 sw, .int .i64 tb, .int .i64 at_, .bool gone, .int .i64 r0, .int .u64 r1, .int .u64 r2, .int .u64 r3, .int .u64 r4, .int .i64 r5, .int .i64 r6, .int .i64 r7, .int .u64 r8, .int .u64 r9, .int .u64 r10, .int .u64 r11] 55)) := ⟨_, Lib.hid rfl⟩
  have hbx : RowKit.Below w.heap.size w W := by rw [hW.out]; exact below_al (Below.refl _ _) _
  have hm : W.heap[w.heap.size]? = some (.cells #[.int .i64 sw, .int .i64 tb, .int .i64 at_, .bool gone, .int .i64 r0, .int .u64 r1, .int .u64 r2, .int .u64 r3, .int .u64 r4, .int .i64 r5, .int .i64 r6, .int .i64 r7, .int .u64 r8, .int .u64 r9, .int .u64 r10, .int .u64 r11] 55 (0, 0)) := by rw [hW.out]; exact heap_alloc_new w _
  have x0 : W.cell? ⟨w.heap.size, 0, none⟩ = some (.int .i64 sw) := (cell_b hm).trans rfl
  have x1 : W.cell? ⟨w.heap.size, 1, none⟩ = some (.int .i64 tb) := (cell_b hm).trans rfl
  have x2 : W.cell? ⟨w.heap.size, 2, none⟩ = some (.int .i64 at_) := (cell_b hm).trans rfl
  have x3 : W.cell? ⟨w.heap.size, 3, none⟩ = some (.bool gone) := (cell_b hm).trans rfl
  have c0 := cell_below hbx hc
  have HT := Lib.hid h
  have HBT := Lib.hid hbt
  clear hkeep h hbt hc
  go_enter Try.func15, Try.ntmps15
  go_upto_region 1 with (fail)
  rw [← hW.out]
  have x0' := reg_c x0
  have x1' := reg_c x1
  have c0' := reg_c c0
  by_cases h1 : sw < 0
  · have e1 : decide (sw < 0) = true := decide_eq_true h1
    have HF : Hid (oneF T ⟨sw, tb, at_, gone, ⟨r0, r1, r2, r3, r4, r5, r6, r7, r8, r9, r10, r11⟩⟩ = (4, T)) := if_pos (.inl h1)
    refine wp_region_quiet_below (by kernel_rfl) (by kernel_rfl) ?_; (repeat (go_big_quiet_step (fail))); refine wpQuiet_nil ?_; intro _ hw'; obtain ⟨⟨dq, osq⟩, hw''⟩ := hw'; subst hw''
    go_wp2_with fail
    go_ret
    rw [HF.out]
    exact ⟨rfl, HK.out _ (below_st hbx (below_regrown W dq osq))⟩
  by_cases h2 : (T.length : Int) ≤ sw
  · have e1 : decide (sw < 0) = false := decide_eq_false h1
    have e2 : decide ((T.length : Int) ≤ sw) = true := decide_eq_true h2
    have HF : Hid (oneF T ⟨sw, tb, at_, gone, ⟨r0, r1, r2, r3, r4, r5, r6, r7, r8, r9, r10, r11⟩⟩ = (4, T)) := if_pos (.inr (.inl h2))
    refine wp_region_quiet_below (by kernel_rfl) (by kernel_rfl) ?_; (repeat (go_big_quiet_step (fail))); refine wpQuiet_nil ?_; intro _ hw'; obtain ⟨⟨dq, osq⟩, hw''⟩ := hw'; subst hw''
    go_wp2_with fail
    go_ret
    rw [HF.out]
    exact ⟨rfl, HK.out _ (below_st hbx (below_regrown W dq osq))⟩
  by_cases h3 : tb < 0
  · have e1 : decide (sw < 0) = false := decide_eq_false h1
    have e2 : decide ((T.length : Int) ≤ sw) = false := decide_eq_false h2
    have e3 : decide (tb < 0) = true := decide_eq_true h3
    have HF : Hid (oneF T ⟨sw, tb, at_, gone, ⟨r0, r1, r2, r3, r4, r5, r6, r7, r8, r9, r10, r11⟩⟩ = (4, T)) := if_pos (.inr (.inr (.inl h3)))
    refine wp_region_quiet_below (by kernel_rfl) (by kernel_rfl) ?_; (repeat (go_big_quiet_step (fail))); refine wpQuiet_nil ?_; intro _ hw'; obtain ⟨⟨dq, osq⟩, hw''⟩ := hw'; subst hw''
    go_wp2_with fail
    go_ret
    rw [HF.out]
    exact ⟨rfl, HK.out _ (below_st hbx (below_regrown W dq osq))⟩
  obtain ⟨sn, rfl⟩ : ∃ sn : Nat, sw = (sn : Int) := ⟨sw.toNat, by omega⟩
  have hsn : sn < T.length := by omega
  have e1 : decide ((sn : Int) < 0) = false := decide_eq_false h1
  have e2 : decide ((T.length : Int) ≤ (sn : Int)) = false := decide_eq_false h2
  have e2' : decide (T.length ≤ sn) = false := decide_eq_false (by omega)
  have e3 : decide (tb < 0) = false := decide_eq_false h3
  clear h1 h2
  obtain ⟨vs, Ss, hox⟩ := HT.out
  obtain ⟨bo, curo, rfl, hSo, hgo, hno, hmo, hco, hto⟩ := hox.row.blk (by omega)
  obtain ⟨u, hu, hou⟩ := hox.el sn hsn
  obtain ⟨os9, cs9, rfl⟩ := hou.form
  have y0 : w.cell? ⟨bo, sn, none⟩ = some (.slice os9 T[sn].length cs9) := by
    have := hox.row.cells (g := bo) rfl sn _ hu
    rw [Addr.add_lit, Nat.zero_add] at this
    exact this
  have hgd : T.getD sn [] = T[sn] := by rw [List.getD_eq_getElem?_getD, List.getElem?_eq_getElem hsn]; rfl
  obtain ⟨ln, hln⟩ : ∃ ln, Hid (T[sn].length = ln) := ⟨_, Lib.hid rfl⟩
  rw [hln.out] at y0
  have y0W := cell_below hbx y0
  have y0' := reg_c y0W
  have hsnI : (sn : Int) < (T.length : Int) := by omega
  have HGD := Lib.hid hgd
  have HOX := Lib.hid hox
  have HOU := Lib.hid hou
  have HU := Lib.hid hu
  have HGO := Lib.hid hgo
  clear hgd hox hou hu hgo hto
  by_cases h4 : (ln : Int) ≤ tb
  · have e4 : decide ((ln : Int) ≤ tb) = true := decide_eq_true h4
    have HF : Hid (oneF T ⟨(sn : Int), tb, at_, gone, ⟨r0, r1, r2, r3, r4, r5, r6, r7, r8, r9, r10, r11⟩⟩ = (4, T)) := if_pos (.inr (.inr (.inr (by show ((T.getD ((sn : Int)).toNat []).length : Int) ≤ tb; rw [Int.toNat_natCast, HGD.out, hln.out]; exact h4))))
    refine wp_region_quiet_below (by kernel_rfl) (by kernel_rfl) ?_; (repeat (go_big_quiet_step (fail))); refine wpQuiet_nil ?_; intro _ hw'; obtain ⟨⟨dq, osq⟩, hw''⟩ := hw'; subst hw''
    go_wp2_with fail
    go_ret
    rw [HF.out]
    exact ⟨rfl, HK.out _ (below_st hbx (below_regrown W dq osq))⟩
  obtain ⟨tn, rfl⟩ : ∃ tn : Nat, tb = (tn : Int) := ⟨tb.toNat, by omega⟩
  have htn : tn < ln := by omega
  have e4 : decide ((ln : Int) ≤ (tn : Int)) = false := decide_eq_false h4
  have e4' : decide (ln ≤ tn) = false := decide_eq_false (by omega)
  refine wp_region_quiet_below (by kernel_rfl) (by kernel_rfl) ?_; (repeat (go_big_quiet_step (fail))); refine wpQuiet_nil ?_; intro _ hw'; obtain ⟨⟨dq, osq⟩, hw''⟩ := hw'; subst hw''
  go_upto_region 3 with (fail)
  refine wp_world (fun V => RowKit.Below W.heap.size W V) (below_regrown W dq osq) ?_
  clear x0' x1' c0' y0' e1 e2 e2' e3 e4 e4'
  rintro V3 hV3
  obtain ⟨ws, Ts, hoy⟩ := HOU.out
  have hrowy := hoy.row
  rw [hln.out] at hrowy
  obtain ⟨bs, curs, rfl, hSs, hgs, hns, hms, hcss, hts⟩ := hrowy.blk (by omega)
  have htn2 : tn < T[sn].length := by rw [hln.out]; exact htn
  obtain ⟨u2, hu2, hoz⟩ := hoy.el tn htn2
  obtain ⟨o2, c2, hu2f⟩ := Ow.form hoz
  subst hu2f
  obtain ⟨t, ht⟩ : ∃ t, Hid (T[sn][tn] = t) := ⟨_, Lib.hid rfl⟩
  rw [ht.out] at hu2 hoz
  obtain ⟨tl, htl⟩ : ∃ tl, Hid (t.length = tl) := ⟨_, Lib.hid rfl⟩
  have z0 : w.cell? ⟨bs, tn, none⟩ = some (.slice o2 tl c2) := by
    have := hrowy.cells (g := bs) rfl tn _ hu2
    rw [Addr.add_lit, Nat.zero_add, htl.out] at this
    exact this
  have hB3 : RowKit.Below w.heap.size w V3 := below_st hbx hV3
  have hsz3 : w.heap.size < V3.heap.size := by have := hV3.size; have : W.heap.size = w.heap.size + 1 := by rw [hW.out]; simp
                                               omega
  have hbl : t.length ≤ 1466015503700 := by
    rw [← ht.out]
    exact HBT.out.nl _ (List.getElem_mem hsn) _ (List.getElem_mem htn2)
  have htab : tab T sn tn = t := by
    unfold tab
    rw [HGD.out, List.getD_eq_getElem?_getD, List.getElem?_eq_getElem htn2, ← ht.out]; rfl
  have HTAB := Lib.hid htab
  have X0 := cell_below hV3 x0
  have X1 := cell_below hV3 x1
  have X2 := cell_below hV3 x2
  have X3 := cell_below hV3 x3
  have C0 := cell_below hV3 c0
  have Y0 := cell_below hB3 y0
  have Z0 := cell_below hB3 z0
  have HM := Lib.hid ((hV3.block _ (by have : W.heap.size = w.heap.size + 1 := by rw [hW.out]; simp
                                       omega)).trans hm)
  have X0' := reg_c X0
  have X1' := reg_c X1
  have C0' := reg_c C0
  have Y0' := reg_c Y0
  have htnI : (tn : Int) < (ln : Int) := by omega
  have HOY := Lib.hid hoy
  have HOZ := Lib.hid hoz
  have HU2 := Lib.hid hu2
  clear hrowy hoy hoz hu2 hgs hts htab x0 x1 x2 x3 c0 y0 y0W z0 hm
  refine wp_region_quiet_below (by kernel_rfl) (by kernel_rfl) ?_; (repeat (go_big_quiet_step (fail))); refine wpQuiet_nil ?_; intro _ hw'; obtain ⟨⟨dq, osq⟩, hw''⟩ := hw'; subst hw''
  go_upto_region 5 with (fail)
  refine wp_world (fun V => RowKit.Below V3.heap.size V3 V) (below_regrown V3 dq osq) ?_
  clear X0' X1' C0' Y0'
  rintro V5 hV5
  have x0 := cell_below hV5 X0
  have x1 := cell_below hV5 X1
  have x2 := cell_below hV5 X2
  have x3 := cell_below hV5 X3
  have z0 := cell_below hV5 Z0
  have HM5 := Lib.hid ((hV5.block _ hsz3).trans HM.out)
  have hB5 : RowKit.Below w.heap.size w V5 := below_st hB3 hV5
  have x2' := reg_c x2
  have x3' := reg_c x3
  have z0' := reg_c z0
  clear X0 X1 X2 X3 C0 Y0 Z0 HM hV3
  have HF0 : Hid (oneF T ⟨(sn : Int), (tn : Int), at_, gone, ⟨r0, r1, r2, r3, r4, r5, r6, r7, r8, r9, r10, r11⟩⟩ = if at_ < 0 ∨ (tl : Int) < at_ ∨ (gone = true ∧ at_ = (tl : Int)) then (4, T) else if gone = true ∧ (⟨r0, r1, r2, r3, r4, r5, r6, r7, r8, r9, r10, r11⟩ : Ru) ≠ zeroR then (1, T) else (0, putT T sn tn (if gone = true then t.eraseIdx at_.toNat else t.take at_.toNat ++ ⟨r0, r1, r2, r3, r4, r5, r6, r7, r8, r9, r10, r11⟩ :: t.drop at_.toNat))) := by
    have e : oneF T ⟨(sn : Int), (tn : Int), at_, gone, ⟨r0, r1, r2, r3, r4, r5, r6, r7, r8, r9, r10, r11⟩⟩ = _ := if_neg (by
      show ¬ ((sn : Int) < 0 ∨ (T.length : Int) ≤ (sn : Int) ∨ (tn : Int) < 0 ∨ ((T.getD ((sn : Int)).toNat []).length : Int) ≤ (tn : Int))
      rw [Int.toNat_natCast, HGD.out, hln.out]; omega)
    show oneF T ⟨(sn : Int), (tn : Int), at_, gone, ⟨r0, r1, r2, r3, r4, r5, r6, r7, r8, r9, r10, r11⟩⟩ = _
    rw [e]
    simp only [Int.toNat_natCast, HTAB.out, htl.out]
  by_cases a1 : at_ < 0
  · have e1 : decide (at_ < 0) = true := decide_eq_true a1
    have HF := HF0.out.trans (if_pos (.inl a1))
    have HFF := Lib.hid HF
    clear HF
    refine wp_region_quiet_below (by kernel_rfl) (by kernel_rfl) ?_; (repeat (go_big_quiet_step (fail))); refine wpQuiet_nil ?_; intro _ hw'; obtain ⟨⟨dq, osq⟩, hw''⟩ := hw'; subst hw''
    go_wp2_with fail
    go_ret
    rw [HFF.out]
    exact ⟨rfl, HK.out _ (below_st hB5 (below_regrown V5 dq osq))⟩
  obtain ⟨an, rfl⟩ : ∃ an : Nat, at_ = (an : Int) := ⟨at_.toNat, by omega⟩
  have e1 : decide ((an : Int) < 0) = false := decide_eq_false a1
  by_cases a2 : (tl : Int) < (an : Int)
  · have e2 : decide ((tl : Int) < (an : Int)) = true := decide_eq_true a2
    have e2' : decide (tl < an) = true := decide_eq_true (by omega)
    have HFF := Lib.hid (HF0.out.trans (if_pos (.inr (.inl a2))))
    refine wp_region_quiet_below (by kernel_rfl) (by kernel_rfl) ?_; (repeat (go_big_quiet_step (fail))); refine wpQuiet_nil ?_; intro _ hw'; obtain ⟨⟨dq, osq⟩, hw''⟩ := hw'; subst hw''
    go_wp2_with fail
    go_ret
    rw [HFF.out]
    exact ⟨rfl, HK.out _ (below_st hB5 (below_regrown V5 dq osq))⟩
  have e2 : decide ((tl : Int) < (an : Int)) = false := decide_eq_false a2
  have e2' : decide (tl < an) = false := decide_eq_false (by omega)
  clear a1
  have hPT : ∀ (w1 : World) (t' : List Ru) (o' : Option Addr) (c' : Nat), Ow w1 (fun g => Ts tn g ∨ V5.heap.size ≤ g) 53 12 (.slice o' t'.length c') t'.length (t'.flatMap ceR) → V5.grownBy w1 (Value.slice o2 tl c2).ownBlock → OR 43 (OR 44 (O1 ceR 53 12)) (w1.setCell ⟨bs, tn, none⟩ (.slice o' t'.length c')) (fun g => S g ∨ w.heap.size ≤ g) (putT T sn tn t') (.slice (some ⟨bo, 0, none⟩) T.length ct) ∧ Fr S w (w1.setCell ⟨bs, tn, none⟩ (.slice o' t'.length c')) := fun w1 t' o' c' hn hg => by
    have hkb : ∀ g, g < w.heap.size → V5.heap[g]? = w.heap[g]? := fun g hg => hB5.block g hg
    have hox5 := HOX.out.frame (W' := V5) (goodR (good1 ceR 53 12)) fun g _ hl => hkb g hl
    have hoy5 := HOY.out.frame (W' := V5) (good1 ceR 53 12) fun g _ hl => hkb g hl
    have hoz5 := (good1 ceR 53 12).frame (W' := V5) HOZ.out fun g _ hl => hkb g hl
    have hu' := HU.out
    have := put_tab hox5 sn hsn hu' hoy5 tn htn2 (by rw [ht.out]; exact hoz5) rfl hn (by rw [htl.out]; exact hg)
    have e : putT T sn tn t' = T.set sn (T[sn].set tn t') := by unfold putT; rw [HGD.out]
    rw [e]
    exact ⟨(goodR (goodR (good1 _ _ _))).mono this.1 fun g hg _ => hg.imp id fun h => Nat.le_trans hB5.size h, (Fr.of_below hB5).trans this.2⟩
  have HPT := Lib.hid hPT
  have hz5 : ∀ V, RowKit.Below V5.heap.size V5 V → Ow V (fun g => Ts tn g ∨ V5.heap.size ≤ g) 53 12 (.slice o2 t.length c2) t.length (t.flatMap ceR) := fun V hV => (Ow.keep HOZ.out fun g hgo => (hV.block g (Nat.lt_of_lt_of_le (Ow.lt HOZ.out hgo).2 hB5.size)).trans (hB5.block g (Ow.lt HOZ.out hgo).2)).mono fun g _ h => .inl h
  have HZ5 := Lib.hid hz5
  have hbs5 : bs < V5.heap.size := World.block_lt_of_cell? V5 _ z0
  have hbso : (Value.slice o2 tl c2).ownBlock ≠ some bs := fun e => (HOY.out.sub tn bs htn2 (Ow.lt HOZ.out (by rw [htl.out]; exact e)).1).2 rfl
  have HBSO := Lib.hid hbso
  have hfz : V5.frozen? ⟨bs, tn, none⟩ = false := by
    obtain ⟨cur9, _, hg9, _⟩ := (HOY.out.row.keep (W' := V5) fun g hgo => hB5.block g (HOY.out.row.lt hgo).2).blk2
    simp [World.frozen?, hg9]
  clear hPT hz5 hbso
  have hKW : ∀ V, RowKit.Below V5.heap.size V5 V → OR 43 (OR 44 (O1 ceR 53 12)) V (fun g => S g ∨ w.heap.size ≤ g) T (.slice (some ⟨bo, 0, none⟩) T.length ct) ∧ Fr S w V := fun V hV => HK.out _ (below_st hB5 hV)
  have HKW := Lib.hid hKW
  have hCX : ∀ V, RowKit.Below V5.heap.size V5 V → ((V.cell? ⟨w.heap.size, 0, none⟩ = some (.int .i64 (sn : Int)) ∧ V.cell? ⟨w.heap.size, 1, none⟩ = some (.int .i64 (tn : Int)) ∧ V.cell? ⟨w.heap.size, 2, none⟩ = some (.int .i64 (an : Int)) ∧ V.cell? ⟨w.heap.size, 3, none⟩ = some (.bool gone)) ∧ (V.cell? ⟨w.heap.size, 4, none⟩ = some (.int .i64 r0) ∧ V.cell? ⟨w.heap.size, 5, none⟩ = some (.int .u64 r1) ∧ V.cell? ⟨w.heap.size, 6, none⟩ = some (.int .u64 r2) ∧ V.cell? ⟨w.heap.size, 7, none⟩ = some (.int .u64 r3) ∧ V.cell? ⟨w.heap.size, 8, none⟩ = some (.int .u64 r4) ∧ V.cell? ⟨w.heap.size, 9, none⟩ = some (.int .i64 r5) ∧ V.cell? ⟨w.heap.size, 10, none⟩ = some (.int .i64 r6) ∧ V.cell? ⟨w.heap.size, 11, none⟩ = some (.int .i64 r7) ∧ V.cell? ⟨w.heap.size, 12, none⟩ = some (.int .u64 r8) ∧ V.cell? ⟨w.heap.size, 13, none⟩ = some (.int .u64 r9) ∧ V.cell? ⟨w.heap.size, 14, none⟩ = some (.int .u64 r10) ∧ V.cell? ⟨w.heap.size, 15, none⟩ = some (.int .u64 r11)) ∧ V.cell? ⟨bs, tn, none⟩ = some (.slice o2 tl c2) ∧ V.frozen? ⟨bs, tn, none⟩ = false) := fun V hV => by
    have q : ∀ o, V.cell? ⟨w.heap.size, o, none⟩ = (#[.int .i64 (sn : Int), .int .i64 (tn : Int), .int .i64 (an : Int), .bool gone, .int .i64 r0, .int .u64 r1, .int .u64 r2, .int .u64 r3, .int .u64 r4, .int .i64 r5, .int .i64 r6, .int .i64 r7, .int .u64 r8, .int .u64 r9, .int .u64 r10, .int .u64 r11] : Array Value)[o]? := fun o => cell_b ((hV.block _ (Nat.lt_of_lt_of_le hsz3 hV5.size)).trans HM5.out)
    exact ⟨⟨(q 0).trans rfl, (q 1).trans rfl, (q 2).trans rfl, (q 3).trans rfl⟩, ⟨(q 4).trans rfl, (q 5).trans rfl, (q 6).trans rfl, (q 7).trans rfl, (q 8).trans rfl, (q 9).trans rfl, (q 10).trans rfl, (q 11).trans rfl, (q 12).trans rfl, (q 13).trans rfl, (q 14).trans rfl, (q 15).trans rfl⟩, cell_below hV z0, by rw [World.frozen?_of_block (w := V5) (hV.block _ hbs5)]; exact hfz⟩
  have HCX := Lib.hid hCX
  clear hKW hCX hfz
  have hanI : (an : Int) ≤ (tl : Int) := by omega
  cases gone with
  | true =>
    by_cases a3 : an = tl
    · have e3 : ((an : Int) == (tl : Int)) = true := by simp [a3]
      have HFF := Lib.hid (HF0.out.trans (if_pos (.inr (.inr ⟨rfl, by omega⟩))))
      clear a3
      refine wp_region_quiet_below (by kernel_rfl) (by kernel_rfl) ?_; (repeat (go_big_quiet_step (fail))); refine wpQuiet_nil ?_; intro _ hw'; obtain ⟨⟨dq, osq⟩, hw''⟩ := hw'; subst hw''
      go_wp2_with fail
      go_ret
      rw [HFF.out]
      exact ⟨rfl, HKW.out _ (below_regrown V5 dq osq)⟩
    have e3 : ((an : Int) == (tl : Int)) = false := by simp; omega
    have HF1 := Lib.hid (HF0.out.trans (if_neg (by rintro (h | h | ⟨_, h⟩) <;> omega)))
    have hanlt : an < tl := by omega
    clear a3
    refine wp_region_quiet_below (by kernel_rfl) (by kernel_rfl) ?_; (repeat (go_big_quiet_step (fail))); refine wpQuiet_nil ?_; intro _ hw'; obtain ⟨⟨dq, osq⟩, hw''⟩ := hw'; subst hw''
    go_upto_region 7 with (fail)
    refine wp_world (fun V => RowKit.Below V5.heap.size V5 V) (below_regrown V5 dq osq) ?_
    clear x0 x1 x2 x3 z0 x2' x3' z0' e1 e2 e2' e3
    rintro V6 hV6
    obtain ⟨⟨x0, x1, x2, x3⟩, ⟨y0, y1, y2, y3, y4, y5, y6, y7, y8, y9, y10, y11⟩, z0, zf⟩ := HCX.out V6 hV6
    by_cases hz : r0 = 0 ∧ r1 = 0 ∧ r2 = 0 ∧ r3 = 0 ∧ r4 = 0 ∧ r5 = 0 ∧ r6 = 0 ∧ r7 = 0 ∧ r8 = 0 ∧ r9 = 0 ∧ r10 = 0 ∧ r11 = 0
    rotate_left
    · have hzd : decide (r0 = 0 ∧ r1 = 0 ∧ r2 = 0 ∧ r3 = 0 ∧ r4 = 0 ∧ r5 = 0 ∧ r6 = 0 ∧ r7 = 0 ∧ r8 = 0 ∧ r9 = 0 ∧ r10 = 0 ∧ r11 = 0) = false := decide_eq_false hz
      have HFF := Lib.hid (HF1.out.trans (if_pos ⟨rfl, fun e => hz (by simpa [zeroR] using e)⟩))
      have HZD := Lib.hid hz
      clear hz
      go_wp2_with fail
      all_goals first
        | (go_ret
           rw [HFF.out]
           exact ⟨rfl, HKW.out _ hV6⟩)
        | (exfalso
           apply HZD.out
           simp_all)
    · obtain ⟨rfl, rfl, rfl, rfl, rfl, rfl, rfl, rfl, rfl, rfl, rfl, rfl⟩ := hz
      have HFF := Lib.hid (HF1.out.trans (if_neg (by rintro ⟨_, h⟩; exact h rfl)))
      have H31 : ∀ V, RowKit.Below V5.heap.size V5 V → Calls Try.prog 31 #[.slice o2 tl c2, .int .i64 (an : Int), .int .i64 ((an : Int) + 1)] V fun e w1 => e = .returned (.slice o2 (tl - 1) c2) ∧ (OR 43 (OR 44 (O1 ceR 53 12)) (w1.setCell ⟨bs, tn, none⟩ (.slice o2 (tl - 1) c2)) (fun g => S g ∨ w.heap.size ≤ g) (putT T sn tn (t.eraseIdx an)) (.slice (some ⟨bo, 0, none⟩) T.length ct) ∧ Fr S w (w1.setCell ⟨bs, tn, none⟩ (.slice o2 (tl - 1) c2))) ∧ w1.cell? ⟨bs, tn, none⟩ = some (.slice o2 tl c2) ∧ w1.frozen? ⟨bs, tn, none⟩ = false := fun V hV => by
        have := delete_c V (B := fun g => Ts tn g ∨ V5.heap.size ≤ g) (HZ5.out V hV) an (by rw [htl.out]; exact hanlt) hbl (.inr hV.size)
        rw [htl.out] at this
        refine this.mono ?_
        rintro e w1 ⟨rfl, h1, h2⟩
        have hel : (t.eraseIdx an).length = tl - 1 := by rw [List.length_eraseIdx_of_lt (by rw [htl.out]; exact hanlt), htl.out]
        have h3 := grown_of_below hV h2
        have h4 := HPT.out w1 (t.eraseIdx an) o2 c2 (by rw [hel]; exact h1) h3
        rw [hel] at h4
        obtain ⟨_, _, q1, q2⟩ := HCX.out V hV
        have hbb : w1.heap[bs]? = V.heap[bs]? := h2.block bs (Nat.lt_of_lt_of_le hbs5 hV.size) (fun e => HBSO.out e.symm)
        exact ⟨rfl, h4, by rw [World.cell?_of_block (w := V) hbb]; exact q1, by rw [World.frozen?_of_block (w := V) hbb]; exact q2⟩
      have HD := Lib.hid H31
      have htl9 := hbl
      rw [htl.out] at htl9
      have hw1 : IntKind.i64.wrap ((an : Int) + 1) = (an : Int) + 1 := by rw [IntKind.wrap_i64]; omega
      clear H31
      go_upto_region 10 with (fail)
      go_region_with (first
        | (go_at_call 31; refine (HD.out _ ?_).mono ?_; (focus (repeat (first | exact Below.refl _ _ | exact hV6 | refine below_dr ?_ | refine below_al ?_ _))); rintro e w1 ⟨rfl, hres, hq1, hq2⟩))
      all_goals
        have HRES := Lib.hid hres
        clear hres
        go_wp2_with fail
        go_ret
        rw [HFF.out]
        exact ⟨rfl, HRES.out⟩
  | false =>
    have HFF := Lib.hid ((HF0.out.trans (if_neg (by rintro (h | h | ⟨h, _⟩); omega; omega; cases h))).trans (if_neg (by rintro ⟨h, _⟩; cases h)))
    refine wp_region_quiet_below (by kernel_rfl) (by kernel_rfl) ?_; (repeat (go_big_quiet_step (fail))); refine wpQuiet_nil ?_; intro _ hw'; obtain ⟨⟨dq, osq⟩, hw''⟩ := hw'; subst hw''
    go_upto_region 7 with (fail)
    refine wp_world (fun V => RowKit.Below V5.heap.size V5 V) (below_regrown V5 dq osq) ?_
    clear x0 x1 x2 x3 z0 x2' x3' z0' e1 e2 e2'
    rintro V6 hV6
    obtain ⟨⟨x0, x1, x2, x3⟩, ⟨y0, y1, y2, y3, y4, y5, y6, y7, y8, y9, y10, y11⟩, z0, zf⟩ := HCX.out V6 hV6
    have H32 : ∀ V, RowKit.Below V5.heap.size V5 V → Calls Try.prog 32 #[.slice o2 tl c2, .int .i64 (an : Int), .slice (some ⟨V.heap.size, 0, none⟩) 1 1] (V.alloc (.cells #[.int .i64 r0, .int .u64 r1, .int .u64 r2, .int .u64 r3, .int .u64 r4, .int .i64 r5, .int .i64 r6, .int .i64 r7, .int .u64 r8, .int .u64 r9, .int .u64 r10, .int .u64 r11] 53)).drew fun e w1 => ∃ o' c', e = .returned (.slice o' (tl + 1) c') ∧ (OR 43 (OR 44 (O1 ceR 53 12)) (w1.setCell ⟨bs, tn, none⟩ (.slice o' (tl + 1) c')) (fun g => S g ∨ w.heap.size ≤ g) (putT T sn tn (t.take an ++ ⟨r0, r1, r2, r3, r4, r5, r6, r7, r8, r9, r10, r11⟩ :: t.drop an)) (.slice (some ⟨bo, 0, none⟩) T.length ct) ∧ Fr S w (w1.setCell ⟨bs, tn, none⟩ (.slice o' (tl + 1) c'))) ∧ w1.cell? ⟨bs, tn, none⟩ = some (.slice o2 tl c2) ∧ w1.frozen? ⟨bs, tn, none⟩ = false := fun V hV0 => by
      have hV := below_dr (below_al hV0 (.cells #[.int .i64 r0, .int .u64 r1, .int .u64 r2, .int .u64 r3, .int .u64 r4, .int .i64 r5, .int .i64 r6, .int .i64 r7, .int .u64 r8, .int .u64 r9, .int .u64 r10, .int .u64 r11] 53))
      have := insert_c (V.alloc (.cells #[.int .i64 r0, .int .u64 r1, .int .u64 r2, .int .u64 r3, .int .u64 r4, .int .i64 r5, .int .i64 r6, .int .i64 r7, .int .u64 r8, .int .u64 r9, .int .u64 r10, .int .u64 r11] 53)).drew (B := fun g => Ts tn g ∨ V5.heap.size ≤ g) (HZ5.out _ hV) hbl (fun g hg => .inr (Nat.le_trans hV.size hg)) an (by rw [htl.out]; omega) V.heap.size ⟨r0, r1, r2, r3, r4, r5, r6, r7, r8, r9, r10, r11⟩ (heap_alloc_new V _) (fun g hgo e => by
        have h1 := (Ow.lt HOZ.out hgo).2
        have := hB5.size
        have := hV0.size
        omega)
      rw [htl.out] at this
      refine this.mono ?_
      rintro e w1 ⟨o', c', rfl, h1, h2, _⟩
      have hel : (t.take an ++ (⟨r0, r1, r2, r3, r4, r5, r6, r7, r8, r9, r10, r11⟩ : Ru) :: t.drop an).length = tl + 1 := by
        have := htl.out
        simp; omega
      have h3 := grown_of_below hV h2
      have h4 := HPT.out w1 (t.take an ++ ⟨r0, r1, r2, r3, r4, r5, r6, r7, r8, r9, r10, r11⟩ :: t.drop an) o' c' (by rw [hel]; exact h1) h3
      rw [hel] at h4
      obtain ⟨_, _, q1, q2⟩ := HCX.out _ hV
      have hbb := h2.block bs (Nat.lt_of_lt_of_le hbs5 hV.size) (fun e => HBSO.out e.symm)
      exact ⟨o', c', rfl, h4, by rw [World.cell?_of_block hbb]; exact q1, by rw [World.frozen?_of_block hbb]; exact q2⟩
    have HI := Lib.hid H32
    clear H32
    have l0 : w.heap.size < V6.heap.size := World.block_lt_of_cell? V6 _ x0
    have l1 : bs < V6.heap.size := World.block_lt_of_cell? V6 _ z0
    go_upto_region 4 with (fail)
    go_region_with (first
      | (go_at_call 32; refine (HI.out _ ?_).mono ?_; (focus (repeat (first | exact Below.refl _ _ | exact hV6 | refine below_dr ?_ | refine below_al ?_ _))); rintro e w1 ⟨o', c', rfl, hres, hq1, hq2⟩))
    all_goals
      have HRES := Lib.hid hres
      clear hres
      go_wp2_with fail
      go_ret
      rw [HFF.out]
      exact ⟨rfl, HRES.out⟩
end Go.Proofs.Ytdmakcfgcgioeaa
