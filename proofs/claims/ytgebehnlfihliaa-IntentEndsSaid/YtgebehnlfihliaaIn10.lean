/- Intent: whether the lists let a header pass: intent's and the document's Permits. -/
import Derived.Test.YtgebehnlfihliaaIn9
namespace Go.Proofs.Ytgebehnlfihliaa.Hd
open Go.RowKit Go.Sort Go.Maps
set_option linter.unusedSimpArgs false
set_option linter.unusedVariables false
set_option maxRecDepth 100000
attribute [local go_sem ↓] execOp_ld33 execOp_st33
def hasB (I : In) (X : BitVec 128) (i : Nat) : Bool := cubeHas (I.ac i).V (I.ac i).C X
/-- do the lists let a header pass? The first line that speaks to it. -/
def perB (I : In) (X : BitVec 128) : Bool := if 0 ≤ fidx (hasB I X) I.na then (I.ac (fidx (hasB I X) I.na).toNat).per else false
theorem perB_hit {I : In} {X : BitVec 128} {k : Nat} (hk : k < I.na) (hp : hasB I X k = true) (h : ∀ i, i < k → hasB I X i = false) : perB I X = (I.ac k).per := by
  unfold perB
  rw [fidx_hit hk hp h, if_pos (by omega)]
  simp
theorem perB_none {I : In} {X : BitVec 128} (h : ∀ i, i < I.na → hasB I X i = false) : perB I X = false := by
  unfold perB
  rw [fidx_none h, if_neg (by decide)]
set_option maxHeartbeats 2000000 in
theorem perm1_c {a b c d x y : Int} {V C X : BitVec 128} (ha : a = (Plain.hiOf V).toNat) (hb : b = (Plain.loOf V).toNat) (hc : c = (Plain.hiOf C).toNat) (hd : d = (Plain.loOf C).toNat) (hx : x = (Plain.hiOf X).toNat) (hy : y = (Plain.loOf X).toNat) (per : Bool) (g : Nat) (W : World) (hg : W.heap[g]? = some (.cells #[.int .u64 x, .int .u64 y] 61 (0, 0))) :
    Calls Try.prog 55 #[.agg #[.int .u64 a, .int .u64 b, .int .u64 c, .int .u64 d, .bool per], .pointer (some ⟨g, 0, none⟩)] W fun e w' => e = .returned (.bool (cubeHas V C X)) ∧ RowKit.Below W.heap.size W w' := by
  have hH := fun W => chas_c ha hb hc hd hx hy W
  have HH := Lib.hid hH
  clear hH ha hb hc hd hx hy
  have hgl : g < W.heap.size := (Array.getElem?_eq_some_iff.1 hg).1
  have g0 : W.cell? ⟨g, 0, none⟩ = some (.int .u64 x) := (cell_b hg).trans rfl
  have g1 : W.cell? ⟨g, 1, none⟩ = some (.int .u64 y) := (cell_b hg).trans rfl
  have hba := (Below.refl W.heap.size W).alloc (Nat.le_refl _) (.cells #[.int .u64 a, .int .u64 b, .int .u64 c, .int .u64 d, .bool per] 75)
  go_enter Try.func55, Try.ntmps55
  go_wp2_with fail
  refine (HH.out _).mono ?_
  rintro e w1 ⟨rfl, hb1⟩
  go_wp2_with fail
  go_ret
  exact ⟨rfl, hba.trans (hb1.mono hba.size)⟩
theorem eg55 : ∀ args w, (callFunc 55 args).run Try.prog w = .ok (.enter 55 args) w := enters_of Try.func55 (by kernel_rfl) rfl
set_option maxHeartbeats 4000000 in
theorem permits_c {r : Ir} {I : In} {w : World} (h : NA w r I) {x y : Int} {X : BitVec 128} (hx : x = (Plain.hiOf X).toNat) (hy : y = (Plain.loOf X).toNat) :
    Calls Try.prog 27 #[.agg (I.cells r), .agg #[.int .u64 x, .int .u64 y]] w fun e w' => e = .returned (.bool (perB I X)) ∧ RowKit.Below w.heap.size w w' := by
  have ic : Hid (I.cells r = #[.slice r.o I.T.n r.c, .int .i64 I.ten, .slice r.op I.np r.cp, .slice r.ow I.nw r.cw, .slice r.oe I.ne r.ce, .slice r.oa I.na r.ca]) := rfl
  rw [ic.out]
  have hbx := below2 w (.cells #[.slice r.o I.T.n r.c, .int .i64 I.ten, .slice r.op I.np r.cp, .slice r.ow I.nw r.cw, .slice r.oe I.ne r.ce, .slice r.oa I.na r.ca] 56) (.cells #[.int .u64 x, .int .u64 y] 61)
  have b0 : ((w.alloc (.cells #[.slice r.o I.T.n r.c, .int .i64 I.ten, .slice r.op I.np r.cp, .slice r.ow I.nw r.cw, .slice r.oe I.ne r.ce, .slice r.oa I.na r.ca] 56)).alloc (.cells #[.int .u64 x, .int .u64 y] 61)).heap[w.heap.size]? = some (.cells #[.slice r.o I.T.n r.c, .int .i64 I.ten, .slice r.op I.np r.cp, .slice r.ow I.nw r.cw, .slice r.oe I.ne r.ce, .slice r.oa I.na r.ca] 56 (0, 0)) := by
    rw [al_lt' (by simp)]; exact heap_alloc_new w _
  have b1 : ((w.alloc (.cells #[.slice r.o I.T.n r.c, .int .i64 I.ten, .slice r.op I.np r.cp, .slice r.ow I.nw r.cw, .slice r.oe I.ne r.ce, .slice r.oa I.na r.ca] 56)).alloc (.cells #[.int .u64 x, .int .u64 y] 61)).heap[w.heap.size + 1]? = some (.cells #[.int .u64 x, .int .u64 y] 61 (0, 0)) := by
    have := heap_alloc_new (w.alloc (.cells #[.slice r.o I.T.n r.c, .int .i64 I.ten, .slice r.op I.np r.cp, .slice r.ow I.nw r.cw, .slice r.oe I.ne r.ce, .slice r.oa I.na r.ca] 56)) (.cells #[.int .u64 x, .int .u64 y] 61)
    rwa [World.size_alloc] at this
  have hA := h.ac.below hbx
  have hI := idxAc hA 55 #[.pointer (some ⟨w.heap.size + 1, 0, none⟩)] (hasB I X) eg55 (fun W i hW hi => by
    have hg := (hW.block _ (Array.getElem?_eq_some_iff.1 b1).1).trans b1
    exact perm1_c (V := (I.ac i).V) (C := (I.ac i).C) rfl rfl rfl rfl hx hy (I.ac i).per _ W hg)
  have hfc := fidx_cases (hasB I X) I.na
  have HNA := Lib.hid h
  clear h hA hx hy
  have hr : Hid (perB I X = if 0 ≤ fidx (hasB I X) I.na then (I.ac (fidx (hasB I X) I.na).toNat).per else false) := rfl
  obtain ⟨z, hz⟩ : ∃ z, Hid (fidx (hasB I X) I.na = z) := ⟨_, rfl⟩
  rw [hz.out] at hI hr hfc
  go_enter Try.func27, Try.ntmps27
  go_wp2_with fail
  refine hI.mono ?_
  rintro e w1 ⟨rfl, hb1⟩
  have hbw1 := hbx.trans (hb1.mono hbx.size)
  have x5 : w1.cell? ⟨w.heap.size, 5, none⟩ = some (.slice r.oa I.na r.ca) := cell_below hb1 ((cell_b b0).trans rfl)
  rcases hfc with ⟨h1, _⟩ | ⟨k, hk, _, _, h1⟩
  · rw [h1]
    have h2 : Hid (perB I X = false) := by show perB I X = false; rw [hr.out, if_neg (by rw [h1]; decide)]
    go_wp2_with fail
    go_ret
    exact ⟨by rw [h2.out]; rfl, hbw1⟩
  · rw [h1]
    have h2 : Hid (perB I X = (I.ac k).per) := by show perB I X = _; rw [hr.out, if_pos (by omega), h1]; simp
    obtain ⟨hnc, hcm, b, off, ho, hx2⟩ := HNA.out.ac.below hbw1
    have ho' := ho (by omega)
    have e4 : w1.cell? ⟨b, off + k * 5 + 4, none⟩ = some (.bool (I.ac k).per) := hx2 k 4 hk (by decide)
    clear hx2 ho
    rw [ho'] at x5
    clear ho'
    have hkI : (k : Int) < (I.na : Int) := by omega
    generalize (I.ac k).per = q at e4 h2
    go_wp2_with fail
    go_ret
    exact ⟨by rw [h2.out]; rfl, hbw1⟩
set_option maxHeartbeats 4000000 in
theorem ripermits_c {r : Ir} {I : In} {w : World} (h : NA w r I) {x y : Int} {X : BitVec 128} (hx : x = (Plain.hiOf X).toNat) (hy : y = (Plain.loOf X).toNat) :
    Calls Try.prog 28 #[.agg (I.cells r), .agg #[.int .u64 x, .int .u64 y]] w fun e w' => e = .returned (.bool (perB I X)) ∧ RowKit.Below w.heap.size w w' := by
  have ic : Hid (I.cells r = #[.slice r.o I.T.n r.c, .int .i64 I.ten, .slice r.op I.np r.cp, .slice r.ow I.nw r.cw, .slice r.oe I.ne r.ce, .slice r.oa I.na r.ca]) := rfl
  rw [ic.out]
  have hbx := below2 w (.cells #[.slice r.o I.T.n r.c, .int .i64 I.ten, .slice r.op I.np r.cp, .slice r.ow I.nw r.cw, .slice r.oe I.ne r.ce, .slice r.oa I.na r.ca] 56) (.cells #[.int .u64 x, .int .u64 y] 61)
  have kp : Hid (∀ V, RowKit.Below ((w.alloc (.cells #[.slice r.o I.T.n r.c, .int .i64 I.ten, .slice r.op I.np r.cp, .slice r.ow I.nw r.cw, .slice r.oe I.ne r.ce, .slice r.oa I.na r.ca] 56)).alloc (.cells #[.int .u64 x, .int .u64 y] 61)).heap.size ((w.alloc (.cells #[.slice r.o I.T.n r.c, .int .i64 I.ten, .slice r.op I.np r.cp, .slice r.ow I.nw r.cw, .slice r.oe I.ne r.ce, .slice r.oa I.na r.ca] 56)).alloc (.cells #[.int .u64 x, .int .u64 y] 61)) V → V.cell? ⟨w.heap.size, 5, none⟩ = some (.slice r.oa I.na r.ca) ∧ V.cell? ⟨w.heap.size + 1, 0, none⟩ = some (.int .u64 x) ∧ V.cell? ⟨w.heap.size + 1, 1, none⟩ = some (.int .u64 y) ∧ RowKit.Below w.heap.size w V) := by
    intro V hV
    have b0 : ((w.alloc (.cells #[.slice r.o I.T.n r.c, .int .i64 I.ten, .slice r.op I.np r.cp, .slice r.ow I.nw r.cw, .slice r.oe I.ne r.ce, .slice r.oa I.na r.ca] 56)).alloc (.cells #[.int .u64 x, .int .u64 y] 61)).heap[w.heap.size]? = some (.cells #[.slice r.o I.T.n r.c, .int .i64 I.ten, .slice r.op I.np r.cp, .slice r.ow I.nw r.cw, .slice r.oe I.ne r.ce, .slice r.oa I.na r.ca] 56 (0, 0)) := by
      rw [al_lt' (by simp)]; exact heap_alloc_new w _
    have b1 : ((w.alloc (.cells #[.slice r.o I.T.n r.c, .int .i64 I.ten, .slice r.op I.np r.cp, .slice r.ow I.nw r.cw, .slice r.oe I.ne r.ce, .slice r.oa I.na r.ca] 56)).alloc (.cells #[.int .u64 x, .int .u64 y] 61)).heap[w.heap.size + 1]? = some (.cells #[.int .u64 x, .int .u64 y] 61 (0, 0)) := by
      have := heap_alloc_new (w.alloc (.cells #[.slice r.o I.T.n r.c, .int .i64 I.ten, .slice r.op I.np r.cp, .slice r.ow I.nw r.cw, .slice r.oe I.ne r.ce, .slice r.oa I.na r.ca] 56)) (.cells #[.int .u64 x, .int .u64 y] 61)
      rwa [World.size_alloc] at this
    exact ⟨cell_below hV ((cell_b b0).trans rfl), cell_below hV ((cell_b b1).trans rfl), cell_below hV ((cell_b b1).trans rfl), hbx.trans (hV.mono hbx.size)⟩
  have hRH := fun V C hok W => rhas_c V C X hok hx hy W
  have HRH := Lib.hid hRH
  clear hRH hx hy
  have HNA := Lib.hid h
  clear h
  go_enter Try.func28, Try.ntmps28
  go_wp2_with fail
  obtain ⟨W0, hW0⟩ : ∃ W0, Hid (W0 = (w.alloc (.cells #[.slice r.o I.T.n r.c, .int .i64 I.ten, .slice r.op I.np r.cp, .slice r.ow I.nw r.cw, .slice r.oe I.ne r.ce, .slice r.oa I.na r.ca] 56)).alloc (.cells #[.int .u64 x, .int .u64 y] 61)) := ⟨_, rfl⟩
  rw [← hW0.out] at kp
  refine wp_world (fun W => W = W0) hW0.out.symm ?_
  rintro W rfl
  clear hW0 hbx
  go_loopw [5, 6, 7] (fun v5 v6 v7 wr => ∃ k : Nat, v5 = .int .i64 (k : Int) ∧ k ≤ I.na ∧ RowKit.Below W.heap.size W wr ∧ ∀ j, j < k → hasB I X j = false) (fun v5 _ _ _ => I.na - (intOf v5).toNat)
  case atStart => exact ⟨0, rfl, Nat.zero_le _, Below.refl _ _, fun j hj => by omega⟩
  case round =>
    obtain ⟨k, rfl, hk, hbr, hall⟩ := hrel
    have HALL := Lib.hid hall
    clear hall
    obtain ⟨x5, y0, y1, hbwr⟩ := kp.out wr hbr
    by_cases hkl : k < I.na
    · have hkI : (k : Int) < (I.na : Int) := by omega
      obtain ⟨hnc, hcm, b, off, ho, hx⟩ := HNA.out.ac.below hbwr
      simp only [maxLen] at hcm
      have ho' := ho (by omega)
      have e0 : wr.cell? ⟨b, off + k * 5, none⟩ = some (.int .u64 ((Plain.hiOf (I.ac k).V).toNat : Int)) := hx k 0 hkl (by decide)
      have e1 : wr.cell? ⟨b, off + k * 5 + 1, none⟩ = some (.int .u64 ((Plain.loOf (I.ac k).V).toNat : Int)) := hx k 1 hkl (by decide)
      have e2 : wr.cell? ⟨b, off + k * 5 + 2, none⟩ = some (.int .u64 ((Plain.hiOf (I.ac k).C).toNat : Int)) := hx k 2 hkl (by decide)
      have e3 : wr.cell? ⟨b, off + k * 5 + 3, none⟩ = some (.int .u64 ((Plain.loOf (I.ac k).C).toNat : Int)) := hx k 3 hkl (by decide)
      have e4 : wr.cell? ⟨b, off + k * 5 + 4, none⟩ = some (.bool (I.ac k).per) := hx k 4 hkl (by decide)
      clear hx ho
      rw [ho'] at x5
      have HO' := Lib.hid ho'
      clear ho'
      have hq : Hid (hasB I X k = (cubeOk (I.ac k).V (I.ac k).C && decide (X &&& (I.ac k).C = (I.ac k).V))) := rfl
      have hhit : Hid (hasB I X k = true → perB I X = (I.ac k).per) := fun hh => perB_hit hkl hh HALL.out
      have hnext : Hid (hasB I X k = false → ∀ j, j < k + 1 → hasB I X j = false) := fun hh j hj => by
        by_cases e : j = k
        · subst e; exact hh
        · exact HALL.out j (by omega)
      clear HALL
      generalize (I.ac k).V = V at e0 e1 hq
      generalize (I.ac k).C = C at e2 e3 hq
      generalize (I.ac k).per = per at e4 hhit
      have hTX := fun W => text_c V C rfl rfl rfl rfl W
      have hRH := HRH.out V C
      generalize ((Plain.hiOf V).toNat : Int) = a1 at *
      generalize ((Plain.loOf V).toNat : Int) = a2 at *
      generalize ((Plain.hiOf C).toNat : Int) = a3 at *
      generalize ((Plain.loOf C).toNat : Int) = a4 at *
      by_cases hok : cubeOk V C = true
      · have hRH := hRH hok
        unfold textR at hTX
        simp only [hok, if_true] at hTX
        generalize txt V C = s at hTX hRH
        obtain ⟨q, hqq⟩ : ∃ q, Hid (decide (X &&& C = V) = q) := ⟨_, rfl⟩
        rw [hqq.out] at hRH
        have hq2 : Hid (hasB I X k = q) := by show hasB I X k = q; rw [hq.out, hok, hqq.out]; rfl
        have HTX := Lib.hid hTX
        have HRK := Lib.hid hRH
        clear hTX hRH hok
        go_wp2_with fail
        refine (HTX.out _).mono ?_
        rintro e w4 ⟨rfl, hb4⟩
        have hbr4 := hbr.trans (hb4.mono hbr.size)
        have f4 := cell_below hb4 e4
        clear x5 y0 y1 e0 e1 e2 e3 e4 hbwr
        obtain ⟨x5, y0, y1, hbwr⟩ := kp.out w4 hbr4
        go_wp2_with fail
        refine (HRK.out _).mono ?_
        rintro e w5 ⟨rfl, hb5⟩
        have hbr5 := hbr4.trans (hb5.mono hbr4.size)
        have f5 := cell_below hb5 f4
        clear x5 y0 y1 f4 hbwr
        obtain ⟨x5, y0, y1, hbwr⟩ := kp.out w5 hbr5
        rw [HO'.out] at x5
        cases q with
        | true =>
          have HF := Lib.hid (hhit.out hq2.out)
          go_wp2_with fail
          go_ret
          exact ⟨by rw [HF.out]; rfl, hbwr⟩
        | false =>
          have HF := Lib.hid (hnext.out hq2.out)
          go_wp2_with fail
          go_roundw
          case rel => exact ⟨k + 1, by go_num, by omega, hbr5, HF.out⟩
          case measure => simp [intOf] <;> omega
      · rw [Bool.not_eq_true] at hok
        unfold textR at hTX
        simp only [hok] at hTX
        have HF : Hid (∀ j, j < k + 1 → hasB I X j = false) := hnext.out (by rw [hq.out, hok]; rfl)
        have HTX := Lib.hid hTX
        clear hTX hRH hok
        go_wp2_with fail
        refine (HTX.out _).mono ?_
        rintro e w4 ⟨rfl, hb4⟩
        have hbr4 := hbr.trans (hb4.mono hbr.size)
        clear x5 y0 y1 e0 e1 e2 e3 e4 hbwr
        obtain ⟨x5, y0, y1, hbwr⟩ := kp.out w4 hbr4
        go_wp2_with fail
        go_roundw
        case rel => exact ⟨k + 1, by go_num, by omega, hbr4, HF.out⟩
        case measure => simp [intOf] <;> omega
    · have hke : k = I.na := by omega
      subst hke
      have HF := Lib.hid (perB_none HALL.out)
      clear HALL
      go_wp2_with fail
      go_ret
      exact ⟨by rw [HF.out]; rfl, hbwr⟩
end Go.Proofs.Ytgebehnlfihliaa.Hd
