/- Intent: may a tenant reach another one? config's and the document's Allowed. -/
import Derived.Test.YtgebehnlfihliaaIn8
import Derived.ChangeKeysEq
namespace Go.Proofs.Ytgebehnlfihliaa
open Go.RowKit Go.Maps
set_option linter.unusedSimpArgs false
set_option linter.unusedVariables false
set_option maxRecDepth 100000
theorem ctenant_c (v1 v2 : Value) (ten n : Int) (w : World) :
    Calls Try.prog 91 #[.agg #[.int .i64 ten, v1, v2], .int .i64 n] w fun e w' => e = .returned (.bool (tenB ten n)) ∧ Below w.heap.size w w' := by
  have hba := (Below.refl w.heap.size w).alloc (Nat.le_refl _) (.cells #[.int .i64 ten, v1, v2] 52)
  by_cases c1 : 0 ≤ n
  · by_cases c2 : n < ten
    · have e3 : Hid (tenB ten n = true) := decide_eq_true ⟨c1, c2⟩
      rw [e3.out]
      have c1b : decide (0 ≤ n) = true := decide_eq_true c1
      have c2b : decide (n < ten) = true := decide_eq_true c2
      go_enter Try.func91, Try.ntmps91
      go_wp2_with fail
      go_ret
      exact ⟨rfl, hba⟩
    · have e3 : Hid (tenB ten n = false) := decide_eq_false (fun h => c2 h.2)
      rw [e3.out]
      have c1b : decide (0 ≤ n) = true := decide_eq_true c1
      have c2b : decide (n < ten) = false := decide_eq_false c2
      go_enter Try.func91, Try.ntmps91
      go_wp2_with fail
      go_ret
      exact ⟨rfl, hba⟩
  · have e3 : Hid (tenB ten n = false) := decide_eq_false (fun h => c1 h.1)
    rw [e3.out]
    have c1b : decide (0 ≤ n) = false := decide_eq_false c1
    go_enter Try.func91, Try.ntmps91
    go_wp2_with fail
    go_ret
    exact ⟨rfl, hba⟩
def prB (a b x y : Int) : Bool := (decide (x = a) && decide (y = b)) || (decide (x = b) && decide (y = a))
/-- may tenant a reach tenant b? -/
def alB (I : In) (a b : Int) : Bool := (tenB I.ten a && tenB I.ten b) && (decide (a = b) || anyB (fun k => prB a b (I.pe k).1 (I.pe k).2) I.np)
theorem cl3 : Try.prog.cellsOf 3 = 1 := by kernel_rfl
theorem part3 (x y : Value) (W : World) : (part 3 #[x, y] 0).run Try.prog W = .ok x W ∧ (part 3 #[x, y] 1).run Try.prog W = .ok y W := by
  constructor <;> kernel_rfl
theorem eq70 (x y a b : Int) (W : World) : (Op.equalIn 10000 70 (.agg #[.int .i64 x, .int .i64 y]) (.agg #[.int .i64 a, .int .i64 b])).run Try.prog W = .ok ((x == a) && (y == b)) W := by
  obtain ⟨i, hi⟩ : ∃ i, Try.prog.info? 3 = some i := Option.isSome_iff_exists.1 (by kernel_rfl)
  have := run_equalIn_array (P := Try.prog) W 9999 #[.int .i64 x, .int .i64 y] #[.int .i64 a, .int .i64 b] u70 hi
  rw [this, cl3]
  have e2 := run_equalIn_int (P := Try.prog) W 9998 3 .i64 .i64 x a u3i
  have e3 := run_equalIn_int (P := Try.prog) W 9998 3 .i64 .i64 y b u3i
  show (Op.eqItems 9999 3 1 _ _ [0, 1]).run _ _ = _
  generalize (x == a) = p at e2 ⊢
  generalize (y == b) = q at e3 ⊢
  simp only [Op.eqItems, Sem.run_bind, Nat.zero_mul, Nat.one_mul, (part3 _ _ _).1, (part3 _ _ _).2, Result.andThen_ok, e2]
  cases p <;> cases q <;> simp [part3, e3]
set_option maxHeartbeats 2000000 in
theorem allow1_c (a b x y : Int) (g1 g2 : Nat) (W : World) (h1 : W.heap[g1]? = some (.cells #[.int .i64 a, .int .i64 b] 70 (0, 0))) (h2 : W.heap[g2]? = some (.cells #[.int .i64 b, .int .i64 a] 70 (0, 0))) :
    Calls Try.prog 92 #[.agg #[.int .i64 x, .int .i64 y], .pointer (some ⟨g1, 0, none⟩), .pointer (some ⟨g2, 0, none⟩)] W fun e w' => e = .returned (.bool (prB a b x y)) ∧ RowKit.Below W.heap.size W w' := by
  have l1 : g1 < W.heap.size := (Array.getElem?_eq_some_iff.1 h1).1
  have l2 : g2 < W.heap.size := (Array.getElem?_eq_some_iff.1 h2).1
  have x0 : W.cell? ⟨g1, 0, none⟩ = some (.int .i64 a) := (cell_b h1).trans rfl
  have x1 : W.cell? ⟨g1, 1, none⟩ = some (.int .i64 b) := (cell_b h1).trans rfl
  have y0 : W.cell? ⟨g2, 0, none⟩ = some (.int .i64 b) := (cell_b h2).trans rfl
  have y1 : W.cell? ⟨g2, 1, none⟩ = some (.int .i64 a) := (cell_b h2).trans rfl
  have hba := (Below.refl W.heap.size W).alloc (Nat.le_refl _) (.cells #[.int .i64 x, .int .i64 y] 70)
  have hr : Hid (prB a b x y = (((x == a) && (y == b)) || ((x == b) && (y == a)))) := rfl
  obtain ⟨q1, hq1⟩ : ∃ q, (x == a) = q := ⟨_, rfl⟩
  obtain ⟨q2, hq2⟩ : ∃ q, (y == b) = q := ⟨_, rfl⟩
  obtain ⟨q3, hq3⟩ : ∃ q, (x == b) = q := ⟨_, rfl⟩
  obtain ⟨q4, hq4⟩ : ∃ q, (y == a) = q := ⟨_, rfl⟩
  rw [hr.out, hq1, hq2, hq3, hq4]
  clear hr
  have h70 := eq70
  cases q1 <;> cases q2 <;> cases q3 <;> cases q4
  all_goals go_enter Try.func92, Try.ntmps92
  all_goals go_wp2_with fail
  all_goals go_ret
  all_goals refine ⟨?_, hba⟩
  all_goals (simp [*]; done)
theorem eg92 : ∀ args w, (callFunc 92 args).run Try.prog w = .ok (.enter 92 args) w := enters_of Try.func92 (by kernel_rfl) rfl
set_option maxHeartbeats 4000000 in
theorem allowed_c {r : Ir} {I : In} {w : World} (h : NA w r I) (a b : Int) :
    Calls Try.prog 62 #[.agg #[.int .i64 I.ten, .slice r.op I.np r.cp, .slice r.ow I.nw r.cw], .int .i64 a, .int .i64 b] w fun e w' => e = .returned (.bool (alB I a b)) ∧ RowKit.Below w.heap.size w w' := by
  have hbx : RowKit.Below w.heap.size w (w.alloc (.cells #[.int .i64 I.ten, .slice r.op I.np r.cp, .slice r.ow I.nw r.cw] 52)) := (Below.refl w.heap.size w).alloc (Nat.le_refl _) _
  have b0 := heap_alloc_new w (.cells #[.int .i64 I.ten, .slice r.op I.np r.cp, .slice r.ow I.nw r.cw] 52)
  have hT := fun n W => ctenant_c (.slice r.op I.np r.cp) (.slice r.ow I.nw r.cw) I.ten n W
  obtain ⟨q1, hq1⟩ : ∃ q, Hid (tenB I.ten a = q) := ⟨_, rfl⟩
  obtain ⟨q2, hq2⟩ : ∃ q, Hid (tenB I.ten b = q) := ⟨_, rfl⟩
  obtain ⟨z, hz⟩ : ∃ z, Hid (anyB (fun k => prB a b (I.pe k).1 (I.pe k).2) I.np = z) := ⟨_, rfl⟩
  have hr : Hid (alB I a b = ((q1 && q2) && (decide (a = b) || z))) := by unfold alB; rw [hq1.out, hq2.out, hz.out]; exact rfl
  rw [hr.out]
  clear hr
  have hT1 := hT a
  have hT2 := hT b
  simp only [hq1.out] at hT1
  simp only [hq2.out] at hT2
  have HT1 := Lib.hid hT1
  have HT2 := Lib.hid hT2
  clear hT hT1 hT2 hq1 hq2
  have kp : Hid (∀ V, RowKit.Below (w.alloc (.cells #[.int .i64 I.ten, .slice r.op I.np r.cp, .slice r.ow I.nw r.cw] 52)).heap.size (w.alloc (.cells #[.int .i64 I.ten, .slice r.op I.np r.cp, .slice r.ow I.nw r.cw] 52)) V → V.cell? ⟨w.heap.size, 0, none⟩ = some (.int .i64 I.ten) ∧ V.cell? ⟨w.heap.size, 1, none⟩ = some (.slice r.op I.np r.cp) ∧ V.cell? ⟨w.heap.size, 2, none⟩ = some (.slice r.ow I.nw r.cw) ∧ RowKit.Below w.heap.size w V) := fun V hV =>
    ⟨cell_below hV ((cell_b b0).trans rfl), cell_below hV ((cell_b b0).trans rfl), cell_below hV ((cell_b b0).trans rfl), hbx.trans (hV.mono hbx.size)⟩
  go_enter Try.func62, Try.ntmps62
  go_wp2_with fail
  refine (HT1.out _).mono ?_
  rintro e w1 ⟨rfl, hb1⟩
  obtain ⟨x0, x1, x2, hbw1⟩ := kp.out w1 hb1
  cases q1 with
  | false =>
    go_wp2_with fail
    go_ret
    exact ⟨by simp, hbw1⟩
  | true =>
    go_wp2_with fail
    refine (HT2.out _).mono ?_
    rintro e w2 ⟨rfl, hb2⟩
    have hB2 := hb1.trans (hb2.mono hb1.size)
    clear x0 x1 x2 hbw1
    obtain ⟨x0, x1, x2, hbw2⟩ := kp.out w2 hB2
    cases q2 with
    | false =>
      go_wp2_with fail
      go_ret
      exact ⟨by simp, hbw2⟩
    | true =>
      have l0 : w.heap.size < w2.heap.size := World.block_lt_of_cell? w2 _ x0
      have hbn := hbw2.trans ((below2 w2 (.cells #[.int .i64 a, .int .i64 b] 70) (.cells #[.int .i64 b, .int .i64 a] 70)).mono hbw2.size)
      by_cases hab : a = b
      · have habb : (a == b) = true := by simpa using hab
        have hda := Lib.hid (decide_eq_true hab)
        clear hab
        go_wp2_with fail
        go_ret
        exact ⟨by rw [hda.out]; rfl, hbn⟩
      · have habb : (a == b) = false := by simpa using hab
        have hda := Lib.hid (decide_eq_false hab)
        clear hab
        have c0 : ((w2.alloc (.cells #[.int .i64 a, .int .i64 b] 70)).alloc (.cells #[.int .i64 b, .int .i64 a] 70)).heap[w2.heap.size]? = some (.cells #[.int .i64 a, .int .i64 b] 70 (0, 0)) := by
          rw [al_lt' (by simp)]; exact heap_alloc_new w2 _
        have c1 : ((w2.alloc (.cells #[.int .i64 a, .int .i64 b] 70)).alloc (.cells #[.int .i64 b, .int .i64 a] 70)).heap[w2.heap.size + 1]? = some (.cells #[.int .i64 b, .int .i64 a] 70 (0, 0)) := by
          have := heap_alloc_new (w2.alloc (.cells #[.int .i64 a, .int .i64 b] 70)) (.cells #[.int .i64 b, .int .i64 a] 70)
          rwa [World.size_alloc] at this
        have hc := conPr (h.pe.below hbn) 92 #[.pointer (some ⟨w2.heap.size, 0, none⟩), .pointer (some ⟨w2.heap.size + 1, 0, none⟩)] (fun k => prB a b (I.pe k).1 (I.pe k).2) eg92 (fun W i hW hi =>
          allow1_c a b _ _ _ _ W ((hW.block _ (Array.getElem?_eq_some_iff.1 c0).1).trans c0) ((hW.block _ (Array.getElem?_eq_some_iff.1 c1).1).trans c1))
        rw [hz.out] at hc
        go_wp2_with fail
        refine hc.mono ?_
        rintro e w3 ⟨rfl, hb3⟩
        go_wp2_with fail
        go_ret
        exact ⟨by rw [hda.out]; simp, hbn.trans (hb3.mono hbn.size)⟩
set_option maxHeartbeats 4000000 in
theorem rallowed_c {r : Ir} {I : In} {w : World} (h : NA w r I) (a b : Int) :
    Calls Try.prog 66 #[.agg #[.int .i64 I.ten, .slice r.op I.np r.cp, .slice r.ow I.nw r.cw], .int .i64 a, .int .i64 b] w fun e w' => e = .returned (.bool (alB I a b)) ∧ RowKit.Below w.heap.size w w' := by
  have hbx : RowKit.Below w.heap.size w (w.alloc (.cells #[.int .i64 I.ten, .slice r.op I.np r.cp, .slice r.ow I.nw r.cw] 52)) := (Below.refl w.heap.size w).alloc (Nat.le_refl _) _
  have b0 := heap_alloc_new w (.cells #[.int .i64 I.ten, .slice r.op I.np r.cp, .slice r.ow I.nw r.cw] 52)
  have hT := fun n W => rtenant_c (.slice r.op I.np r.cp) (.slice r.ow I.nw r.cw) I.ten n W
  obtain ⟨q1, hq1⟩ : ∃ q, Hid (tenB I.ten a = q) := ⟨_, rfl⟩
  obtain ⟨q2, hq2⟩ : ∃ q, Hid (tenB I.ten b = q) := ⟨_, rfl⟩
  obtain ⟨z, hz⟩ : ∃ z, Hid (anyB (fun k => prB a b (I.pe k).1 (I.pe k).2) I.np = z) := ⟨_, rfl⟩
  have hr : Hid (alB I a b = ((q1 && q2) && (decide (a = b) || z))) := by unfold alB; rw [hq1.out, hq2.out, hz.out]; exact rfl
  rw [hr.out]
  clear hr
  have hT1 := hT a
  have hT2 := hT b
  simp only [hq1.out] at hT1
  simp only [hq2.out] at hT2
  have HT1 := Lib.hid hT1
  have HT2 := Lib.hid hT2
  clear hT hT1 hT2 hq1 hq2
  have kp : Hid (∀ V, RowKit.Below (w.alloc (.cells #[.int .i64 I.ten, .slice r.op I.np r.cp, .slice r.ow I.nw r.cw] 52)).heap.size (w.alloc (.cells #[.int .i64 I.ten, .slice r.op I.np r.cp, .slice r.ow I.nw r.cw] 52)) V → V.cell? ⟨w.heap.size, 0, none⟩ = some (.int .i64 I.ten) ∧ V.cell? ⟨w.heap.size, 1, none⟩ = some (.slice r.op I.np r.cp) ∧ V.cell? ⟨w.heap.size, 2, none⟩ = some (.slice r.ow I.nw r.cw) ∧ RowKit.Below w.heap.size w V) := fun V hV =>
    ⟨cell_below hV ((cell_b b0).trans rfl), cell_below hV ((cell_b b0).trans rfl), cell_below hV ((cell_b b0).trans rfl), hbx.trans (hV.mono hbx.size)⟩
  go_enter Try.func66, Try.ntmps66
  go_wp2_with fail
  refine (HT1.out _).mono ?_
  rintro e w1 ⟨rfl, hb1⟩
  obtain ⟨x0, x1, x2, hbw1⟩ := kp.out w1 hb1
  cases q1 with
  | false =>
    go_wp2_with fail
    go_ret
    exact ⟨by simp, hbw1⟩
  | true =>
    go_wp2_with fail
    refine (HT2.out _).mono ?_
    rintro e w2 ⟨rfl, hb2⟩
    have hB2 := hb1.trans (hb2.mono hb1.size)
    clear x0 x1 x2 hbw1
    obtain ⟨x0, x1, x2, hbw2⟩ := kp.out w2 hB2
    cases q2 with
    | false =>
      go_wp2_with fail
      go_ret
      exact ⟨by simp, hbw2⟩
    | true =>
      obtain ⟨qe, hqe⟩ : ∃ q, (a == b) = q := ⟨_, rfl⟩
      have hqe2 : Hid (decide (a = b) = qe) := by rw [← hqe]; exact rfl
      go_wp2_with fail
      clear hqe x0 x1 x2 hbw2 hb2 hb1
      refine wp_world (fun W => W = w2) rfl ?_
      rintro W rfl
      go_loopw [7, 8] (fun v7 v8 wr => ∃ (k : Nat) (q : Bool), v8 = .int .i64 (k : Int) ∧ k ≤ I.np ∧ RowKit.Below W.heap.size W wr ∧ v7 = .bool q ∧ q = (qe || anyB (fun k => prB a b (I.pe k).1 (I.pe k).2) k)) (fun _ v8 _ => I.np - (intOf v8).toNat)
      case atStart => exact ⟨0, qe, rfl, Nat.zero_le _, Below.refl _ _, rfl, by simp [anyB]⟩
      case round =>
        obtain ⟨k, q, rfl, hk, hbr, rfl, hqe⟩ := hrel
        have HQ := Lib.hid hqe
        clear hqe
        obtain ⟨x0, x1, x2, hbwr⟩ := kp.out wr (hB2.trans (hbr.mono hB2.size))
        by_cases hkl : k < I.np
        · have hkI : (k : Int) < (I.np : Int) := by omega
          obtain ⟨hnc, hcm, bk, off, ho, hx⟩ := h.pe.below hbwr
          simp only [maxLen] at hcm
          have ho' := ho (by omega)
          have e0 : wr.cell? ⟨bk, off + k * 2, none⟩ = some (.int .i64 (I.pe k).1) := hx k 0 hkl (by decide)
          have e1 : wr.cell? ⟨bk, off + k * 2 + 1, none⟩ = some (.int .i64 (I.pe k).2) := hx k 1 hkl (by decide)
          clear hx ho
          rw [ho'] at x1
          have HO' := Lib.hid ho'
          clear ho'
          have hst : Hid (∀ q', q' = (q || prB a b (I.pe k).1 (I.pe k).2) → q' = (qe || anyB (fun k => prB a b (I.pe k).1 (I.pe k).2) (k + 1))) := fun q' hq' => by
            rw [hq', HQ.out]
            unfold anyB
            rw [List.range_succ, List.any_append]
            simp [Bool.or_assoc]
          generalize (I.pe k).1 = x at e0 hst
          generalize (I.pe k).2 = y at e1 hst
          have hr : Hid (prB a b x y = (((x == a) && (y == b)) || ((x == b) && (y == a)))) := rfl
          rw [hr.out] at hst
          obtain ⟨q1, hq1⟩ : ∃ q, (x == a) = q := ⟨_, rfl⟩
          obtain ⟨q2, hq2⟩ : ∃ q, (y == b) = q := ⟨_, rfl⟩
          obtain ⟨q3, hq3⟩ : ∃ q, (x == b) = q := ⟨_, rfl⟩
          obtain ⟨q4, hq4⟩ : ∃ q, (y == a) = q := ⟨_, rfl⟩
          rw [hq1, hq2, hq3, hq4] at hst
          clear hr
          have x1' := reg_c x1
          have e0' := reg_c e0
          have e1' := reg_c e1
          go_upto_region 7 with (fail)
          refine wp_region_quiet_below (by kernel_rfl) (by kernel_rfl) ?_; (repeat (go_big_quiet_step (fail))); refine wpQuiet_nil ?_; intro _ hw'; obtain ⟨⟨dq, osq⟩, hw''⟩ := hw'; subst hw''
          go_wp2_with fail
          all_goals go_roundw
          all_goals first
            | (case rel => refine ⟨k + 1, _, by go_num, by omega, hbr.trans ((below_regrown wr dq osq).mono hbr.size), rfl, hst.out _ ?_⟩ <;> simp [*])
            | (case measure => simp [intOf] <;> omega)
        · have hke : k = I.np := by omega
          subst hke
          go_wp2_with fail
          go_ret
          exact ⟨by rw [hqe2.out, ← hz.out, ← HQ.out]; rfl, hbwr⟩
end Go.Proofs.Ytgebehnlfihliaa
