/- Intent: the document's Policy. -/
import Derived.Test.YtgebehnlfihliaaIn7
namespace Go.Proofs.Ytgebehnlfihliaa
open Go.RowKit Go.Maps
set_option linter.unusedSimpArgs false
set_option linter.unusedVariables false
set_option maxRecDepth 100000
set_option maxHeartbeats 1000000 in
theorem rtenant_c (v1 v2 : Value) (ten n : Int) (w : World) :
    Calls Try.prog 84 #[.agg #[.int .i64 ten, v1, v2], .int .i64 n] w fun e w' => e = .returned (.bool (tenB ten n)) ∧ Below w.heap.size w w' := by
  have hba := (Below.refl w.heap.size w).alloc (Nat.le_refl _) (.cells #[.int .i64 ten, v1, v2] 52)
  by_cases c1 : 0 ≤ n
  · by_cases c2 : n < ten
    · have e3 : Hid (tenB ten n = true) := decide_eq_true ⟨c1, c2⟩
      rw [e3.out]
      have c1b : decide (0 ≤ n) = true := decide_eq_true c1
      have c2b : decide (n < ten) = true := decide_eq_true c2
      go_enter Try.func84, Try.ntmps84
      go_wp2_with fail
      go_ret
      exact ⟨rfl, hba⟩
    · have e3 : Hid (tenB ten n = false) := decide_eq_false (fun h => c2 h.2)
      rw [e3.out]
      have c1b : decide (0 ≤ n) = true := decide_eq_true c1
      have c2b : decide (n < ten) = false := decide_eq_false c2
      go_enter Try.func84, Try.ntmps84
      go_wp2_with fail
      go_ret
      exact ⟨rfl, hba⟩
  · have e3 : Hid (tenB ten n = false) := decide_eq_false (fun h => c1 h.1)
    rw [e3.out]
    have c1b : decide (0 ≤ n) = false := decide_eq_false c1
    go_enter Try.func84, Try.ntmps84
    go_wp2_with fail
    go_ret
    exact ⟨rfl, hba⟩
theorem all_f {p : Nat → Bool} {n i : Nat} (hi : i < n) (h : p i = false) : allB p n = false := by
  unfold allB
  rw [List.all_eq_false]
  exact ⟨i, by simpa using hi, by simp [h]⟩
theorem all_t {p : Nat → Bool} {n : Nat} (h : ∀ i, i < n → p i = true) : allB p n = true := by
  unfold allB
  rw [List.all_eq_true]
  intro i hi
  exact h i (by simpa using hi)
def szB (I : In) : Bool := decide (1 ≤ I.ten ∧ I.ten ≤ 4 ∧ I.np ≤ 16 ∧ I.nw ≤ 4)
def edB (I : In) (i : Nat) : Bool := tenB I.ten (edgeF I.T (spF (edgs I.T I.T.n) i).1 (spF (edgs I.T I.T.n) i).2)
/-- what the document's Policy tells. -/
def polE (I : In) : Int := if szB I = false then 4 else if allB (edB I) (edgs I.T I.T.n).length = false then 4 else if allB (pairsB I) I.np = false then 2 else if allB (waysB I) I.nw = false then 2 else 0
set_option maxHeartbeats 8000000 in
theorem rpolicy_c {r : Ir} {I : In} {w : World} (h : NA w r I) (hsum : sumL I.T I.T.n ≤ 1100000) :
    Calls Try.prog 51 #[.agg #[.slice r.o I.T.n r.c], .agg #[.int .i64 I.ten, .slice r.op I.np r.cp, .slice r.ow I.nw r.cw]] w fun e w' => e = .returned (.int .i64 (polE I)) ∧ RowKit.Below w.heap.size w w' := by
  have hbx := below2 w (.cells #[.slice r.o I.T.n r.c] 24) (.cells #[.int .i64 I.ten, .slice r.op I.np r.cp, .slice r.ow I.nw r.cw] 52)
  have b0 : ((w.alloc (.cells #[.slice r.o I.T.n r.c] 24)).alloc (.cells #[.int .i64 I.ten, .slice r.op I.np r.cp, .slice r.ow I.nw r.cw] 52)).heap[w.heap.size]? = some (.cells #[.slice r.o I.T.n r.c] 24 (0, 0)) := by
    rw [al_lt' (by simp)]; exact heap_alloc_new w _
  have b1 : ((w.alloc (.cells #[.slice r.o I.T.n r.c] 24)).alloc (.cells #[.int .i64 I.ten, .slice r.op I.np r.cp, .slice r.ow I.nw r.cw] 52)).heap[w.heap.size + 1]? = some (.cells #[.int .i64 I.ten, .slice r.op I.np r.cp, .slice r.ow I.nw r.cw] 52 (0, 0)) := by
    have := heap_alloc_new (w.alloc (.cells #[.slice r.o I.T.n r.c] 24)) (.cells #[.int .i64 I.ten, .slice r.op I.np r.cp, .slice r.ow I.nw r.cw] 52)
    rwa [World.size_alloc] at this
  have hE := redges_c (h.ta.below hbx) hsum
  have P4 : Hid (szB I = false → polE I = 4) := fun hh => by unfold polE; rw [if_pos hh]
  by_cases c1 : I.ten < 1
  · have hr := P4.out (decide_eq_false (fun hh => by omega))
    rw [hr]
    have c1b : decide (I.ten < 1) = true := decide_eq_true c1
    go_enter Try.func51, Try.ntmps51
    go_wp2_with fail
    go_ret
    exact ⟨rfl, hbx⟩
  have c1b : decide (I.ten < 1) = false := decide_eq_false c1
  by_cases c2 : 4 < I.ten
  · have hr := P4.out (decide_eq_false (fun hh => by omega))
    rw [hr]
    have c2b : decide (4 < I.ten) = true := decide_eq_true c2
    go_enter Try.func51, Try.ntmps51
    go_wp2_with fail
    go_ret
    exact ⟨rfl, hbx⟩
  have c2b : decide (4 < I.ten) = false := decide_eq_false c2
  by_cases c3 : 16 < I.np
  · have hr := P4.out (decide_eq_false (fun hh => by omega))
    rw [hr]
    have c3b : decide (16 < (I.np : Int)) = true := decide_eq_true (by omega)
    have c3c : decide (16 < I.np) = true := decide_eq_true c3
    go_enter Try.func51, Try.ntmps51
    go_wp2_with fail
    go_ret
    exact ⟨rfl, hbx⟩
  have c3b : decide (16 < (I.np : Int)) = false := decide_eq_false (by omega)
  have c3c : decide (16 < I.np) = false := decide_eq_false c3
  by_cases c4 : 4 < I.nw
  · have hr := P4.out (decide_eq_false (fun hh => by omega))
    rw [hr]
    have c4b : decide (4 < (I.nw : Int)) = true := decide_eq_true (by omega)
    have c4c : decide (4 < I.nw) = true := decide_eq_true c4
    go_enter Try.func51, Try.ntmps51
    go_wp2_with fail
    go_ret
    exact ⟨rfl, hbx⟩
  have c4b : decide (4 < (I.nw : Int)) = false := decide_eq_false (by omega)
  have c4c : decide (4 < I.nw) = false := decide_eq_false c4
  have hsz : szB I = true := decide_eq_true (by omega)
  have hr : Hid (polE I = if allB (edB I) (edgs I.T I.T.n).length = false then 4 else if allB (pairsB I) I.np = false then 2 else if allB (waysB I) I.nw = false then 2 else 0) := by
    show polE I = _
    unfold polE; rw [hsz]; rfl
  clear P4 hsz
  have hlen := edgs_len I.T I.T.n
  obtain ⟨L, hL⟩ : ∃ L, Hid ((edgs I.T I.T.n).length = L) := ⟨_, rfl⟩
  rw [hL.out] at hE hlen
  have hL63 : L ≤ 1100000 := by omega
  go_enter Try.func51, Try.ntmps51
  go_wp2_with fail
  refine hE.mono ?_
  rintro e w2 ⟨v, rfl, hown, hb2⟩
  rw [← hL.out] at hown
  obtain ⟨o6, c6, rfl⟩ := slice_form hown
  have hrw := rw_spots hown
  rw [hL.out] at hrw ⊢
  have hbw2 := hbx.trans (hb2.mono hbx.size)
  have kp : Hid (∀ V, RowKit.Below w2.heap.size w2 V → V.cell? ⟨w.heap.size, 0, none⟩ = some (.slice r.o I.T.n r.c) ∧ V.cell? ⟨w.heap.size + 1, 0, none⟩ = some (.int .i64 I.ten) ∧ V.cell? ⟨w.heap.size + 1, 1, none⟩ = some (.slice r.op I.np r.cp) ∧ V.cell? ⟨w.heap.size + 1, 2, none⟩ = some (.slice r.ow I.nw r.cw) ∧ RowKit.Below w.heap.size w V) := fun V hV => by
    have hV2 := hb2.trans (hV.mono hb2.size)
    exact ⟨cell_below hV2 ((cell_b b0).trans rfl), cell_below hV2 ((cell_b b1).trans rfl), cell_below hV2 ((cell_b b1).trans rfl), cell_below hV2 ((cell_b b1).trans rfl), hbw2.trans (hV.mono hbw2.size)⟩
  have HRW := Lib.hid hrw
  clear b0 b1 hown hE hrw
  go_wp2_with fail
  refine wp_world (fun W => W = w2) rfl ?_
  rintro W rfl
  go_loopw [6] (fun v6 wr => ∃ i : Nat, v6 = .int .i64 (i : Int) ∧ i ≤ L ∧ RowKit.Below W.heap.size W wr ∧ ∀ j, j < i → edB I j = true) (fun v6 _ => L - (intOf v6).toNat)
  case atStart => exact ⟨0, rfl, Nat.zero_le _, Below.refl _ _, fun j hj => by omega⟩
  case round =>
    obtain ⟨i, rfl, hi, hbr, hall⟩ := hrel
    have HALL := Lib.hid hall
    clear hall
    obtain ⟨x0, y0, y1, y2, hbwr⟩ := kp.out wr hbr
    by_cases hil : i < L
    · have hiI : (i : Int) < (L : Int) := by omega
      obtain ⟨hnc, hcm, b, off, ho, hx⟩ := HRW.out
      obtain rfl := ho (by omega)
      have e0 := cell_below hbr (hx i 0 hil (by decide))
      have e1 := cell_below hbr (hx i 1 hil (by decide))
      simp only [Nat.add_zero, cvP, if_pos] at e0
      simp only [cvP] at e1
      rw [if_neg (by decide)] at e1
      clear hx ho
      have hZ : Hid (edB I i = tenB I.ten (edgeF I.T (spF (edgs I.T I.T.n) i).1 (spF (edgs I.T I.T.n) i).2)) := rfl
      obtain ⟨s1, hs1⟩ : ∃ s1, Hid ((spF (edgs I.T I.T.n) i).1 = s1) := ⟨_, rfl⟩
      obtain ⟨s2, hs2⟩ : ∃ s2, Hid ((spF (edgs I.T I.T.n) i).2 = s2) := ⟨_, rfl⟩
      rw [hs1.out] at e0
      rw [hs2.out] at e1
      have hD := fun p : Regrown => redge_c ((h.ta.below hbwr).below (below_regrown wr p.d p.os)) s1 s2
      obtain ⟨z, hz⟩ : ∃ z, Hid (edgeF I.T s1 s2 = z) := ⟨_, rfl⟩
      simp only [hz.out] at hD
      have hT := fun p : Regrown => rtenant_c (.slice r.op I.np r.cp) (.slice r.ow I.nw r.cw) I.ten z (Sort.grow (redrawn wr p.d) p.os)
      have hq : Hid (edB I i = tenB I.ten z) := by
        have := hZ.out; rw [hs1.out, hs2.out, hz.out] at this; exact this
      obtain ⟨q, hqq⟩ : ∃ q, Hid (tenB I.ten z = q) := ⟨_, rfl⟩
      simp only [hqq.out] at hT
      have HD := Lib.hid hD
      have HT := Lib.hid hT
      clear hD hT hZ
      have x0' := reg_c x0
      have y0' := reg_c y0
      have y1' := reg_c y1
      have y2' := reg_c y2
      have e0' := reg_c e0
      have e1' := reg_c e1
      go_upto_region 7 with (fail)
      cases q with
      | true =>
        refine wp_region_quiet_below (by kernel_rfl) (by kernel_rfl) ?_; (repeat (go_big_quiet_step ((first | (go_at_call 31; exact Calls.regrown_of (HD.out _)) | (go_at_call 84; exact Calls.regrown_of (HT.out _)))))); refine wpQuiet_nil ?_; intro _ hw'; obtain ⟨⟨dq, osq⟩, hw''⟩ := hw'; subst hw''
        go_wp2_with fail
        go_roundw
        case rel => exact ⟨i + 1, by go_num, by omega, hbr.trans ((below_regrown wr dq osq).mono hbr.size), fun j hj => by
          by_cases e : j = i
          · subst e; rw [hq.out, hqq.out]
          · exact HALL.out j (by omega)⟩
        case measure => simp [intOf] <;> omega
      | false =>
        refine wp_region_quiet_below (by kernel_rfl) (by kernel_rfl) ?_; (repeat (go_big_quiet_step ((first | (go_at_call 31; exact Calls.regrown_of (HD.out _)) | (go_at_call 84; exact Calls.regrown_of (HT.out _)))))); refine wpQuiet_nil ?_; intro _ hw'; obtain ⟨⟨dq, osq⟩, hw''⟩ := hw'; subst hw''
        have hfin : Hid (polE I = 4) := by
          show polE I = _
          rw [hr.out, if_pos (all_f (by rw [hL.out]; exact hil) (by rw [hq.out, hqq.out]))]
        go_wp2_with fail
        go_ret
        exact ⟨by rw [hfin.out]; rfl, hbwr.trans ((below_regrown wr dq osq).mono hbwr.size)⟩
    · have : i = L := by omega
      subst this
      have hr2 : Hid (polE I = if allB (pairsB I) I.np = false then 2 else if allB (waysB I) I.nw = false then 2 else 0) := by
        show polE I = _
        rw [hr.out, if_neg]
        rw [all_t (by rw [hL.out]; exact HALL.out)]
        simp
      clear hr HALL HRW
      have hnp : I.np ≤ 1000000 := by omega
      have hnw : I.nw ≤ 1000000 := by omega
      go_wp2_with fail
      obtain ⟨V0, hV0⟩ : ∃ V0, Hid (V0 = wr) := ⟨_, rfl⟩
      refine wp_world (fun W1 => W1 = V0) hV0.out.symm ?_
      rw [← hV0.out] at hbr
      clear x0 y0 y1 y2 hbwr
      rintro W1 rfl
      go_loopw [7] (fun v7 wr => ∃ i : Nat, v7 = .int .i64 (i : Int) ∧ i ≤ I.np ∧ RowKit.Below W.heap.size W wr ∧ ∀ j, j < i → pairsB I j = true) (fun v7 _ => I.np - (intOf v7).toNat)
      case atStart => exact ⟨0, rfl, Nat.zero_le _, hbr, fun j hj => by omega⟩
      case round =>
        obtain ⟨k, rfl, hk, hbr, hall⟩ := hrel
        have HALL := Lib.hid hall
        clear hall
        obtain ⟨x0, y0, y1, y2, hbwr⟩ := kp.out wr hbr
        by_cases hkl : k < I.np
        · have hkI : (k : Int) < (I.np : Int) := by omega
          obtain ⟨hnc, hcm, b, off, ho, hx⟩ := (h.pe.below hbwr)
          have ho' := ho (by omega)
          have e0 := hx k 0 hkl (by decide)
          have e1 := hx k 1 hkl (by decide)
          simp only [Nat.add_zero, cvP, if_pos] at e0
          simp only [cvP] at e1
          rw [if_neg (by decide)] at e1
          clear hx ho
          rw [ho'] at y1
          have hZ : Hid (pairsB I k = (tenB I.ten (I.pe k).1 && tenB I.ten (I.pe k).2)) := rfl
          obtain ⟨s1, hs1⟩ : ∃ s1, Hid ((I.pe k).1 = s1) := ⟨_, rfl⟩
          obtain ⟨s2, hs2⟩ : ∃ s2, Hid ((I.pe k).2 = s2) := ⟨_, rfl⟩
          rw [hs1.out] at e0
          rw [hs2.out] at e1
          have hT1 := fun p : Regrown => rtenant_c (.slice (some ⟨b, off, none⟩) I.np r.cp) (.slice r.ow I.nw r.cw) I.ten s1 (Sort.grow (redrawn wr p.d) p.os)
          have hT2 := fun p : Regrown => rtenant_c (.slice (some ⟨b, off, none⟩) I.np r.cp) (.slice r.ow I.nw r.cw) I.ten s2 (Sort.grow (redrawn wr p.d) p.os)
          obtain ⟨q1, hq1⟩ : ∃ q, Hid (tenB I.ten s1 = q) := ⟨_, rfl⟩
          obtain ⟨q2, hq2⟩ : ∃ q, Hid (tenB I.ten s2 = q) := ⟨_, rfl⟩
          simp only [hq1.out] at hT1
          simp only [hq2.out] at hT2
          have hq : Hid (pairsB I k = (q1 && q2)) := by
            have := hZ.out; rw [hs1.out, hs2.out, hq1.out, hq2.out] at this; exact this
          have HT1 := Lib.hid hT1
          have HT2 := Lib.hid hT2
          clear hT1 hT2 hZ
          have x0' := reg_c x0
          have y0' := reg_c y0
          have y1' := reg_c y1
          have y2' := reg_c y2
          have e0' := reg_c e0
          have e1' := reg_c e1
          have HO' := Lib.hid ho'
          clear ho'
          go_upto_region 12 with (fail)
          cases q1 with
          | false =>
            refine wp_region_quiet_below (by kernel_rfl) (by kernel_rfl) ?_; (repeat (go_big_quiet_step ((first | (go_at_call_of 84 s1; exact Calls.regrown_of (HT1.out _)) | (go_at_call_of 84 s2; exact Calls.regrown_of (HT2.out _)))))); refine wpQuiet_nil ?_; intro _ hw'; obtain ⟨⟨dq, osq⟩, hw''⟩ := hw'; subst hw''
            have hfin : Hid (polE I = 2) := by
              show polE I = _
              rw [hr2.out, if_pos (all_f hkl (by rw [hq.out]; rfl))]
            go_wp2_with fail
            go_ret
            exact ⟨by rw [hfin.out]; rfl, hbwr.trans ((below_regrown wr dq osq).mono hbwr.size)⟩
          | true =>
            cases q2 with
            | false =>
              refine wp_region_quiet_below (by kernel_rfl) (by kernel_rfl) ?_; (repeat (go_big_quiet_step ((first | (go_at_call_of 84 s1; exact Calls.regrown_of (HT1.out _)) | (go_at_call_of 84 s2; exact Calls.regrown_of (HT2.out _)))))); refine wpQuiet_nil ?_; intro _ hw'; obtain ⟨⟨dq, osq⟩, hw''⟩ := hw'; subst hw''
              have hfin : Hid (polE I = 2) := by
                show polE I = _
                rw [hr2.out, if_pos (all_f hkl (by rw [hq.out]; rfl))]
              go_wp2_with fail
              go_ret
              exact ⟨by rw [hfin.out]; rfl, hbwr.trans ((below_regrown wr dq osq).mono hbwr.size)⟩
            | true =>
              refine wp_region_quiet_below (by kernel_rfl) (by kernel_rfl) ?_; (repeat (go_big_quiet_step ((first | (go_at_call_of 84 s1; exact Calls.regrown_of (HT1.out _)) | (go_at_call_of 84 s2; exact Calls.regrown_of (HT2.out _)))))); refine wpQuiet_nil ?_; intro _ hw'; obtain ⟨⟨dq, osq⟩, hw''⟩ := hw'; subst hw''
              go_wp2_with fail
              go_roundw
              case rel => exact ⟨k + 1, by go_num, by omega, hbr.trans ((below_regrown wr dq osq).mono hbr.size), fun j hj => by
                by_cases e : j = k
                · subst e; rw [hq.out]; rfl
                · exact HALL.out j (by omega)⟩
              case measure => simp [intOf] <;> omega
        · have : k = I.np := by omega
          subst this
          have hr3 : Hid (polE I = if allB (waysB I) I.nw = false then 2 else 0) := by
            show polE I = _
            rw [hr2.out, if_neg]
            rw [all_t HALL.out]
            simp
          clear HALL hr2
          go_wp2_with fail
          obtain ⟨V1, hV1⟩ : ∃ V1, Hid (V1 = wr) := ⟨_, rfl⟩
          refine wp_world (fun W1 => W1 = V1) hV1.out.symm ?_
          rw [← hV1.out] at hbr
          clear x0 y0 y1 y2 hbwr
          rintro W2 rfl
          go_loopw [8] (fun v8 wr => ∃ i : Nat, v8 = .int .i64 (i : Int) ∧ i ≤ I.nw ∧ RowKit.Below W.heap.size W wr ∧ ∀ j, j < i → waysB I j = true) (fun v8 _ => I.nw - (intOf v8).toNat)
          case atStart => exact ⟨0, rfl, Nat.zero_le _, hbr, fun j hj => by omega⟩
          case round =>
            obtain ⟨m, rfl, hm, hbr, hall⟩ := hrel
            have HALL := Lib.hid hall
            clear hall
            obtain ⟨x0, y0, y1, y2, hbwr⟩ := kp.out wr hbr
            by_cases hml : m < I.nw
            · have hmI : (m : Int) < (I.nw : Int) := by omega
              obtain ⟨hnc, hcm, b, off, ho, hx⟩ := (h.wy.below hbwr)
              have ho' := ho (by omega)
              have e0 : wr.cell? ⟨b, off + m * 3, none⟩ = some (.int .i64 (I.wy m).1) := hx m 0 hml (by decide)
              have e1 : wr.cell? ⟨b, off + m * 3 + 1, none⟩ = some (.int .i64 (I.wy m).2.1) := hx m 1 hml (by decide)
              have e2 : wr.cell? ⟨b, off + m * 3 + 2, none⟩ = some (.int .i64 (I.wy m).2.2) := hx m 2 hml (by decide)
              clear hx ho
              rw [ho'] at y2
              have hZ : Hid (waysB I m = ((tenB I.ten (I.wy m).1 && tenB I.ten (I.wy m).2.1) && decide (0 ≤ (I.wy m).2.2 ∧ (I.wy m).2.2 < I.T.n))) := rfl
              obtain ⟨s1, hs1⟩ : ∃ s1, Hid ((I.wy m).1 = s1) := ⟨_, rfl⟩
              obtain ⟨s2, hs2⟩ : ∃ s2, Hid ((I.wy m).2.1 = s2) := ⟨_, rfl⟩
              obtain ⟨s3, hs3⟩ : ∃ s3, Hid ((I.wy m).2.2 = s3) := ⟨_, rfl⟩
              rw [hs1.out] at e0
              rw [hs2.out] at e1
              rw [hs3.out] at e2
              have hT1 := fun W => rtenant_c (.slice r.op I.np r.cp) (.slice (some ⟨b, off, none⟩) I.nw r.cw) I.ten s1 W
              have hT2 := fun W => rtenant_c (.slice r.op I.np r.cp) (.slice (some ⟨b, off, none⟩) I.nw r.cw) I.ten s2 W
              obtain ⟨q1, hq1⟩ : ∃ q, Hid (tenB I.ten s1 = q) := ⟨_, rfl⟩
              obtain ⟨q2, hq2⟩ : ∃ q, Hid (tenB I.ten s2 = q) := ⟨_, rfl⟩
              simp only [hq1.out] at hT1
              simp only [hq2.out] at hT2
              have hq : Hid (waysB I m = ((q1 && q2) && decide (0 ≤ s3 ∧ s3 < I.T.n))) := by
                have := hZ.out; rw [hs1.out, hs2.out, hs3.out, hq1.out, hq2.out] at this; exact this
              have HT1 := Lib.hid hT1
              have HT2 := Lib.hid hT2
              have HO' := Lib.hid ho'
              clear hT1 hT2 hZ ho'
              have hfin : Hid (waysB I m = false → polE I = 2) := fun hh => by rw [hr3.out, if_pos (all_f hml hh)]
              have hnext : Hid (waysB I m = true → ∀ j, j < m + 1 → waysB I j = true) := fun hh j hj => by
                by_cases e : j = m
                · subst e; exact hh
                · exact HALL.out j (by omega)
              have hal := (Below.refl wr.heap.size wr).alloc (Nat.le_refl _) (.cells #[.int .i64 s1, .int .i64 s2, .int .i64 s3] 92)
              have hnew := heap_alloc_new wr (.cells #[.int .i64 s1, .int .i64 s2, .int .i64 s3] 92)
              have hbr2 := hbr.alloc hbr.size (.cells #[.int .i64 s1, .int .i64 s2, .int .i64 s3] 92)
              have l1 : w.heap.size + 1 < wr.heap.size := World.block_lt_of_cell? wr _ y0
              have l2 : b < wr.heap.size := World.block_lt_of_cell? wr _ e0
              have l3 : w.heap.size < wr.heap.size := World.block_lt_of_cell? wr _ x0
              go_wp2_with fail
              refine (HT1.out _).mono ?_
              rintro e w4 ⟨rfl, hb4⟩
              have hbr4 := hbr2.trans (hb4.mono hbr2.size)
              obtain ⟨u0, v0, v1, v2, hbw4⟩ := kp.out w4 hbr4
              rw [HO'.out] at v2
              have f1 := cell_below hb4 ((cell_b (o := 1) hnew).trans rfl)
              have f2 := cell_below hb4 ((cell_b (o := 2) hnew).trans rfl)
              cases q1 with
              | false =>
                have hF := hfin.out (by rw [hq.out]; rfl)
                have HF := Lib.hid hF
                clear hF
                go_wp2_with fail
                go_ret
                exact ⟨by rw [HF.out]; rfl, hbw4⟩
              | true =>
                go_wp2_with fail
                refine (HT2.out _).mono ?_
                rintro e w5 ⟨rfl, hb5⟩
                have hbr5 := hbr4.trans (hb5.mono hbr4.size)
                obtain ⟨u0, v0, v1, v2, hbw5⟩ := kp.out w5 hbr5
                have f2' := cell_below hb5 f2
                cases q2 with
                | false =>
                  have hF := hfin.out (by rw [hq.out]; rfl)
                  have HF := Lib.hid hF
                  clear hF
                  go_wp2_with fail
                  go_ret
                  exact ⟨by rw [HF.out]; rfl, hbw5⟩
                | true =>
                  by_cases z1 : s3 < 0
                  · have hF := hfin.out (by rw [hq.out]; simp; omega)
                    have HF := Lib.hid hF
                    clear hF
                    have z1b : decide (s3 < 0) = true := decide_eq_true z1
                    go_wp2_with fail
                    go_ret
                    exact ⟨by rw [HF.out]; rfl, hbw5⟩
                  · have z1b : decide (s3 < 0) = false := decide_eq_false z1
                    by_cases z2 : (I.T.n : Int) ≤ s3
                    · have hF := hfin.out (by rw [hq.out]; simp; omega)
                      have HF := Lib.hid hF
                      clear hF
                      have z2b : decide ((I.T.n : Int) ≤ s3) = true := decide_eq_true z2
                      go_wp2_with fail
                      go_ret
                      exact ⟨by rw [HF.out]; rfl, hbw5⟩
                    · have hF := hnext.out (by rw [hq.out]; simp; omega)
                      have HF := Lib.hid hF
                      clear hF
                      have z2b : decide ((I.T.n : Int) ≤ s3) = false := decide_eq_false z2
                      go_wp2_with fail
                      go_roundw
                      case rel => exact ⟨m + 1, by go_num, by omega, hbr5, HF.out⟩
                      case measure => simp [intOf] <;> omega
            · have : m = I.nw := by omega
              subst this
              have hfin : Hid (polE I = 0) := by
                show polE I = _
                rw [hr3.out, if_neg]
                rw [all_t HALL.out]
                simp
              clear HALL hr3
              go_wp2_with fail
              go_ret
              exact ⟨by rw [hfin.out]; rfl, hbwr⟩
end Go.Proofs.Ytgebehnlfihliaa
