/- Intent: the keys of two ways; sizes; intent's Sound. -/
import Derived.Test.YtgebehnlfihliaaIn5
namespace Go.Proofs.Ytgebehnlfihliaa
open Go.RowKit Go.Maps
set_option linter.unusedSimpArgs false
set_option linter.unusedVariables false
set_option maxRecDepth 100000
theorem keyW_c (f t via : Int) (W : World) : Calls Try.prog 50 #[.agg #[.int .i64 f, .int .i64 t, .int .i64 via]] W fun e w' => e = .returned (.agg #[.int .i64 f, .int .i64 t]) ∧ RowKit.Below W.heap.size W w' := by
  go_enter Try.func50, Try.ntmps50
  go_wp2_with fail
  refine bodyPost_ret_by (results_cell_row rfl _ _ (W.heap.size + 1) 70 #[.int .i64 f, .int .i64 t] (0, 0) _ rfl ?_ u70 rfl (by kernel_rfl)) rfl ⟨rfl, below2 _ _ _⟩
  have := heap_alloc_new (W.alloc (.cells #[.int .i64 f, .int .i64 t, .int .i64 via] 92)) (.cells #[.int .i64 f, .int .i64 t] 70)
  rwa [World.size_alloc] at this
/-- the tenant of a port of the switches lies in the policy's range. -/
def edgesB (T : Tp) (ten : Int) : Bool := allB (fun i => tenB ten (edgeF T (spF (edgs T T.n) i).1 (spF (edgs T T.n) i).2)) (edgs T T.n).length
def sizesB (I : In) : Bool := decide (1 ≤ I.ten ∧ I.ten ≤ 4 ∧ I.np ≤ 16 ∧ I.nw ≤ 4 ∧ I.ne ≤ 10 ∧ I.na ≤ 8) && edgesB I.T I.ten
set_option maxHeartbeats 2000000 in
theorem sizes1_c {o : Option Addr} {cap : Nat} {T : Tp} {W : World} (h : TA W o cap T) (hsum : sumL T T.n ≤ 1100000) (v2 v3 v4 v5 : Value) (ten sw po : Int) (g : Nat)
    (hg : W.heap[g]? = some (.cells #[.slice o T.n cap, .int .i64 ten, v2, v3, v4, v5] 56 (0, 0))) :
    Calls Try.prog 71 #[.agg #[.int .i64 sw, .int .i64 po], .pointer (some ⟨g, 0, none⟩)] W fun e w' => e = .returned (.bool (!tenB ten (edgeF T sw po))) ∧ RowKit.Below W.heap.size W w' := by
  have hgl : g < W.heap.size := (Array.getElem?_eq_some_iff.1 hg).1
  have hba := (Below.refl W.heap.size W).alloc (Nat.le_refl _) (.cells #[.int .i64 sw, .int .i64 po] 26)
  have b1 := heap_alloc_new W (.cells #[.int .i64 sw, .int .i64 po] 26)
  have hg2 := (al_lt' (o := .cells #[.int .i64 sw, .int .i64 po] 26) hgl).trans hg
  have h2 := h.below hba
  obtain ⟨z, hz⟩ : ∃ z, Hid (edgeF T sw po = z) := ⟨_, rfl⟩
  obtain ⟨rr, hrr⟩ : ∃ rr, Hid (tenB ten z = rr) := ⟨_, rfl⟩
  rw [hz.out, hrr.out]
  go_enter Try.func71, Try.ntmps71
  go_wp2_with fail
  generalize W.alloc (.cells #[.int .i64 sw, .int .i64 po] 26) = V at hba b1 hg2 h2 ⊢
  have hE := fun p : Regrown => tedge_c (h2.below (below_regrown V p.d p.os)) hsum sw po
  simp only [hz.out] at hE
  have hT := fun p : Regrown => tenant_c (.slice o T.n cap) v2 v3 v4 v5 ten z (Sort.grow (redrawn V p.d) p.os)
  simp only [hrr.out] at hT
  have HE := Lib.hid hE
  have HT := Lib.hid hT
  clear hE hT
  have x0 := reg_c (show V.cell? ⟨g, 0, none⟩ = some (.slice o T.n cap) from (cell_b hg2).trans rfl)
  have x1 := reg_c (show V.cell? ⟨g, 1, none⟩ = some (.int .i64 ten) from (cell_b hg2).trans rfl)
  have x2 := reg_c (show V.cell? ⟨g, 2, none⟩ = some v2 from (cell_b hg2).trans rfl)
  have x3 := reg_c (show V.cell? ⟨g, 3, none⟩ = some v3 from (cell_b hg2).trans rfl)
  have x4 := reg_c (show V.cell? ⟨g, 4, none⟩ = some v4 from (cell_b hg2).trans rfl)
  have x5 := reg_c (show V.cell? ⟨g, 5, none⟩ = some v5 from (cell_b hg2).trans rfl)
  have y0 := reg_c (show V.cell? ⟨W.heap.size, 0, none⟩ = some (.int .i64 sw) from (cell_b b1).trans rfl)
  have y1 := reg_c (show V.cell? ⟨W.heap.size, 1, none⟩ = some (.int .i64 po) from (cell_b b1).trans rfl)
  refine wp_region_quiet_below (by kernel_rfl) (by kernel_rfl) ?_; (repeat (go_big_quiet_step ((first | (go_at_call 58; exact Calls.regrown_of (HE.out _)) | (go_at_call 72; exact Calls.regrown_of (HT.out _)))))); refine wpQuiet_nil ?_; intro _ hw'; obtain ⟨⟨dq, osq⟩, hw''⟩ := hw'; subst hw''
  go_wp2_with fail
  go_ret
  exact ⟨rfl, hba.trans ((below_regrown V dq osq).mono hba.size)⟩
theorem eg71 : ∀ args w, (callFunc 71 args).run Try.prog w = .ok (.enter 71 args) w := enters_of Try.func71 (by kernel_rfl) rfl
theorem edgesB_eq (T : Tp) (ten : Int) : (!anyB (fun i => !tenB ten (edgeF T (spF (edgs T T.n) i).1 (spF (edgs T T.n) i).2)) (edgs T T.n).length) = edgesB T ten := any_not _ _
set_option maxHeartbeats 4000000 in
theorem sizes_c {r : Ir} {I : In} {w : World} (h : NA w r I) (hsum : sumL I.T I.T.n ≤ 1100000) :
    Calls Try.prog 38 #[.agg (I.cells r)] w fun e w' => e = .returned (.bool (sizesB I)) ∧ RowKit.Below w.heap.size w w' := by
  have hta := h.ta
  obtain ⟨T, ten, np, pe, nw, wy, ne, en, na, ac⟩ := I
  obtain ⟨o, c, op, cp, ow, cw, oe, ce, oa, ca⟩ := r
  simp only [In.cells] at hta hsum ⊢
  have hr : Hid (sizesB ⟨T, ten, np, pe, nw, wy, ne, en, na, ac⟩ = (decide (1 ≤ ten ∧ ten ≤ 4 ∧ np ≤ 16 ∧ nw ≤ 4 ∧ ne ≤ 10 ∧ na ≤ 8) && edgesB T ten)) := rfl
  rw [hr.out]
  clear h hr
  have hbx := below2 w (.cells #[.slice o T.n c, .int .i64 ten, .slice op np cp, .slice ow nw cw, .slice oe ne ce, .slice oa na ca] 56) (.cells #[.int .i64 ten, .slice op np cp, .slice ow nw cw] 52)
  have b0 : ((w.alloc (.cells #[.slice o T.n c, .int .i64 ten, .slice op np cp, .slice ow nw cw, .slice oe ne ce, .slice oa na ca] 56)).alloc (.cells #[.int .i64 ten, .slice op np cp, .slice ow nw cw] 52)).heap[w.heap.size]? = some (.cells #[.slice o T.n c, .int .i64 ten, .slice op np cp, .slice ow nw cw, .slice oe ne ce, .slice oa na ca] 56 (0, 0)) := by
    rw [al_lt' (by simp)]; exact heap_alloc_new w _
  have hE := tedges_c (hta.below hbx) hsum
  have hfalse : ¬ (1 ≤ ten ∧ ten ≤ 4 ∧ np ≤ 16 ∧ nw ≤ 4 ∧ ne ≤ 10 ∧ na ≤ 8) → (decide (1 ≤ ten ∧ ten ≤ 4 ∧ np ≤ 16 ∧ nw ≤ 4 ∧ ne ≤ 10 ∧ na ≤ 8) && edgesB T ten) = false := fun hh => by rw [decide_eq_false hh]; rfl
  have HFA := Lib.hid hfalse
  clear hfalse
  by_cases c1 : ten < 1
  · rw [HFA.out (by omega)]
    have c1b : decide (ten < 1) = true := decide_eq_true c1
    go_enter Try.func38, Try.ntmps38
    go_wp2_with fail
    go_ret
    exact ⟨rfl, hbx⟩
  have c1b : decide (ten < 1) = false := decide_eq_false c1
  by_cases c2 : 4 < ten
  · rw [HFA.out (by omega)]
    have c2b : decide (4 < ten) = true := decide_eq_true c2
    go_enter Try.func38, Try.ntmps38
    go_wp2_with fail
    go_ret
    exact ⟨rfl, hbx⟩
  have c2b : decide (4 < ten) = false := decide_eq_false c2
  by_cases c3 : 16 < np
  · rw [HFA.out (by omega)]
    have c3b : decide (16 < (np : Int)) = true := decide_eq_true (by omega)
    have c3c : decide (16 < np) = true := decide_eq_true c3
    go_enter Try.func38, Try.ntmps38
    go_wp2_with fail
    go_ret
    exact ⟨rfl, hbx⟩
  have c3b : decide (16 < (np : Int)) = false := decide_eq_false (by omega)
  have c3c : decide (16 < np) = false := decide_eq_false c3
  by_cases c4 : 4 < nw
  · rw [HFA.out (by omega)]
    have c4b : decide (4 < (nw : Int)) = true := decide_eq_true (by omega)
    have c4c : decide (4 < nw) = true := decide_eq_true c4
    go_enter Try.func38, Try.ntmps38
    go_wp2_with fail
    go_ret
    exact ⟨rfl, hbx⟩
  have c4b : decide (4 < (nw : Int)) = false := decide_eq_false (by omega)
  have c4c : decide (4 < nw) = false := decide_eq_false c4
  by_cases c5 : 10 < ne
  · rw [HFA.out (by omega)]
    have c5b : decide (10 < (ne : Int)) = true := decide_eq_true (by omega)
    have c5c : decide (10 < ne) = true := decide_eq_true c5
    go_enter Try.func38, Try.ntmps38
    go_wp2_with fail
    go_ret
    exact ⟨rfl, hbx⟩
  have c5b : decide (10 < (ne : Int)) = false := decide_eq_false (by omega)
  have c5c : decide (10 < ne) = false := decide_eq_false c5
  by_cases c6 : 8 < na
  · rw [HFA.out (by omega)]
    have c6b : decide (8 < (na : Int)) = true := decide_eq_true (by omega)
    have c6c : decide (8 < na) = true := decide_eq_true c6
    go_enter Try.func38, Try.ntmps38
    go_wp2_with fail
    go_ret
    exact ⟨rfl, hbx⟩
  have c6b : decide (8 < (na : Int)) = false := decide_eq_false (by omega)
  have c6c : decide (8 < na) = false := decide_eq_false c6
  rw [decide_eq_true (show 1 ≤ ten ∧ ten ≤ 4 ∧ np ≤ 16 ∧ nw ≤ 4 ∧ ne ≤ 10 ∧ na ≤ 8 by omega), Bool.true_and]
  obtain ⟨z, hz⟩ : ∃ z, Hid (anyB (fun i => !tenB ten (edgeF T (spF (edgs T T.n) i).1 (spF (edgs T T.n) i).2)) (edgs T T.n).length = z) := ⟨_, rfl⟩
  rw [← edgesB_eq, hz.out]
  go_enter Try.func38, Try.ntmps38
  go_wp2_with fail
  refine hE.mono ?_
  rintro e w2 ⟨v, rfl, hown, hb2⟩
  obtain ⟨o6, c6', rfl⟩ := slice_form hown
  have hb3 := hbx.trans (hb2.mono hbx.size)
  have g2 : w2.heap[w.heap.size]? = some (.cells #[.slice o T.n c, .int .i64 ten, .slice op np cp, .slice ow nw cw, .slice oe ne ce, .slice oa na ca] 56 (0, 0)) := (hb2.block _ (Array.getElem?_eq_some_iff.1 b0).1).trans b0
  have hcs := conSp (rw_spots hown) 71 #[.pointer (some ⟨w.heap.size, 0, none⟩)] (fun i => !tenB ten (edgeF T (spF (edgs T T.n) i).1 (spF (edgs T T.n) i).2)) eg71 (fun W i hW hi => by
    have hg : W.heap[w.heap.size]? = some (.cells #[.slice o T.n c, .int .i64 ten, .slice op np cp, .slice ow nw cw, .slice oe ne ce, .slice oa na ca] 56 (0, 0)) := (hW.block _ (Array.getElem?_eq_some_iff.1 g2).1).trans g2
    exact sizes1_c (hta.below (hb3.trans (hW.mono hb3.size))) hsum _ _ _ _ ten _ _ w.heap.size hg)
  rw [hz.out] at hcs
  go_wp2_with fail
  refine hcs.mono ?_
  rintro e w3 ⟨rfl, hb4⟩
  go_wp2_with fail
  go_ret
  exact ⟨rfl, hb3.trans (hb4.mono hb3.size)⟩
def pairsB (I : In) (i : Nat) : Bool := tenB I.ten (I.pe i).1 && tenB I.ten (I.pe i).2
def waysB (I : In) (i : Nat) : Bool := wayB I.ten I.T.n (I.wy i).1 (I.wy i).2.1 (I.wy i).2.2
def endsB (I : In) (i : Nat) : Bool := endB I.T (I.en i).ten (I.en i).sw (I.en i).po
def aclsB (I : In) (i : Nat) : Bool := aclB (I.ac i).V (I.ac i).C
def qE (I : In) (i j : Nat) : Bool := decide ((I.en i).addr = (I.en j).addr)
def qW (I : In) (i j : Nat) : Bool := decide ((I.wy i).1 = (I.wy j).1 ∧ (I.wy i).2.1 = (I.wy j).2.1)
def formB (I : In) : Bool := ((allB (pairsB I) I.np && allB (waysB I) I.nw) && allB (endsB I) I.ne) && allB (aclsB I) I.na
/-- may it be wanted? -/
def soundI (I : In) : Int := if soundE I.T ≠ 0 then soundE I.T else if sizesB I = false then 4 else if formB I = false then 2 else if dupB (qE I) I.ne = true then 8 else if dupB (qW I) I.nw = true then 8 else 0
/-- the numbers are numbers of their kinds. -/
structure WfI (I : In) : Prop where
  e : ∀ i, i < I.ne → (Lit.int .u32 (I.en i).addr).wf = true
  w : ∀ i, i < I.nw → (Lit.int .i64 (I.wy i).1).wf = true ∧ (Lit.int .i64 (I.wy i).2.1).wf = true
theorem sd_sum {T : Tp} (h : Sd T) : sumL T T.n ≤ 1100000 := by
  have key : ∀ k, k ≤ T.n → sumL T k ≤ 6 * k := by
    intro k
    induction k with
    | zero => intro _; simp [sumL]
    | succ k ih => intro hk; have := h.l6 k (by omega); have := ih (by omega); simp only [sumL]; omega
  have := key T.n (Nat.le_refl _)
  have := h.n6
  omega
theorem dupE_c {r : Ir} {I : In} {w : World} (h : NA w r I) (hw : WfI I) (hn : I.ne ≤ 1000000) :
    Calls Try.prog 47 #[.slice r.oe I.ne r.ce, .func (.func 48) #[] #[]] w fun e w' => e = .returned (.bool (dupB (qE I) I.ne)) ∧ RowKit.Below w.heap.size w w' := by
  refine twiceEn h.en hn (fun j => .int .u32 (I.en j).addr) (fun j => .int .u32 (I.en j).addr) (qE I) (fun j hj => keyOf_int_mk u66 (hw.e j hj)) (fun i j hij hj => ?_) (fun j hj => trivial) (fun W j hb hj => keyE_c _ _ _ _ W)
  simp [qE]
theorem dupW_c {r : Ir} {I : In} {w : World} (h : NA w r I) (hw : WfI I) (hn : I.nw ≤ 1000000) :
    Calls Try.prog 49 #[.slice r.ow I.nw r.cw, .func (.func 50) #[] #[]] w fun e w' => e = .returned (.bool (dupB (qW I) I.nw)) ∧ RowKit.Below w.heap.size w w' := by
  have hk : ∀ j, j < I.nw → keyOf Try.prog 70 (.agg #[.int .i64 (I.wy j).1, .int .i64 (I.wy j).2.1]) = some (.string (keyBytes [.int .i64 (I.wy j).1, .int .i64 (I.wy j).2.1])) := fun j hj => Go.WideMaps.keyOf_pair arr70 u3i ⟨165, by kernel_rfl⟩ (hw.w j hj).1 (hw.w j hj).2
  refine twiceWy h.wy hn (fun j => .agg #[.int .i64 (I.wy j).1, .int .i64 (I.wy j).2.1]) (fun j => .string (keyBytes [.int .i64 (I.wy j).1, .int .i64 (I.wy j).2.1])) (qW I) hk (fun i j hij hj => ?_) (fun j hj => trivial) (fun W j hb hj => keyW_c _ _ _ W)
  constructor
  · intro hh
    simp [qW] at hh
    rw [hh.1, hh.2]
  · intro hh
    have h1 := hk i (by omega)
    have h2 := hk j hj
    rw [hh] at h1
    have := law70.inj h1 h2
    simp at this
    simp [qW, this]
end Go.Proofs.Ytgebehnlfihliaa
