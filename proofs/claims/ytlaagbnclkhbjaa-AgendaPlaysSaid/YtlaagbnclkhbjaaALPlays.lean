/- Agenda: AgendaPlays: the walk. -/
import Derived.Test.YtlaagbnclkhbjaaARegs
import Derived.Deep.CutBlock
namespace Go.Proofs.Ytlaagbnclkhbjaa
open Go.RowKit Go.Maps
set_option linter.unusedSimpArgs false
set_option linter.unusedVariables false
set_option maxRecDepth 100000
theorem Ag.ids {F : Nat → Prop} {w : World} {p c : Nat} {l : List (Int × Int)} (h : Ag F w p c l) : l.Pairwise (fun a b => a.2 ≠ b.2) := by
  obtain ⟨S, m, n, κ, A, O, I, L, cnt, D, hB, hSF, hFm, hFb, hl⟩ := h
  rw [hl, List.pairwise_map]
  exact hB.ids
theorem Ag.len {F : Nat → Prop} {w : World} {p c : Nat} {l : List (Int × Int)} (h : Ag F w p c l) : l.length ≤ c := by
  obtain ⟨S, m, n, κ, A, O, I, L, cnt, D, hB, hSF, hFm, hFb, hl⟩ := h
  rw [hl, List.length_map, hB.len]
  exact hB.nb
def idOf (l : List (Int × Int)) (j : Nat) : Int := (l.getD j (0, 0)).2
/-- b is the place of id x among the first k. -/
def AtP (l : List (Int × Int)) (x : Int) (k : Nat) (b : Int) : Prop := (b = -1 ∧ ∀ j, j < k → idOf l j ≠ x) ∨ ∃ j : Nat, b = (j : Int) ∧ j < k ∧ idOf l j = x
theorem at_hit {l : List (Int × Int)} {x : Int} {k : Nat} (h : idOf l k = x) : AtP l x (k + 1) (k : Int) := .inr ⟨k, rfl, by omega, h⟩
theorem at_miss {l : List (Int × Int)} {x : Int} {k : Nat} {b : Int} (h : AtP l x k b) (hk : idOf l k ≠ x) : AtP l x (k + 1) b := by
  rcases h with ⟨e, h⟩ | ⟨j, e, h1, h2⟩
  · refine .inl ⟨e, fun j hj => ?_⟩
    by_cases ej : j = k
    · subst ej; exact hk
    · exact h j (by omega)
  · exact .inr ⟨j, e, by omega, h2⟩
theorem has_no {l : List (Int × Int)} {x : Int} (h : ∀ j, j < l.length → idOf l j ≠ x) : hasId l x = false := by
  unfold hasId
  rw [List.any_eq_false]
  intro y hy
  obtain ⟨i, hi, rfl⟩ := List.getElem_of_mem hy
  have := h i hi
  simp [idOf, List.getD, List.getElem?_eq_getElem hi] at this
  simpa using this
theorem has_yes {l : List (Int × Int)} {x : Int} {j : Nat} (hj : j < l.length) (h : idOf l j = x) : hasId l x = true := by
  unfold hasId
  rw [List.any_eq_true]
  refine ⟨l[j], List.getElem_mem hj, ?_⟩
  simp [idOf, List.getD, List.getElem?_eq_getElem hj] at h
  simpa using h
theorem rm_at {l : List (Int × Int)} {x : Int} {j : Nat} (hp : l.Pairwise (fun a b => a.2 ≠ b.2)) (hj : j < l.length) (h : idOf l j = x) : rmId l x = l.take j ++ l.drop (j + 1) := by
  have e : l = l.take j ++ l[j] :: l.drop (j + 1) := by rw [List.getElem_cons_drop, List.take_append_drop]
  have hx : l[j].2 = x := by simpa [idOf, List.getD, List.getElem?_eq_getElem hj] using h
  have hp2 := hp
  rw [e, List.pairwise_append, List.pairwise_cons] at hp2
  obtain ⟨_, ⟨h2, _⟩, h3⟩ := hp2
  unfold rmId
  conv => lhs; rw [e]
  rw [List.filter_append, List.filter_cons_of_neg (by simp [hx])]
  congr 1
  · rw [List.filter_eq_self]
    intro y hy
    have := h3 y hy l[j] List.mem_cons_self
    rw [hx] at this
    simpa using this
  · rw [List.filter_eq_self]
    intro y hy
    have := h2 y hy
    rw [hx] at this
    simpa using fun e => this e.symm
/-- f is the least moment among the first k. -/
def FirstP (l : List (Int × Int)) (k : Nat) (f : Int) : Prop := (k = 0 ∧ f = 0) ∨ (0 < k ∧ (∃ j, j < k ∧ atOf l j = f) ∧ ∀ j, j < k → f ≤ atOf l j)
theorem first_one (l : List (Int × Int)) (h : 0 < l.length) : FirstP l 1 (atOf l 0) := .inr ⟨by omega, ⟨0, by omega, rfl⟩, fun j hj => by
  have : j = 0 := by omega
  subst this
  exact Int.le_refl _⟩
theorem first_new {l : List (Int × Int)} {k : Nat} {f : Int} (h : FirstP l k f) (hk : atOf l k < f) (h0 : k ≠ 0) : FirstP l (k + 1) (atOf l k) := by
  rcases h with ⟨e, _⟩ | ⟨h1, h2, h3⟩
  · exact absurd e h0
  · refine .inr ⟨by omega, ⟨k, by omega, rfl⟩, fun j hj => ?_⟩
    by_cases e : j = k
    · subst e; exact Int.le_refl _
    · have := h3 j (by omega); omega
theorem first_old {l : List (Int × Int)} {k : Nat} {f : Int} (h : FirstP l k f) (hk : f ≤ atOf l k) (h0 : k ≠ 0) : FirstP l (k + 1) f := by
  rcases h with ⟨e, _⟩ | ⟨h1, ⟨j0, h2, h2'⟩, h3⟩
  · exact absurd e h0
  · refine .inr ⟨by omega, ⟨j0, by omega, h2'⟩, fun j hj => ?_⟩
    by_cases e : j = k
    · subst e; exact hk
    · exact h3 j (by omega)
theorem first_end {l : List (Int × Int)} {f a : Int} {b : Bool} (h : FirstP l l.length f) (hab : (l = [] ∧ a = 0 ∧ b = false) ∨ (IsMin l a ∧ b = true)) : a = f ∧ b = decide ((0 : Int) < (l.length : Int)) := by
  rcases hab with ⟨rfl, rfl, rfl⟩ | ⟨⟨⟨y, hy, hya⟩, hm⟩, rfl⟩
  · rcases h with ⟨_, rfl⟩ | ⟨h0, _⟩
    · exact ⟨rfl, rfl⟩
    · simp at h0
  · have hpos := List.length_pos_of_mem hy
    have hget : ∀ i (hi : i < l.length), atOf l i = (l[i]).1 := fun i hi => by simp [atOf, List.getD, List.getElem?_eq_getElem hi]
    rcases h with ⟨h0, _⟩ | ⟨_, ⟨j, hj, hjf⟩, hmin⟩
    · omega
    · refine ⟨?_, (decide_eq_true (by omega)).symm⟩
      have h1 := hm l[j] (List.getElem_mem hj)
      rw [hget j hj] at hjf
      obtain ⟨i, hi, rfl⟩ := List.getElem_of_mem hy
      have h2 := hmin i hi
      rw [hget i hi] at h2
      omega
/-- behind a call of the agenda: a list's row stays. -/
theorem Aft.row {F : Nat → Prop} {w : World} {p c : Nat} {w' : World} {l' l : List (Int × Int)} {v : Value} {base : Nat} (hA : Aft F w p c w' l') (hF : ∀ b, F b → base ≤ b) (hb : base ≤ w.heap.size) (hL : Lr w v l) (hv : ∀ g, v.ownBlock = some g → ¬ F g) :
    ∃ F' c', Ag F' w' p c' l' ∧ c' ≤ c + 1 ∧ (∀ b, F' b → base ≤ b) ∧ Lr w' v l ∧ (∀ g, v.ownBlock = some g → ¬ F' g) ∧ RowKit.Below base w w' := by
  obtain ⟨F', c', h1, h2, h3, h4⟩ := hA
  refine ⟨F', c', h1, h2, fun b hb' => ?_, hL.keep (fun g hg => h3.same g (hL.lt g hg).2 (hv g hg)), fun g hg hh => ?_, h3.below hF hb⟩
  · rcases h4 b hb' with hh | hh
    · exact hF b hh
    · omega
  · rcases h4 g hh with h5 | h5
    · exact hv g hg h5
    · have := (hL.lt g hg).2
      omega
theorem due_len {now : Int} {l : List (Int × Int)} {o : List Int} {r : List (Int × Int)} (h : DueR now l o r) {b : Nat} (hb : l.length ≤ b) : o.length ≤ b := by
  induction h generalizing b with
  | stop => simp
  | step h1 h2 h3 h4 ih =>
    have := ih (b := b - 1) (by simp at hb ⊢; omega)
    simp at hb ⊢
    omega
/-- the state of the law. -/
def PI (w : World) (p : Nat) (wr : World) (v4 : Value) (k : Nat) : Prop := ∃ l F c, Lr wr v4 l ∧ Ag F wr p c l ∧ (∀ b, F b → w.heap.size ≤ b) ∧ (∀ g, v4.ownBlock = some g → ¬ F g) ∧ c ≤ k ∧ RowKit.Below w.heap.size w wr
theorem z30 : (Try.prog.info? 30).map (fun i => (i.size, i.zero)) = some (2, some (.agg #[.int .i64 0, .int .i64 0])) := by kernel_rfl
set_option maxHeartbeats 8000000 in
theorem plays_some (b off n cap : Nat) (st : Nat → Int × Int × Int) (w : World) (hb : b < w.heap.size) (hnc : n ≤ cap) (hcap : (cap : Int) ≤ 9223372036854775807)
    (hst : ∀ j, j < n → w.cell? ⟨b, off + j * 3, none⟩ = some (.int .i64 (st j).1) ∧ w.cell? ⟨b, off + j * 3 + 1, none⟩ = some (.int .i64 (st j).2.1) ∧ w.cell? ⟨b, off + j * 3 + 2, none⟩ = some (.int .i64 (st j).2.2))
    (hwf : ∀ j, j < n → Wf (st j).2.2) :
    Calls Try.prog 3 #[.slice (some ⟨b, off, none⟩) n cap] w fun e w' => e = .returned (.bool true) ∧ RowKit.Below w.heap.size w w' := by
  go_enter Try.func3, Try.ntmps3
  go_wp2_with fail
  refine (New_c w).mono ?_
  rintro e w1 ⟨rfl, h1, hs1, hk1⟩
  obtain ⟨p, hp⟩ : ∃ p, Hid (p = w.heap.size + 1) := ⟨_, rfl⟩
  rw [← hp.out] at h1 ⊢
  go_wp2_with fail
  refine (awake_c _).mono ?_
  rintro e w2 ⟨rfl, hk2⟩
  have h2 := h1.below hk2
  have hs2 := hk2.size
  have hI0 : PI w p (w2.alloc (.cells #[] 30)) (.slice (some ⟨w2.heap.size, 0, none⟩) 0 0) 0 := by
    refine ⟨[], _, 0, ⟨⟨rfl, .inr ⟨w2.heap.size, 0, #[], rfl, Nat.zero_le _, heap_alloc_new w2 _, Nat.le_refl _, by decide, rfl, rfl⟩⟩, rfl⟩, h2.keep (by rw [World.size_alloc]; omega) (fun b hb => al_lt' (h2.lt b hb)), fun b hb => by have := hp.out; omega, fun g hg hh => ?_, Nat.le_refl _, ((hk1.trans (hk2.mono (by omega))).alloc (by omega) _)⟩
    have := h2.lt g hh
    simp [Value.ownBlock] at hg
    omega
  clear h1 h2
  go_wp2_with fail
  go_loopw [4, 5] (fun v4 v5 wr => ∃ k : Nat, v5 = .int .i64 (k : Int) ∧ k ≤ n ∧ PI w p wr v4 k) (fun _ v5 _ => n - (intOf v5).toNat)
  case atStart => exact ⟨0, rfl, Nat.zero_le _, hI0⟩
  case round =>
    obtain ⟨k, rfl, hkn, l, F, c, hL, hA, hF, hv, hck, hbw⟩ := hrel
    by_cases hlt : k < n ∧ k < 80
    · obtain ⟨hlt1, hlt2⟩ := hlt
      have hltI : (k : Int) < (n : Int) := by omega
      have hltI2 : (k : Int) < 80 := by omega
      obtain ⟨s0, s1, s2⟩ := hst k hlt1
      have hx := hwf k hlt1
      obtain ⟨⟨what, at_, id_⟩, hst'⟩ : ∃ y, Hid (y = st k) := ⟨_, rfl⟩
      have q0 : wr.cell? ⟨b, off + k * 3, none⟩ = some (.int .i64 what) := by rw [World.cell?_of_block (w := w) (hbw.block b hb), s0, ← hst'.out]
      have q1 : wr.cell? ⟨b, off + k * 3 + 1, none⟩ = some (.int .i64 at_) := by rw [World.cell?_of_block (w := w) (hbw.block b hb), s1, ← hst'.out]
      have q2 : wr.cell? ⟨b, off + k * 3 + 2, none⟩ = some (.int .i64 id_) := by rw [World.cell?_of_block (w := w) (hbw.block b hb), s2, ← hst'.out]
      rw [← hst'.out] at hx
      obtain ⟨g4, cap4, rfl, hcap4, hcm4, hg4⟩ := hL.shape
      have hlc := hA.len
      clear s0 s1 s2 hI0
      go_wp2_with fail
      obtain ⟨gx, hgx⟩ : ∃ gx, Hid (gx = wr.heap.size) := ⟨_, rfl⟩
      rw [← hgx.out]
      have hgx1 : ¬ F gx := fun hh => by have := hA.lt gx hh; have := hgx.out; omega
      have hgx2 : w.heap.size ≤ gx := by have := hbw.size; have := hgx.out; omega
      refine wp_world (fun W => W.heap[gx]? = some (.cells #[.int .i64 what, .int .i64 at_, .int .i64 id_] 28 (0, 0)) ∧ Lr W (.slice (some ⟨g4, 0, none⟩) l.length cap4) l ∧ Ag F W p c l ∧ RowKit.Below w.heap.size w W) ?_ ?_
      · exact ⟨by rw [hgx.out]; exact heap_alloc_new wr _, hL.keep (fun g hg => al_lt' (hL.lt g hg).2), hA.keep (by rw [World.size_alloc]; omega) (fun b hb => al_lt' (hA.lt b hb)), hbw.alloc (by have := hbw.size; omega) _⟩
      have hids := hA.ids
      clear hL hA hbw hg4 q0 q1 q2 hgx
      rintro W ⟨hWx, hL, hA, hbw⟩
      have x0 : W.cell? ⟨gx, 0, none⟩ = some (.int .i64 what) := by rw [cell_b hWx]; rfl
      have x1 : W.cell? ⟨gx, 1, none⟩ = some (.int .i64 at_) := by rw [cell_b hWx]; rfl
      have x2 : W.cell? ⟨gx, 2, none⟩ = some (.int .i64 id_) := by rw [cell_b hWx]; rfl
      have hlen : (l.length : Int) ≤ 80 := by omega
      go_loopw [7, 8] (fun v7 v8 wr2 => ∃ (bb : Int) (j q : Nat), v7 = .int .i64 bb ∧ v8 = .int .i64 (j : Int) ∧ j ≤ l.length ∧ AtP l id_ j bb ∧ wr2 = redrawn W q) (fun _ v8 _ => l.length - (intOf v8).toNat)
      case atStart => exact ⟨-1, 0, W.drawn, rfl, rfl, Nat.zero_le _, .inl ⟨rfl, fun j hj => by omega⟩, rfl⟩
      case round =>
        obtain ⟨bb, j, q, rfl, rfl, hj, hAt, rfl⟩ := hrel
        by_cases hjl : j < l.length
        · have hjI : (j : Int) < (l.length : Int) := by omega
          have y1 : (redrawn W q).cell? ⟨g4, j * 2 + 1, none⟩ = some (.int .i64 (idOf l j)) := (hL.cell j hjl).2
          have y2 : (redrawn W q).cell? ⟨gx, 2, none⟩ = some (.int .i64 id_) := x2
          by_cases hid : idOf l j = id_
          · have HR := Lib.hid (at_hit hid)
            rw [hid] at y1
            clear hid hAt
            go_wp2_with fail
            go_quiet (fail)
            go_wp2_with fail
            go_roundw
            case rel => exact ⟨(j : Int), j + 1, _, rfl, by go_num, by omega, HR.out, rfl⟩
            case measure => simp [intOf]; omega
          · have HR := Lib.hid (at_miss hAt hid)
            generalize hz : idOf l j = z at y1 hid
            have hzb : (z == id_) = false := by simpa using hid
            clear hAt hz
            go_wp2_with fail
            go_quiet (fail)
            go_wp2_with fail
            go_roundw
            case rel => exact ⟨bb, j + 1, _, rfl, by go_num, by omega, HR.out, rfl⟩
            case measure => simp [intOf]; omega
        · have : j = l.length := by omega
          subst this
          have hWx' : (redrawn W q).heap[gx]? = some (.cells #[.int .i64 what, .int .i64 at_, .int .i64 id_] 28 (0, 0)) := hWx
          have hL' : Lr (redrawn W q) (.slice (some ⟨g4, 0, none⟩) l.length cap4) l := hL.keep (fun _ _ => rfl)
          have hA' : Ag F (redrawn W q) p c l := hA.keep (Nat.le_refl _) (fun _ _ => rfl)
          have hbw' : RowKit.Below w.heap.size w (redrawn W q) := hbw.trans ⟨rfl, rfl, rfl, Nat.le_refl _, fun _ _ => rfl⟩
          have x1' : (redrawn W q).cell? ⟨gx, 1, none⟩ = some (.int .i64 at_) := x1
          clear hWx hL hA hbw x0 x1 x2
          go_upto_region 15 with (fail)
          go_cut [9] from 54 to 61 (fun v9 wx => v9 = .bool (okAt at_) ∧ wx.heap[gx]? = some (.cells #[.int .i64 what, .int .i64 at_, .int .i64 id_] 28 (0, 0)) ∧ Lr wx (.slice (some ⟨g4, 0, none⟩) l.length cap4) l ∧ Ag F wx p c l ∧ RowKit.Below w.heap.size w wx)
          case first =>
            by_cases c1 : 0 ≤ at_
            · by_cases c2 : at_ ≤ 1099511627776
              · have e : Hid (okAt at_ = true) := decide_eq_true ⟨c1, c2⟩
                go_wp2_with fail
                go_meet
                case rel => exact ⟨by rw [e.out], hWx', hL', hA', hbw'⟩
              · have e : Hid (okAt at_ = false) := decide_eq_false (fun h => c2 h.2)
                have hdb : decide (at_ ≤ 1099511627776) = false := decide_eq_false c2
                go_wp2_with fail
                go_meet
                case rel => exact ⟨by rw [e.out], hWx', hL', hA', hbw'⟩
            · have e : Hid (okAt at_ = false) := decide_eq_false (fun h => c1 h.1)
              have hdb : decide (0 ≤ at_) = false := decide_eq_false c1
              go_wp2_with fail
              go_meet
              case rel => exact ⟨by rw [e.out], hWx', hL', hA', hbw'⟩
          case rest =>
            clear hWx' hL' hA' hbw' x1'
            obtain ⟨rfl, hWx, hL, hA, hbw⟩ := hcut
            rename_i Kc hKc
            refine hKc _ _ ?_
            clear hKc
            have x0 : wc.cell? ⟨gx, 0, none⟩ = some (.int .i64 what) := by rw [cell_b hWx]; rfl
            have x1 : wc.cell? ⟨gx, 1, none⟩ = some (.int .i64 at_) := by rw [cell_b hWx]; rfl
            have x2 : wc.cell? ⟨gx, 2, none⟩ = some (.int .i64 id_) := by rw [cell_b hWx]; rfl
            go_upto_block 4 with (fail)
            go_cut [4, 9, 10, 11, 12] from 64 to 156 (fun v4 _ _ _ _ wx => PI w p wx v4 (k + 1))
            case first =>
              have hE : what = 0 ∨ what = 1 ∨ what = 2 ∨ what = 3 ∨ (what ≠ 0 ∧ what ≠ 1 ∧ what ≠ 2 ∧ what ≠ 3) := by omega
              rcases hAt with ⟨rfl, hno⟩ | ⟨j, rfl, hj1, hid⟩
              · have hh := has_no hno
                clear hno
                rcases hE with rfl | rfl | rfl | rfl | ⟨n0, n1, n2, n3⟩
                · cases hok : okAt at_ with
                  | false =>
                    have eE : Hid (addE l at_ id_ = 1) := by unfold addE; rw [if_neg (by rw [hok]; decide)]; exact rfl
                    have eL : Hid (addL l at_ id_ = l) := if_neg (by simp [hok])
                    clear hh hok

                    go_wp2_with fail
                    refine (Add_c hA (by omega) at_ id_ hx).mono ?_
                    rintro e w3 ⟨rfl, hAf⟩
                    obtain ⟨F3, c3, hA3, hc3, hF3, hL3, hv3, hb3⟩ := hAf.row hF (by have := hbw.size; omega) hL hv
                    rw [eE.out]
                    rw [eL.out] at hA3
                    clear hAf
                    go_wp2_with fail
                    go_meet
                    case rel => exact ⟨_, F3, c3, hL3, hA3, hF3, hv3, by omega, hbw.trans hb3⟩
                  | true =>
                    have eE : Hid (addE l at_ id_ = 0) := by unfold addE; rw [if_pos hok, hh]; exact rfl
                    have eL : Hid (addL l at_ id_ = l ++ [(at_, id_)]) := if_pos (by simp [hok, hh])
                    clear hh hok

                    have hLd : Lr wc.drew (.slice (some ⟨g4, 0, none⟩) l.length cap4) l := hL
                    have hgxd : gx < wc.drew.heap.size := (Array.getElem?_eq_some_iff.1 hWx).1
                    have x1d : wc.drew.cell? ⟨gx, 1, none⟩ = some (.int .i64 at_) := x1
                    have x2d : wc.drew.cell? ⟨gx, 2, none⟩ = some (.int .i64 id_) := x2

                    go_upto_region 23 with (fail)
                    refine Rws.wp_rows_lit [.row 30 2 0 [] none none, .q (.slice (some ⟨g4, 0, none⟩) l.length cap4), .row 30 2 (0 + l.length) ([] ++ flat l) (some 0) none, .q (.pointer (some ⟨gx, 1, none⟩)), .q (.int .i64 at_), .q (.pointer (some ⟨gx, 2, none⟩)), .q (.int .i64 id_), .q (.agg #[.int .i64 at_, .int .i64 id_]), .row 30 2 1 [.int .i64 at_, .int .i64 id_] none none, .row 30 2 (0 + l.length + 1) ([] ++ flat l ++ [.int .i64 at_, .int .i64 id_]) (some 2) (some 8), .cp 9] (by kernel_rfl) (by kernel_rfl) ?_ ?_
                    · refine ⟨?_, ?_, ?_, ?_, ?_, ?_, ?_, ?_, ?_, ?_, ?_, trivial⟩
                      · exact Rws.obl_lit0 und26 s30
                      · exact Rws.obl_move (by kernel_rfl) rfl
                      · exact obl_all hLd rfl (by omega) rfl rfl (jx := 1) (by kernel_rfl) rfl rfl
                      · exact obl_fld (by kernel_rfl) rfl (.inl rfl)
                      · exact obl_ld (jA := 3) (by kernel_rfl) rfl rfl hgxd x1d
                      · exact obl_fld (by kernel_rfl) rfl (.inr rfl)
                      · exact obl_ld (jA := 5) (by kernel_rfl) rfl rfl hgxd x2d
                      · exact obl_bld (jA := 4) (by kernel_rfl) rfl rfl (jB := 6) (by kernel_rfl) rfl rfl
                      · exact Rws.obl_lit2 und26 z30 (j := 7) rfl rfl (by kernel_rfl)
                      · exact Rws.obl_app_lit und26 i30 rfl (by decide) rfl rfl rfl rfl (by decide) (by simp [Value.oneCell']) (by unfold maxLen; omega) (by omega)
                      · exact Rws.obl_cp rfl
                    · intro ν W hbW hrow
                      have hr9 := hrow 9 30 2 _ _ _ _ (by decide) rfl (Rws.con_ne (by kernel_rfl))
                      have hgx3 : gx < wc.heap.size := (Array.getElem?_eq_some_iff.1 hWx).1
                      have hbs := hbW.size
                      have hWx2 : W.heap[gx]? = some (.cells #[.int .i64 0, .int .i64 at_, .int .i64 id_] 28 (0, 0)) := (hbW.block gx hgx3).trans hWx
                      have hL2 : Lr W (ν 9) (l ++ [(at_, id_)]) := by
                        refine ⟨?_, hr9.2⟩
                        have e1 : (l ++ [(at_, id_)]).length = 0 + l.length + 1 := by simp
                        have e2 : flat (l ++ [(at_, id_)]) = [] ++ flat l ++ [.int .i64 at_, .int .i64 id_] := by rw [flat_app]; rfl
                        rw [e1, e2]
                        exact owns_base hr9.1 (Nat.zero_le _)
                      have hv2 : ∀ g, (ν 9).ownBlock = some g → ¬ F g := fun g hg hh => by
                        have h1 := (hr9.lt g hg).1
                        have h2 := hA.lt g hh
                        have h3 : wc.drew.heap.size = wc.heap.size := rfl
                        omega
                      have hA2 := hA.below hbW
                      have hbw2 : RowKit.Below w.heap.size w W := hbw.trans (hbW.mono (by have := hbw.size; omega))
                      clear hL hA hbw hv hWx x0 x1 x2 hbW hr9 hrow
                      have x0 : W.cell? ⟨gx, 0, none⟩ = some (.int .i64 0) := by rw [cell_b hWx2]; rfl
                      have x1 : W.cell? ⟨gx, 1, none⟩ = some (.int .i64 at_) := by rw [cell_b hWx2]; rfl
                      have x2 : W.cell? ⟨gx, 2, none⟩ = some (.int .i64 id_) := by rw [cell_b hWx2]; rfl
                      simp [Rws.MFin, Rws.kOf, Rws.Mk.val]
                      generalize ν 9 = v9 at hL2 hv2 ⊢

                      go_wp2_with fail
                      refine (Add_c hA2 (by omega) at_ id_ hx).mono ?_
                      rintro e w3 ⟨rfl, hAf⟩
                      obtain ⟨F3, c3, hA3, hc3, hF3, hL3, hv3, hb3⟩ := hAf.row hF (by have := hbw2.size; omega) hL2 hv2
                      rw [eE.out]
                      rw [eL.out] at hA3
                      clear hAf
                      go_wp2_with fail
                      go_meet
                      case rel => exact ⟨_, F3, c3, hL3, hA3, hF3, hv3, by omega, hbw2.trans hb3⟩
                · cases hok : okAt at_ with
                  | false =>
                    have eE : Hid (moveE l at_ id_ = 1) := by unfold moveE; rw [if_neg (by rw [hok]; decide)]; exact rfl
                    have eL : Hid (moveL l at_ id_ = l) := if_neg (by simp [hok])
                    clear hh hok

                    go_wp2_with fail
                    refine (Move_c hA (by omega) at_ id_ hx).mono ?_
                    rintro e w3 ⟨rfl, hAf⟩
                    obtain ⟨F3, c3, hA3, hc3, hF3, hL3, hv3, hb3⟩ := hAf.row hF (by have := hbw.size; omega) hL hv
                    rw [eE.out]
                    rw [eL.out] at hA3
                    clear hAf
                    go_wp2_with fail
                    go_meet
                    case rel => exact ⟨_, F3, c3, hL3, hA3, hF3, hv3, by omega, hbw.trans hb3⟩
                  | true =>
                    have eE : Hid (moveE l at_ id_ = 7) := by unfold moveE; rw [if_pos hok, hh]; exact rfl
                    have eL : Hid (moveL l at_ id_ = l) := if_neg (by simp [hh])
                    clear hh hok

                    go_wp2_with fail
                    refine (Move_c hA (by omega) at_ id_ hx).mono ?_
                    rintro e w3 ⟨rfl, hAf⟩
                    obtain ⟨F3, c3, hA3, hc3, hF3, hL3, hv3, hb3⟩ := hAf.row hF (by have := hbw.size; omega) hL hv
                    rw [eE.out]
                    rw [eL.out] at hA3
                    clear hAf
                    go_wp2_with fail
                    go_meet
                    case rel => exact ⟨_, F3, c3, hL3, hA3, hF3, hv3, by omega, hbw.trans hb3⟩
                · have eE : Hid (hasId l id_ = false) := hh
                  have eL : Hid (rmId l id_ = l) := filter_none hh
                  clear hh

                  go_wp2_with fail
                  refine (Drop_c hA (by omega) id_ hx).mono ?_
                  rintro e w3 ⟨rfl, hAf⟩
                  obtain ⟨F3, c3, hA3, hc3, hF3, hL3, hv3, hb3⟩ := hAf.row hF (by have := hbw.size; omega) hL hv
                  rw [eE.out]
                  rw [eL.out] at hA3
                  clear hAf
                  go_wp2_with fail
                  go_meet
                  case rel => exact ⟨_, F3, c3, hL3, hA3, hF3, hv3, by omega, hbw.trans hb3⟩
                · have hgx3 : gx < wc.heap.size := (Array.getElem?_eq_some_iff.1 hWx).1
                  have hll : l.length ≤ 100000 := by omega
                  go_wp2_with fail
                  refine (LDue_c hL hll at_).mono ?_
                  rintro e w3 ⟨v1, v2, rfl, out, rest, hD1, hr1, hL3, hv2', hb3⟩
                  have hs3 := hb3.size
                  have hA3 := hA.below hb3
                  have y1 : w3.cell? ⟨gx, 1, none⟩ = some (.int .i64 at_) := by rw [World.cell?_of_block (w := wc) (hb3.block gx hgx3)]; exact x1
                  have hv3 : ∀ g, v2.ownBlock = some g → ¬ F g := fun g hg hh => by
                    rcases hv2' with rfl | h9
                    · exact hv g hg hh
                    · have h8 := h9 g hg
                      have h7 := hA.lt g hh
                      omega
                  go_wp2_with fail
                  refine (Due_c hA3 (by omega) at_).mono ?_
                  rintro e w4 ⟨v3, rfl, out2, rest2, hD2, hr2, hA4, hf4⟩
                  obtain ⟨rfl, rfl⟩ := hD1.det rfl hD2
                  have hs4 := hf4.size
                  have hb4 := hf4.below hF (by have := hbw.size; omega)
                  have hr1' := owns_of hr1 (w' := w4) (fun g hg => hf4.same g (hr1.lt g hg).2 (fun hh => by have h8 := (hr1.lt g hg).1; have h7 := hA.lt g hh; omega))
                  have hL4 := hL3.keep (w' := w4) (fun g hg => hf4.same g (hL3.lt g hg).2 (hv3 g hg))
                  have hon : out2.length ≤ 1000000000 := due_len hD1 (by omega)
                  go_wp2_with fail
                  refine (Ints_c hr2 hr1' hon).mono ?_
                  rintro e w5 ⟨rfl, hb5⟩
                  have hL5 := hL4.keep (w' := w5) (fun g hg => hb5.block g (hL4.lt g hg).2)
                  have hA5 := hA4.below hb5
                  have hB5 : RowKit.Below w.heap.size w w5 := ((hbw.trans (hb3.mono (by have := hbw.size; omega))).trans hb4).trans (hb5.mono (by have := hbw.size; omega))
                  clear hr1 hr2 hr1' hD1 hD2
                  go_wp2_with fail
                  go_meet
                  case rel => exact ⟨rest2, F, c, hL5, hA5, hF, hv3, by omega, hB5⟩
                · go_wp2_with fail
                  go_meet
                  case rel => exact ⟨l, F, c, hL, hA, hF, hv, by omega, hbw⟩
              · have hjn : (0 : Int) ≤ (j : Int) := by omega
                have hh := has_yes hj1 hid
                have hrm := rm_at hids hj1 hid
                clear hid
                rcases hE with rfl | rfl | rfl | rfl | ⟨n0, n1, n2, n3⟩
                · cases hok : okAt at_ with
                  | false =>
                    have eE : Hid (addE l at_ id_ = 1) := by unfold addE; rw [if_neg (by rw [hok]; decide)]; exact rfl
                    have eL : Hid (addL l at_ id_ = l) := if_neg (by simp [hok])
                    clear hh hok

                    go_wp2_with fail
                    refine (Add_c hA (by omega) at_ id_ hx).mono ?_
                    rintro e w3 ⟨rfl, hAf⟩
                    obtain ⟨F3, c3, hA3, hc3, hF3, hL3, hv3, hb3⟩ := hAf.row hF (by have := hbw.size; omega) hL hv
                    rw [eE.out]
                    rw [eL.out] at hA3
                    clear hAf
                    go_wp2_with fail
                    go_meet
                    case rel => exact ⟨_, F3, c3, hL3, hA3, hF3, hv3, by omega, hbw.trans hb3⟩
                  | true =>
                    have eE : Hid (addE l at_ id_ = 8) := by unfold addE; rw [if_pos hok, hh]; exact rfl
                    have eL : Hid (addL l at_ id_ = l) := if_neg (by simp [hh])
                    clear hh hok

                    go_wp2_with fail
                    refine (Add_c hA (by omega) at_ id_ hx).mono ?_
                    rintro e w3 ⟨rfl, hAf⟩
                    obtain ⟨F3, c3, hA3, hc3, hF3, hL3, hv3, hb3⟩ := hAf.row hF (by have := hbw.size; omega) hL hv
                    rw [eE.out]
                    rw [eL.out] at hA3
                    clear hAf
                    go_wp2_with fail
                    go_meet
                    case rel => exact ⟨_, F3, c3, hL3, hA3, hF3, hv3, by omega, hbw.trans hb3⟩
                · cases hok : okAt at_ with
                  | false =>
                    have eE : Hid (moveE l at_ id_ = 1) := by unfold moveE; rw [if_neg (by rw [hok]; decide)]; exact rfl
                    have eL : Hid (moveL l at_ id_ = l) := if_neg (by simp [hok])
                    clear hh hok hrm

                    go_wp2_with fail
                    refine (Move_c hA (by omega) at_ id_ hx).mono ?_
                    rintro e w3 ⟨rfl, hAf⟩
                    obtain ⟨F3, c3, hA3, hc3, hF3, hL3, hv3, hb3⟩ := hAf.row hF (by have := hbw.size; omega) hL hv
                    rw [eE.out]
                    rw [eL.out] at hA3
                    clear hAf
                    go_wp2_with fail
                    go_meet
                    case rel => exact ⟨_, F3, c3, hL3, hA3, hF3, hv3, by omega, hbw.trans hb3⟩
                  | true =>
                    have eE : Hid (moveE l at_ id_ = 0) := by unfold moveE; rw [if_pos hok, hh]; exact rfl
                    have eL : Hid (moveL l at_ id_ = l.take j ++ l.drop (j + 1) ++ [(at_, id_)]) := by rw [← hrm]; exact if_pos (by simp [hok, hh])
                    clear hh hok hrm

                    have hLd : Lr wc.drew (.slice (some ⟨g4, 0, none⟩) l.length cap4) l := hL
                    have hgxd : gx < wc.drew.heap.size := (Array.getElem?_eq_some_iff.1 hWx).1
                    have x1d : wc.drew.cell? ⟨gx, 1, none⟩ = some (.int .i64 at_) := x1
                    have x2d : wc.drew.cell? ⟨gx, 2, none⟩ = some (.int .i64 id_) := x2

                    go_upto_region 31 with (fail)
                    refine Rws.wp_rows_lit [.row 30 2 0 [] none none, .q (.slice (some ⟨g4, 0, none⟩) l.length cap4), .q (.int .i64 (j : Int)), .q (.slice (some ⟨g4, 0, none⟩) j cap4), .row 30 2 (0 + j) ([] ++ flat (l.take j)) (some 0) none, .q (.slice (some ⟨g4, 0, none⟩) l.length cap4), .q (.int .i64 (j : Int)), .q (.int .i64 ((j : Int) + 1)), .q (.slice (some ⟨g4, if cap4 = j + 1 then 0 else (j + 1) * 2, none⟩) (l.length - (j + 1)) (cap4 - (j + 1))), .row 30 2 (0 + j + (l.length - (j + 1))) ([] ++ flat (l.take j) ++ flat (l.drop (j + 1))) (some 4) none, .q (.pointer (some ⟨gx, 1, none⟩)), .q (.int .i64 at_), .q (.pointer (some ⟨gx, 2, none⟩)), .q (.int .i64 id_), .q (.agg #[.int .i64 at_, .int .i64 id_]), .row 30 2 1 [.int .i64 at_, .int .i64 id_] none none, .row 30 2 (0 + j + (l.length - (j + 1)) + 1) ([] ++ flat (l.take j) ++ flat (l.drop (j + 1)) ++ [.int .i64 at_, .int .i64 id_]) (some 9) (some 15), .cp 16] (by kernel_rfl) (by kernel_rfl) ?_ ?_
                    · refine ⟨?_, ?_, ?_, ?_, ?_, ?_, ?_, ?_, ?_, ?_, ?_, ?_, ?_, ?_, ?_, ?_, ?_, ?_, trivial⟩
                      · exact Rws.obl_lit0 und26 s30
                      · exact Rws.obl_move (by kernel_rfl) rfl
                      · exact Rws.obl_move (by kernel_rfl) rfl
                      · exact obl_sl_hi (jA := 1) (jB := 2) (n := l.length) (cap := cap4) (j := j) (g := g4) (by omega) (by omega) (by kernel_rfl) rfl rfl (by kernel_rfl) rfl rfl
                      · exact obl_take hLd (by omega) (by omega) rfl rfl (jx := 3) (by kernel_rfl) rfl rfl
                      · exact Rws.obl_move (by kernel_rfl) rfl
                      · exact Rws.obl_move (by kernel_rfl) rfl
                      · exact obl_inc (jA := 6) (j := j) (by omega) (by kernel_rfl) rfl rfl
                      · exact obl_sl_lo (jA := 5) (jB := 7) (n := l.length) (cap := cap4) (j := j) (g := g4) (by omega) (by omega) (by kernel_rfl) rfl rfl (by kernel_rfl) rfl rfl
                      · exact obl_drop hLd rfl (by omega) (by omega) (by omega) rfl rfl (jx := 8) (by kernel_rfl) rfl rfl
                      · exact obl_fld (by kernel_rfl) rfl (.inl rfl)
                      · exact obl_ld (jA := 10) (by kernel_rfl) rfl rfl hgxd x1d
                      · exact obl_fld (by kernel_rfl) rfl (.inr rfl)
                      · exact obl_ld (jA := 12) (by kernel_rfl) rfl rfl hgxd x2d
                      · exact obl_bld (jA := 11) (by kernel_rfl) rfl rfl (jB := 13) (by kernel_rfl) rfl rfl
                      · exact Rws.obl_lit2 und26 z30 (j := 14) rfl rfl (by kernel_rfl)
                      · exact Rws.obl_app_lit und26 i30 rfl (by decide) rfl rfl rfl rfl (by decide) (by simp [Value.oneCell']) (by unfold maxLen; omega) (by omega)
                      · exact Rws.obl_cp rfl
                    · intro ν W hbW hrow
                      have hr9 := hrow 16 30 2 _ _ _ _ (by decide) rfl (Rws.con_ne (by kernel_rfl))
                      have hgx3 : gx < wc.heap.size := (Array.getElem?_eq_some_iff.1 hWx).1
                      have hbs := hbW.size
                      have hWx2 : W.heap[gx]? = some (.cells #[.int .i64 1, .int .i64 at_, .int .i64 id_] 28 (0, 0)) := (hbW.block gx hgx3).trans hWx
                      have hL2 : Lr W (ν 16) (l.take j ++ l.drop (j + 1) ++ [(at_, id_)]) := by
                        refine ⟨?_, hr9.2⟩
                        have htl : (l.take j).length = j := by rw [List.length_take]; omega
                        have hdl : (l.drop (j + 1)).length = l.length - (j + 1) := List.length_drop
                        have e1 : (l.take j ++ l.drop (j + 1) ++ [(at_, id_)]).length = 0 + j + (l.length - (j + 1)) + 1 := by rw [List.length_append, List.length_append, htl, hdl]; simp
                        have e2 : flat (l.take j ++ l.drop (j + 1) ++ [(at_, id_)]) = [] ++ flat (l.take j) ++ flat (l.drop (j + 1)) ++ [.int .i64 at_, .int .i64 id_] := by rw [flat_app, flat_app]; rfl
                        rw [e1, e2]
                        exact owns_base hr9.1 (Nat.zero_le _)
                      have hv2 : ∀ g, (ν 16).ownBlock = some g → ¬ F g := fun g hg hh => by
                        have h1 := (hr9.lt g hg).1
                        have h2 := hA.lt g hh
                        have h3 : wc.drew.heap.size = wc.heap.size := rfl
                        omega
                      have hA2 := hA.below hbW
                      have hbw2 : RowKit.Below w.heap.size w W := hbw.trans (hbW.mono (by have := hbw.size; omega))
                      clear hL hA hbw hv hWx x0 x1 x2 hbW hr9 hrow
                      have x0 : W.cell? ⟨gx, 0, none⟩ = some (.int .i64 1) := by rw [cell_b hWx2]; rfl
                      have x1 : W.cell? ⟨gx, 1, none⟩ = some (.int .i64 at_) := by rw [cell_b hWx2]; rfl
                      have x2 : W.cell? ⟨gx, 2, none⟩ = some (.int .i64 id_) := by rw [cell_b hWx2]; rfl
                      simp only [Rws.MFin, Rws.kOf, Rws.Mk.val]
                      generalize (if cap4 = j + 1 then 0 else (j + 1) * 2) = o8
                      simp [Rws.MFin, Rws.kOf, Rws.Mk.val]
                      generalize ν 16 = v9 at hL2 hv2 ⊢

                      go_wp2_with fail
                      refine (Move_c hA2 (by omega) at_ id_ hx).mono ?_
                      rintro e w3 ⟨rfl, hAf⟩
                      obtain ⟨F3, c3, hA3, hc3, hF3, hL3, hv3, hb3⟩ := hAf.row hF (by have := hbw2.size; omega) hL2 hv2
                      rw [eE.out]
                      rw [eL.out] at hA3
                      clear hAf
                      go_wp2_with fail
                      go_meet
                      case rel => exact ⟨_, F3, c3, hL3, hA3, hF3, hv3, by omega, hbw2.trans hb3⟩
                · have eE : Hid (hasId l id_ = true) := hh
                  have eL : Hid (rmId l id_ = l.take j ++ l.drop (j + 1)) := hrm
                  clear hh hrm
                  go_wp2_with fail
                  refine (Drop_c hA (by omega) id_ hx).mono ?_
                  rintro e w3 ⟨rfl, hAf⟩
                  obtain ⟨F3, c3, hA3, hc3, hF3, hL3, hv3, hb3⟩ := hAf.row hF (by have := hbw.size; omega) hL hv
                  rw [eE.out]
                  rw [eL.out] at hA3
                  clear hAf
                  have hLd : Lr w3.drew (.slice (some ⟨g4, 0, none⟩) l.length cap4) l := hL3
                  have hbw3 := hbw.trans hb3
                  go_upto_region 38 with (fail)
                  refine Rws.wp_rows_lit [.row 30 2 0 [] none none, .q (.slice (some ⟨g4, 0, none⟩) l.length cap4), .q (.int .i64 (j : Int)), .q (.slice (some ⟨g4, 0, none⟩) j cap4), .row 30 2 (0 + j) ([] ++ flat (l.take j)) (some 0) none, .q (.slice (some ⟨g4, 0, none⟩) l.length cap4), .q (.int .i64 (j : Int)), .q (.int .i64 ((j : Int) + 1)), .q (.slice (some ⟨g4, if cap4 = j + 1 then 0 else (j + 1) * 2, none⟩) (l.length - (j + 1)) (cap4 - (j + 1))), .row 30 2 (0 + j + (l.length - (j + 1))) ([] ++ flat (l.take j) ++ flat (l.drop (j + 1))) (some 4) none, .cp 9] (by kernel_rfl) (by kernel_rfl) ?_ ?_
                  · refine ⟨?_, ?_, ?_, ?_, ?_, ?_, ?_, ?_, ?_, ?_, ?_, trivial⟩
                    · exact Rws.obl_lit0 und26 s30
                    · exact Rws.obl_move (by kernel_rfl) rfl
                    · exact Rws.obl_move (by kernel_rfl) rfl
                    · exact obl_sl_hi (jA := 1) (jB := 2) (n := l.length) (cap := cap4) (j := j) (g := g4) (by omega) (by omega) (by kernel_rfl) rfl rfl (by kernel_rfl) rfl rfl
                    · exact obl_take hLd (by omega) (by omega) rfl rfl (jx := 3) (by kernel_rfl) rfl rfl
                    · exact Rws.obl_move (by kernel_rfl) rfl
                    · exact Rws.obl_move (by kernel_rfl) rfl
                    · exact obl_inc (jA := 6) (j := j) (by omega) (by kernel_rfl) rfl rfl
                    · exact obl_sl_lo (jA := 5) (jB := 7) (n := l.length) (cap := cap4) (j := j) (g := g4) (by omega) (by omega) (by kernel_rfl) rfl rfl (by kernel_rfl) rfl rfl
                    · exact obl_drop hLd rfl (by omega) (by omega) (by omega) rfl rfl (jx := 8) (by kernel_rfl) rfl rfl
                    · exact Rws.obl_cp rfl
                  · intro ν W hbW hrow
                    have hr9 := hrow 9 30 2 _ _ _ _ (by decide) rfl (Rws.con_ne (by kernel_rfl))
                    have hbs := hbW.size
                    have hL2 : Lr W (ν 9) (l.take j ++ l.drop (j + 1)) := by
                      refine ⟨?_, hr9.2⟩
                      have htl : (l.take j).length = j := by rw [List.length_take]; omega
                      have hdl : (l.drop (j + 1)).length = l.length - (j + 1) := List.length_drop
                      have e1 : (l.take j ++ l.drop (j + 1)).length = 0 + j + (l.length - (j + 1)) := by rw [List.length_append, htl, hdl]; omega
                      have e2 : flat (l.take j ++ l.drop (j + 1)) = [] ++ flat (l.take j) ++ flat (l.drop (j + 1)) := by rw [flat_app]; rfl
                      rw [e1, e2]
                      exact owns_base hr9.1 (Nat.zero_le _)
                    have hv2 : ∀ g, (ν 9).ownBlock = some g → ¬ F3 g := fun g hg hh => by
                      have h1 := (hr9.lt g hg).1
                      have h2 := hA3.lt g hh
                      have h3 : w3.drew.heap.size = w3.heap.size := rfl
                      omega
                    have hA2 := hA3.below hbW
                    have hbw2 : RowKit.Below w.heap.size w W := hbw3.trans (hbW.mono (by have := hbw3.size; omega))
                    clear hL hA hbw hv hWx x0 x1 x2 hbW hr9 hrow
                    simp only [Rws.MFin, Rws.kOf, Rws.Mk.val]
                    generalize (if cap4 = j + 1 then 0 else (j + 1) * 2) = o8
                    simp [Rws.MFin, Rws.kOf, Rws.Mk.val]
                    generalize ν 9 = v9 at hL2 hv2 ⊢
                    go_wp2_with fail
                    go_meet
                    case rel => exact ⟨_, F3, c3, hL2, hA2, hF3, hv2, by omega, hbw2⟩
                · have hgx3 : gx < wc.heap.size := (Array.getElem?_eq_some_iff.1 hWx).1
                  have hll : l.length ≤ 100000 := by omega
                  go_wp2_with fail
                  refine (LDue_c hL hll at_).mono ?_
                  rintro e w3 ⟨v1, v2, rfl, out, rest, hD1, hr1, hL3, hv2', hb3⟩
                  have hs3 := hb3.size
                  have hA3 := hA.below hb3
                  have y1 : w3.cell? ⟨gx, 1, none⟩ = some (.int .i64 at_) := by rw [World.cell?_of_block (w := wc) (hb3.block gx hgx3)]; exact x1
                  have hv3 : ∀ g, v2.ownBlock = some g → ¬ F g := fun g hg hh => by
                    rcases hv2' with rfl | h9
                    · exact hv g hg hh
                    · have h8 := h9 g hg
                      have h7 := hA.lt g hh
                      omega
                  go_wp2_with fail
                  refine (Due_c hA3 (by omega) at_).mono ?_
                  rintro e w4 ⟨v3, rfl, out2, rest2, hD2, hr2, hA4, hf4⟩
                  obtain ⟨rfl, rfl⟩ := hD1.det rfl hD2
                  have hs4 := hf4.size
                  have hb4 := hf4.below hF (by have := hbw.size; omega)
                  have hr1' := owns_of hr1 (w' := w4) (fun g hg => hf4.same g (hr1.lt g hg).2 (fun hh => by have h8 := (hr1.lt g hg).1; have h7 := hA.lt g hh; omega))
                  have hL4 := hL3.keep (w' := w4) (fun g hg => hf4.same g (hL3.lt g hg).2 (hv3 g hg))
                  have hon : out2.length ≤ 1000000000 := due_len hD1 (by omega)
                  go_wp2_with fail
                  refine (Ints_c hr2 hr1' hon).mono ?_
                  rintro e w5 ⟨rfl, hb5⟩
                  have hL5 := hL4.keep (w' := w5) (fun g hg => hb5.block g (hL4.lt g hg).2)
                  have hA5 := hA4.below hb5
                  have hB5 : RowKit.Below w.heap.size w w5 := ((hbw.trans (hb3.mono (by have := hbw.size; omega))).trans hb4).trans (hb5.mono (by have := hbw.size; omega))
                  clear hr1 hr2 hr1' hD1 hD2
                  go_wp2_with fail
                  go_meet
                  case rel => exact ⟨rest2, F, c, hL5, hA5, hF, hv3, by omega, hB5⟩
                · go_wp2_with fail
                  go_meet
                  case rel => exact ⟨l, F, c, hL, hA, hF, hv, by omega, hbw⟩
            case rest =>
              clear hWx hL hA hbw x0 x1 x2 hids hF hv hAt
              obtain ⟨l, F, c, hL, hA, hF, hv, hck2, hbw⟩ := hcut
              obtain ⟨g5, cap5, rfl, hcap5, hcm5, hg5⟩ := hL.shape
              have hlc5 := hA.len
              have hlen5 : (l.length : Int) ≤ 81 := by omega
              rename_i Kc hKc
              refine hKc _ _ ?_
              clear hKc
              go_wp2_with fail
              refine (Next_c hA).mono ?_
              rintro e w3 ⟨⟨an, bn, rfl, hab⟩, he⟩
              obtain rfl := he.symm
              go_wp2_with fail
              go_loopw [15, 16] (fun v15 v16 wr2 => ∃ (f : Int) (j : Nat), v15 = .int .i64 f ∧ v16 = .int .i64 (j : Int) ∧ j ≤ l.length ∧ FirstP l j f ∧ wr2 = wc) (fun _ v16 _ => l.length - (intOf v16).toNat)
              case atStart => exact ⟨0, 0, rfl, rfl, Nat.zero_le _, .inl ⟨rfl, rfl⟩, rfl⟩
              case round =>
                obtain ⟨f, j, rfl, rfl, hj, hfp, hwe⟩ := hrel
                obtain rfl := hwe.symm
                by_cases hjl : j < l.length
                · have hjI : (j : Int) < (l.length : Int) := by omega
                  have y1 : wc.cell? ⟨g5, j * 2, none⟩ = some (.int .i64 (atOf l j)) := (hL.cell j hjl).1
                  have HR0 := Lib.hid hfp
                  by_cases hj0 : j = 0
                  · subst hj0
                    have HR := Lib.hid (first_one l hjl)
                    generalize hz : atOf l 0 = z at y1
                    rw [hz] at HR
                    clear hfp HR0 hz
                    have y1' : wc.cell? ⟨g5, 0, none⟩ = some (.int .i64 z) := by simpa using y1
                    go_wp2_with fail
                    go_roundw
                    case rel => exact ⟨z, 1, rfl, by go_num, by omega, HR.out, trivial⟩
                    case measure => simp [intOf]; omega
                  · by_cases hlt3 : atOf l j < f
                    · have HR := Lib.hid (first_new hfp hlt3 hj0)
                      generalize hz : atOf l j = z at y1 hlt3
                      rw [hz] at HR
                      have hj0I : ¬ ((j : Int) = 0) := by omega
                      clear hfp HR0 hz
                      go_wp2_with fail
                      go_roundw
                      case rel => exact ⟨z, j + 1, rfl, by go_num, by omega, HR.out, trivial⟩
                      case measure => simp [intOf]; omega
                    · have HR := Lib.hid (first_old hfp (by omega) hj0)
                      generalize hz : atOf l j = z at y1 hlt3
                      have hj0I : ¬ ((j : Int) = 0) := by omega
                      clear hfp HR0 hz
                      go_wp2_with fail
                      go_roundw
                      case rel => exact ⟨f, j + 1, rfl, by go_num, by omega, HR.out, trivial⟩
                      case measure => simp [intOf]; omega
                · have : j = l.length := by omega
                  subst this
                  obtain ⟨hfa, hfb⟩ := first_end hfp hab
                  subst hfa hfb
                  clear hab hfp
                  go_wp2_with fail
                  refine (Len_a hA).mono ?_
                  rintro e w4 ⟨rfl, he⟩
                  obtain rfl := he.symm
                  go_wp2_with fail
                  go_roundw
                  case rel => exact ⟨k + 1, by go_num, by omega, l, F, c, hL, hA, hF, hv, hck2, hbw⟩
                  case measure => simp [intOf]; omega
    · by_cases hkn' : k < n
      · have : ¬ ((k : Int) < 80) := by omega
        go_wp2
        go_ret
        exact ⟨rfl, hbw⟩
      · have : ¬ ((k : Int) < (n : Int)) := by omega
        go_wp2
        go_ret
        exact ⟨rfl, hbw⟩
end Go.Proofs.Ytlaagbnclkhbjaa
