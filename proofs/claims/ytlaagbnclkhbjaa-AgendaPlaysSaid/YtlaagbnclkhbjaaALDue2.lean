/- Agenda: the document's due: the walk. -/
import Derived.Test.YtlaagbnclkhbjaaALDue
namespace Go.Proofs.Ytlaagbnclkhbjaa
open Go.RowKit Go.Maps
set_option linter.unusedSimpArgs false
set_option linter.unusedVariables false
set_option maxRecDepth 100000
def atOf (l : List (Int × Int)) (j : Nat) : Int := (l.getD j (0, 0)).1
/-- b is the place of the first that is due, among the first k. -/
def BestP (now : Int) (l : List (Int × Int)) (k : Nat) (b : Int) : Prop :=
  (b = -1 ∧ ∀ j, j < k → now < atOf l j) ∨ ∃ j : Nat, b = (j : Int) ∧ j < k ∧ atOf l j ≤ now ∧ (∀ i, i < j → atOf l j < atOf l i) ∧ ∀ i, j < i → i < k → atOf l j ≤ atOf l i
theorem best_no {now : Int} {l : List (Int × Int)} {k : Nat} {b : Int} (h : BestP now l k b) (hk : now < atOf l k) : BestP now l (k + 1) b := by
  rcases h with ⟨rfl, h⟩ | ⟨j, rfl, h1, h2, h3, h4⟩
  · refine .inl ⟨rfl, fun j hj => ?_⟩
    by_cases e : j = k
    · subst e; exact hk
    · exact h j (by omega)
  · refine .inr ⟨j, rfl, by omega, h2, h3, fun i h5 h6 => ?_⟩
    by_cases e : i = k
    · subst e; omega
    · exact h4 i h5 (by omega)
theorem best_keep {now : Int} {l : List (Int × Int)} {k j : Nat} (h : BestP now l k (j : Int)) (hk : atOf l j ≤ atOf l k) : BestP now l (k + 1) (j : Int) := by
  rcases h with ⟨e, _⟩ | ⟨j', e, h1, h2, h3, h4⟩
  · omega
  · have : j' = j := by omega
    subst this
    refine .inr ⟨j', rfl, by omega, h2, h3, fun i h5 h6 => ?_⟩
    by_cases e : i = k
    · subst e; exact hk
    · exact h4 i h5 (by omega)
theorem best_new {now : Int} {l : List (Int × Int)} {k : Nat} {b : Int} (h : BestP now l k b) (h1 : atOf l k ≤ now) (h2 : b = -1 ∨ ∃ j : Nat, b = (j : Int) ∧ atOf l k < atOf l j) : BestP now l (k + 1) (k : Int) := by
  refine .inr ⟨k, rfl, by omega, h1, fun i hi => ?_, fun i h5 h6 => by omega⟩
  rcases h with ⟨e, h⟩ | ⟨j, e, g1, g2, g3, g4⟩
  · have := h i hi; omega
  · rcases h2 with h2 | ⟨j', e2, h2⟩
    · omega
    · have : j' = j := by omega
      subst this
      by_cases a : i < j'
      · have := g3 i a; omega
      · by_cases b : i = j'
        · subst b; exact h2
        · have := g4 i (by omega) hi; omega
theorem best_due {now : Int} {l : List (Int × Int)} {j : Nat} (h : BestP now l l.length (j : Int)) {o : List Int} {r : List (Int × Int)} (hd : DueR now (l.take j ++ l.drop (j + 1)) o r) : DueR now l ((l.getD j (0, 0)).2 :: o) r := by
  rcases h with ⟨e, _⟩ | ⟨j', e, h1, h2, h3, h4⟩
  · omega
  · have : j' = j := by omega
    subst this
    have hl : l = l.take j' ++ l.getD j' (0, 0) :: l.drop (j' + 1) := by
      have e1 : l.getD j' (0, 0) = l[j'] := by simp [List.getD, List.getElem?_eq_getElem h1]
      rw [e1, List.getElem_cons_drop, List.take_append_drop]
    have hget : ∀ i (hi : i < l.length), atOf l i = (l[i]).1 := fun i hi => by simp [atOf, List.getD, List.getElem?_eq_getElem hi]
    have hs : DueR now (l.take j' ++ l.getD j' (0, 0) :: l.drop (j' + 1)) ((l.getD j' (0, 0)).2 :: o) r := by
      refine DueR.step h2 (fun z hz => ?_) (fun z hz => ?_) hd
      · obtain ⟨i, hi, rfl⟩ := List.getElem_of_mem hz
        have hi' : i < j' := by simp at hi; omega
        have := h3 i hi'
        rw [hget i (by omega)] at this
        simpa [atOf] using this
      · obtain ⟨i, hi, rfl⟩ := List.getElem_of_mem hz
        have hi' : j' + 1 + i < l.length := by simp at hi; omega
        have := h4 (j' + 1 + i) (by omega) hi'
        rw [hget _ hi'] at this
        simpa [atOf] using this
    rw [← hl] at hs
    exact hs
theorem und26 : Try.prog.underlying 26 = some (.slice 30) := by kernel_rfl
theorem i30 : (Try.prog.info? 30).map (fun i => (i.zero, i.size, i.bytes)) = some (some (.agg #[.int .i64 0, .int .i64 0]), 2, 16) := by kernel_rfl
theorem s30 : (Try.prog.info? 30).map (·.size) = some 2 := by kernel_rfl
def lenOf : Value → Nat
  | .slice _ n _ => n
  | _ => 0
set_option maxHeartbeats 4000000 in
theorem LDue_c {w : World} {v : Value} {l : List (Int × Int)} (h : Lr w v l) (hn : l.length ≤ 100000) (now : Int) :
    Calls Try.prog 12 #[v, .int .i64 now] w fun e w' => ∃ v1 v2, e = .returned (.tuple #[v1, v2]) ∧ ∃ out rest, DueR now l out rest ∧ w'.ownsRow w.heap.size 3 1 v1 out.length (ints out) ∧ Lr w' v2 rest ∧ (v2 = v ∨ ∀ g, v2.ownBlock = some g → w.heap.size ≤ g) ∧ RowKit.Below w.heap.size w w' := by
  obtain ⟨i0, hi, hz0, hz1, hz2⟩ := info_parts i3
  go_enter Try.func12, Try.ntmps12
  go_wp2_with fail
  go_loopw [0, 6] (fun v0 v6 wr => ∃ (l1 : List (Int × Int)) (out1 : List Int), Lr wr v0 l1 ∧ wr.ownsRow w.heap.size 3 1 v6 out1.length (ints out1) ∧ (v0 = v ∨ ∀ g, v0.ownBlock = some g → w.heap.size ≤ g) ∧ (∀ o r, DueR now l1 o r → DueR now l (out1 ++ o) r) ∧ RowKit.Below w.heap.size w wr ∧ out1.length + l1.length = l.length) (fun v0 _ _ => lenOf v0)
  case atStart =>
    refine ⟨l, [], h.keep (fun g hg => al_lt' (h.lt g hg).2), ⟨by simp [ints], .inr ⟨w.heap.size, 0, #[], rfl, Nat.le_refl _, heap_alloc_new w _, by simp, by simp [maxLen], by simp, by simp [ints]⟩⟩, .inl rfl, fun o r hr => hr, (Below.refl _ _).alloc (Nat.le_refl _) _, by simp⟩
  case round =>
    obtain ⟨l1, out1, hL, hown, hv0, hD, hb, hlen⟩ := hrel
    obtain ⟨g1, cap1, rfl, hcap1, hcm1, hg1⟩ := hL.shape
    have hcmI : (cap1 : Int) ≤ 9223372036854775807 := by simp only [maxLen] at hcm1; omega
    have hcapI : (l1.length : Int) ≤ (cap1 : Int) := by omega
    go_wp2_with fail
    go_loopw [7, 8] (fun v7 v8 wr2 => ∃ (b : Int) (k q : Nat), v7 = .int .i64 b ∧ v8 = .int .i64 (k : Int) ∧ k ≤ l1.length ∧ BestP now l1 k b ∧ wr2 = redrawn wr q) (fun _ v8 _ => l1.length - (intOf v8).toNat)
    case atStart => exact ⟨-1, 0, wr.drawn, rfl, rfl, Nat.zero_le _, .inl ⟨rfl, fun j hj => by omega⟩, rfl⟩
    case round =>
      obtain ⟨b, k, q, rfl, rfl, hk, hB, rfl⟩ := hrel
      by_cases hlt : k < l1.length
      · have hltI : (k : Int) < (l1.length : Int) := by omega
        have hk2 : (k : Int) ≤ 100000 := by omega
        have d1 : (redrawn wr q).cell? ⟨g1, k * 2, none⟩ = some (.int .i64 (atOf l1 k)) := (hL.cell k hlt).1
        by_cases hdue : atOf l1 k ≤ now
        · rcases hB with ⟨rfl, hB'⟩ | ⟨j, rfl, h1, h2, h3, h4⟩
          · have hR := best_new (.inl ⟨rfl, hB'⟩) hdue (.inl rfl)
            have HR := Lib.hid hR
            generalize hy : atOf l1 k = y at d1 hdue
            clear hB' hR hy
            go_wp2_with fail
            go_quiet (fail)
            go_wp2_with fail
            go_roundw
            case rel => exact ⟨(k : Int), k + 1, _, rfl, by go_num, by omega, HR.out, rfl⟩
            case measure => simp [intOf]; omega
          · have hjI : (j : Int) < (l1.length : Int) := by omega
            have d2 : (redrawn wr q).cell? ⟨g1, j * 2, none⟩ = some (.int .i64 (atOf l1 j)) := (hL.cell j (by omega)).1
            have hB0 : BestP now l1 k (j : Int) := .inr ⟨j, rfl, h1, h2, h3, h4⟩
            by_cases hlt2 : atOf l1 k < atOf l1 j
            · have HR := Lib.hid (best_new hB0 hdue (.inr ⟨j, rfl, hlt2⟩))
              generalize hy : atOf l1 k = y at d1 hdue hlt2
              generalize hz : atOf l1 j = z at d2 hlt2 h2
              clear h3 h4 hB0 hy hz
              go_wp2_with fail
              go_quiet (fail)
              go_wp2_with fail
              go_roundw
              case rel => exact ⟨(k : Int), k + 1, _, rfl, by go_num, by omega, HR.out, rfl⟩
              case measure => simp [intOf]; omega
            · have HR := Lib.hid (best_keep hB0 (by omega))
              generalize hy : atOf l1 k = y at d1 hdue hlt2
              generalize hz : atOf l1 j = z at d2 hlt2 h2
              clear h3 h4 hB0 hy hz
              go_wp2_with fail
              go_quiet (fail)
              go_wp2_with fail
              go_roundw
              case rel => exact ⟨(j : Int), k + 1, _, rfl, by go_num, by omega, HR.out, rfl⟩
              case measure => simp [intOf]; omega
        · have HR := Lib.hid (best_no hB (by omega))
          generalize hy : atOf l1 k = y at d1 hdue
          clear hB hy
          have hdf : decide (y ≤ now) = false := by simpa using hdue
          go_wp2_with fail
          go_quiet (fail)
          go_wp2_with fail
          go_roundw
          case rel => exact ⟨b, k + 1, _, rfl, by go_num, by omega, HR.out, rfl⟩
          case measure => simp [intOf]; omega
      · have : k = l1.length := by omega
        subst this
        rcases hB with ⟨rfl, hB'⟩ | ⟨j, rfl, h1, h2, h3, h4⟩
        · have hR : DueR now l (out1 ++ []) l1 := hD [] l1 (.stop (fun y hy => by
            obtain ⟨i, hi, rfl⟩ := List.getElem_of_mem hy
            have := hB' i hi
            simpa [atOf, List.getD, List.getElem?_eq_getElem hi] using this))
          rw [List.append_nil] at hR
          clear hB'
          go_wp2
          go_ret2
          exact ⟨_, _, rfl, out1, l1, hR, hown, hL, hv0, hb.trans ⟨rfl, rfl, rfl, Nat.le_refl _, fun _ _ => rfl⟩⟩
        · have hB0 : Hid (BestP now l1 l1.length (j : Int)) := .inr ⟨j, rfl, h1, h2, h3, h4⟩
          obtain ⟨x, hx⟩ : ∃ x, Hid (x = (l1.getD j (0, 0)).2) := ⟨_, rfl⟩
          have d3 : (redrawn wr q).cell? ⟨g1, j * 2 + 1, none⟩ = some (.int .i64 x) := by rw [hx.out]; exact (hL.cell j h1).2
          have hjI : (j : Int) < (l1.length : Int) := by omega
          have hj2 : (j : Int) ≤ 100000 := by omega
          clear h2 h3 h4
          obtain ⟨o6, cap6, rfl, s6⟩ := ints_shape hown
          go_wp2_with (first
            | (at_builtin; refine wpList_append_own_at _ rfl _ _ 34 rfl w.heap.size 3 i0 (.int .i64 0) 1 8 und34 hi hz0 hz1 hz2 rfl (by decide) _ _ _ rfl (owns_of (w := wr) hown ?_) ⟨wr.heap.size, 0, none⟩ 1 1 [.int .i64 x] rfl rfl ?_ ?_ ?_ ?_ ?_ ?_)
            | fail)
          case refine_1 =>
            intro g hg
            exact al_lt' (w := redrawn wr q) (hown.lt g hg).2
          case refine_2 => exact cell_one_new' (redrawn wr q) (.int .i64 x) 3 wr.heap.size rfl
          case refine_3 => intro u hu; simp at hu; subst hu; rfl
          case refine_4 => unfold maxLen; omega
          case refine_5 => omega
          case refine_6 =>
            have := hb.size
            simp only [World.size_alloc]
            show w.heap.size ≤ wr.heap.size + 1
            omega
          case refine_7 =>
            intro v' w3 hown3 hg3 hnil hloc
            obtain ⟨ad', cp', rfl⟩ : ∃ ad' cp', v' = .slice ad' (out1.length + 1) cp' := by
              rcases hown3.2 with ⟨e1, e2⟩ | ⟨g', cap, cur, e1, _⟩
              · omega
              · exact ⟨_, _, e1⟩
            have hs3 := hg3.size
            have hs3' : wr.heap.size + 1 ≤ w3.heap.size := by simp only [World.size_alloc] at hs3; exact hs3
            have hne : some g1 ≠ (Value.slice o6 out1.length cap6).ownBlock := fun e => by
              obtain ⟨⟨_, h2⟩, _⟩ := hL
              rcases h2 with ⟨e1, _⟩ | ⟨g, cap, cur, e1, _, hg, _⟩
              · cases e1
              · cases e1
                rcases hown.2 with ⟨e2, _⟩ | ⟨g', cap', cur', e2, _, hg', _⟩
                · rw [e2] at e; cases e
                · rw [e2] at e
                  simp [Value.ownBlock] at e
                  rw [e, hg'] at hg
                  simp at hg
            have hL3 : Lr w3 (.slice (some ⟨g1, 0, none⟩) l1.length cap1) l1 := hL.keep (fun g hg => by
              simp [Value.ownBlock] at hg
              subst hg
              rw [hg3.block g1 (by simp only [World.size_alloc]; show g1 < wr.heap.size + 1; omega) hne]
              exact al_lt' (w := redrawn wr q) hg1)
            have hb3 : RowKit.Below w.heap.size w w3 := by
              refine hb.trans ⟨hg3.os, hg3.tape, hg3.output, by omega, fun b hbb => ?_⟩
              have := hb.size
              rw [hg3.block b (by simp only [World.size_alloc]; show b < wr.heap.size + 1; omega) (fun e => by have := (hown.lt b e.symm).1; omega)]
              exact al_lt' (w := redrawn wr q) (by show b < wr.heap.size; omega)
            have hrow3 : Hid (w3.ownsRow w.heap.size 3 1 (.slice ad' (out1.length + 1) cp') (out1 ++ [x]).length (ints (out1 ++ [x]))) := by
              have e1 : (out1 ++ [x]).length = out1.length + 1 := by simp
              have e2 : ints (out1 ++ [x]) = ints out1 ++ [.int .i64 x] := by simp [ints]
              rw [e1, e2]
              exact hown3
            clear hnil hloc hown3
            go_upto_region 11 with (fail)
            have cellsW : ∀ W : World, RowKit.Below w3.drew.heap.size w3.drew W → ∀ i u, (flat l1)[i]? = some u → W.cell? ⟨g1, i, none⟩ = some u := fun W hbW i u hu => by
              have hadd : (⟨g1, 0, none⟩ : Addr).add i = ⟨g1, i, none⟩ := by unfold Addr.add; split <;> simp_all
              have h1 := hL3.1.cells (g := g1) rfl i u hu
              rw [hadd] at h1
              rw [World.cell?_of_block (w := w3) (hbW.block g1 (by show g1 < w3.heap.size; omega))]
              exact h1
            have htl : (l1.take j).length = j := by rw [List.length_take]; omega
            have hdl : (l1.drop (j + 1)).length = l1.length - (j + 1) := List.length_drop
            have hjn : j ≤ l1.length := by omega
            have hnj : ((l1.length - (j + 1) : Nat) : Int) = (l1.length : Int) - ((j : Int) + 1) := by omega
            refine Rws.wp_rows_lit [.row 30 2 0 [] none none, .q (.slice (some ⟨g1, 0, none⟩) l1.length cap1), .q (.int .i64 (j : Int)), .q (.slice (some ⟨g1, 0, none⟩) j cap1), .row 30 2 (0 + j) ([] ++ flat (l1.take j)) (some 0) none,
              .q (.slice (some ⟨g1, 0, none⟩) l1.length cap1), .q (.int .i64 (j : Int)), .q (.int .i64 ((j : Int) + 1)), .q (.slice (some ⟨g1, if cap1 = j + 1 then 0 else (j + 1) * 2, none⟩) (l1.length - (j + 1)) (cap1 - (j + 1))), .row 30 2 (0 + j + (l1.length - (j + 1))) ([] ++ flat (l1.take j) ++ flat (l1.drop (j + 1))) (some 4) none, .cp 9] (by kernel_rfl) (by kernel_rfl) ?_ ?_
            · refine ⟨?_, ?_, ?_, ?_, ?_, ?_, ?_, ?_, ?_, ?_, ?_, trivial⟩
              · exact Rws.obl_lit0 und26 s30
              · exact Rws.obl_move (by kernel_rfl) rfl
              · exact Rws.obl_move (by kernel_rfl) rfl
              · refine Rws.obl_q (fun a W hbW h0 hd => ?_)
                have e1 := hd 1 54 _ (by kernel_rfl) rfl rfl
                have e2 := hd 2 55 _ (by kernel_rfl) rfl rfl
                simp [go_sem, e1, e2]
                intro hcc
                omega
              · refine Rws.obl_app (c := 0) (dc := 53) (dx := 56) (ad := ⟨g1, 0, none⟩) (m := j) (cap := cap1) und26 i30 rfl (by decide) rfl rfl (fun a h0 hd => hd 3 56 _ (by kernel_rfl) rfl rfl) (by rw [flat_len, htl]) (fun W hbW i u hu => ?_) (flat_one _) (by unfold maxLen; omega) (by omega)
                have hadd : (⟨g1, 0, none⟩ : Addr).add i = ⟨g1, i, none⟩ := by unfold Addr.add; split <;> simp_all
                rw [hadd]
                rw [flat_take, List.getElem?_take] at hu
                split at hu
                · exact cellsW W hbW i u hu
                · cases hu
              · exact Rws.obl_move (by kernel_rfl) rfl
              · exact Rws.obl_move (by kernel_rfl) rfl
              · refine Rws.obl_q (fun a W hbW h0 hd => ?_)
                have e1 := hd 6 59 _ (by kernel_rfl) rfl rfl
                simp [go_sem, e1]
                rw [IntKind.wrap_i64]
                omega
              · refine Rws.obl_q (fun a W hbW h0 hd => ?_)
                have e1 := hd 5 58 _ (by kernel_rfl) rfl rfl
                have e2 := hd 7 60 _ (by kernel_rfl) rfl rfl
                simp [go_sem, e1, e2]
                rw [if_pos (by omega)]
                split <;> rfl
              · refine Rws.obl_app (c := 4) (dc := 57) (dx := 61) (ad := ⟨g1, if cap1 = j + 1 then 0 else (j + 1) * 2, none⟩) (m := l1.length - (j + 1)) (cap := cap1 - (j + 1)) und26 i30 rfl (by decide) rfl rfl (fun a h0 hd => hd 8 61 _ (by kernel_rfl) rfl rfl) (by rw [flat_len, hdl]) (fun W hbW i u hu => ?_) (flat_one _) (by unfold maxLen; omega) (by omega)
                rw [flat_drop, List.getElem?_drop] at hu
                have hi : (j + 1) * 2 + i < l1.length * 2 := by
                  have := (List.getElem?_eq_some_iff.1 hu).1
                  rw [flat_len] at this
                  exact this
                rw [if_neg (by omega)]
                have hadd : (⟨g1, (j + 1) * 2, none⟩ : Addr).add i = ⟨g1, (j + 1) * 2 + i, none⟩ := by unfold Addr.add; split <;> simp_all
                rw [hadd]
                exact cellsW W hbW _ u hu
              · exact Rws.obl_cp rfl
            · intro ν W hbW hrow
              have hr9 := hrow 9 30 2 _ _ _ _ (by decide) rfl (Rws.con_ne (by kernel_rfl))
              have hbs := hbW.size
              have hrow4 := Lib.hid (owns_of hrow3.out (w' := W) (fun g hg => hbW.block g (hrow3.out.lt g hg).2))
              have hL4 : Lr W (ν 9) (l1.take j ++ l1.drop (j + 1)) := by
                refine ⟨?_, hr9.2⟩
                have e1 : (l1.take j ++ l1.drop (j + 1)).length = 0 + j + (l1.length - (j + 1)) := by rw [List.length_append, htl, hdl]; omega
                have e2 : flat (l1.take j ++ l1.drop (j + 1)) = [] ++ flat (l1.take j) ++ flat (l1.drop (j + 1)) := by rw [flat_app]; rfl
                rw [e1, e2]
                exact owns_base hr9.1 (Nat.zero_le _)
              have hfresh : ∀ g, (ν 9).ownBlock = some g → w.heap.size ≤ g := fun g hg => by
                have := (hr9.lt g hg).1
                have := hb.size
                omega
              have hm : lenOf (ν 9) < l1.length := by
                obtain ⟨g, cap, e, _⟩ := hL4.shape
                rw [e]
                show (l1.take j ++ l1.drop (j + 1)).length < l1.length
                rw [List.length_append, htl, hdl]
                omega
              have hD4 : ∀ o r, DueR now (l1.take j ++ l1.drop (j + 1)) o r → DueR now l ((out1 ++ [x]) ++ o) r := fun o r hr => by
                rw [List.append_assoc]
                refine hD _ _ ?_
                rw [hx.out]
                exact best_due hB0.out hr
              have hlen4 : (out1 ++ [x]).length + (l1.take j ++ l1.drop (j + 1)).length = l.length := by
                rw [List.length_append, List.length_append, htl, hdl]
                simp
                omega
              have hb4 := hb3.trans (hbW.mono (by have := hb3.size; omega))
              simp [Rws.MFin, Rws.kOf, Rws.Mk.val]
              generalize ν 9 = v9 at hL4 hfresh hm ⊢
              generalize (l1.take j ++ l1.drop (j + 1)) = l2 at hL4 hD4 hlen4
              have HM := Lib.hid hm
              have HD := Lib.hid hD4
              have HL := Lib.hid hlen4
              clear hm hD4 hlen4 hr9 hrow
              go_wp2_with fail
              go_roundw
              case rel => exact ⟨l2, out1 ++ [x], hL4, hrow4.out, .inr hfresh, HD.out, hb4, HL.out⟩
              case measure => exact HM.out
end Go.Proofs.Ytlaagbnclkhbjaa
