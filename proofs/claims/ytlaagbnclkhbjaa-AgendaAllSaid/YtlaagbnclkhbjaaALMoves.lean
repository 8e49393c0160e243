/- Agenda: AgendaNone, AgendaMoves: the walks. -/
import Derived.Test.YtlaagbnclkhbjaaAWake
import Derived.Lib.SmallJoins
namespace Go.Proofs.Ytlaagbnclkhbjaa
open Go.RowKit Go.Maps
set_option linter.unusedSimpArgs false
set_option linter.unusedVariables false
set_option maxRecDepth 100000
theorem Ag.keep {F : Nat → Prop} {w w' : World} {p c : Nat} {l : List (Int × Int)} (h : Ag F w p c l) (hs : w.heap.size ≤ w'.heap.size) (hh : ∀ b, F b → w'.heap[b]? = w.heap[b]?) : Ag F w' p c l := by
  obtain ⟨S, m, n, κ, A, O, I, L, cnt, D, hB, hSF, hFm, hFb, hl⟩ := h
  refine ⟨S, m, n, κ, A, O, I, L, cnt, D, ?_, hSF, hFm, fun b hb => Nat.lt_of_lt_of_le (hFb b hb) hs, hl⟩
  have hq : Hq S w' p n (.map (some m)) (.int .i64 (c : Int)) κ A O I := hB.hq.turn (fun sl h1 => by rw [hh p (hSF p hB.sp)]; exact h1) (fun b hb hbp hbs => hh b (hSF b hbs))
  exact ⟨hq, hB.ho, hB.set, hB.len, hB.up, hB.oc, hB.ids, hB.iw, owns_map hB.map (hh m hFm), hB.key, hB.im, hB.cb, hB.nb, hB.sp, hB.sm⟩
theorem Ag.lt {F : Nat → Prop} {w : World} {p c : Nat} {l : List (Int × Int)} (h : Ag F w p c l) : ∀ b, F b → b < w.heap.size := by
  obtain ⟨S, m, n, κ, A, O, I, L, cnt, D, hB, hSF, hFm, hFb, hl⟩ := h
  exact hFb
theorem Ag.below {F : Nat → Prop} {w w' : World} {p c : Nat} {l : List (Int × Int)} (h : Ag F w p c l) (hb : RowKit.Below w.heap.size w w') : Ag F w' p c l := h.keep hb.size (fun b hF => hb.block b (h.lt b hF))
set_option maxHeartbeats 2000000 in
theorem none_lifted (a x : Int) (w : World) : Calls Try.prog 5 #[.int .i64 a, .int .i64 x] w fun e w' => e = .returned (.bool true) ∧ RowKit.Below w.heap.size w w' := by
  go_enter Try.func5, Try.ntmps5
  go_wp2_with fail
  refine (next_nil _).mono ?_
  rintro e w1 ⟨rfl, he⟩
  obtain rfl := he.symm
  go_wp2_with fail
  refine (awake_c _).mono ?_
  rintro e w1 ⟨rfl, hb⟩
  go_wp2_with fail
  refine (add_nil _ _ _).mono ?_
  rintro e w2 ⟨rfl, he⟩
  obtain rfl := he.symm
  go_wp2_with fail
  refine (move_nil _ _ _).mono ?_
  rintro e w2 ⟨rfl, he⟩
  obtain rfl := he.symm
  go_wp2_with fail
  refine (drop_nil _ _).mono ?_
  rintro e w2 ⟨rfl, he⟩
  obtain rfl := he.symm
  go_wp2_with fail
  refine (due_nil _ _).mono ?_
  rintro e w2 ⟨rfl, he⟩
  obtain rfl := he.symm
  go_wp2_with fail
  refine (len_nil _).mono ?_
  rintro e w2 ⟨rfl, he⟩
  obtain rfl := he.symm
  go_wp2
  go_ret
  exact ⟨rfl, hb⟩
theorem ok16 {a : Int} (h : 0 ≤ a ∧ a ≤ 65535) : okAt a = true := decide_eq_true ⟨h.1, by omega⟩
theorem row_at {w : World} {base n : Nat} {v : Value} {out : List Int} (h : w.ownsRow base 3 1 v (n + 1) (ints out)) : ∃ g cap, v = .slice (some ⟨g, 0, none⟩) (n + 1) cap ∧ ∀ j x, out[j]? = some x → w.cell? ⟨g, j, none⟩ = some (.int .i64 x) := by
  have h0 := h
  rcases h.2 with ⟨e1, e2⟩ | ⟨g, cap, cur, rfl, _⟩
  · omega
  · refine ⟨g, cap, rfl, fun j x hj => ?_⟩
    have := h0.cells rfl j (.int .i64 x) (by simp [ints, hj])
    have hadd : (⟨g, 0, none⟩ : Addr).add j = ⟨g, j, none⟩ := by unfold Addr.add; split <;> simp_all
    rw [hadd] at this
    exact this
set_option maxHeartbeats 4000000 in
theorem moves_drop (a b c : Int) (ha : 0 ≤ a ∧ a ≤ 65535) (hb : 0 ≤ b ∧ b ≤ 65535) (hc : 0 ≤ c ∧ c ≤ 65535) (w : World) : Calls Try.prog 6 #[.int .u16 a, .int .u16 b, .int .u16 c, .bool true] w fun e w' => e = .returned (.bool true) ∧ RowKit.Below w.heap.size w w' := by
  have ha' := ok16 ha
  have hb' := ok16 hb
  have hc' := ok16 hc
  have ea : Hid (addE [] a 1 = 0) := by simp only [addE, ha', hasId, List.any_nil]; exact rfl
  have la : Hid (addL [] a 1 = [(a, 1)]) := by simp only [addL, ha', hasId, List.any_nil]; exact rfl
  have ec : Hid (addE [(a, 1)] c 2 = 0) := by simp only [addE, hc', hasId]; exact rfl
  have lc : Hid (addL [(a, 1)] c 2 = [(a, 1), (c, 2)]) := by simp only [addL, hc', hasId]; exact rfl
  have eb : Hid (moveE [(a, 1), (c, 2)] b 1 = 0) := by simp only [moveE, hb', hasId]; exact rfl
  have lb : Hid (moveL [(a, 1), (c, 2)] b 1 = [(c, 2), (b, 1)]) := by simp only [moveL, hb', hasId]; exact rfl
  clear ha' hb' hc'
  obtain ⟨ha0, ha1⟩ := ha
  obtain ⟨hb0, hb1⟩ := hb
  obtain ⟨hc0, hc1⟩ := hc
  go_enter Try.func6, Try.ntmps6
  go_wp2_with fail
  refine (New_c w).mono ?_
  rintro e w1 ⟨rfl, h1, hs1, hk1⟩
  obtain ⟨p, hp⟩ : ∃ p, Hid (p = w.heap.size + 1) := ⟨_, rfl⟩
  rw [← hp.out] at h1 ⊢
  have hF1 : ∀ b, (b = w.heap.size ∨ b = p) → w.heap.size ≤ b := fun b hb => by have := hp.out; omega
  go_wp2_with fail
  refine (awake_c _).mono ?_
  rintro e w2 ⟨rfl, hk2⟩
  have h2 := h1.below hk2
  have hs2 := hk2.size
  go_wp2_with fail
  refine (Add_c h2 (by omega) a 1 (by decide)).mono ?_
  rintro e w3 ⟨rfl, hA⟩
  obtain ⟨F3, c3, h3, hc3, hF3, hs3, hk3⟩ := hA.keep hF1 (by omega)
  rw [ea.out]
  rw [la.out] at h3
  clear hA
  go_wp2_with fail
  refine (Add_c h3 (by omega) c 2 (by decide)).mono ?_
  rintro e w4 ⟨rfl, hA⟩
  obtain ⟨F4, c4, h4, hc4, hF4, hs4, hk4⟩ := hA.keep hF3 (by omega)
  rw [ec.out]
  rw [lc.out] at h4
  clear hA
  go_wp2_with fail
  refine (Move_c h4 (by omega) b 1 (by decide)).mono ?_
  rintro e w5 ⟨rfl, hA⟩
  obtain ⟨F5, c5, h5, hc5, hF5, hs5, hk5⟩ := hA.keep hF4 (by omega)
  rw [eb.out]
  rw [lb.out] at h5
  clear hA
  have B5 : RowKit.Below w.heap.size w w5 := ((((hk1.trans (hk2.mono (by omega))).trans hk3).trans hk4).trans hk5)
  clear hk1 hk2 hk3 hk4 hk5
  have ed : Hid (hasId [(c, 2), (b, 1)] 2 = true) := by simp only [hasId]; exact rfl
  have ld : Hid (rmId [(c, 2), (b, 1)] 2 = [(b, 1)]) := by simp only [rmId]; exact rfl
  go_wp2_with fail
  refine (Drop_c h5 (by omega) 2 (by decide)).mono ?_
  rintro e w6 ⟨rfl, hA⟩
  obtain ⟨F6, c6, h6, hc6, hF6, hs6, hk6⟩ := hA.keep hF5 (by omega)
  rw [ed.out]
  rw [ld.out] at h6
  clear hA
  go_wp2_with fail
  refine (Due_c h6 (by omega) b).mono ?_
  rintro e w8 ⟨v, rfl, out, rest, hd, hrow, h8, hFr8⟩
  have hd' : DueR b [(b, 1)] [1] [] := .step (pre := []) (post := []) (y := (b, 1)) (Int.le_refl _) (by simp) (by simp) (.stop (by simp))
  obtain ⟨rfl, rfl⟩ := hd'.det rfl hd
  obtain ⟨g, cap, rfl, hcell⟩ := row_at hrow
  have hs8 := hFr8.size
  have B8 := (B5.trans hk6).trans (hFr8.below hF6 (by omega))
  have r0 := hcell 0 1 rfl
  go_wp2_with fail
  refine (Len_a h8).mono ?_
  rintro e w9 ⟨rfl, he⟩
  obtain rfl := he.symm
  go_wp2
  go_ret
  exact ⟨rfl, B8⟩
set_option maxHeartbeats 4000000 in
theorem moves_both (a b c : Int) (ha : 0 ≤ a ∧ a ≤ 65535) (hb : 0 ≤ b ∧ b ≤ 65535) (hc : 0 ≤ c ∧ c ≤ 65535) (hcb : c ≤ b) (w : World) : Calls Try.prog 6 #[.int .u16 a, .int .u16 b, .int .u16 c, .bool false] w fun e w' => e = .returned (.bool true) ∧ RowKit.Below w.heap.size w w' := by
  have ha' := ok16 ha
  have hb' := ok16 hb
  have hc' := ok16 hc
  have ea : Hid (addE [] a 1 = 0) := by simp only [addE, ha', hasId, List.any_nil]; exact rfl
  have la : Hid (addL [] a 1 = [(a, 1)]) := by simp only [addL, ha', hasId, List.any_nil]; exact rfl
  have ec : Hid (addE [(a, 1)] c 2 = 0) := by simp only [addE, hc', hasId]; exact rfl
  have lc : Hid (addL [(a, 1)] c 2 = [(a, 1), (c, 2)]) := by simp only [addL, hc', hasId]; exact rfl
  have eb : Hid (moveE [(a, 1), (c, 2)] b 1 = 0) := by simp only [moveE, hb', hasId]; exact rfl
  have lb : Hid (moveL [(a, 1), (c, 2)] b 1 = [(c, 2), (b, 1)]) := by simp only [moveL, hb', hasId]; exact rfl
  clear ha' hb' hc'
  obtain ⟨ha0, ha1⟩ := ha
  obtain ⟨hb0, hb1⟩ := hb
  obtain ⟨hc0, hc1⟩ := hc
  go_enter Try.func6, Try.ntmps6
  go_wp2_with fail
  refine (New_c w).mono ?_
  rintro e w1 ⟨rfl, h1, hs1, hk1⟩
  obtain ⟨p, hp⟩ : ∃ p, Hid (p = w.heap.size + 1) := ⟨_, rfl⟩
  rw [← hp.out] at h1 ⊢
  have hF1 : ∀ b, (b = w.heap.size ∨ b = p) → w.heap.size ≤ b := fun b hb => by have := hp.out; omega
  go_wp2_with fail
  refine (awake_c _).mono ?_
  rintro e w2 ⟨rfl, hk2⟩
  have h2 := h1.below hk2
  have hs2 := hk2.size
  go_wp2_with fail
  refine (Add_c h2 (by omega) a 1 (by decide)).mono ?_
  rintro e w3 ⟨rfl, hA⟩
  obtain ⟨F3, c3, h3, hc3, hF3, hs3, hk3⟩ := hA.keep hF1 (by omega)
  rw [ea.out]
  rw [la.out] at h3
  clear hA
  go_wp2_with fail
  refine (Add_c h3 (by omega) c 2 (by decide)).mono ?_
  rintro e w4 ⟨rfl, hA⟩
  obtain ⟨F4, c4, h4, hc4, hF4, hs4, hk4⟩ := hA.keep hF3 (by omega)
  rw [ec.out]
  rw [lc.out] at h4
  clear hA
  go_wp2_with fail
  refine (Move_c h4 (by omega) b 1 (by decide)).mono ?_
  rintro e w5 ⟨rfl, hA⟩
  obtain ⟨F5, c5, h5, hc5, hF5, hs5, hk5⟩ := hA.keep hF4 (by omega)
  rw [eb.out]
  rw [lb.out] at h5
  clear hA
  have B5 : RowKit.Below w.heap.size w w5 := ((((hk1.trans (hk2.mono (by omega))).trans hk3).trans hk4).trans hk5)
  clear hk1 hk2 hk3 hk4 hk5
  go_wp2_with fail
  refine (Due_c h5 (by omega) b).mono ?_
  rintro e w8 ⟨v, rfl, out, rest, hd, hrow, h8, hFr8⟩
  have hd' : DueR b [(c, 2), (b, 1)] [2, 1] [] := .step (pre := []) (post := [(b, 1)]) (y := (c, 2)) hcb (by simp) (by simpa using hcb) (.step (pre := []) (post := []) (y := (b, 1)) (Int.le_refl _) (by simp) (by simp) (.stop (by simp)))
  obtain ⟨rfl, rfl⟩ := hd'.det rfl hd
  obtain ⟨g, cap, rfl, hcell⟩ := row_at hrow
  have hs8 := hFr8.size
  have B8 := B5.trans (hFr8.below hF5 (by omega))
  have r1 := hcell 1 1 rfl
  have hnot : ¬ b < c := by omega
  go_wp2_with fail
  refine (Drop_c h8 (by omega) 2 (by decide)).mono ?_
  rintro e w9 ⟨rfl, hA⟩
  obtain ⟨F9, c9, h9, hc9, hF9, hs9, hk9⟩ := hA.keep hF5 (by omega)
  rw [show hasId [] 2 = false from rfl]
  rw [show rmId [] 2 = [] from rfl] at h9
  clear hA
  go_wp2_with fail
  refine (Len_a h9).mono ?_
  rintro e w10 ⟨rfl, he⟩
  obtain rfl := he.symm
  go_wp2
  go_ret
  exact ⟨by simp [hcb], B8.trans hk9⟩
set_option maxHeartbeats 4000000 in
theorem moves_one (a b c : Int) (ha : 0 ≤ a ∧ a ≤ 65535) (hb : 0 ≤ b ∧ b ≤ 65535) (hc : 0 ≤ c ∧ c ≤ 65535) (hcb : b < c) (w : World) : Calls Try.prog 6 #[.int .u16 a, .int .u16 b, .int .u16 c, .bool false] w fun e w' => e = .returned (.bool true) ∧ RowKit.Below w.heap.size w w' := by
  have ha' := ok16 ha
  have hb' := ok16 hb
  have hc' := ok16 hc
  have ea : Hid (addE [] a 1 = 0) := by simp only [addE, ha', hasId, List.any_nil]; exact rfl
  have la : Hid (addL [] a 1 = [(a, 1)]) := by simp only [addL, ha', hasId, List.any_nil]; exact rfl
  have ec : Hid (addE [(a, 1)] c 2 = 0) := by simp only [addE, hc', hasId]; exact rfl
  have lc : Hid (addL [(a, 1)] c 2 = [(a, 1), (c, 2)]) := by simp only [addL, hc', hasId]; exact rfl
  have eb : Hid (moveE [(a, 1), (c, 2)] b 1 = 0) := by simp only [moveE, hb', hasId]; exact rfl
  have lb : Hid (moveL [(a, 1), (c, 2)] b 1 = [(c, 2), (b, 1)]) := by simp only [moveL, hb', hasId]; exact rfl
  clear ha' hb' hc'
  obtain ⟨ha0, ha1⟩ := ha
  obtain ⟨hb0, hb1⟩ := hb
  obtain ⟨hc0, hc1⟩ := hc
  go_enter Try.func6, Try.ntmps6
  go_wp2_with fail
  refine (New_c w).mono ?_
  rintro e w1 ⟨rfl, h1, hs1, hk1⟩
  obtain ⟨p, hp⟩ : ∃ p, Hid (p = w.heap.size + 1) := ⟨_, rfl⟩
  rw [← hp.out] at h1 ⊢
  have hF1 : ∀ b, (b = w.heap.size ∨ b = p) → w.heap.size ≤ b := fun b hb => by have := hp.out; omega
  go_wp2_with fail
  refine (awake_c _).mono ?_
  rintro e w2 ⟨rfl, hk2⟩
  have h2 := h1.below hk2
  have hs2 := hk2.size
  go_wp2_with fail
  refine (Add_c h2 (by omega) a 1 (by decide)).mono ?_
  rintro e w3 ⟨rfl, hA⟩
  obtain ⟨F3, c3, h3, hc3, hF3, hs3, hk3⟩ := hA.keep hF1 (by omega)
  rw [ea.out]
  rw [la.out] at h3
  clear hA
  go_wp2_with fail
  refine (Add_c h3 (by omega) c 2 (by decide)).mono ?_
  rintro e w4 ⟨rfl, hA⟩
  obtain ⟨F4, c4, h4, hc4, hF4, hs4, hk4⟩ := hA.keep hF3 (by omega)
  rw [ec.out]
  rw [lc.out] at h4
  clear hA
  go_wp2_with fail
  refine (Move_c h4 (by omega) b 1 (by decide)).mono ?_
  rintro e w5 ⟨rfl, hA⟩
  obtain ⟨F5, c5, h5, hc5, hF5, hs5, hk5⟩ := hA.keep hF4 (by omega)
  rw [eb.out]
  rw [lb.out] at h5
  clear hA
  have B5 : RowKit.Below w.heap.size w w5 := ((((hk1.trans (hk2.mono (by omega))).trans hk3).trans hk4).trans hk5)
  clear hk1 hk2 hk3 hk4 hk5
  go_wp2_with fail
  refine (Due_c h5 (by omega) b).mono ?_
  rintro e w8 ⟨v, rfl, out, rest, hd, hrow, h8, hFr8⟩
  have hd' : DueR b [(c, 2), (b, 1)] [1] [(c, 2)] := .step (pre := [(c, 2)]) (post := []) (y := (b, 1)) (Int.le_refl _) (by simpa using hcb) (by simp) (.stop (by simpa using hcb))
  obtain ⟨rfl, rfl⟩ := hd'.det rfl hd
  obtain ⟨g, cap, rfl, hcell⟩ := row_at hrow
  have hs8 := hFr8.size
  have B8 := B5.trans (hFr8.below hF5 (by omega))
  have r0 := hcell 0 1 rfl
  have hnot : ¬ c ≤ b := by omega
  have ed : Hid (hasId [(c, 2)] 2 = true) := by simp only [hasId]; exact rfl
  have ld : Hid (rmId [(c, 2)] 2 = []) := by simp only [rmId]; exact rfl
  go_wp2_with fail
  refine (Drop_c h8 (by omega) 2 (by decide)).mono ?_
  rintro e w9 ⟨rfl, hA⟩
  obtain ⟨F9, c9, h9, hc9, hF9, hs9, hk9⟩ := hA.keep hF5 (by omega)
  rw [ed.out]
  rw [ld.out] at h9
  clear hA
  go_wp2_with fail
  refine (Len_a h9).mono ?_
  rintro e w10 ⟨rfl, he⟩
  obtain rfl := he.symm
  go_wp2
  go_ret
  exact ⟨rfl, B8.trans hk9⟩
theorem moves_lifted (a b c : Int) (d : Bool) (ha : (Lit.int .u16 a).wf = true) (hb : (Lit.int .u16 b).wf = true) (hc : (Lit.int .u16 c).wf = true) (w : World) : Calls Try.prog 6 #[.int .u16 a, .int .u16 b, .int .u16 c, .bool d] w fun e w' => e = .returned (.bool true) ∧ RowKit.Below w.heap.size w w' := by
  have h1 := bounds_u16 ha
  have h2 := bounds_u16 hb
  have h3 := bounds_u16 hc
  cases d with
  | true => exact moves_drop a b c (by omega) (by omega) (by omega) w
  | false =>
    by_cases hcb : c ≤ b
    · exact moves_both a b c (by omega) (by omega) (by omega) hcb w
    · exact moves_one a b c (by omega) (by omega) (by omega) (by omega) w
end Go.Proofs.Ytlaagbnclkhbjaa
