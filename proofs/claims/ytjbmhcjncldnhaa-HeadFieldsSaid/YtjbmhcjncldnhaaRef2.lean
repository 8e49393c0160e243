/- Contracts of the reference's Number and Field, and of the statements' awake. -/
import Derived.Test.YtjbmhcjncldnhaaRef1
namespace Go.Proofs.Ytjbmhcjncldnhaa
open Go.RowKit
set_option linter.unusedSimpArgs false
set_option linter.unusedVariables false
attribute [local go_sem ↓] execOp_ld33 execOp_st33

set_option maxRecDepth 100000 in
set_option maxHeartbeats 400000 in
theorem Number_c (f : Nat → Bool) (p s : Nat) (hs : s ≤ 64) (hp : p + s ≤ 128) (w : World) : Calls Try.prog 15 #[.agg (arr f), .int .i64 p, .int .i64 s] w fun e w' => e = .returned (.int .u64 ((Plain.tn f (p + s) s : Nat) : Int)) ∧ Below w.heap.size w w' := by
  have hsz := arr_size
  go_enter Try.func15, Try.ntmps15
  go_wp2
  go_loop [7, 8] (fun n i => ∃ m : Nat, m ≤ s ∧ i = .int .i64 (s - 1 - m) ∧ n = .int .u64 ((Plain.tn f (p + s) m : Nat) : Int)) (fun _ i => (1 + intOf i).toNat)
  case atStart => exact ⟨0, by omega, by simp, rfl⟩
  case round =>
    obtain ⟨m, hm, rfl, rfl⟩ := hrel
    by_cases hlt : m < s
    · have hc := arr_get f (p + s - (m + 1)) (by omega)
      have hi : 0 ≤ (s : Int) - 1 - (m : Int) := by omega
      have hi0 : 0 ≤ (p : Int) + ((s : Int) - 1 - (m : Int)) := by omega
      have hi' : (p : Int) + ((s : Int) - 1 - (m : Int)) < 128 := by omega
      have hidx : ((p : Int) + ((s : Int) - 1 - (m : Int))).toNat = p + s - (m + 1) := by omega
      have hb := Plain.tn_lt f (p + s) m
      have hp2 : (2 : Nat) ^ m ≤ 2 ^ 63 := Nat.pow_le_pow_right (by decide) (by omega)
      have hn : ((Plain.tn f (p + s) m : Nat) : Int) ≤ 9223372036854775807 := by omega
      clear hb hp2
      have HT : Hid (Plain.tn f (p + s) (m + 1) = Plain.tn f (p + s) m * 2 + (f (p + s - (m + 1))).toNat) := by show _ = _; rw [Plain.tn_succ]
      cases hf : f (p + s - (m + 1))
      all_goals
        rw [hf] at hc HT
        clear hf
        go_wp2_with fail
        go_round
        case rel => exact ⟨m + 1, by omega, by congr 1; omega, by rw [HT.out]; first | rfl | simp⟩
        case measure => simp [intOf]; omega
    · have hi : ¬ 0 ≤ (s : Int) - 1 - (m : Int) := by omega
      obtain rfl : m = s := by omega
      go_wp2
      go_ret
      exact ⟨rfl, by (repeat (first | exact Below.refl _ _ | refine Below.drew ?_ | refine below_drewN ?_ _ | (refine Below.alloc ?_ ?_ _; rotate_left; focus (first | omega | (simp <;> omega))) | (refine Below.setCell ?_ ?_ _; rotate_left; focus (first | omega | (simp <;> omega))) | (refine below_via hb9.out ?_ ?_; focus (first | omega | (simp <;> omega))) | (refine below_via hb8.out ?_ ?_; focus (first | omega | (simp <;> omega))) | (refine below_via hb7.out ?_ ?_; focus (first | omega | (simp <;> omega))) | (refine below_via hb6.out ?_ ?_; focus (first | omega | (simp <;> omega))) | (refine below_via hb5.out ?_ ?_; focus (first | omega | (simp <;> omega))) | (refine below_via hb4.out ?_ ?_; focus (first | omega | (simp <;> omega))) | (refine below_via hb3.out ?_ ?_; focus (first | omega | (simp <;> omega))) | (refine below_via hb2.out ?_ ?_; focus (first | omega | (simp <;> omega))) | (refine below_via hb1.out ?_ ?_; focus (first | omega | (simp <;> omega)))))⟩
/-- the reference's test on a field's three numbers -/
def rfieldB (a s m : Int) : Bool := decide (0 ≤ a) && (decide (a ≤ 128) && (decide (0 ≤ s) && (decide (s ≤ m) && decide (a + s ≤ 128))))
theorem rfield_eq (a s m : Int) (hm : m ≤ 128) : rfieldB a s m = fieldB a s m := by
  unfold rfieldB fieldB
  rw [Bool.eq_iff_iff]
  simp only [Bool.and_eq_true, decide_eq_true_eq]
  omega
set_option maxHeartbeats 400000 in
theorem Field_yes (a s m : Int) (h : fieldB a s m = true) (hm : m ≤ 128) (w : World) : Calls Try.prog 11 #[.int .i64 a, .int .i64 s, .int .i64 m] w fun e w' => e = .returned (.bool true) ∧ w' = w := by
  rw [← rfield_eq a s m hm] at h
  simp only [rfieldB, Bool.and_eq_true, decide_eq_true_eq] at h
  obtain ⟨h1, h2, h3, h4, h5⟩ := h
  go_enter Try.func11, Try.ntmps11
  go_wp2
  go_ret
  exact ⟨rfl, rfl⟩
set_option maxHeartbeats 400000 in
theorem Field_no (a s m : Int) (h : fieldB a s m = false) (hm : m ≤ 128) (w : World) : Calls Try.prog 11 #[.int .i64 a, .int .i64 s, .int .i64 m] w fun e w' => e = .returned (.bool false) ∧ w' = w := by
  rw [← rfield_eq a s m hm] at h
  simp only [rfieldB, Bool.and_eq_false_iff, decide_eq_false_iff_not] at h
  by_cases h1 : 0 ≤ a
  · by_cases h2 : a ≤ 128
    · by_cases h3 : 0 ≤ s
      · by_cases h4 : s ≤ m
        · have h5 : ¬ a + s ≤ 128 := by rcases h with h | h | h | h | h <;> first | exact h | exact absurd ‹_› h
          clear h
          go_enter Try.func11, Try.ntmps11
          go_wp2
          go_ret
          exact ⟨rfl, rfl⟩
        · clear h
          go_enter Try.func11, Try.ntmps11
          go_wp2
          go_ret
          exact ⟨rfl, rfl⟩
      · clear h
        go_enter Try.func11, Try.ntmps11
        go_wp2
        go_ret
        exact ⟨rfl, rfl⟩
    · clear h
      go_enter Try.func11, Try.ntmps11
      go_wp2
      go_ret
      exact ⟨rfl, rfl⟩
  · clear h
    go_enter Try.func11, Try.ntmps11
    go_wp2
    go_ret
    exact ⟨rfl, rfl⟩

/-! # awake: the simplest facts -/
set_option maxHeartbeats 400000 in
theorem Put_awake (w : World) : Calls Try.prog 10 #[.agg #[.int .u64 0, .int .u64 0], .int .i64 60, .int .i64 8, .int .u64 165] w fun e w' => e = .returned (.tuple #[.agg #[.int .u64 10, .int .u64 5764607523034234880], .int .i64 0]) ∧ Below w.heap.size w w' := by
  have h := Put_yes (x := 0) (y := 0) (X := 0#128) (by decide) (by decide) 60 8 (v := 165) (V := 165#64) (by decide) (by decide) (by decide +kernel) w
  have e1 : (Plain.hiOf ((0#128 &&& ~~~(Plain.low (8 : Int).toNat <<< (60 : Int).toNat)) ||| (Plain.mk 0 165#64 <<< (60 : Int).toNat))).toNat = 10 := by decide +kernel
  have e2 : (Plain.loOf ((0#128 &&& ~~~(Plain.low (8 : Int).toNat <<< (60 : Int).toNat)) ||| (Plain.mk 0 165#64 <<< (60 : Int).toNat))).toNat = 5764607523034234880 := by decide +kernel
  rw [e1, e2] at h
  exact h
set_option maxHeartbeats 400000 in
theorem Mask_awake (w : World) : Calls Try.prog 8 #[.int .i64 63, .int .i64 2] w fun e w' => e = .returned (.tuple #[.agg #[.int .u64 1, .int .u64 9223372036854775808], .int .i64 0]) ∧ Below w.heap.size w w' := by
  have h := Mask_yes 63 2 (by decide) w
  have e1 : (Plain.hiOf (Plain.low (2 : Int).toNat <<< (63 : Int).toNat)).toNat = 1 := by decide +kernel
  have e2 : (Plain.loOf (Plain.low (2 : Int).toNat <<< (63 : Int).toNat)).toNat = 9223372036854775808 := by decide +kernel
  rw [e1, e2] at h
  exact h
def aX : BitVec 128 := Plain.mk 10#64 5764607523034234880#64
def aM : BitVec 128 := Plain.mk 1#64 9223372036854775808#64
theorem aX_hi : ((Plain.hiOf aX).toNat : Int) = 10 := by decide +kernel
theorem aX_lo : ((Plain.loOf aX).toNat : Int) = 5764607523034234880 := by decide +kernel
theorem aM_hi : ((Plain.hiOf aM).toNat : Int) = 1 := by decide +kernel
theorem aM_lo : ((Plain.loOf aM).toNat : Int) = 9223372036854775808 := by decide +kernel
theorem Get_awake (w : World) : Calls Try.prog 9 #[.agg #[.int .u64 10, .int .u64 5764607523034234880], .int .i64 60, .int .i64 8] w fun e w' => e = .returned (.tuple #[.int .u64 165, .int .i64 0]) ∧ Below w.heap.size w w' := by
  have h := Get_yes (X := aX) aX_hi.symm aX_lo.symm 60 8 (by decide) w
  have e1 : (Plain.loOf (aX >>> (60 : Int).toNat &&& Plain.low (8 : Int).toNat)).toNat = 165 := by decide +kernel
  rw [e1] at h
  exact h
theorem Ones_awake (w : World) : Calls Try.prog 18 #[.agg #[.int .u64 1, .int .u64 9223372036854775808]] w fun e w' => e = .returned (.int .i64 2) ∧ Below w.heap.size w w' := by
  have h := Ones_c aM w
  have e1 : Plain.sumTo (Plain.hbit aM) 128 = 2 := by decide +kernel
  rw [e1, aM_hi, aM_lo] at h
  exact h
theorem Bit_awake (w : World) : Calls Try.prog 22 #[.agg #[.int .u64 1, .int .u64 9223372036854775808], .int .i64 64] w fun e w' => e = .returned (.bool true) ∧ Below w.heap.size w w' := by
  have h := Bit_yes (X := aM) aM_hi.symm aM_lo.symm 64 (by decide) (by decide) w
  have e1 : aM.getLsbD (64 : Int).toNat = true := by decide +kernel
  rw [e1] at h
  exact h
theorem Compare_awake (w : World) : Calls Try.prog 16 #[.agg #[.int .u64 10, .int .u64 5764607523034234880], .agg #[.int .u64 1, .int .u64 9223372036854775808]] w fun e w' => e = .returned (.int .i64 1) ∧ Below w.heap.size w w' := by
  have h := Compare_c aX aM w
  have e1 : cmpN aX.toNat aM.toNat = 1 := by decide +kernel
  rw [e1, aM_hi, aM_lo, aX_hi, aX_lo] at h
  exact h
set_option maxHeartbeats 400000 in
theorem awake_c (w : World) : Calls Try.prog 12 #[] w fun e w' => e = .returned (.bool true) ∧ Below w.heap.size w w' := by
  go_enter Try.func12, Try.ntmps12
  go_wp2_with fail
  refine (Put_awake _).mono ?_
  rintro e w1 ⟨rfl, hb⟩
  have hz1 := hb.size; (try simp only [World.size_alloc, World.size_setCell, World.size_drew] at hz1); have hb1 := Lib.hid hb; clear hb
  go_wp2_with fail
  refine (Get_awake _).mono ?_
  rintro e w2 ⟨rfl, hb⟩
  obtain ⟨c1, f1, g1, e1⟩ := blk (k := w1.heap.size) (c := (#[.int .u64 10, .int .u64 5764607523034234880])) (t := 24) hb (by repeat (first | exact al_at (by simp) | exact e1.out | exact e2.out | exact e3.out | exact e4.out | exact e5.out | exact e6.out | exact e7.out | exact e8.out | exact e9.out | exact e10.out | exact e11.out | exact e12.out | exact e13.out | exact e14.out | exact e15.out | exact e16.out | exact e17.out | exact e18.out | exact e19.out | rw [al_lt (by first | omega | (simp <;> omega))] | rw [sc_ne (by first | omega | (simp <;> omega))]))
  have hz2 := hb.size; (try simp only [World.size_alloc, World.size_setCell, World.size_drew] at hz2); have hb2 := Lib.hid hb; clear hb
  go_wp2_with fail
  refine (Mask_awake _).mono ?_
  rintro e w3 ⟨rfl, hb⟩
  obtain ⟨c2, f2, g2, e2⟩ := blk (k := w1.heap.size) (c := (#[.int .u64 10, .int .u64 5764607523034234880])) (t := 24) hb (by repeat (first | exact al_at (by simp) | exact e1.out | exact e2.out | exact e3.out | exact e4.out | exact e5.out | exact e6.out | exact e7.out | exact e8.out | exact e9.out | exact e10.out | exact e11.out | exact e12.out | exact e13.out | exact e14.out | exact e15.out | exact e16.out | exact e17.out | exact e18.out | exact e19.out | rw [al_lt (by first | omega | (simp <;> omega))] | rw [sc_ne (by first | omega | (simp <;> omega))]))
  have hz3 := hb.size; (try simp only [World.size_alloc, World.size_setCell, World.size_drew] at hz3); have hb3 := Lib.hid hb; clear hb
  go_wp2_with fail
  refine (Ones_awake _).mono ?_
  rintro e w4 ⟨rfl, hb⟩
  obtain ⟨c3, f3, g3, e3⟩ := blk (k := w1.heap.size) (c := (#[.int .u64 10, .int .u64 5764607523034234880])) (t := 24) hb (by repeat (first | exact al_at (by simp) | exact e1.out | exact e2.out | exact e3.out | exact e4.out | exact e5.out | exact e6.out | exact e7.out | exact e8.out | exact e9.out | exact e10.out | exact e11.out | exact e12.out | exact e13.out | exact e14.out | exact e15.out | exact e16.out | exact e17.out | exact e18.out | exact e19.out | rw [al_lt (by first | omega | (simp <;> omega))] | rw [sc_ne (by first | omega | (simp <;> omega))]))
  obtain ⟨c4, f4, g4, e4⟩ := blk (k := w3.heap.size) (c := (#[.int .u64 1, .int .u64 9223372036854775808])) (t := 24) hb (by repeat (first | exact al_at (by simp) | exact e1.out | exact e2.out | exact e3.out | exact e4.out | exact e5.out | exact e6.out | exact e7.out | exact e8.out | exact e9.out | exact e10.out | exact e11.out | exact e12.out | exact e13.out | exact e14.out | exact e15.out | exact e16.out | exact e17.out | exact e18.out | exact e19.out | rw [al_lt (by first | omega | (simp <;> omega))] | rw [sc_ne (by first | omega | (simp <;> omega))]))
  have hz4 := hb.size; (try simp only [World.size_alloc, World.size_setCell, World.size_drew] at hz4); have hb4 := Lib.hid hb; clear hb
  go_wp2_with fail
  refine (Bit_awake _).mono ?_
  rintro e w5 ⟨rfl, hb⟩
  obtain ⟨c5, f5, g5, e5⟩ := blk (k := w1.heap.size) (c := (#[.int .u64 10, .int .u64 5764607523034234880])) (t := 24) hb (by repeat (first | exact al_at (by simp) | exact e1.out | exact e2.out | exact e3.out | exact e4.out | exact e5.out | exact e6.out | exact e7.out | exact e8.out | exact e9.out | exact e10.out | exact e11.out | exact e12.out | exact e13.out | exact e14.out | exact e15.out | exact e16.out | exact e17.out | exact e18.out | exact e19.out | rw [al_lt (by first | omega | (simp <;> omega))] | rw [sc_ne (by first | omega | (simp <;> omega))]))
  obtain ⟨c6, f6, g6, e6⟩ := blk (k := w3.heap.size) (c := (#[.int .u64 1, .int .u64 9223372036854775808])) (t := 24) hb (by repeat (first | exact al_at (by simp) | exact e1.out | exact e2.out | exact e3.out | exact e4.out | exact e5.out | exact e6.out | exact e7.out | exact e8.out | exact e9.out | exact e10.out | exact e11.out | exact e12.out | exact e13.out | exact e14.out | exact e15.out | exact e16.out | exact e17.out | exact e18.out | exact e19.out | rw [al_lt (by first | omega | (simp <;> omega))] | rw [sc_ne (by first | omega | (simp <;> omega))]))
  have hz5 := hb.size; (try simp only [World.size_alloc, World.size_setCell, World.size_drew] at hz5); have hb5 := Lib.hid hb; clear hb
  go_wp2_with fail
  refine (Compare_awake _).mono ?_
  rintro e w6 ⟨rfl, hb⟩
  have hz6 := hb.size; (try simp only [World.size_alloc, World.size_setCell, World.size_drew] at hz6); have hb6 := Lib.hid hb; clear hb
  go_wp2_with fail
  go_ret
  exact ⟨rfl, by (repeat (first | exact Below.refl _ _ | refine Below.drew ?_ | refine below_drewN ?_ _ | (refine Below.alloc ?_ ?_ _; rotate_left; focus (first | omega | (simp <;> omega))) | (refine Below.setCell ?_ ?_ _; rotate_left; focus (first | omega | (simp <;> omega))) | (refine below_via hb9.out ?_ ?_; focus (first | omega | (simp <;> omega))) | (refine below_via hb8.out ?_ ?_; focus (first | omega | (simp <;> omega))) | (refine below_via hb7.out ?_ ?_; focus (first | omega | (simp <;> omega))) | (refine below_via hb6.out ?_ ?_; focus (first | omega | (simp <;> omega))) | (refine below_via hb5.out ?_ ?_; focus (first | omega | (simp <;> omega))) | (refine below_via hb4.out ?_ ?_; focus (first | omega | (simp <;> omega))) | (refine below_via hb3.out ?_ ?_; focus (first | omega | (simp <;> omega))) | (refine below_via hb2.out ?_ ?_; focus (first | omega | (simp <;> omega))) | (refine below_via hb1.out ?_ ?_; focus (first | omega | (simp <;> omega)))))⟩
end Go.Proofs.Ytjbmhcjncldnhaa
