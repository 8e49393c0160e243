/- Contracts of the reference's Number and Field, and of the statements' awake. -/
import Derived.Test.YtgebehnlfihliaaIRef1
namespace Go.Proofs.Ytgebehnlfihliaa.Hd
open Go.RowKit
set_option linter.unusedSimpArgs false
set_option linter.unusedVariables false
attribute [local go_sem ↓] execOp_ld33 execOp_st33

set_option maxRecDepth 100000 in
set_option maxHeartbeats 400000 in
theorem Number_c (f : Nat → Bool) (p s : Nat) (hs : s ≤ 64) (hp : p + s ≤ 128) (w : World) : Calls Try.prog 65 #[.agg (arr f), .int .i64 p, .int .i64 s] w fun e w' => e = .returned (.int .u64 ((Plain.tn f (p + s) s : Nat) : Int)) ∧ Below w.heap.size w w' := by
  have hsz := arr_size
  go_enter Try.func65, Try.ntmps65
  go_wp2
  go_loop [7, 8] (fun n i => ∃ m : Nat, m ≤ s ∧ i = .int .i64 (s - 1 - m) ∧ n = .int .u64 ((Plain.tn f (p + s) m : Nat) : Int)) (fun _ i => (1 + intOf i).toNat)
  case atStart => exact ⟨0, by omega, by simp, rfl⟩
  case round =>
    obtain ⟨m, hm, rfl, rfl⟩ := hrel
    by_cases hlt : m < s
    · have hc := arr_get f (p + s - (m + 1)) (by omega)
      have hi : 0 ≤ (s : Int) - 1 - (m : Int) := by omega
      have hi0 : 0 ≤ (p : Int) + ((s : Int) - 1 - (m : Int)) := by omega
      have hi' : (p : Int) + ((s : Int) - 1 - (m : Int)) < 128 := by omega
      have hidx : ((p : Int) + ((s : Int) - 1 - (m : Int))).toNat = p + s - (m + 1) := by omega
      have hb := Plain.tn_lt f (p + s) m
      have hp2 : (2 : Nat) ^ m ≤ 2 ^ 63 := Nat.pow_le_pow_right (by decide) (by omega)
      have hn : ((Plain.tn f (p + s) m : Nat) : Int) ≤ 9223372036854775807 := by omega
      clear hb hp2
      have HT : Hid (Plain.tn f (p + s) (m + 1) = Plain.tn f (p + s) m * 2 + (f (p + s - (m + 1))).toNat) := by show _ = _; rw [Plain.tn_succ]
      cases hf : f (p + s - (m + 1))
      all_goals
        rw [hf] at hc HT
        clear hf
        go_wp2_with fail
        go_round
        case rel => exact ⟨m + 1, by omega, by congr 1; omega, by rw [HT.out]; first | rfl | simp⟩
        case measure => simp [intOf]; omega
    · have hi : ¬ 0 ≤ (s : Int) - 1 - (m : Int) := by omega
      obtain rfl : m = s := by omega
      go_wp2
      go_ret
      exact ⟨rfl, by (repeat (first | exact Below.refl _ _ | refine Below.drew ?_ | refine below_drewN ?_ _ | (refine Below.alloc ?_ ?_ _; rotate_left; focus (first | omega | (simp <;> omega))) | (refine Below.setCell ?_ ?_ _; rotate_left; focus (first | omega | (simp <;> omega))) | (refine below_via hb9.out ?_ ?_; focus (first | omega | (simp <;> omega))) | (refine below_via hb8.out ?_ ?_; focus (first | omega | (simp <;> omega))) | (refine below_via hb7.out ?_ ?_; focus (first | omega | (simp <;> omega))) | (refine below_via hb6.out ?_ ?_; focus (first | omega | (simp <;> omega))) | (refine below_via hb5.out ?_ ?_; focus (first | omega | (simp <;> omega))) | (refine below_via hb4.out ?_ ?_; focus (first | omega | (simp <;> omega))) | (refine below_via hb3.out ?_ ?_; focus (first | omega | (simp <;> omega))) | (refine below_via hb2.out ?_ ?_; focus (first | omega | (simp <;> omega))) | (refine below_via hb1.out ?_ ?_; focus (first | omega | (simp <;> omega)))))⟩
/-- the reference's test on a field's three numbers -/
def rfieldB (a s m : Int) : Bool := decide (0 ≤ a) && (decide (a ≤ 128) && (decide (0 ≤ s) && (decide (s ≤ m) && decide (a + s ≤ 128))))
theorem rfield_eq (a s m : Int) (hm : m ≤ 128) : rfieldB a s m = fieldB a s m := by
  unfold rfieldB fieldB
  rw [Bool.eq_iff_iff]
  simp only [Bool.and_eq_true, decide_eq_true_eq]
  omega
/-! # awake: the simplest facts -/
set_option maxHeartbeats 400000 in
theorem Mask_awake (w : World) : Calls Try.prog 81 #[.int .i64 63, .int .i64 2] w fun e w' => e = .returned (.tuple #[.agg #[.int .u64 1, .int .u64 9223372036854775808], .int .i64 0]) ∧ Below w.heap.size w w' := by
  have h := Mask_yes 63 2 (by decide) w
  have e1 : (Plain.hiOf (Plain.low (2 : Int).toNat <<< (63 : Int).toNat)).toNat = 1 := by decide +kernel
  have e2 : (Plain.loOf (Plain.low (2 : Int).toNat <<< (63 : Int).toNat)).toNat = 9223372036854775808 := by decide +kernel
  rw [e1, e2] at h
  exact h
def aX : BitVec 128 := Plain.mk 10#64 5764607523034234880#64
def aM : BitVec 128 := Plain.mk 1#64 9223372036854775808#64
theorem aX_hi : ((Plain.hiOf aX).toNat : Int) = 10 := by decide +kernel
theorem aX_lo : ((Plain.loOf aX).toNat : Int) = 5764607523034234880 := by decide +kernel
theorem aM_hi : ((Plain.hiOf aM).toNat : Int) = 1 := by decide +kernel
theorem aM_lo : ((Plain.loOf aM).toNat : Int) = 9223372036854775808 := by decide +kernel
theorem Get_awake (w : World) : Calls Try.prog 59 #[.agg #[.int .u64 10, .int .u64 5764607523034234880], .int .i64 60, .int .i64 8] w fun e w' => e = .returned (.tuple #[.int .u64 165, .int .i64 0]) ∧ Below w.heap.size w w' := by
  have h := Get_yes (X := aX) aX_hi.symm aX_lo.symm 60 8 (by decide) w
  have e1 : (Plain.loOf (aX >>> (60 : Int).toNat &&& Plain.low (8 : Int).toNat)).toNat = 165 := by decide +kernel
  rw [e1] at h
  exact h
end Go.Proofs.Ytgebehnlfihliaa.Hd
