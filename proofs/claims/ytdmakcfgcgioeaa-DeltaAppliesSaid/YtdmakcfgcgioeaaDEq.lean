/- Delta: == of records. -/
import Derived.Test.YtdmakcfgcgioeaaDOwn
import Derived.ChangeKeysEq
namespace Go.Proofs.Ytdmakcfgcgioeaa
open Go.RowKit Go.Maps
set_option linter.unusedSimpArgs false
set_option linter.unusedVariables false
set_option maxRecDepth 100000
set_option maxHeartbeats 2000000 in
theorem eqR (a0 b0 a1 b1 a2 b2 a3 b3 a4 b4 a5 b5 a6 b6 a7 b7 a8 b8 a9 b9 a10 b10 a11 b11 : Int) (w : World) : (Op.equalIn 10000 53 (.agg #[.int .i64 a0, .int .u64 a1, .int .u64 a2, .int .u64 a3, .int .u64 a4, .int .i64 a5, .int .i64 a6, .int .i64 a7, .int .u64 a8, .int .u64 a9, .int .u64 a10, .int .u64 a11]) (.agg #[.int .i64 b0, .int .u64 b1, .int .u64 b2, .int .u64 b3, .int .u64 b4, .int .i64 b5, .int .i64 b6, .int .i64 b7, .int .u64 b8, .int .u64 b9, .int .u64 b10, .int .u64 b11])).run Try.prog w = .ok (decide (a0 = b0 ∧ a1 = b1 ∧ a2 = b2 ∧ a3 = b3 ∧ a4 = b4 ∧ a5 = b5 ∧ a6 = b6 ∧ a7 = b7 ∧ a8 = b8 ∧ a9 = b9 ∧ a10 = b10 ∧ a11 = b11)) w := by
  go_simp
  by_cases h0 : a0 = b0
  rotate_left
  · rw [if_neg h0, decide_eq_false h0, Bool.false_and]
  rw [if_pos h0, decide_eq_true h0, Bool.true_and]
  by_cases h1 : a1 = b1
  rotate_left
  · rw [if_neg h1, decide_eq_false h1, Bool.false_and]
  rw [if_pos h1, decide_eq_true h1, Bool.true_and]
  by_cases h2 : a2 = b2
  rotate_left
  · rw [if_neg h2, decide_eq_false h2, Bool.false_and]
  rw [if_pos h2, decide_eq_true h2, Bool.true_and]
  by_cases h3 : a3 = b3
  rotate_left
  · rw [if_neg h3, decide_eq_false h3, Bool.false_and]
  rw [if_pos h3, decide_eq_true h3, Bool.true_and]
  by_cases h4 : a4 = b4
  rotate_left
  · rw [if_neg h4, decide_eq_false h4, Bool.false_and]
  rw [if_pos h4, decide_eq_true h4, Bool.true_and]
  by_cases h5 : a5 = b5
  rotate_left
  · rw [if_neg h5, decide_eq_false h5, Bool.false_and]
  rw [if_pos h5, decide_eq_true h5, Bool.true_and]
  by_cases h6 : a6 = b6
  rotate_left
  · rw [if_neg h6, decide_eq_false h6, Bool.false_and]
  rw [if_pos h6, decide_eq_true h6, Bool.true_and]
  by_cases h7 : a7 = b7
  rotate_left
  · rw [if_neg h7, decide_eq_false h7, Bool.false_and]
  rw [if_pos h7, decide_eq_true h7, Bool.true_and]
  by_cases h8 : a8 = b8
  rotate_left
  · rw [if_neg h8, decide_eq_false h8, Bool.false_and]
  rw [if_pos h8, decide_eq_true h8, Bool.true_and]
  by_cases h9 : a9 = b9
  rotate_left
  · rw [if_neg h9, decide_eq_false h9, Bool.false_and]
  rw [if_pos h9, decide_eq_true h9, Bool.true_and]
  by_cases h10 : a10 = b10
  rotate_left
  · rw [if_neg h10, decide_eq_false h10, Bool.false_and]
  rw [if_pos h10, decide_eq_true h10, Bool.true_and]
  by_cases h11 : a11 = b11
  rotate_left
  · rw [if_neg h11, decide_eq_false h11]
  rw [if_pos h11, decide_eq_true h11]
set_option maxHeartbeats 2000000 in
theorem eqE (a0 b0 a1 b1 a2 b2 a4 b4 a5 b5 a6 b6 a7 b7 a8 b8 a9 b9 a10 b10 a11 b11 a12 b12 a13 b13 a14 b14 a15 b15 : Int) (a3 b3 : Bool) (w : World) : (Op.equalIn 10000 55 (.agg #[.int .i64 a0, .int .i64 a1, .int .i64 a2, .bool a3, .int .i64 a4, .int .u64 a5, .int .u64 a6, .int .u64 a7, .int .u64 a8, .int .i64 a9, .int .i64 a10, .int .i64 a11, .int .u64 a12, .int .u64 a13, .int .u64 a14, .int .u64 a15]) (.agg #[.int .i64 b0, .int .i64 b1, .int .i64 b2, .bool b3, .int .i64 b4, .int .u64 b5, .int .u64 b6, .int .u64 b7, .int .u64 b8, .int .i64 b9, .int .i64 b10, .int .i64 b11, .int .u64 b12, .int .u64 b13, .int .u64 b14, .int .u64 b15])).run Try.prog w = .ok (decide (a0 = b0 ∧ a1 = b1 ∧ a2 = b2 ∧ a3 = b3 ∧ a4 = b4 ∧ a5 = b5 ∧ a6 = b6 ∧ a7 = b7 ∧ a8 = b8 ∧ a9 = b9 ∧ a10 = b10 ∧ a11 = b11 ∧ a12 = b12 ∧ a13 = b13 ∧ a14 = b14 ∧ a15 = b15)) w := by
  go_simp
  by_cases h0 : a0 = b0
  rotate_left
  · rw [if_neg h0, decide_eq_false h0, Bool.false_and]
  rw [if_pos h0, decide_eq_true h0, Bool.true_and]
  by_cases h1 : a1 = b1
  rotate_left
  · rw [if_neg h1, decide_eq_false h1, Bool.false_and]
  rw [if_pos h1, decide_eq_true h1, Bool.true_and]
  by_cases h2 : a2 = b2
  rotate_left
  · rw [if_neg h2, decide_eq_false h2, Bool.false_and]
  rw [if_pos h2, decide_eq_true h2, Bool.true_and]
  by_cases h3 : a3 = b3
  rotate_left
  · rw [if_neg h3, decide_eq_false h3, Bool.false_and]
  rw [if_pos h3, decide_eq_true h3, Bool.true_and]
  by_cases h4 : a4 = b4
  rotate_left
  · rw [if_neg h4, decide_eq_false h4, Bool.false_and]
  rw [if_pos h4, decide_eq_true h4, Bool.true_and]
  by_cases h5 : a5 = b5
  rotate_left
  · rw [if_neg h5, decide_eq_false h5, Bool.false_and]
  rw [if_pos h5, decide_eq_true h5, Bool.true_and]
  by_cases h6 : a6 = b6
  rotate_left
  · rw [if_neg h6, decide_eq_false h6, Bool.false_and]
  rw [if_pos h6, decide_eq_true h6, Bool.true_and]
  by_cases h7 : a7 = b7
  rotate_left
  · rw [if_neg h7, decide_eq_false h7, Bool.false_and]
  rw [if_pos h7, decide_eq_true h7, Bool.true_and]
  by_cases h8 : a8 = b8
  rotate_left
  · rw [if_neg h8, decide_eq_false h8, Bool.false_and]
  rw [if_pos h8, decide_eq_true h8, Bool.true_and]
  by_cases h9 : a9 = b9
  rotate_left
  · rw [if_neg h9, decide_eq_false h9, Bool.false_and]
  rw [if_pos h9, decide_eq_true h9, Bool.true_and]
  by_cases h10 : a10 = b10
  rotate_left
  · rw [if_neg h10, decide_eq_false h10, Bool.false_and]
  rw [if_pos h10, decide_eq_true h10, Bool.true_and]
  by_cases h11 : a11 = b11
  rotate_left
  · rw [if_neg h11, decide_eq_false h11, Bool.false_and]
  rw [if_pos h11, decide_eq_true h11, Bool.true_and]
  by_cases h12 : a12 = b12
  rotate_left
  · rw [if_neg h12, decide_eq_false h12, Bool.false_and]
  rw [if_pos h12, decide_eq_true h12, Bool.true_and]
  by_cases h13 : a13 = b13
  rotate_left
  · rw [if_neg h13, decide_eq_false h13, Bool.false_and]
  rw [if_pos h13, decide_eq_true h13, Bool.true_and]
  by_cases h14 : a14 = b14
  rotate_left
  · rw [if_neg h14, decide_eq_false h14, Bool.false_and]
  rw [if_pos h14, decide_eq_true h14, Bool.true_and]
  by_cases h15 : a15 = b15
  rotate_left
  · rw [if_neg h15, decide_eq_false h15]
  rw [if_pos h15, decide_eq_true h15]
set_option maxHeartbeats 2000000 in
theorem eqP (a0 b0 a1 b1 a2 b2 a3 b3 a4 b4 : Int) (w : World) : (Op.equalIn 10000 73 (.agg #[.int .i64 a0, .int .i64 a1, .int .i64 a2, .int .i64 a3, .int .i64 a4]) (.agg #[.int .i64 b0, .int .i64 b1, .int .i64 b2, .int .i64 b3, .int .i64 b4])).run Try.prog w = .ok (decide (a0 = b0 ∧ a1 = b1 ∧ a2 = b2 ∧ a3 = b3 ∧ a4 = b4)) w := by
  go_simp
  by_cases h0 : a0 = b0
  rotate_left
  · rw [if_neg h0, decide_eq_false h0, Bool.false_and]
  rw [if_pos h0, decide_eq_true h0, Bool.true_and]
  by_cases h1 : a1 = b1
  rotate_left
  · rw [if_neg h1, decide_eq_false h1, Bool.false_and]
  rw [if_pos h1, decide_eq_true h1, Bool.true_and]
  by_cases h2 : a2 = b2
  rotate_left
  · rw [if_neg h2, decide_eq_false h2, Bool.false_and]
  rw [if_pos h2, decide_eq_true h2, Bool.true_and]
  by_cases h3 : a3 = b3
  rotate_left
  · rw [if_neg h3, decide_eq_false h3, Bool.false_and]
  rw [if_pos h3, decide_eq_true h3, Bool.true_and]
  by_cases h4 : a4 = b4
  rotate_left
  · rw [if_neg h4, decide_eq_false h4]
  rw [if_pos h4, decide_eq_true h4]
set_option maxHeartbeats 2000000 in
theorem eqW (a0 b0 a1 b1 a2 b2 : Int) (w : World) : (Op.equalIn 10000 65 (.agg #[.int .i64 a0, .int .i64 a1, .int .i64 a2]) (.agg #[.int .i64 b0, .int .i64 b1, .int .i64 b2])).run Try.prog w = .ok (decide (a0 = b0 ∧ a1 = b1 ∧ a2 = b2)) w := by
  go_simp
  by_cases h0 : a0 = b0
  rotate_left
  · rw [if_neg h0, decide_eq_false h0, Bool.false_and]
  rw [if_pos h0, decide_eq_true h0, Bool.true_and]
  by_cases h1 : a1 = b1
  rotate_left
  · rw [if_neg h1, decide_eq_false h1, Bool.false_and]
  rw [if_pos h1, decide_eq_true h1, Bool.true_and]
  by_cases h2 : a2 = b2
  rotate_left
  · rw [if_neg h2, decide_eq_false h2]
  rw [if_pos h2, decide_eq_true h2]
theorem u63 : Try.prog.underlying 63 = some (.array 2 3) := by kernel_rfl
theorem u3i : Try.prog.underlying 3 = some (.int .i64) := by kernel_rfl
theorem cl3 : Try.prog.cellsOf 3 = 1 := by kernel_rfl
theorem part3 (x y : Value) (W : World) : (part 3 #[x, y] 0).run Try.prog W = .ok x W ∧ (part 3 #[x, y] 1).run Try.prog W = .ok y W := by
  constructor <;> kernel_rfl
theorem eq2 (x a y b : Int) (W : World) : (Op.equalIn 10000 63 (.agg #[.int .i64 x, .int .i64 y]) (.agg #[.int .i64 a, .int .i64 b])).run Try.prog W = .ok (decide (x = a ∧ y = b)) W := by
  obtain ⟨i, hi⟩ : ∃ i, Try.prog.info? 3 = some i := Option.isSome_iff_exists.1 (by kernel_rfl)
  have := run_equalIn_array (P := Try.prog) W 9999 #[.int .i64 x, .int .i64 y] #[.int .i64 a, .int .i64 b] u63 hi
  rw [this, cl3]
  have e2 := run_equalIn_int (P := Try.prog) W 9998 3 .i64 .i64 x a u3i
  have e3 := run_equalIn_int (P := Try.prog) W 9998 3 .i64 .i64 y b u3i
  have e4 : decide (x = a ∧ y = b) = ((x == a) && (y == b)) := by by_cases h1 : x = a <;> by_cases h2 : y = b <;> simp [h1, h2]
  rw [e4]
  show (Op.eqItems 9999 3 1 _ _ [0, 1]).run _ _ = _
  generalize (x == a) = p at e2 ⊢
  generalize (y == b) = q at e3 ⊢
  simp only [Op.eqItems, Sem.run_bind, Nat.zero_mul, Nat.one_mul, (part3 _ _ _).1, (part3 _ _ _).2, Result.andThen_ok, e2]
  cases p <;> cases q <;> simp [part3, e3]
end Go.Proofs.Ytdmakcfgcgioeaa
