/- Contracts of Ones and Compare. -/
import Derived.Test.YtjbmhcjncldnhaaHead2
import Derived.Test.YtjbmhcjncldnhaaPop
import Derived.Deep.RegionHeld3
namespace Go.Proofs.Ytjbmhcjncldnhaa
open Go.RowKit
set_option linter.unusedSimpArgs false
set_option linter.unusedVariables false

set_option maxHeartbeats 400000 in
theorem ones64_core (x : Int) (h0 : 0 ≤ x) (h1 : x ≤ 18446744073709551615) (w : World) : Calls Try.prog 33 #[.int .u64 x] w fun e w' => e = .returned (.int .i64 (Plain.w7 (Plain.w6 (Plain.w5 (Plain.w4 (Plain.w3 (Plain.w2 (Plain.w1 x)))))))) ∧ w' = w := by
  go_enter Try.func33, Try.ntmps33
  go_wp2
  go_ret
  refine ⟨ret_int ?_, rfl⟩
  simp only [Plain.w7, Plain.w6, Plain.w5, Plain.w4, Plain.w3, Plain.w2, Plain.w1, IntWalk.i64_left]
set_option maxHeartbeats 400000 in
theorem isNaN_c (x : Int) (w : World) : Calls Try.prog 36 #[.int .u64 x] w fun e w' => e = .returned (.bool false) ∧ w' = w := by
  go_enter Try.func36, Try.ntmps36
  go_wp2
  go_ret
  exact ⟨by simp, rfl⟩
def cmpI (x y : Int) : Int := if x < y then -1 else if y < x then 1 else 0
set_option maxHeartbeats 400000 in
theorem Compare64_c (x y : Int) (w : World) : Calls Try.prog 31 #[.int .u64 x, .int .u64 y] w fun e w' => e = .returned (.int .i64 (cmpI x y)) ∧ w' = w := by
  by_cases h1 : x < y
  · have e : cmpI x y = -1 := by simp [cmpI, h1]
    rw [e]; clear e
    go_enter Try.func31, Try.ntmps31
    go_wp2_with (go_at_call 36; refine (isNaN_c _ _).mono ?_; rintro e w1 ⟨rfl, rfl⟩)
    go_ret
    exact ⟨rfl, rfl⟩
  · by_cases h2 : y < x
    · have e : cmpI x y = 1 := by simp [cmpI, h1, h2]
      rw [e]; clear e
      go_enter Try.func31, Try.ntmps31
      go_wp2_with (go_at_call 36; refine (isNaN_c _ _).mono ?_; rintro e w1 ⟨rfl, rfl⟩)
      go_ret
      exact ⟨rfl, rfl⟩
    · have e : cmpI x y = 0 := by simp [cmpI, h1, h2]
      rw [e]; clear e
      go_enter Try.func31, Try.ntmps31
      go_wp2_with (go_at_call 36; refine (isNaN_c _ _).mono ?_; rintro e w1 ⟨rfl, rfl⟩)
      go_ret
      exact ⟨rfl, rfl⟩

theorem ones64_c (x : BitVec 64) (w : World) : Calls Try.prog 33 #[.int .u64 (x.toNat : Int)] w fun e w' => e = .returned (.int .i64 ((Plain.sumTo (Plain.nb x.toNat) 64 : Nat) : Int)) ∧ w' = w := by
  have hx : x.toNat < 18446744073709551616 := x.isLt
  have h := ones64_core (x.toNat : Int) (by omega) (by omega) w
  rw [Plain.pop_sum _ hx] at h
  exact h

set_option maxHeartbeats 400000 in
theorem Ones_c (X : BitVec 128) (w : World) : Calls Try.prog 18 #[.agg #[.int .u64 ((Plain.hiOf (X)).toNat : Int), .int .u64 ((Plain.loOf (X)).toNat : Int)]] w fun e w' => e = .returned (.int .i64 ((Plain.sumTo (Plain.hbit X) 128 : Nat) : Int)) ∧ Below w.heap.size w w' := by
  have hs := Lib.hid (Plain.ones_sum X)
  have l1 := Plain.sumTo_le (Plain.nb (Plain.hiOf X).toNat) (fun i => by unfold Plain.nb; omega) 64
  have l2 := Plain.sumTo_le (Plain.nb (Plain.loOf X).toNat) (fun i => by unfold Plain.nb; omega) 64
  go_enter Try.func18, Try.ntmps18
  go_wp2_with fail
  go_quiet ((go_at_call 33; exact Calls.quiet_of_same (ones64_c _ _)))
  go_wp2
  go_ret
  refine ⟨ret_int (by rw [← hs.out]; omega), ?_⟩
  (repeat (first | exact Below.refl _ _ | refine Below.drew ?_ | refine below_drewN ?_ _ | (refine Below.alloc ?_ ?_ _; rotate_left; focus (first | omega | (simp <;> omega))) | (refine Below.setCell ?_ ?_ _; rotate_left; focus (first | omega | (simp <;> omega))) | (refine below_via hb9.out ?_ ?_; focus (first | omega | (simp <;> omega))) | (refine below_via hb8.out ?_ ?_; focus (first | omega | (simp <;> omega))) | (refine below_via hb7.out ?_ ?_; focus (first | omega | (simp <;> omega))) | (refine below_via hb6.out ?_ ?_; focus (first | omega | (simp <;> omega))) | (refine below_via hb5.out ?_ ?_; focus (first | omega | (simp <;> omega))) | (refine below_via hb4.out ?_ ?_; focus (first | omega | (simp <;> omega))) | (refine below_via hb3.out ?_ ?_; focus (first | omega | (simp <;> omega))) | (refine below_via hb2.out ?_ ?_; focus (first | omega | (simp <;> omega))) | (refine below_via hb1.out ?_ ?_; focus (first | omega | (simp <;> omega)))))

/-- the first of two numbers that is not 0 -/
def orI (x y : Int) : Int := if x = 0 then y else x
set_option maxHeartbeats 400000 in
theorem Or2_c (b o : Nat) (x y : Int) (w : World) (h0 : w.cell? ⟨b, o, none⟩ = some (.int .i64 x)) (h1 : w.cell? ⟨b, o + 1, none⟩ = some (.int .i64 y)) :
    Calls Try.prog 30 #[.slice (some ⟨b, o, none⟩) 2 2] w fun e w' => e = .returned (.int .i64 (orI x y)) ∧ w' = w := by
  go_enter Try.func30, Try.ntmps30
  go_wp2
  go_loop [5, 8] (fun _ i => ∃ k : Nat, k ≤ 2 ∧ i = .int .i64 k ∧ (1 ≤ k → x = 0) ∧ (2 ≤ k → y = 0)) (fun _ i => 2 - (intOf i).toNat)
  case atStart => exact ⟨0, by omega, rfl, by omega, by omega⟩
  case round =>
    obtain ⟨k, hk, rfl, hx, hy⟩ := hrel
    have : k = 0 ∨ k = 1 ∨ k = 2 := by omega
    rcases this with rfl | rfl | rfl
    · by_cases hz : x = 0
      · subst hz
        go_wp2
        go_round
        case rel => exact ⟨1, by omega, by go_num, by simp, by omega⟩
        case measure => simp [intOf]
      · have hz' : (x != 0) = true := by simpa using hz
        have e : Hid (orI x y = x) := by unfold orI; rw [if_neg hz]; rfl
        go_wp2
        go_ret
        exact ⟨ret_int e.out.symm, rfl⟩
    · have hx0 := hx (by omega)
      subst hx0
      by_cases hz : y = 0
      · subst hz
        go_wp2
        go_round
        case rel => exact ⟨2, by omega, by go_num, by simp, by simp⟩
        case measure => simp [intOf]
      · have hz' : (y != 0) = true := by simpa using hz
        have e : Hid (orI 0 y = y) := by unfold orI; rw [if_pos rfl]; rfl
        go_wp2
        go_ret
        exact ⟨ret_int e.out.symm, rfl⟩
    · have hx0 := hx (by omega)
      have hy0 := hy (by omega)
      subst hx0
      subst hy0
      go_wp2
      go_ret
      exact ⟨rfl, rfl⟩

/-- Compare's answer on numbers -/
def cmpN (x y : Nat) : Int := if x < y then -1 else if y < x then 1 else 0
theorem cmp_halves (X Y : BitVec 128) : orI (cmpI ((Plain.hiOf X).toNat : Int) ((Plain.hiOf Y).toNat : Int)) (cmpI ((Plain.loOf X).toNat : Int) ((Plain.loOf Y).toNat : Int)) = cmpN X.toNat Y.toNat := by
  rw [Plain.hi_nat, Plain.hi_nat, Plain.lo_nat, Plain.lo_nat]
  unfold orI cmpI cmpN
  have hx := X.isLt
  have hy := Y.isLt
  generalize X.toNat = x at *
  generalize Y.toNat = y at *
  by_cases h1 : ((x / 18446744073709551616 : Nat) : Int) < ((y / 18446744073709551616 : Nat) : Int)
  · rw [if_pos h1, if_neg (by decide), if_pos (by omega)]
  · by_cases h2 : ((y / 18446744073709551616 : Nat) : Int) < ((x / 18446744073709551616 : Nat) : Int)
    · rw [if_neg h1, if_pos h2, if_neg (by decide), if_neg (by omega), if_pos (by omega)]
    · rw [if_neg h1, if_neg h2, if_pos rfl]
      by_cases h3 : ((x % 18446744073709551616 : Nat) : Int) < ((y % 18446744073709551616 : Nat) : Int)
      · rw [if_pos h3, if_pos (by omega)]
      · by_cases h4 : ((y % 18446744073709551616 : Nat) : Int) < ((x % 18446744073709551616 : Nat) : Int)
        · rw [if_neg h3, if_pos h4, if_neg (by omega), if_pos (by omega)]
        · rw [if_neg h3, if_neg h4, if_neg (by omega), if_neg (by omega)]
theorem cell_new0 {W : World} {a b : Value} {t : TypeId} {n : Nat} (hn : n = W.heap.size) : (W.alloc (.cells #[a, b] t)).drew.cell? ⟨n, 0, none⟩ = some a := by
  rw [World.cell?_drew, World.cell?_alloc_at _ _ _ _ hn]; rfl
theorem cell_new1 {W : World} {a b : Value} {t : TypeId} {n : Nat} (hn : n = W.heap.size) : (W.alloc (.cells #[a, b] t)).drew.cell? ⟨n, 0 + 1, none⟩ = some b := by
  rw [World.cell?_drew, World.cell?_alloc_at _ _ _ _ hn]; rfl
set_option maxHeartbeats 400000 in
theorem Compare_c (X Y : BitVec 128) (w : World) : Calls Try.prog 16 #[.agg #[.int .u64 ((Plain.hiOf (X)).toNat : Int), .int .u64 ((Plain.loOf (X)).toNat : Int)], .agg #[.int .u64 ((Plain.hiOf (Y)).toNat : Int), .int .u64 ((Plain.loOf (Y)).toNat : Int)]] w fun e w' => e = .returned (.int .i64 (cmpN X.toNat Y.toNat)) ∧ Below w.heap.size w w' := by
  have hs := Lib.hid (cmp_halves X Y)
  go_enter Try.func16, Try.ntmps16
  go_wp2_with fail
  go_region_held3 (fun w' => w'.cell? ⟨w.heap.size, 0, none⟩ = some (.int .u64 ((Plain.hiOf X).toNat : Int)) ∧ w'.cell? ⟨w.heap.size, 1, none⟩ = some (.int .u64 ((Plain.loOf X).toNat : Int)) ∧ w'.cell? ⟨w.heap.size + 1, 0, none⟩ = some (.int .u64 ((Plain.hiOf Y).toNat : Int)) ∧ w'.cell? ⟨w.heap.size + 1, 1, none⟩ = some (.int .u64 ((Plain.loOf Y).toNat : Int))) (first | go_keep) (first | (go_at_call 31; refine (Compare64_c _ _ _).mono ?_; rintro e w1 ⟨rfl, rfl⟩) | (go_at_call 30; refine Calls.mono (Or2_c _ 0 _ _ _ (cell_new0 (by simp)) (cell_new1 (by simp))) ?_; rintro e w1 ⟨rfl, rfl⟩))
  all_goals go_wp2
  go_ret
  refine ⟨ret_int (by rw [← hs.out]), ?_⟩
  (repeat (first | exact Below.refl _ _ | refine Below.drew ?_ | refine below_drewN ?_ _ | (refine Below.alloc ?_ ?_ _; rotate_left; focus (first | omega | (simp <;> omega))) | (refine Below.setCell ?_ ?_ _; rotate_left; focus (first | omega | (simp <;> omega))) | (refine below_via hb9.out ?_ ?_; focus (first | omega | (simp <;> omega))) | (refine below_via hb8.out ?_ ?_; focus (first | omega | (simp <;> omega))) | (refine below_via hb7.out ?_ ?_; focus (first | omega | (simp <;> omega))) | (refine below_via hb6.out ?_ ?_; focus (first | omega | (simp <;> omega))) | (refine below_via hb5.out ?_ ?_; focus (first | omega | (simp <;> omega))) | (refine below_via hb4.out ?_ ?_; focus (first | omega | (simp <;> omega))) | (refine below_via hb3.out ?_ ?_; focus (first | omega | (simp <;> omega))) | (refine below_via hb2.out ?_ ?_; focus (first | omega | (simp <;> omega))) | (refine below_via hb1.out ?_ ?_; focus (first | omega | (simp <;> omega)))))
end Go.Proofs.Ytjbmhcjncldnhaa
