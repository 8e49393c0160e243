/- Contracts of the functions of package head on fields: shifts, masks, Mask, Get, Put, Bit: each returns what the plain operation on 128 bits gives, and writes nothing that was there. -/
import Derived.Test.YtgebehnlfihliaaIHead1
import Derived.Shelf.Spec.BitsCarry
import Derived.Deep.QuietTactic
import Derived.BigQuiet
namespace Go.Proofs.Ytgebehnlfihliaa.Hd
open Go.RowKit
set_option linter.unusedSimpArgs false
set_option linter.unusedVariables false

set_option maxHeartbeats 400000 in
theorem left_ge (a b n : Int) (h0 : 64 ≤ n) (h1 : n ≤ 128) (w : World) : Calls Try.prog 97 #[.agg #[.int .u64 a, .int .u64 b], .int .i64 n] w fun e w' => e = .returned (.agg #[.int .u64 (IntKind.u64.wrap (b * 2 ^ (n - 64).toNat)), .int .u64 0]) ∧ Below w.heap.size w w' := by
  go_enter Try.func97, Try.ntmps97
  go_wp2
  refine bodyPost_ret (v := .agg #[.int .u64 (IntKind.u64.wrap (b * 2 ^ (n - 64).toNat)), .int .u64 0]) (by simp [results, Try.results97, go_sem]) rfl ⟨rfl, ?_⟩
  exact ((Below.refl _ _).alloc (Nat.le_refl _) _).alloc (by simp) _
set_option maxHeartbeats 400000 in
theorem left_lt (a b n : Int) (h0 : 0 ≤ n) (h1 : n < 64) (w : World) : Calls Try.prog 97 #[.agg #[.int .u64 a, .int .u64 b], .int .i64 n] w fun e w' => e = .returned (.agg #[.int .u64 (bits .or .u64 (IntKind.u64.wrap (a * 2 ^ n.toNat)) (b / 2 ^ (64 - n).toNat)), .int .u64 (IntKind.u64.wrap (b * 2 ^ n.toNat))]) ∧ Below w.heap.size w w' := by
  go_enter Try.func97, Try.ntmps97
  go_wp2
  refine bodyPost_ret (v := .agg #[.int .u64 (bits .or .u64 (IntKind.u64.wrap (a * 2 ^ n.toNat)) (b / 2 ^ (64 - n).toNat)), .int .u64 (IntKind.u64.wrap (b * 2 ^ n.toNat))]) (by simp [results, Try.results97, go_sem]) rfl ⟨rfl, ?_⟩
  exact ((Below.refl _ _).alloc (Nat.le_refl _) _).alloc (by simp) _
theorem left_c {a b : Int} {X : BitVec 128} (ha : a = (Plain.hiOf X).toNat) (hb : b = (Plain.loOf X).toNat) (n : Int) (h0 : 0 ≤ n) (h1 : n ≤ 128) (w : World) :
    Calls Try.prog 97 #[.agg #[.int .u64 a, .int .u64 b], .int .i64 n] w fun e w' => e = .returned (.agg #[.int .u64 ((Plain.hiOf (X <<< n.toNat)).toNat : Int), .int .u64 ((Plain.loOf (X <<< n.toNat)).toNat : Int)]) ∧ Below w.heap.size w w' := by
  by_cases h : 64 ≤ n
  · refine (left_ge a b n h h1 w).mono fun e w' ⟨he, hw⟩ => ⟨?_, hw⟩
    rw [he]; subst ha hb
    exact ret_agg2 (by rw [Plain.wrap_shl, Plain.hi_shl_ge X _ (by omega), show (n - 64).toNat = n.toNat - 64 by omega]) (by rw [Plain.lo_shl_ge X _ (by omega)]; rfl)
  · refine (left_lt a b n h0 (by omega) w).mono fun e w' ⟨he, hw⟩ => ⟨?_, hw⟩
    rw [he]; subst ha hb
    exact ret_agg2 (by rw [Plain.wrap_shl, Plain.ediv_shr, Plain.bits_or, Plain.hi_shl_lt X _ (by omega), show (64 - n).toNat = 64 - n.toNat by omega]) (by rw [Plain.wrap_shl, Plain.lo_shl_lt X _ (by omega)])

set_option maxHeartbeats 400000 in
theorem right_ge (a b n : Int) (h0 : 64 ≤ n) (h1 : n ≤ 128) (w : World) : Calls Try.prog 88 #[.agg #[.int .u64 a, .int .u64 b], .int .i64 n] w fun e w' => e = .returned (.agg #[.int .u64 0, .int .u64 (a / 2 ^ (n - 64).toNat)]) ∧ Below w.heap.size w w' := by
  go_enter Try.func88, Try.ntmps88
  go_wp2
  refine bodyPost_ret (v := .agg #[.int .u64 0, .int .u64 (a / 2 ^ (n - 64).toNat)]) (by simp [results, Try.results88, go_sem]) rfl ⟨rfl, ?_⟩
  exact ((Below.refl _ _).alloc (Nat.le_refl _) _).alloc (by simp) _
set_option maxHeartbeats 400000 in
theorem right_lt (a b n : Int) (h0 : 0 ≤ n) (h1 : n < 64) (w : World) : Calls Try.prog 88 #[.agg #[.int .u64 a, .int .u64 b], .int .i64 n] w fun e w' => e = .returned (.agg #[.int .u64 (a / 2 ^ n.toNat), .int .u64 (bits .or .u64 (b / 2 ^ n.toNat) (IntKind.u64.wrap (a * 2 ^ (64 - n).toNat)))]) ∧ Below w.heap.size w w' := by
  go_enter Try.func88, Try.ntmps88
  go_wp2
  refine bodyPost_ret (v := .agg #[.int .u64 (a / 2 ^ n.toNat), .int .u64 (bits .or .u64 (b / 2 ^ n.toNat) (IntKind.u64.wrap (a * 2 ^ (64 - n).toNat)))]) (by simp [results, Try.results88, go_sem]) rfl ⟨rfl, ?_⟩
  exact ((Below.refl _ _).alloc (Nat.le_refl _) _).alloc (by simp) _
theorem right_c {a b : Int} {X : BitVec 128} (ha : a = (Plain.hiOf X).toNat) (hb : b = (Plain.loOf X).toNat) (n : Int) (h0 : 0 ≤ n) (h1 : n ≤ 128) (w : World) :
    Calls Try.prog 88 #[.agg #[.int .u64 a, .int .u64 b], .int .i64 n] w fun e w' => e = .returned (.agg #[.int .u64 ((Plain.hiOf (X >>> n.toNat)).toNat : Int), .int .u64 ((Plain.loOf (X >>> n.toNat)).toNat : Int)]) ∧ Below w.heap.size w w' := by
  by_cases h : 64 ≤ n
  · refine (right_ge a b n h h1 w).mono fun e w' ⟨he, hw⟩ => ⟨?_, hw⟩
    rw [he]; subst ha hb
    exact ret_agg2 (by rw [Plain.hi_shr_ge X _ (by omega)]; rfl) (by rw [Plain.ediv_shr, Plain.lo_shr_ge X _ (by omega), show (n - 64).toNat = n.toNat - 64 by omega])
  · refine (right_lt a b n h0 (by omega) w).mono fun e w' ⟨he, hw⟩ => ⟨?_, hw⟩
    rw [he]; subst ha hb
    exact ret_agg2 (by rw [Plain.ediv_shr, Plain.hi_shr_lt X _ (by omega)]) (by rw [Plain.wrap_shl, Plain.ediv_shr, Plain.bits_or, Plain.lo_shr_lt X _ (by omega), show (64 - n).toNat = 64 - n.toNat by omega])

/-- field: its three numbers' test -/
def fieldB (at_ size most : Int) : Bool := decide (0 ≤ at_) && (decide (0 ≤ size) && (decide (size ≤ most) && decide (at_ ≤ 128 - size)))
set_option maxHeartbeats 400000 in
theorem field_yes (a s m : Int) (h : fieldB a s m = true) (hm : m ≤ 128) (w : World) : Calls Try.prog 87 #[.int .i64 a, .int .i64 s, .int .i64 m] w fun e w' => e = .returned (.bool true) ∧ w' = w := by
  simp only [fieldB, Bool.and_eq_true, decide_eq_true_eq] at h
  obtain ⟨h1, h2, h3, h4⟩ := h
  go_enter Try.func87, Try.ntmps87
  go_wp2
  go_ret
  exact ⟨rfl, rfl⟩
set_option maxHeartbeats 400000 in
theorem field_no (a s m : Int) (h : fieldB a s m = false) (hm : m ≤ 128) (w : World) : Calls Try.prog 87 #[.int .i64 a, .int .i64 s, .int .i64 m] w fun e w' => e = .returned (.bool false) ∧ w' = w := by
  simp only [fieldB, Bool.and_eq_false_iff, decide_eq_false_iff_not] at h
  by_cases h1 : 0 ≤ a
  · by_cases h2 : 0 ≤ s
    · by_cases h3 : s ≤ m
      · have h4 : ¬ a ≤ 128 - s := by rcases h with h | h | h | h <;> first | exact h | exact absurd ‹_› h
        clear h
        go_enter Try.func87, Try.ntmps87
        go_wp2
        go_ret
        exact ⟨rfl, rfl⟩
      · clear h
        go_enter Try.func87, Try.ntmps87
        go_wp2
        go_ret
        exact ⟨rfl, rfl⟩
    · clear h
      go_enter Try.func87, Try.ntmps87
      go_wp2
      go_ret
      exact ⟨rfl, rfl⟩
  · clear h
    go_enter Try.func87, Try.ntmps87
    go_wp2
    go_ret
    exact ⟨rfl, rfl⟩

theorem run_sub1 (x : Nat) (w : World) : (callFunc 102 #[.int .u64 (x : Int), .int .u64 1, .int .u64 0]).run Try.prog w = .ok (.value (.tuple #[.int .u64 (Plain.sub1 x), .int .u64 (Plain.bor1 x)])) w := by
  have h := run_sub64 (P := Try.prog) x 1 0 (by decide) w
  rw [run_callFunc_extern Try.func102 (by kernel_rfl) (by kernel_rfl) (by kernel_rfl) (e := sub64Entry) (by kernel_rfl)]
  exact congrArg (fun r => Result.andThen r _) h

set_option maxHeartbeats 400000 in
theorem low_c (n : Int) (h0 : 0 ≤ n) (h1 : n ≤ 128) (w : World) :
    Calls Try.prog 90 #[.int .i64 n] w fun e w' => e = .returned (.agg #[.int .u64 ((Plain.hiOf (Plain.low n.toNat)).toNat : Int), .int .u64 ((Plain.loOf (Plain.low n.toNat)).toNat : Int)]) ∧ Below w.heap.size w w' := by
  by_cases h : 128 ≤ n
  · have e := Plain.low_all n.toNat (by omega)
    rw [e.1, e.2]
    clear e
    go_enter Try.func90, Try.ntmps90
    go_wp2
    refine bodyPost_ret (v := .agg #[.int .u64 18446744073709551615, .int .u64 18446744073709551615]) (by simp [results, Try.results90, go_sem]) rfl ⟨rfl, ?_⟩
    exact (Below.refl _ _).alloc (Nat.le_refl _) _
  · have e1 := Lib.hid (Plain.low_lo n.toNat (by omega))
    have e2 := Lib.hid (Plain.low_hi n.toNat (by omega))
    have hs := run_sub1
    go_enter Try.func90, Try.ntmps90
    go_wp2_with (go_at_call 97; refine (left_c (X := 1) (by decide) (by decide) n (by omega) (by omega) _).mono ?_; rintro e w1 ⟨rfl, hb⟩; obtain ⟨c5, f5, g5, _⟩ := blk (k := w.heap.size) (c := #[.int .u64 0, .int .u64 0]) (t := 137) hb (by repeat (first | exact al_at (by simp) | exact e1.out | exact e2.out | exact e3.out | exact e4.out | exact e5.out | exact e6.out | exact e7.out | exact e8.out | exact e9.out | exact e10.out | exact e11.out | exact e12.out | exact e13.out | exact e14.out | exact e15.out | exact e16.out | exact e17.out | exact e18.out | exact e19.out | rw [al_lt (by first | omega | (simp <;> omega))] | rw [sc_ne (by first | omega | (simp <;> omega))])); have hz := hb.size; simp only [World.size_alloc] at hz; have hb1 := Lib.hid hb; clear hb)
    refine bodyPost_ret (v := .agg #[.int .u64 (IntKind.u64.wrap (((Plain.hiOf (1#128 <<< n.toNat)).toNat : Int) - Plain.bor1 (Plain.loOf (1#128 <<< n.toNat)).toNat)), .int .u64 (Plain.sub1 (Plain.loOf (1#128 <<< n.toNat)).toNat)]) (by simp [results, Try.results90, go_sem, c5, g5]) rfl ⟨ret_agg2 e2.out e1.out, ?_⟩
    (repeat (first | exact Below.refl _ _ | refine Below.drew ?_ | refine below_drewN ?_ _ | (refine Below.alloc ?_ ?_ _; rotate_left; focus (first | omega | (simp <;> omega))) | (refine Below.setCell ?_ ?_ _; rotate_left; focus (first | omega | (simp <;> omega))) | (refine below_via hb9.out ?_ ?_; focus (first | omega | (simp <;> omega))) | (refine below_via hb8.out ?_ ?_; focus (first | omega | (simp <;> omega))) | (refine below_via hb7.out ?_ ?_; focus (first | omega | (simp <;> omega))) | (refine below_via hb6.out ?_ ?_; focus (first | omega | (simp <;> omega))) | (refine below_via hb5.out ?_ ?_; focus (first | omega | (simp <;> omega))) | (refine below_via hb4.out ?_ ?_; focus (first | omega | (simp <;> omega))) | (refine below_via hb3.out ?_ ?_; focus (first | omega | (simp <;> omega))) | (refine below_via hb2.out ?_ ?_; focus (first | omega | (simp <;> omega))) | (refine below_via hb1.out ?_ ?_; focus (first | omega | (simp <;> omega)))))

set_option maxHeartbeats 400000 in
theorem Mask_yes (a s : Int) (h : fieldB a s 128 = true) (w : World) :
    Calls Try.prog 81 #[.int .i64 a, .int .i64 s] w fun e w' => e = .returned (.tuple #[.agg #[.int .u64 ((Plain.hiOf (Plain.low s.toNat <<< a.toNat)).toNat : Int), .int .u64 ((Plain.loOf (Plain.low s.toNat <<< a.toNat)).toNat : Int)], .int .i64 0]) ∧ Below w.heap.size w w' := by
  have hh := h
  simp only [fieldB, Bool.and_eq_true, decide_eq_true_eq] at hh
  obtain ⟨h1, h2, h3, h4⟩ := hh
  have HF := Lib.hid h
  clear h
  go_enter Try.func81, Try.ntmps81
  go_wp2_with (first | (go_at_call 87; refine (field_yes _ _ _ HF.out (by decide) _).mono ?_; rintro e w1 ⟨rfl, rfl⟩) | (go_at_call 90; refine (low_c s h2 (by omega) _).mono ?_; rintro e w1 ⟨rfl, hb⟩; obtain ⟨c1, f1, g1, e1⟩ := blk (k := w.heap.size) (c := #[.int .u64 0, .int .u64 0]) (t := 61) hb (by repeat (first | exact al_at (by simp) | exact e1.out | exact e2.out | exact e3.out | exact e4.out | exact e5.out | exact e6.out | exact e7.out | exact e8.out | exact e9.out | exact e10.out | exact e11.out | exact e12.out | exact e13.out | exact e14.out | exact e15.out | exact e16.out | exact e17.out | exact e18.out | exact e19.out | rw [al_lt (by first | omega | (simp <;> omega))] | rw [sc_ne (by first | omega | (simp <;> omega))])); have hz1 := hb.size; (try simp only [World.size_alloc, World.size_setCell, World.size_drew] at hz1); have hb1 := Lib.hid hb; clear hb) | (go_at_call 97; refine (left_c rfl rfl a h1 (by omega) _).mono ?_; rintro e w2 ⟨rfl, hb⟩; obtain ⟨c2, f2, g2, e2⟩ := blk (k := w.heap.size) (c := #[.int .u64 0, .int .u64 0]) (t := 61) hb (by repeat (first | exact al_at (by simp) | exact e1.out | exact e2.out | exact e3.out | exact e4.out | exact e5.out | exact e6.out | exact e7.out | exact e8.out | exact e9.out | exact e10.out | exact e11.out | exact e12.out | exact e13.out | exact e14.out | exact e15.out | exact e16.out | exact e17.out | exact e18.out | exact e19.out | rw [al_lt (by first | omega | (simp <;> omega))] | rw [sc_ne (by first | omega | (simp <;> omega))])); have hz2 := hb.size; (try simp only [World.size_alloc, World.size_setCell, World.size_drew] at hz2); have hb2 := Lib.hid hb; clear hb))
  refine bodyPost_ret (v := .tuple #[.agg #[.int .u64 ((Plain.hiOf (Plain.low s.toNat <<< a.toNat)).toNat : Int), .int .u64 ((Plain.loOf (Plain.low s.toNat <<< a.toNat)).toNat : Int)], .int .i64 0]) (by simp [results, Try.results81, go_sem, c2]) rfl ⟨rfl, ?_⟩
  (repeat (first | exact Below.refl _ _ | refine Below.drew ?_ | refine below_drewN ?_ _ | (refine Below.alloc ?_ ?_ _; rotate_left; focus (first | omega | (simp <;> omega))) | (refine Below.setCell ?_ ?_ _; rotate_left; focus (first | omega | (simp <;> omega))) | (refine below_via hb9.out ?_ ?_; focus (first | omega | (simp <;> omega))) | (refine below_via hb8.out ?_ ?_; focus (first | omega | (simp <;> omega))) | (refine below_via hb7.out ?_ ?_; focus (first | omega | (simp <;> omega))) | (refine below_via hb6.out ?_ ?_; focus (first | omega | (simp <;> omega))) | (refine below_via hb5.out ?_ ?_; focus (first | omega | (simp <;> omega))) | (refine below_via hb4.out ?_ ?_; focus (first | omega | (simp <;> omega))) | (refine below_via hb3.out ?_ ?_; focus (first | omega | (simp <;> omega))) | (refine below_via hb2.out ?_ ?_; focus (first | omega | (simp <;> omega))) | (refine below_via hb1.out ?_ ?_; focus (first | omega | (simp <;> omega)))))
set_option maxHeartbeats 400000 in
theorem Mask_no (a s : Int) (h : fieldB a s 128 = false) (w : World) :
    Calls Try.prog 81 #[.int .i64 a, .int .i64 s] w fun e w' => e = .returned (.tuple #[.agg #[.int .u64 0, .int .u64 0], .int .i64 1]) ∧ Below w.heap.size w w' := by
  have HF := Lib.hid h
  clear h
  go_enter Try.func81, Try.ntmps81
  go_wp2_with (first | (go_at_call 87; refine (field_no _ _ _ HF.out (by decide) _).mono ?_; rintro e w1 ⟨rfl, rfl⟩))
  refine bodyPost_ret (v := .tuple #[.agg #[.int .u64 0, .int .u64 0], .int .i64 1]) (by simp [results, Try.results81, go_sem]) rfl ⟨rfl, ?_⟩
  (repeat (first | exact Below.refl _ _ | refine Below.drew ?_ | refine below_drewN ?_ _ | (refine Below.alloc ?_ ?_ _; rotate_left; focus (first | omega | (simp <;> omega))) | (refine Below.setCell ?_ ?_ _; rotate_left; focus (first | omega | (simp <;> omega))) | (refine below_via hb9.out ?_ ?_; focus (first | omega | (simp <;> omega))) | (refine below_via hb8.out ?_ ?_; focus (first | omega | (simp <;> omega))) | (refine below_via hb7.out ?_ ?_; focus (first | omega | (simp <;> omega))) | (refine below_via hb6.out ?_ ?_; focus (first | omega | (simp <;> omega))) | (refine below_via hb5.out ?_ ?_; focus (first | omega | (simp <;> omega))) | (refine below_via hb4.out ?_ ?_; focus (first | omega | (simp <;> omega))) | (refine below_via hb3.out ?_ ?_; focus (first | omega | (simp <;> omega))) | (refine below_via hb2.out ?_ ?_; focus (first | omega | (simp <;> omega))) | (refine below_via hb1.out ?_ ?_; focus (first | omega | (simp <;> omega)))))

set_option maxHeartbeats 400000 in
theorem Get_no (x y a s : Int) (h : fieldB a s 64 = false) (w : World) :
    Calls Try.prog 59 #[.agg #[.int .u64 x, .int .u64 y], .int .i64 a, .int .i64 s] w fun e w' => e = .returned (.tuple #[.int .u64 0, .int .i64 1]) ∧ Below w.heap.size w w' := by
  have HF := Lib.hid h
  clear h
  go_enter Try.func59, Try.ntmps59
  go_wp2_with (first | (go_at_call 87; refine (field_no _ _ _ HF.out (by decide) _).mono ?_; rintro e w1 ⟨rfl, rfl⟩))
  go_ret2
  refine ⟨rfl, ?_⟩
  (repeat (first | exact Below.refl _ _ | refine Below.drew ?_ | refine below_drewN ?_ _ | (refine Below.alloc ?_ ?_ _; rotate_left; focus (first | omega | (simp <;> omega))) | (refine Below.setCell ?_ ?_ _; rotate_left; focus (first | omega | (simp <;> omega))) | (refine below_via hb9.out ?_ ?_; focus (first | omega | (simp <;> omega))) | (refine below_via hb8.out ?_ ?_; focus (first | omega | (simp <;> omega))) | (refine below_via hb7.out ?_ ?_; focus (first | omega | (simp <;> omega))) | (refine below_via hb6.out ?_ ?_; focus (first | omega | (simp <;> omega))) | (refine below_via hb5.out ?_ ?_; focus (first | omega | (simp <;> omega))) | (refine below_via hb4.out ?_ ?_; focus (first | omega | (simp <;> omega))) | (refine below_via hb3.out ?_ ?_; focus (first | omega | (simp <;> omega))) | (refine below_via hb2.out ?_ ?_; focus (first | omega | (simp <;> omega))) | (refine below_via hb1.out ?_ ?_; focus (first | omega | (simp <;> omega)))))
theorem run_fld1 (x y : Int) (w : World) : (Instr.field 137 (.agg #[.int .u64 x, .int .u64 y]) 1).run Try.prog w = .ok (.int .u64 y) w := by kernel_rfl
set_option maxHeartbeats 400000 in
theorem Get_yes {x y : Int} {X : BitVec 128} (hx : x = (Plain.hiOf X).toNat) (hy : y = (Plain.loOf X).toNat) (a s : Int) (h : fieldB a s 64 = true) (w : World) :
    Calls Try.prog 59 #[.agg #[.int .u64 x, .int .u64 y], .int .i64 a, .int .i64 s] w fun e w' => e = .returned (.tuple #[.int .u64 ((Plain.loOf (X >>> a.toNat &&& Plain.low s.toNat)).toNat : Int), .int .i64 0]) ∧ Below w.heap.size w w' := by
  have hh := h
  simp only [fieldB, Bool.and_eq_true, decide_eq_true_eq] at hh
  obtain ⟨h1, h2, h3, h4⟩ := hh
  have HF := Lib.hid h
  have H1 := Lib.hid hx
  have H2 := Lib.hid hy
  clear h hx hy
  have hfd := run_fld1
  go_enter Try.func59, Try.ntmps59
  go_wp2_with (first | (go_at_call 87; refine (field_yes _ _ _ HF.out (by decide) _).mono ?_; rintro e w1 ⟨rfl, rfl⟩) | (go_at_call 88; refine (right_c H1.out H2.out a h1 (by omega) _).mono ?_; rintro e w1 ⟨rfl, hb⟩; have hz1 := hb.size; (try simp only [World.size_alloc, World.size_setCell, World.size_drew] at hz1); have hb1 := Lib.hid hb; clear hb) | (go_at_call 90; refine (low_c s h2 (by omega) _).mono ?_; rintro e w2 ⟨rfl, hb⟩; have hz2 := hb.size; (try simp only [World.size_alloc, World.size_setCell, World.size_drew] at hz2); have hb2 := Lib.hid hb; clear hb) | (go_at_call 89; refine (and_c rfl rfl rfl rfl _).mono ?_; rintro e w3 ⟨rfl, hb⟩; have hz3 := hb.size; (try simp only [World.size_alloc, World.size_setCell, World.size_drew] at hz3); have hb3 := Lib.hid hb; clear hb))
  go_ret2
  refine ⟨rfl, ?_⟩
  (repeat (first | exact Below.refl _ _ | refine Below.drew ?_ | refine below_drewN ?_ _ | (refine Below.alloc ?_ ?_ _; rotate_left; focus (first | omega | (simp <;> omega))) | (refine Below.setCell ?_ ?_ _; rotate_left; focus (first | omega | (simp <;> omega))) | (refine below_via hb9.out ?_ ?_; focus (first | omega | (simp <;> omega))) | (refine below_via hb8.out ?_ ?_; focus (first | omega | (simp <;> omega))) | (refine below_via hb7.out ?_ ?_; focus (first | omega | (simp <;> omega))) | (refine below_via hb6.out ?_ ?_; focus (first | omega | (simp <;> omega))) | (refine below_via hb5.out ?_ ?_; focus (first | omega | (simp <;> omega))) | (refine below_via hb4.out ?_ ?_; focus (first | omega | (simp <;> omega))) | (refine below_via hb3.out ?_ ?_; focus (first | omega | (simp <;> omega))) | (refine below_via hb2.out ?_ ?_; focus (first | omega | (simp <;> omega))) | (refine below_via hb1.out ?_ ?_; focus (first | omega | (simp <;> omega)))))

/-- v has a bit beyond the lowest s -/
def overB (v : BitVec 64) (s : Nat) : Bool := v &&& ~~~(Plain.loOf (Plain.low s)) != 0#64
theorem overB_int (v : BitVec 64) (s : Nat) : (bits .andNot .u64 (v.toNat : Int) ((Plain.loOf (Plain.low s)).toNat : Int) != 0) = overB v s := by
  rw [Plain.bits_andNot, overB, Bool.eq_iff_iff, bne_iff_ne, bne_iff_ne, ne_eq, ne_eq]
  refine not_congr ⟨fun h => ?_, fun h => by rw [h]; rfl⟩
  exact BitVec.eq_of_toNat_eq (by simpa using h)

theorem lo_one (X : BitVec 128) (n : Nat) : (bits .and .u64 ((Plain.loOf (X >>> n)).toNat : Int) 1 == 1) = X.getLsbD n := by
  have h := Plain.bits_and (Plain.loOf (X >>> n)) 1#64
  rw [show ((1#64).toNat : Int) = 1 from rfl] at h
  rw [h]
  have hb : ((Plain.loOf (X >>> n)) &&& 1#64).toNat = (X.getLsbD n).toNat := by
    have h2 : (Plain.loOf (X >>> n)).getLsbD 0 = X.getLsbD n := by rw [Plain.loOf_bit, BitVec.getLsbD_ushiftRight]; simp
    rw [BitVec.toNat_and, show (1#64).toNat = 1 from rfl, Nat.and_one_is_mod, ← h2, BitVec.getLsbD, Nat.testBit_zero]
    have := Nat.mod_two_eq_zero_or_one (Plain.loOf (X >>> n)).toNat
    rcases this with h | h <;> simp [h]
  rw [hb]
  cases X.getLsbD n <;> rfl
end Go.Proofs.Ytgebehnlfihliaa.Hd
