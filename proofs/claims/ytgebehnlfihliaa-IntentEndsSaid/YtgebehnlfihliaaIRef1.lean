/- Contracts of the reference for headers as lists of 128 bits: Bits, Head, Number, Field. -/
import Derived.Test.YtgebehnlfihliaaIHead2
import Derived.Test.YtgebehnlfihliaaPbits
import Derived.Deep.WholeRow
namespace Go.Proofs.Ytgebehnlfihliaa.Hd
open Go.RowKit
set_option linter.unusedSimpArgs false
set_option linter.unusedVariables false

/-- 128 bools as cells -/
def arr (f : Nat → Bool) : Array Value := Array.ofFn (n := 128) fun i => .bool (f i)
theorem arr_size (f : Nat → Bool) : (arr f).size = 128 := by simp [arr]
theorem arr_get (f : Nat → Bool) (i : Nat) (h : i < 128) : (arr f)[i]? = some (.bool (f i)) := by simp [arr, h]
theorem arr_set (f : Nat → Bool) (k : Nat) (b : Bool) : (arr f).setIfInBounds k (.bool b) = arr (fun i => if i = k then b else f i) := by
  apply Array.ext_getElem?
  intro i
  rw [Array.getElem?_setIfInBounds]
  by_cases hi : i < 128
  · rw [arr_get _ i hi]
    by_cases h : k = i
    · subst h; rw [arr_get _ k hi]; simp [arr_size, hi]
    · have h' : ¬ i = k := fun e => h e.symm
      simp [h, h', arr_get _ i hi]
  · have e1 : (arr f)[i]? = none := by simp [arr_size]; omega
    have e2 : (arr fun i => if i = k then b else f i)[i]? = none := by simp [arr_size]; omega
    rw [e1, e2]
    by_cases h : k = i <;> simp [h, arr_size, hi]
theorem arr_one (f : Nat → Bool) : (arr f).all (·.oneCell') = true := by
  rw [Array.all_eq_true]
  intro i h
  simp [arr, Value.oneCell']
theorem arr_congr {f g : Nat → Bool} (h : ∀ i, i < 128 → f i = g i) : arr f = arr g := by
  apply Array.ext
  · simp [arr]
  · intro i h1 h2
    have hi : i < 128 := by simpa [arr] using h2
    simp [arr, h i hi]
theorem zero33 : (Try.prog.info? 105).map (fun i => (i.zero, i.size)) = some (some (.agg (arr fun _ => false)), 128) := by kernel_rfl
theorem size33 : (Try.prog.info? 105).map (·.size) = some 128 := by kernel_rfl
theorem under33 : Try.prog.underlying 105 = some (.array 128 4) := by kernel_rfl

/-- a load and a store of a whole array of bools, each under a name of its own, so that the walk does not take them apart cell by cell -/
def ld33 (p : Value) : Sem Next := do pure (.value (← Instr.loadAt 105 p))
def st33 (p v : Value) : Sem Next := do Instr.storeAt 105 p v; pure .skip
theorem execOp_ld33 (ρ : Operand → Value) (dst : Option Tmp) (x : Operand) (ty : TypeId) (pos : String) (after : Array Edge) (guard : Option (Nat × Bool)) :
    execOp ρ { dst, op := .load 105 x, type := ty, pos, after, guard } = ld33 (ρ x) := rfl
theorem execOp_st33 (ρ : Operand → Value) (dst : Option Tmp) (x y : Operand) (ty : TypeId) (pos : String) (after : Array Edge) (guard : Option (Nat × Bool)) :
    execOp ρ { dst, op := .store 105 x y, type := ty, pos, after, guard } = st33 (ρ x) (ρ y) := rfl
theorem run_ld33 {W : World} {n : Nat} {f : Nat → Bool} (h : W.heap[n]? = some (.cells (arr f) 105)) : (ld33 (.pointer (some ⟨n, 0, none⟩))).run Try.prog W = .ok (.value (.agg (arr f))) W := by
  have := run_loadVar_row (P := Try.prog) W n 105 105 (arr f) (0, 0) _ h under33 rfl (by rw [arr_size]; exact size33)
  simp only [ld33, Instr.loadAt, Instr.sureAddr, Sem.run_bind, Sem.run_pure, Result.andThen_ok, this]
theorem run_st33 {W : World} {n : Nat} {f g : Nat → Bool} (h : W.heap[n]? = some (.cells (arr f) 105)) : (st33 (.pointer (some ⟨n, 0, none⟩)) (.agg (arr g))).run Try.prog W = .ok .skip (W.setRow n (arr g)) := by
  have := run_storeVar_row (P := Try.prog) W n 105 105 (arr f) (arr g) h (by rw [arr_size]; exact size33) (by rw [arr_size, arr_size]) (arr_one g)
  simp only [st33, Instr.storeAt, Instr.sureAddr, Sem.run_bind, Sem.run_pure, Result.andThen_ok, this]
theorem setRow_under (W : World) (c c' : Array Value) (t : TypeId) (o : Obj) : ((W.alloc (.cells c t)).alloc o).setRow W.heap.size c' = (W.alloc (.cells c' t)).alloc o := by
  simp only [World.setRow, World.alloc]
  congr 1
  apply Array.ext_getElem?
  intro i
  rw [Array.getElem?_modify]
  by_cases h : W.heap.size = i
  · subst h
    simp [Array.getElem?_push]
  · have h' : ¬ i = W.heap.size := fun e => h e.symm
    simp [h, h', Array.getElem?_push]
/-- .. in the block that was made last, and in the one beneath -/
theorem load33 (W : World) (f : Nat → Bool) (n : Nat) (hn : n = W.heap.size) : (ld33 (.pointer (some ⟨n, 0, none⟩))).run Try.prog (W.alloc (.cells (arr f) 105)) = .ok (.value (.agg (arr f))) (W.alloc (.cells (arr f) 105)) :=
  run_ld33 (al_at hn)
theorem store33 (W : World) (f g : Nat → Bool) (n : Nat) (hn : n = W.heap.size) : (st33 (.pointer (some ⟨n, 0, none⟩)) (.agg (arr g))).run Try.prog (W.alloc (.cells (arr f) 105)) = .ok .skip (W.alloc (.cells (arr g) 105)) := by
  rw [run_st33 (f := f) (al_at hn)]; subst hn; rw [World.setRow_alloc_new]
theorem store33u (W : World) (f g : Nat → Bool) (o : Obj) (n : Nat) (hn : n = W.heap.size) : (st33 (.pointer (some ⟨n, 0, none⟩)) (.agg (arr g))).run Try.prog ((W.alloc (.cells (arr f) 105)).alloc o) = .ok .skip ((W.alloc (.cells (arr g) 105)).alloc o) := by
  rw [run_st33 (f := f) (by rw [al_lt (by simp [hn]), al_at hn])]; subst hn; rw [setRow_under]
attribute [local go_sem ↓] execOp_ld33 execOp_st33
/-- bit k of a half, as the reference reckons it -/
theorem bit_lo (X : BitVec 128) (k : Nat) (h : k < 64) : ((((Plain.loOf X).toNat : Int) / 2 ^ k).tmod 2 == 1) = X.getLsbD k := by
  rw [Plain.ediv_shr, Int.tmod_eq_emod_of_nonneg (Int.natCast_nonneg _)]
  have h2 : ((Plain.loOf X) >>> k).getLsbD 0 = X.getLsbD k := by rw [BitVec.getLsbD_ushiftRight, Plain.loOf_bit]; simp [h]
  rw [← h2, BitVec.getLsbD, Nat.testBit_zero]
  generalize ((Plain.loOf X) >>> k).toNat = n
  have := Nat.mod_two_eq_zero_or_one n
  rcases this with h | h <;> (rw [show ((n : Int) % 2) = ((n % 2 : Nat) : Int) by omega, h]; rfl)
theorem bit_hi (X : BitVec 128) (k : Nat) (h : 64 ≤ k) (h' : k < 128) : ((((Plain.hiOf X).toNat : Int) / 2 ^ (k - 64)).tmod 2 == 1) = X.getLsbD k := by
  rw [Plain.ediv_shr, Int.tmod_eq_emod_of_nonneg (Int.natCast_nonneg _)]
  have h2 : ((Plain.hiOf X) >>> (k - 64)).getLsbD 0 = X.getLsbD k := by rw [BitVec.getLsbD_ushiftRight, Plain.hiOf_bit, Nat.add_zero, decide_eq_true (by omega), Bool.true_and, show 64 + (k - 64) = k by omega]
  rw [← h2, BitVec.getLsbD, Nat.testBit_zero]
  generalize ((Plain.hiOf X) >>> (k - 64)).toNat = n
  have := Nat.mod_two_eq_zero_or_one n
  rcases this with h | h <;> (rw [show ((n : Int) % 2) = ((n % 2 : Nat) : Int) by omega, h]; rfl)
/-- the first k bits -/
def upto (X : BitVec 128) (k : Nat) : Nat → Bool := fun i => decide (i < k) && X.getLsbD i
theorem upto_zero (X : BitVec 128) : (fun _ => false) = upto X 0 := by funext i; simp [upto]
theorem upto_set (X : BitVec 128) (k : Nat) : (arr (upto X k)).setIfInBounds k (.bool (X.getLsbD k)) = arr (upto X (k + 1)) := by
  rw [arr_set]
  apply arr_congr
  intro i hi
  unfold upto
  by_cases h : i = k
  · subst h; simp
  · rw [if_neg h, show decide (i < k + 1) = decide (i < k) by rw [decide_eq_decide]; omega]

attribute [irreducible] arr upto
set_option maxRecDepth 100000 in
set_option maxHeartbeats 400000 in
theorem Bits_c (X : BitVec 128) (w : World) : Calls Try.prog 53 #[.agg #[.int .u64 ((Plain.hiOf (X)).toNat : Int), .int .u64 ((Plain.loOf (X)).toNat : Int)]] w fun e w' => e = .returned (.agg (arr X.getLsbD)) ∧ Below w.heap.size w w' := by
  have hz := (zero_of_info zero33).1
  have hst := store33
  have hst' := store33u
  have hld := load33
  have hsz := arr_size
  go_enter Try.func53, Try.ntmps53
  go_wp2
  go_loopw [4] (fun i wr => ∃ k : Nat, k ≤ 128 ∧ i = .int .i64 k ∧ wr = ((w.alloc (.cells #[.int .u64 ((Plain.hiOf X).toNat : Int), .int .u64 ((Plain.loOf X).toNat : Int)] 61)).alloc (.cells (arr fun _ => false) 105)).alloc (.cells (arr (upto X k)) 105)) (fun i _ => 128 - (intOf i).toNat)
  case atStart => exact ⟨0, by omega, rfl, by rw [← upto_zero]⟩
  case round =>
    obtain ⟨k, hk, rfl, rfl⟩ := hrel
    by_cases hlt : k < 128
    · have hc := arr_get (upto X k) k hlt
      have hi : (k : Int) < 128 := by omega
      by_cases h64 : k < 64
      · have hj : (k : Int) < 64 := by omega
        go_wp2_with fail
        refine ⟨⟨k + 1, by omega, by go_num, ?_⟩, by simp [intOf]; omega⟩
        rw [bit_lo X k h64, upto_set]
      · have hj : ¬ (k : Int) < 64 := by omega
        have hj' : 64 ≤ (k : Int) := by omega
        have hs : ((k : Int) - 64).toNat = k - 64 := by omega
        go_wp2_with fail
        refine ⟨⟨k + 1, by omega, by go_num, ?_⟩, by simp [intOf]; omega⟩
        rw [bit_hi X k (by omega) hlt, upto_set]
    · have hi : ¬ (k : Int) < 128 := by omega
      have HS : Hid ((Try.prog.info? 105).map (·.size) = some (arr (upto X k)).size) := by rw [arr_size]; exact size33
      have HE : Hid (upto X k = X.getLsbD) := by
        funext i; unfold upto
        by_cases h : i < k
        · simp [h]
        · rw [BitVec.getLsbD_of_ge _ _ (by omega)]; simp
      go_wp2
      refine bodyPost_ret (v := .agg (arr (upto X k))) (results_cell_row (p := 2) (ty := 105) rfl _ _ (w.heap.size + 1) 105 (arr (upto X k)) (0, 0) _ rfl (by rw [al_lt (by simp), al_at (by simp)]) under33 rfl HS.out) rfl ⟨by rw [HE.out], ?_⟩
      (repeat (first | exact Below.refl _ _ | refine Below.drew ?_ | refine below_drewN ?_ _ | (refine Below.alloc ?_ ?_ _; rotate_left; focus (first | omega | (simp <;> omega))) | (refine Below.setCell ?_ ?_ _; rotate_left; focus (first | omega | (simp <;> omega))) | (refine below_via hb9.out ?_ ?_; focus (first | omega | (simp <;> omega))) | (refine below_via hb8.out ?_ ?_; focus (first | omega | (simp <;> omega))) | (refine below_via hb7.out ?_ ?_; focus (first | omega | (simp <;> omega))) | (refine below_via hb6.out ?_ ?_; focus (first | omega | (simp <;> omega))) | (refine below_via hb5.out ?_ ?_; focus (first | omega | (simp <;> omega))) | (refine below_via hb4.out ?_ ?_; focus (first | omega | (simp <;> omega))) | (refine below_via hb3.out ?_ ?_; focus (first | omega | (simp <;> omega))) | (refine below_via hb2.out ?_ ?_; focus (first | omega | (simp <;> omega))) | (refine below_via hb1.out ?_ ?_; focus (first | omega | (simp <;> omega)))))

theorem cells2 {W : World} {k : IntKind} {t : TypeId} {a b c d : Int} (h1 : a = c) (h2 : b = d) : W.alloc (.cells #[.int k a, .int k b] t) = W.alloc (.cells #[.int k c, .int k d] t) := by rw [h1, h2]
end Go.Proofs.Ytgebehnlfihliaa.Hd
