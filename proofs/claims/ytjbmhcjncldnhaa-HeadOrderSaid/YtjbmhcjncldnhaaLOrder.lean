/- HeadOrder: comparing two headers is comparing them by the highest bit in which they differ. -/
import Derived.Test.YtjbmhcjncldnhaaMulti3
import Derived.Test.YtjbmhcjncldnhaaPOrder
import Derived.Deep.DeepCutAuto
namespace Go.Proofs.Ytjbmhcjncldnhaa
open Go.RowKit Go.Sort
set_option linter.unusedSimpArgs false
set_option linter.unusedVariables false
theorem under24' : ((Try.prog.underlying 24).any wide) = true := by kernel_rfl
theorem info24' {a b : Value} : (Try.prog.info? 24).map (·.size) = some (#[a, b] : Array Value).size := by kernel_rfl
theorem zero33' : (Try.prog.info? 33).map (·.zero) = some (some (.agg (arr fun _ => false))) := by kernel_rfl
theorem info33' {f : Nat → Bool} : (Try.prog.info? 33).map (·.size) = some (arr f).size := by rw [arr_size]; exact size33

set_option maxRecDepth 100000 in
set_option maxHeartbeats 1000000 in
theorem order_walk (X Y : BitVec 128) (w : World) :
    Calls Try.prog 4 #[.agg #[.int .u64 ((Plain.hiOf (X)).toNat : Int), .int .u64 ((Plain.loOf (X)).toNat : Int)], .agg #[.int .u64 ((Plain.hiOf (Y)).toNat : Int), .int .u64 ((Plain.loOf (Y)).toNat : Int)]] w fun e w' => e = .returned (.bool true) ∧ RowKit.Below w.heap.size w w' := by
  go_enter Try.func4, Try.ntmps4
  go_wp2_with fail
  go_upto_region 1 with (fail)
  rename_i Kc hKc
  have b0 : ((w.alloc (.cells #[.int .u64 ((Plain.hiOf X).toNat : Int), .int .u64 ((Plain.loOf X).toNat : Int)] 24)).alloc (.cells #[.int .u64 ((Plain.hiOf Y).toNat : Int), .int .u64 ((Plain.loOf Y).toNat : Int)] 24)).drew.heap[w.heap.size]? = some (.cells #[.int .u64 ((Plain.hiOf X).toNat : Int), .int .u64 ((Plain.loOf X).toNat : Int)] 24) := (al_lt (by simp)).trans (al_at rfl)
  have b1 : ((w.alloc (.cells #[.int .u64 ((Plain.hiOf X).toNat : Int), .int .u64 ((Plain.loOf X).toNat : Int)] 24)).alloc (.cells #[.int .u64 ((Plain.hiOf Y).toNat : Int), .int .u64 ((Plain.loOf Y).toNat : Int)] 24)).drew.heap[w.heap.size + 1]? = some (.cells #[.int .u64 ((Plain.hiOf Y).toNat : Int), .int .u64 ((Plain.loOf Y).toNat : Int)] 24) := al_at (by simp)
  refine wp_multi_lit [.q (.agg #[.int .u64 ((Plain.hiOf (X)).toNat : Int), .int .u64 ((Plain.loOf (X)).toNat : Int)]), .q (.agg (arr X.getLsbD)), .q (.agg #[.int .u64 ((Plain.hiOf (Y)).toNat : Int), .int .u64 ((Plain.loOf (Y)).toNat : Int)]), .q (.agg (arr Y.getLsbD)), .al 33 (arr fun _ => false), .al 33 (arr fun _ => false), .st 4 1 33 (arr X.getLsbD), .st 5 3 33 (arr Y.getLsbD)] (by kernel_rfl) (by kernel_rfl) ?_ ?_
  · refine ⟨?_, ?_, ?_, ?_, ?_, ?_, ?_, ?_, trivial⟩
    · exact obl_load (by kernel_rfl) rfl b0 under24' info24'
    · exact obl_call #[.agg #[.int .u64 ((Plain.hiOf (X)).toNat : Int), .int .u64 ((Plain.loOf (X)).toNat : Int)]] (fun a h0 hd => by simp [eval_of (hd 0 9 _ (by kernel_rfl) rfl rfl)]) (by kernel_rfl) (fun W _ => Bits_c X W)
    · exact obl_load (by kernel_rfl) rfl b1 under24' info24'
    · exact obl_call #[.agg #[.int .u64 ((Plain.hiOf (Y)).toNat : Int), .int .u64 ((Plain.loOf (Y)).toNat : Int)]] (fun a h0 hd => by simp [eval_of (hd 2 11 _ (by kernel_rfl) rfl rfl)]) (by kernel_rfl) (fun W _ => Bits_c Y W)
    · exact obl_alloc zero33'
    · exact obl_alloc zero33'
    · exact obl_store rfl rfl (by rw [arr_size, arr_size]) rfl rfl info33' (arr_one _)
    · exact obl_store rfl rfl (by rw [arr_size, arr_size]) rfl rfl info33' (arr_one _)
  · intro κ W hb hκ hlaid hne
    have l1 := hlaid 6 4 1 33 _ (by decide) rfl
    have l2 := hlaid 7 5 3 33 _ (by decide) rfl
    simp [MFin, kOf, Mk.val]
    refine hKc _ _ ?_
    have hz := hb.size
    simp only [World.size_alloc] at hz
    have m1 := Lib.hid ((hb.block _ (by simp only [World.size_alloc]; omega)).trans b0)
    have m2 := Lib.hid ((hb.block _ (by simp only [World.size_alloc]; omega)).trans b1)
    have hbW : RowKit.Below w.heap.size w W := by
      refine RowKit.Below.trans ?_ (hb.mono (by simp only [World.size_alloc]; omega))
      exact Below.alloc (Below.alloc (Below.refl _ _) (Nat.le_refl _) _) (by simp) _
    have hsW : w.heap.size ≤ W.heap.size := hbW.size
    obtain ⟨c1, f1, g1⟩ := blkW l1
    obtain ⟨c2, f2, g2⟩ := blkW l2
    have hsz := arr_size
    have C1 : ∀ W, Calls Try.prog 16 #[.agg #[.int .u64 ((Plain.hiOf (X)).toNat : Int), .int .u64 ((Plain.loOf (X)).toNat : Int)], .agg #[.int .u64 ((Plain.hiOf (Y)).toNat : Int), .int .u64 ((Plain.loOf (Y)).toNat : Int)]] W fun e w' => e = .returned (.int .i64 (cmpTo X Y 128)) ∧ RowKit.Below W.heap.size W w' := fun W => by rw [cmpTo_all X Y 128 rfl]; exact Compare_c X Y W
    have C2 : ∀ W, Calls Try.prog 16 #[.agg #[.int .u64 ((Plain.hiOf (Y)).toNat : Int), .int .u64 ((Plain.loOf (Y)).toNat : Int)], .agg #[.int .u64 ((Plain.hiOf (X)).toNat : Int), .int .u64 ((Plain.loOf (X)).toNat : Int)]] W fun e w' => e = .returned (.int .i64 (- cmpTo X Y 128)) ∧ RowKit.Below W.heap.size W w' := fun W => by rw [cmpTo_all X Y 128 rfl, ← cmpN_swap]; exact Compare_c Y X W
    have hcb : -1 ≤ cmpTo X Y 128 ∧ cmpTo X Y 128 ≤ 1 := by
      unfold cmpTo cmpN
      repeat' split
      all_goals omega
    generalize κ 4 = x1 at *
    generalize κ 5 = x2 at *
    generalize ((Plain.hiOf X).toNat : Int) = xh at *
    generalize ((Plain.loOf X).toNat : Int) = xl at *
    generalize ((Plain.hiOf Y).toNat : Int) = yh at *
    generalize ((Plain.loOf Y).toNat : Int) = yl at *
    have HB := Lib.hid hbW
    have q1 := (blkW m1.out).1
    have q2 := (blkW m2.out).1
    clear hb hκ hlaid hne b0 b1 hbW l1 l2
    go_wp2_with fail
    go_loop [7, 8] (fun v i => ∃ k : Nat, k ≤ 128 ∧ i = .int .i64 k ∧ v = .int .i64 (cmpTo X Y k)) (fun _ i => 128 - (intOf i).toNat)
    case atStart => exact ⟨0, by omega, rfl, by rw [cmpTo_zero]⟩
    case round =>
      obtain ⟨k, hk, rfl, rfl⟩ := hrel
      by_cases hlt : k < 128
      · have hx : W.cell? ⟨x1, k, none⟩ = some (.bool (X.getLsbD k)) := (c1 k).trans (arr_get X.getLsbD k hlt)
        have hy : W.cell? ⟨x2, k, none⟩ = some (.bool (Y.getLsbD k)) := (c2 k).trans (arr_get Y.getLsbD k hlt)
        clear c1 c2 hsz
        have hi : (k : Int) < 128 := by omega
        have hs := cmpTo_succ X Y k
        cases ex : X.getLsbD k <;> cases ey : Y.getLsbD k <;> rw [ex] at hx hs <;> rw [ey] at hy hs <;> simp only [Bool.false_eq_true, and_false, false_and, and_self, and_true, true_and, if_false, if_true, reduceCtorEq] at hs <;> (have HS := Lib.hid hs; clear hs; go_wp2_with fail; exact ⟨⟨k + 1, by omega, by go_num, by rw [HS.out]⟩, by simp [intOf]; omega⟩)
      · have hi : ¬ (k : Int) < 128 := by omega
        obtain rfl : k = 128 := by omega
        clear c1 f1 c2 f2 hk hlt
        generalize cmpTo X Y 128 = cc at *
        go_wp2_with fail
        refine (awake_c _).mono ?_
        rintro e w1 ⟨rfl, hb1⟩
        have z1 := hb1.size
        have q1 : ∀ o, w1.cell? ⟨w.heap.size, o, none⟩ = _ := (blkW ((hb1.block _ (by omega)).trans m1.out)).1
        have q2 : ∀ o, w1.cell? ⟨w.heap.size + 1, o, none⟩ = _ := (blkW ((hb1.block _ (by omega)).trans m2.out)).1
        have HB1 := Lib.hid hb1
        clear hb1
        go_wp2_with fail
        refine (C1 _).mono ?_
        rintro e w2 ⟨rfl, hb2⟩
        have z2 := hb2.size
        have p1 : ∀ o, w2.cell? ⟨w.heap.size, o, none⟩ = _ := (blkW ((hb2.block _ (by omega)).trans ((HB1.out.block _ (by omega)).trans m1.out))).1
        have p2 : ∀ o, w2.cell? ⟨w.heap.size + 1, o, none⟩ = _ := (blkW ((hb2.block _ (by omega)).trans ((HB1.out.block _ (by omega)).trans m2.out))).1
        have HB2 := Lib.hid hb2
        clear hb2
        go_wp2_with fail
        refine (C2 _).mono ?_
        rintro e w3 ⟨rfl, hb3⟩
        go_wp2
        go_ret
        exact ⟨rfl, HB.out.trans ((HB1.out.mono hsW).trans ((HB2.out.mono (by omega)).trans (hb3.mono (by omega))))⟩
theorem order_lifted (X Y : BitVec 128) (w : World) : Calls Try.prog 4 #[.agg #[.int .u64 ((Plain.hiOf (X)).toNat : Int), .int .u64 ((Plain.loOf (X)).toNat : Int)], .agg #[.int .u64 ((Plain.hiOf (Y)).toNat : Int), .int .u64 ((Plain.loOf (Y)).toNat : Int)]] w fun e w' => e = .returned (.bool true) ∧ RowKit.Below w.heap.size w w' := order_walk X Y w
end Go.Proofs.Ytjbmhcjncldnhaa
