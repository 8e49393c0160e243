/- HeadBits: the walk. -/
import Derived.Test.YtjbmhcjncldnhaaPBitsInv
import Derived.Test.YtjbmhcjncldnhaaReg
namespace Go.Proofs.Ytjbmhcjncldnhaa
open Go.RowKit Go.Sort
set_option linter.unusedSimpArgs false
set_option linter.unusedVariables false
attribute [local go_sem ↓] execOp_ld33 execOp_st33
theorem wide24 : ((Try.prog.underlying 24).any wide) = true := by kernel_rfl
theorem wide33 : ((Try.prog.underlying 33).any wide) = true := by kernel_rfl
theorem sz24 {a b : Value} : (Try.prog.info? 24).map (·.size) = some (#[a, b] : Array Value).size := by kernel_rfl
theorem zr33 : (Try.prog.info? 33).map (·.zero) = some (some (.agg (arr fun _ => false))) := by kernel_rfl
theorem sz33 {f : Nat → Bool} : (Try.prog.info? 33).map (·.size) = some (arr f).size := by rw [arr_size]; exact size33
theorem sum_hbit (X : BitVec 128) (k : Nat) : Plain.sumTo (Plain.hbit X) (k + 1) = Plain.sumTo (Plain.hbit X) k + (X.getLsbD k).toNat := rfl

set_option maxRecDepth 100000 in
theorem and127 : ∀ m : Fin 128, bits BinOp.and IntKind.i64 ((m.val : Nat) : Int) 127 = ((m.val : Nat) : Int) := by decide +kernel
set_option maxRecDepth 100000 in
set_option maxHeartbeats 2000000 in
theorem bits_core (X Y : BitVec 128) (n : Int) (hn : (Lit.int .i64 n).wf = true) (w : World) :
    Calls Try.prog 6 #[.agg #[.int .u64 ((Plain.hiOf (X)).toNat : Int), .int .u64 ((Plain.loOf (X)).toNat : Int)], .agg #[.int .u64 ((Plain.hiOf (Y)).toNat : Int), .int .u64 ((Plain.loOf (Y)).toNat : Int)], .int .i64 n] w fun e w' => e = .returned (.bool true) ∧ RowKit.Below w.heap.size w w' := by
  go_enter Try.func6, Try.ntmps6
  go_wp2_with fail
  go_upto_region 1 with (fail)
  rename_i Kc hKc
  have b0 : ((w.alloc (.cells #[.int .u64 ((Plain.hiOf X).toNat : Int), .int .u64 ((Plain.loOf X).toNat : Int)] 24)).alloc (.cells #[.int .u64 ((Plain.hiOf Y).toNat : Int), .int .u64 ((Plain.loOf Y).toNat : Int)] 24)).drew.heap[w.heap.size]? = some (.cells #[.int .u64 ((Plain.hiOf X).toNat : Int), .int .u64 ((Plain.loOf X).toNat : Int)] 24) := (al_lt (by simp)).trans (al_at rfl)
  have b1 : ((w.alloc (.cells #[.int .u64 ((Plain.hiOf X).toNat : Int), .int .u64 ((Plain.loOf X).toNat : Int)] 24)).alloc (.cells #[.int .u64 ((Plain.hiOf Y).toNat : Int), .int .u64 ((Plain.loOf Y).toNat : Int)] 24)).drew.heap[w.heap.size + 1]? = some (.cells #[.int .u64 ((Plain.hiOf Y).toNat : Int), .int .u64 ((Plain.loOf Y).toNat : Int)] 24) := al_at (by simp)
  refine wp_multi_lit [.q (.agg #[.int .u64 ((Plain.hiOf (X)).toNat : Int), .int .u64 ((Plain.loOf (X)).toNat : Int)]), .q (.agg (arr X.getLsbD)), .q (.agg #[.int .u64 ((Plain.hiOf (Y)).toNat : Int), .int .u64 ((Plain.loOf (Y)).toNat : Int)]), .q (.agg (arr Y.getLsbD)), .al 33 (arr fun _ => false), .al 33 (arr fun _ => false), .st 4 1 33 (arr X.getLsbD), .st 5 3 33 (arr Y.getLsbD)] (by kernel_rfl) (by kernel_rfl) ?_ ?_
  · refine ⟨?_, ?_, ?_, ?_, ?_, ?_, ?_, ?_, trivial⟩
    · exact obl_load (by kernel_rfl) rfl b0 wide24 sz24
    · exact obl_call #[.agg #[.int .u64 ((Plain.hiOf (X)).toNat : Int), .int .u64 ((Plain.loOf (X)).toNat : Int)]] (fun a h0 hd => by simp [eval_of (hd 0 16 _ (by kernel_rfl) rfl rfl)]) (by kernel_rfl) (fun W _ => Bits_c X W)
    · exact obl_load (by kernel_rfl) rfl b1 wide24 sz24
    · exact obl_call #[.agg #[.int .u64 ((Plain.hiOf (Y)).toNat : Int), .int .u64 ((Plain.loOf (Y)).toNat : Int)]] (fun a h0 hd => by simp [eval_of (hd 2 18 _ (by kernel_rfl) rfl rfl)]) (by kernel_rfl) (fun W _ => Bits_c Y W)
    · exact obl_alloc zr33
    · exact obl_alloc zr33
    · exact obl_store rfl rfl (by rw [arr_size, arr_size]) rfl rfl sz33 (arr_one _)
    · exact obl_store rfl rfl (by rw [arr_size, arr_size]) rfl rfl sz33 (arr_one _)
  · intro κ W hb hκ hlaid hne
    have l1 := hlaid 6 4 1 33 _ (by decide) rfl
    have l2 := hlaid 7 5 3 33 _ (by decide) rfl
    have g1 := (blkW l1).2.2
    have g2 := (blkW l2).2.2
    simp [MFin, kOf, Mk.val]
    refine hKc _ _ ?_
    clear hKc
    have hz := hb.size
    simp only [World.size_alloc] at hz
    have m1 := (hb.block _ (by simp only [World.size_alloc]; omega)).trans b0
    have m2 := (hb.block _ (by simp only [World.size_alloc]; omega)).trans b1
    have hbW : RowKit.Below w.heap.size w W := by
      refine RowKit.Below.trans ?_ (hb.mono (by simp only [World.size_alloc]; omega))
      exact Below.alloc (Below.alloc (Below.refl _ _) (Nat.le_refl _) _) (by simp) _
    have hsW : w.heap.size ≤ W.heap.size := hbW.size
    generalize κ 4 = x7 at *
    generalize κ 5 = x8 at *
    clear hb hκ hlaid hne b0 b1
    go_wp2_with fail
    go_upto_region 2 with (fail)
    rename_i Kd hKd
    refine wp_multi_lit [.q (.agg (arr X.getLsbD)), .q (.agg (arr X.getLsbD)), .q (.agg (arr X.getLsbD)), .q (.agg (arr X.getLsbD)), .al 33 (arr fun _ => false), .al 33 (arr fun _ => false), .al 33 (arr fun _ => false), .al 33 (arr fun _ => false), .st 4 0 33 (arr X.getLsbD), .st 5 1 33 (arr X.getLsbD), .st 6 2 33 (arr X.getLsbD), .st 7 3 33 (arr X.getLsbD)] (by kernel_rfl) (by kernel_rfl) ?_ ?_
    · refine ⟨?_, ?_, ?_, ?_, ?_, ?_, ?_, ?_, ?_, ?_, ?_, ?_, trivial⟩
      · exact obl_load (by kernel_rfl) rfl l1 wide33 sz33
      · exact obl_load (by kernel_rfl) rfl l1 wide33 sz33
      · exact obl_load (by kernel_rfl) rfl l1 wide33 sz33
      · exact obl_load (by kernel_rfl) rfl l1 wide33 sz33
      · exact obl_alloc zr33
      · exact obl_alloc zr33
      · exact obl_alloc zr33
      · exact obl_alloc zr33
      · exact obl_store rfl rfl (by rw [arr_size, arr_size]) rfl rfl sz33 (arr_one _)
      · exact obl_store rfl rfl (by rw [arr_size, arr_size]) rfl rfl sz33 (arr_one _)
      · exact obl_store rfl rfl (by rw [arr_size, arr_size]) rfl rfl sz33 (arr_one _)
      · exact obl_store rfl rfl (by rw [arr_size, arr_size]) rfl rfl sz33 (arr_one _)
    · intro κ W2 hb hκ hlaid hne
      have e9 := hlaid 8 4 0 33 _ (by decide) rfl
      have e10 := hlaid 9 5 1 33 _ (by decide) rfl
      have e11 := hlaid 10 6 2 33 _ (by decide) rfl
      have e12 := hlaid 11 7 3 33 _ (by decide) rfl
      have k9 := hκ 4 _ _ (by decide) rfl
      have k10 := hκ 5 _ _ (by decide) rfl
      have k11 := hκ 6 _ _ (by decide) rfl
      have k12 := hκ 7 _ _ (by decide) rfl
      have n1 := hne 4 5 (by decide) (by decide) rfl rfl (by decide)
      have n2 := hne 4 6 (by decide) (by decide) rfl rfl (by decide)
      have n3 := hne 4 7 (by decide) (by decide) rfl rfl (by decide)
      have n4 := hne 5 6 (by decide) (by decide) rfl rfl (by decide)
      have n5 := hne 5 7 (by decide) (by decide) rfl rfl (by decide)
      have n6 := hne 6 7 (by decide) (by decide) rfl rfl (by decide)
      simp [MFin, kOf, Mk.val]
      refine hKd _ _ ?_
      clear hKd
      generalize κ 4 = x9 at *
      generalize κ 5 = x10 at *
      generalize κ 6 = x11 at *
      generalize κ 7 = x12 at *
      have D : BApart w x7 x8 x9 x10 x11 x12 := ⟨by omega, by omega, by omega, by omega, by omega, by omega, by omega, by omega, by omega, by omega, by omega, by omega, n1, n2, n3, n4, n5, n6⟩
      have I : BInv w W2 X Y 0 0 0 0 x7 x8 x9 x10 x11 x12 := ⟨hbW.trans (hb.mono hsW), (hb.block _ (by omega)).trans m1, (hb.block _ (by omega)).trans m2, (hb.block _ g1).trans l1, (hb.block _ g2).trans l2, by rw [mix_zero]; exact e9, by rw [mix_zero]; exact e10, by rw [mix_zero]; exact e11, by rw [mix_zero]; exact e12⟩
      have hI := Lib.hid I
      have hD := Lib.hid D
      clear I D hb hκ hlaid hne m1 m2 l1 l2 e9 e10 e11 e12 k9 k10 k11 k12 n1 n2 n3 n4 n5 n6 g1 g2 hz hbW
      go_wp2_with fail
      go_loopw [13, 14] (fun c i wr => ∃ k : Nat, k ≤ 128 ∧ i = .int .i64 k ∧ c = .int .i64 ((Plain.sumTo (Plain.hbit X) k : Nat) : Int) ∧ BInv w wr X Y k k k k x7 x8 x9 x10 x11 x12) (fun _ i _ => 128 - (intOf i).toNat)
      case atStart => exact ⟨0, by omega, rfl, rfl, hI.out⟩
      case round =>
        obtain ⟨k, hk, rfl, rfl, J⟩ := hrel
        have d1 : x9 ≠ x7 := fun e => by have := hD.out.d79; omega
        have d2 : x10 ≠ x7 := fun e => by have := hD.out.d710; omega
        have d3 : x11 ≠ x7 := fun e => by have := hD.out.d711; omega
        have d4 : x9 ≠ x8 := fun e => by have := hD.out.d89; omega
        have d5 : x10 ≠ x8 := fun e => by have := hD.out.d810; omega
        have d6 : x11 ≠ x8 := fun e => by have := hD.out.d811; omega
        have d7 := hD.out.d910
        have d8 := hD.out.d911
        have d9 := hD.out.d912
        have d10 := hD.out.d1011
        have d11 := hD.out.d1012
        have d12 := hD.out.d1112
        have d13 : x12 ≠ x7 := fun e => by have := hD.out.d712; omega
        have d14 : x12 ≠ x8 := fun e => by have := hD.out.d812; omega
        by_cases hlt : k < 128
        · have hi : (k : Int) < 128 := by omega
          have q7 : wr.cell? ⟨x7, k, none⟩ = some (.bool (X.getLsbD k)) := ((blkW J.m7).1 k).trans (arr_get _ k hlt)
          have q8 : wr.cell? ⟨x8, k, none⟩ = some (.bool (Y.getLsbD k)) := ((blkW J.m8).1 k).trans (arr_get _ k hlt)
          have q9 := ((blkW J.m9).1 k).trans (arr_get _ k hlt)
          have q10 := ((blkW J.m10).1 k).trans (arr_get _ k hlt)
          have q11 := ((blkW J.m11).1 k).trans (arr_get _ k hlt)
          have q12 := ((blkW J.m12).1 k).trans (arr_get _ k hlt)
          have f9 := (blkW J.m9).2.1 k
          have f10 := (blkW J.m10).2.1 k
          have f11 := (blkW J.m11).2.1 k
          have f12 := (blkW J.m12).2.1 k
          have hs := sum_hbit X k
          have hsl := Plain.sumTo_le _ (Plain.hbit_le X) k
          have hfar : ∀ (V : World) (p a : Addr) (v : Value), p.block ≠ a.block → (V.setCell p v).cell? a = V.cell? a := fun V p a v h => World.cell?_setCell_far V p a v h
          have hJ := Lib.hid J
          clear J
          generalize hsm : Plain.sumTo (Plain.hbit X) k = sm at *
          have hsmI : (sm : Int) ≤ 128 := by omega
          clear hsm
          cases ex : X.getLsbD k <;> cases ey : Y.getLsbD k <;> rw [ex] at q7 hs <;> rw [ey] at q8 <;> (have HS := Lib.hid hs; clear hs; go_wp2_with fail)
          all_goals go_region
          all_goals (go_wp2_with fail)
          all_goals exact ⟨⟨k + 1, by omega, by go_num, by rw [HS.out]; simp, ((((hJ.out.set9 hD.out (by simp [ex, ey])).set10 hD.out (by simp [ex, ey])).set11 hD.out (by simp [ex, ey])).set12 hD.out (by rw [BitVec.getLsbD_and, BitVec.getLsbD_not, ex, ey, decide_eq_true hlt]; rfl)).drew⟩, by simp [intOf]; omega⟩
        · have hi : ¬ (k : Int) < 128 := by omega
          obtain rfl : k = 128 := by omega
          have t1 := reg_cell J.hx
          have t2 := reg_cell J.hy
          have t3 := reg_ld33 J.m9
          have t4 := reg_ld33 J.m10
          have t5 := reg_ld33 J.m11
          have t6 := reg_ld33 J.m12
          have c7 := (blkW J.m7).1
          have hB := Lib.hid J.below
          have hsW2 := J.below.size
          have A1 : ∀ V, Calls Try.prog 19 #[.agg #[.int .u64 ((Plain.hiOf (X)).toNat : Int), .int .u64 ((Plain.loOf (X)).toNat : Int)], .agg #[.int .u64 ((Plain.hiOf (Y)).toNat : Int), .int .u64 ((Plain.loOf (Y)).toNat : Int)]] V fun e w' => e = .returned (.agg #[.int .u64 ((Plain.hiOf (X &&& Y)).toNat : Int), .int .u64 ((Plain.loOf (X &&& Y)).toNat : Int)]) ∧ RowKit.Below V.heap.size V w' := fun V => And_c rfl rfl rfl rfl V
          have A2 : ∀ V, Calls Try.prog 20 #[.agg #[.int .u64 ((Plain.hiOf (X)).toNat : Int), .int .u64 ((Plain.loOf (X)).toNat : Int)], .agg #[.int .u64 ((Plain.hiOf (Y)).toNat : Int), .int .u64 ((Plain.loOf (Y)).toNat : Int)]] V fun e w' => e = .returned (.agg #[.int .u64 ((Plain.hiOf (X ||| Y)).toNat : Int), .int .u64 ((Plain.loOf (X ||| Y)).toNat : Int)]) ∧ RowKit.Below V.heap.size V w' := fun V => Or_c rfl rfl rfl rfl V
          have A3 : ∀ V, Calls Try.prog 21 #[.agg #[.int .u64 ((Plain.hiOf (X)).toNat : Int), .int .u64 ((Plain.loOf (X)).toNat : Int)], .agg #[.int .u64 ((Plain.hiOf (Y)).toNat : Int), .int .u64 ((Plain.loOf (Y)).toNat : Int)]] V fun e w' => e = .returned (.agg #[.int .u64 ((Plain.hiOf (X ^^^ Y)).toNat : Int), .int .u64 ((Plain.loOf (X ^^^ Y)).toNat : Int)]) ∧ RowKit.Below V.heap.size V w' := fun V => Xor_c rfl rfl rfl rfl V
          have A4 : ∀ V, Calls Try.prog 17 #[.agg #[.int .u64 ((Plain.hiOf (X)).toNat : Int), .int .u64 ((Plain.loOf (X)).toNat : Int)], .agg #[.int .u64 ((Plain.hiOf (Y)).toNat : Int), .int .u64 ((Plain.loOf (Y)).toNat : Int)]] V fun e w' => e = .returned (.agg #[.int .u64 ((Plain.hiOf (X &&& ~~~Y)).toNat : Int), .int .u64 ((Plain.loOf (X &&& ~~~Y)).toNat : Int)]) ∧ RowKit.Below V.heap.size V w' := fun V => Less_c rfl rfl rfl rfl V
          have B1 : ∀ V, Calls Try.prog 13 #[.agg (arr (mix X.getLsbD (X &&& Y).getLsbD 128))] V fun e w' => e = .returned (.agg #[.int .u64 ((Plain.hiOf (X &&& Y)).toNat : Int), .int .u64 ((Plain.loOf (X &&& Y)).toNat : Int)]) ∧ RowKit.Below V.heap.size V w' := fun V => by have := Head_c (mix X.getLsbD (X &&& Y).getLsbD 128) V; rw [mix_all] at this; exact this
          have B2 : ∀ V, Calls Try.prog 13 #[.agg (arr (mix X.getLsbD (X ||| Y).getLsbD 128))] V fun e w' => e = .returned (.agg #[.int .u64 ((Plain.hiOf (X ||| Y)).toNat : Int), .int .u64 ((Plain.loOf (X ||| Y)).toNat : Int)]) ∧ RowKit.Below V.heap.size V w' := fun V => by have := Head_c (mix X.getLsbD (X ||| Y).getLsbD 128) V; rw [mix_all] at this; exact this
          have B3 : ∀ V, Calls Try.prog 13 #[.agg (arr (mix X.getLsbD (X ^^^ Y).getLsbD 128))] V fun e w' => e = .returned (.agg #[.int .u64 ((Plain.hiOf (X ^^^ Y)).toNat : Int), .int .u64 ((Plain.loOf (X ^^^ Y)).toNat : Int)]) ∧ RowKit.Below V.heap.size V w' := fun V => by have := Head_c (mix X.getLsbD (X ^^^ Y).getLsbD 128) V; rw [mix_all] at this; exact this
          have B4 : ∀ V, Calls Try.prog 13 #[.agg (arr (mix X.getLsbD (X &&& ~~~Y).getLsbD 128))] V fun e w' => e = .returned (.agg #[.int .u64 ((Plain.hiOf (X &&& ~~~Y)).toNat : Int), .int .u64 ((Plain.loOf (X &&& ~~~Y)).toNat : Int)]) ∧ RowKit.Below V.heap.size V w' := fun V => by have := Head_c (mix X.getLsbD (X &&& ~~~Y).getLsbD 128) V; rw [mix_all] at this; exact this
          have O1 := fun V => Ones_c X V
          have BY := fun (h0 : 0 ≤ n) (h1 : n < 128) V => Bit_yes (x := ((Plain.hiOf X).toNat : Int)) (y := ((Plain.loOf X).toNat : Int)) (X := X) rfl rfl n h0 h1 V
          have BN := fun (h : ¬ (0 ≤ n ∧ n < 128)) V => Bit_no ((Plain.hiOf X).toNat : Int) ((Plain.loOf X).toNat : Int) n h V
          clear J hI hk hlt
          generalize arr (mix X.getLsbD (X &&& Y).getLsbD 128) = r9 at *
          generalize arr (mix X.getLsbD (X ||| Y).getLsbD 128) = r10 at *
          generalize arr (mix X.getLsbD (X ^^^ Y).getLsbD 128) = r11 at *
          generalize arr (mix X.getLsbD (X &&& ~~~Y).getLsbD 128) = r12 at *
          generalize Plain.sumTo (Plain.hbit X) 128 = sm at *
          generalize ((Plain.hiOf (X &&& Y)).toNat : Int) = ah at *
          generalize ((Plain.loOf (X &&& Y)).toNat : Int) = al at *
          generalize ((Plain.hiOf (X ||| Y)).toNat : Int) = bh at *
          generalize ((Plain.loOf (X ||| Y)).toNat : Int) = bl at *
          generalize ((Plain.hiOf (X ^^^ Y)).toNat : Int) = ch at *
          generalize ((Plain.loOf (X ^^^ Y)).toNat : Int) = cl at *
          generalize ((Plain.hiOf (X &&& ~~~Y)).toNat : Int) = dh at *
          generalize ((Plain.loOf (X &&& ~~~Y)).toNat : Int) = dl at *
          generalize ((Plain.hiOf X).toNat : Int) = xh at *
          generalize ((Plain.loOf X).toNat : Int) = xl at *
          generalize ((Plain.hiOf Y).toNat : Int) = yh at *
          generalize ((Plain.loOf Y).toNat : Int) = yl at *
          have hrun : ∀ (V : World), Calls Try.prog 12 #[] V fun e w' => e = .returned (.bool true) ∧ RowKit.Below V.heap.size V w' := fun V => awake_c V
          by_cases h0 : 0 ≤ n
          · by_cases h1 : n < 128
            · obtain ⟨m, rfl⟩ : ∃ m : Nat, n = m := ⟨n.toNat, by omega⟩
              have hm : m < 128 := by omega
              have q7 : wr.cell? ⟨x7, m, none⟩ = some (.bool (X.getLsbD m)) := (c7 m).trans (arr_get _ m hm)
              have BIT : ∀ V, Calls Try.prog 22 #[.agg #[.int .u64 xh, .int .u64 xl], .int .i64 (m : Int)] V fun e w' => e = .returned (.bool (X.getLsbD m)) ∧ RowKit.Below V.heap.size V w' := fun V => by have := BY h0 h1 V; simpa using this
              clear c7 BY BN
              generalize X.getLsbD m = bb at *
              have hbt : bits BinOp.and IntKind.i64 (m : Int) 127 = (m : Int) := and127 ⟨m, hm⟩
              go_wp2_with fail
              refine wp_region_quiet_below (by kernel_rfl) (by kernel_rfl) ?_; (repeat (go_big_quiet_step ((first | (go_at_call 12; exact Calls.regrown_of (hrun _)) | (go_at_call 19; exact Calls.regrown_of (A1 _)) | (go_at_call 20; exact Calls.regrown_of (A2 _)) | (go_at_call 21; exact Calls.regrown_of (A3 _)) | (go_at_call 17; exact Calls.regrown_of (A4 _)) | (go_at_call_of 13 r9; exact Calls.regrown_of (B1 _)) | (go_at_call_of 13 r10; exact Calls.regrown_of (B2 _)) | (go_at_call_of 13 r11; exact Calls.regrown_of (B3 _)) | (go_at_call_of 13 r12; exact Calls.regrown_of (B4 _)) | (go_at_call 18; exact Calls.regrown_of (O1 _)) | (go_at_call 22; exact Calls.regrown_of (BIT _)))))); refine wpQuiet_nil ?_; intro _ hw'; obtain ⟨⟨dq, osq⟩, hw''⟩ := hw'; subst hw''; go_wp2; go_ret; exact ⟨rfl, below_reg hB.out hsW2 dq osq⟩
            · have BIT := BN (by omega)
              clear c7 BY BN
              go_wp2_with fail
              refine wp_region_quiet_below (by kernel_rfl) (by kernel_rfl) ?_; (repeat (go_big_quiet_step ((first | (go_at_call 12; exact Calls.regrown_of (hrun _)) | (go_at_call 19; exact Calls.regrown_of (A1 _)) | (go_at_call 20; exact Calls.regrown_of (A2 _)) | (go_at_call 21; exact Calls.regrown_of (A3 _)) | (go_at_call 17; exact Calls.regrown_of (A4 _)) | (go_at_call_of 13 r9; exact Calls.regrown_of (B1 _)) | (go_at_call_of 13 r10; exact Calls.regrown_of (B2 _)) | (go_at_call_of 13 r11; exact Calls.regrown_of (B3 _)) | (go_at_call_of 13 r12; exact Calls.regrown_of (B4 _)) | (go_at_call 18; exact Calls.regrown_of (O1 _)) | (go_at_call 22; exact Calls.regrown_of (BIT _)))))); refine wpQuiet_nil ?_; intro _ hw'; obtain ⟨⟨dq, osq⟩, hw''⟩ := hw'; subst hw''; go_wp2; go_ret; exact ⟨rfl, below_reg hB.out hsW2 dq osq⟩
          · have BIT := BN (by omega)
            clear c7 BY BN
            go_wp2_with fail
            refine wp_region_quiet_below (by kernel_rfl) (by kernel_rfl) ?_; (repeat (go_big_quiet_step ((first | (go_at_call 12; exact Calls.regrown_of (hrun _)) | (go_at_call 19; exact Calls.regrown_of (A1 _)) | (go_at_call 20; exact Calls.regrown_of (A2 _)) | (go_at_call 21; exact Calls.regrown_of (A3 _)) | (go_at_call 17; exact Calls.regrown_of (A4 _)) | (go_at_call_of 13 r9; exact Calls.regrown_of (B1 _)) | (go_at_call_of 13 r10; exact Calls.regrown_of (B2 _)) | (go_at_call_of 13 r11; exact Calls.regrown_of (B3 _)) | (go_at_call_of 13 r12; exact Calls.regrown_of (B4 _)) | (go_at_call 18; exact Calls.regrown_of (O1 _)) | (go_at_call 22; exact Calls.regrown_of (BIT _)))))); refine wpQuiet_nil ?_; intro _ hw'; obtain ⟨⟨dq, osq⟩, hw''⟩ := hw'; subst hw''; go_wp2; go_ret; exact ⟨rfl, below_reg hB.out hsW2 dq osq⟩
theorem bits_walk (X Y : BitVec 128) (n : Int) (hn : (Lit.int .i64 n).wf = true) (w : World) :
    Calls Try.prog 6 #[.agg #[.int .u64 ((Plain.hiOf (X)).toNat : Int), .int .u64 ((Plain.loOf (X)).toNat : Int)], .agg #[.int .u64 ((Plain.hiOf (Y)).toNat : Int), .int .u64 ((Plain.loOf (Y)).toNat : Int)], .int .i64 n] w fun e w' => e = .returned (.bool true) ∧ RowKit.Below w.heap.size w w' := bits_core X Y n hn w
end Go.Proofs.Ytjbmhcjncldnhaa
