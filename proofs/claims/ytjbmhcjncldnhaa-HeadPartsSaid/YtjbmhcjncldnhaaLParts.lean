/- HeadParts: what a mask has of a header, and what it leaves, are the header together, and have nothing in common: for every header, every place and size. -/
import Derived.Test.YtjbmhcjncldnhaaLBack
import Derived.Test.YtjbmhcjncldnhaaMulti3
import Derived.Deep.DeepCutAuto
namespace Go.Proofs.Ytjbmhcjncldnhaa
open Go.RowKit Go.Sort
set_option linter.unusedSimpArgs false
set_option linter.unusedVariables false

theorem Plain.parts_or (A M : BitVec 128) : (A &&& M) ||| (A &&& ~~~M) = A := by
  apply BitVec.eq_of_getLsbD_eq; intro i hi; simp only [BitVec.getLsbD_or, BitVec.getLsbD_xor, BitVec.getLsbD_and, BitVec.getLsbD_not, BitVec.getLsbD_zero, hi, decide_true, Bool.true_and]; cases A.getLsbD i <;> cases M.getLsbD i <;> rfl
theorem Plain.parts_xor (A M : BitVec 128) : (A &&& M) ^^^ (A &&& ~~~M) = A := by
  apply BitVec.eq_of_getLsbD_eq; intro i hi; simp only [BitVec.getLsbD_or, BitVec.getLsbD_xor, BitVec.getLsbD_and, BitVec.getLsbD_not, BitVec.getLsbD_zero, hi, decide_true, Bool.true_and]; cases A.getLsbD i <;> cases M.getLsbD i <;> rfl
theorem Plain.parts_and (A M : BitVec 128) : (A &&& M) &&& (A &&& ~~~M) = 0#128 := by
  apply BitVec.eq_of_getLsbD_eq; intro i hi; simp only [BitVec.getLsbD_or, BitVec.getLsbD_xor, BitVec.getLsbD_and, BitVec.getLsbD_not, BitVec.getLsbD_zero, hi, decide_true, Bool.true_and]; cases A.getLsbD i <;> cases M.getLsbD i <;> rfl
theorem Plain.parts_ones (A M : BitVec 128) : ∀ n, n ≤ 128 → sumTo (hbit (A &&& M)) n + sumTo (hbit (A &&& ~~~M)) n = sumTo (hbit A) n
  | 0, _ => rfl
  | n + 1, h => by
    have ih := Plain.parts_ones A M n (by omega)
    have : hbit (A &&& M) n + hbit (A &&& ~~~M) n = hbit A n := by
      simp only [hbit, BitVec.getLsbD_and, BitVec.getLsbD_not, show n < 128 by omega, decide_true, Bool.true_and]
      cases A.getLsbD n <;> cases M.getLsbD n <;> rfl
    simp only [sumTo]; omega
theorem Plain.parts_cmp (A M : BitVec 128) : cmpN (A &&& M).toNat A.toNat ≤ 0 := by
  have : (A &&& M).toNat ≤ A.toNat := by rw [BitVec.toNat_and]; exact Nat.and_le_left
  unfold cmpN; split
  · omega
  · rw [if_neg (by omega)]; omega
theorem zero24 : (Try.prog.info? 24).map (·.zero) = some (some (.agg #[.int .u64 0, .int .u64 0])) := by kernel_rfl
theorem under24 : ((Try.prog.underlying 24).any wide) = true := by kernel_rfl
theorem info24 {a b : Value} : (Try.prog.info? 24).map (·.size) = some (#[a, b] : Array Value).size := by kernel_rfl
set_option maxRecDepth 100000 in
set_option maxHeartbeats 1000000 in
theorem parts_core (A : BitVec 128) (p q : Nat) (hp : p ≤ 255) (hq : q ≤ 255) (n k : Nat) (hn : (q : Int) % 129 = (n : Int)) (hk : (p : Int) % (129 - (n : Int)) = (k : Int)) (hn128 : n ≤ 128) (hkn : k + n ≤ 128) (w : World) :
    Calls Try.prog 7 #[.agg #[.int .u64 ((Plain.hiOf (A)).toNat : Int), .int .u64 ((Plain.loOf (A)).toNat : Int)], .int .u8 (p : Int), .int .u8 (q : Int)] w fun e w' => e = .returned (.bool true) ∧ Below w.heap.size w w' := by
  have hI : (n : Int) ≤ 128 := by omega
  have hI2 : 0 ≤ (n : Int) := by omega
  go_enter Try.func7, Try.ntmps7
  go_wp2_with fail
  refine (Mask_back k n hkn _).mono ?_
  rintro e w1 ⟨rfl, hb⟩
  obtain ⟨c1, f1, g1, e1⟩ := blk (k := w.heap.size) (c := (#[.int .u64 ((Plain.hiOf A).toNat : Int), .int .u64 ((Plain.loOf A).toNat : Int)])) (t := 24) hb (by repeat (first | exact al_at (by simp) | exact e1.out | exact e2.out | exact e3.out | exact e4.out | exact e5.out | exact e6.out | exact e7.out | exact e8.out | exact e9.out | exact e10.out | exact e11.out | exact e12.out | exact e13.out | exact e14.out | exact e15.out | exact e16.out | exact e17.out | exact e18.out | exact e19.out | rw [al_lt (by first | omega | (simp <;> omega))] | rw [sc_ne (by first | omega | (simp <;> omega))]))
  have hz1 := hb.size; (try simp only [World.size_alloc, World.size_setCell, World.size_drew] at hz1); have hb1 := Lib.hid hb; clear hb
  go_wp2_with fail
  go_upto_region 4 with (fail)
  rename_i Kc hKc
  have k0 : w.heap.size ≤ w1.heap.size := by omega
  have b0 : (w1.alloc (.cells #[.int .u64 ((Plain.hiOf (Plain.fm k n)).toNat : Int), .int .u64 ((Plain.loOf (Plain.fm k n)).toNat : Int)] 24)).drew.heap[w.heap.size]? = some (.cells #[.int .u64 ((Plain.hiOf A).toNat : Int), .int .u64 ((Plain.loOf A).toNat : Int)] 24) := (al_lt (by omega)).trans e1.out
  have b1 : (w1.alloc (.cells #[.int .u64 ((Plain.hiOf (Plain.fm k n)).toNat : Int), .int .u64 ((Plain.loOf (Plain.fm k n)).toNat : Int)] 24)).drew.heap[w1.heap.size]? = some (.cells #[.int .u64 ((Plain.hiOf (Plain.fm k n)).toNat : Int), .int .u64 ((Plain.loOf (Plain.fm k n)).toNat : Int)] 24) := al_at rfl
  refine wp_multi_lit [.q (.agg #[.int .u64 ((Plain.hiOf (A)).toNat : Int), .int .u64 ((Plain.loOf (A)).toNat : Int)]), .q (.agg #[.int .u64 ((Plain.hiOf (Plain.fm k n)).toNat : Int), .int .u64 ((Plain.loOf (Plain.fm k n)).toNat : Int)]), .q (.agg #[.int .u64 ((Plain.hiOf (A &&& Plain.fm k n)).toNat : Int), .int .u64 ((Plain.loOf (A &&& Plain.fm k n)).toNat : Int)]), .q (.agg #[.int .u64 ((Plain.hiOf (A)).toNat : Int), .int .u64 ((Plain.loOf (A)).toNat : Int)]), .q (.agg #[.int .u64 ((Plain.hiOf (Plain.fm k n)).toNat : Int), .int .u64 ((Plain.loOf (Plain.fm k n)).toNat : Int)]), .q (.agg #[.int .u64 ((Plain.hiOf (A &&& ~~~(Plain.fm k n))).toNat : Int), .int .u64 ((Plain.loOf (A &&& ~~~(Plain.fm k n))).toNat : Int)]), .al 24 #[.int .u64 0, .int .u64 0], .al 24 #[.int .u64 0, .int .u64 0], .st 6 2 24 #[.int .u64 ((Plain.hiOf (A &&& Plain.fm k n)).toNat : Int), .int .u64 ((Plain.loOf (A &&& Plain.fm k n)).toNat : Int)], .st 7 5 24 #[.int .u64 ((Plain.hiOf (A &&& ~~~(Plain.fm k n))).toNat : Int), .int .u64 ((Plain.loOf (A &&& ~~~(Plain.fm k n))).toNat : Int)]] (by kernel_rfl) (by kernel_rfl) ?_ ?_
  · refine ⟨?_, ?_, ?_, ?_, ?_, ?_, ?_, ?_, ?_, ?_, trivial⟩
    · exact obl_load (by kernel_rfl) rfl b0 under24 info24
    · exact obl_load (by kernel_rfl) rfl b1 under24 info24
    · exact obl_call #[.agg #[.int .u64 ((Plain.hiOf (A)).toNat : Int), .int .u64 ((Plain.loOf (A)).toNat : Int)], .agg #[.int .u64 ((Plain.hiOf (Plain.fm k n)).toNat : Int), .int .u64 ((Plain.loOf (Plain.fm k n)).toNat : Int)]] (fun a h0 hd => by simp [eval_of (hd 0 27 _ (by kernel_rfl) rfl rfl), eval_of (hd 1 28 _ (by kernel_rfl) rfl rfl)]) (by kernel_rfl) (fun W _ => And_c rfl rfl rfl rfl W)
    · exact obl_load (by kernel_rfl) rfl b0 under24 info24
    · exact obl_load (by kernel_rfl) rfl b1 under24 info24
    · exact obl_call #[.agg #[.int .u64 ((Plain.hiOf (A)).toNat : Int), .int .u64 ((Plain.loOf (A)).toNat : Int)], .agg #[.int .u64 ((Plain.hiOf (Plain.fm k n)).toNat : Int), .int .u64 ((Plain.loOf (Plain.fm k n)).toNat : Int)]] (fun a h0 hd => by simp [eval_of (hd 3 30 _ (by kernel_rfl) rfl rfl), eval_of (hd 4 31 _ (by kernel_rfl) rfl rfl)]) (by kernel_rfl) (fun W _ => Less_c rfl rfl rfl rfl W)
    · exact obl_alloc zero24
    · exact obl_alloc zero24
    · exact obl_store rfl rfl rfl rfl rfl info24 (by simp [Value.oneCell'])
    · exact obl_store rfl rfl rfl rfl rfl info24 (by simp [Value.oneCell'])
  · intro κ W hb hκ hlaid hne
    have k1 := hκ 6 24 #[.int .u64 0, .int .u64 0] (by decide) rfl
    have k2 := hκ 7 24 #[.int .u64 0, .int .u64 0] (by decide) rfl
    have l1 := hlaid 8 6 2 24 _ (by decide) rfl
    have l2 := hlaid 9 7 5 24 _ (by decide) rfl
    simp [MFin, kOf, Mk.val]
    refine hKc _ _ ?_
    have hz := hb.size
    simp only [World.size_alloc] at k1 k2 hz
    have r1 := reg_cell ((hb.block _ (by simp only [World.size_alloc]; omega)).trans b0)
    have r2 := reg_cell l1
    have r3 := reg_cell l2
    have hbW : RowKit.Below w.heap.size w W := by
      refine RowKit.Below.trans ?_ (hb.mono (by simp only [World.size_alloc]; omega))
      refine Below.alloc (below_via hb1.out (by simp) (Below.alloc (Below.refl _ _) (Nat.le_refl _) _)) (by omega) _
    have hsW : w.heap.size ≤ W.heap.size := hbW.size
    obtain ⟨s1, hs1⟩ : ∃ s, s = Plain.sumTo (Plain.hbit (A &&& Plain.fm k n)) 128 := ⟨_, rfl⟩
    obtain ⟨s2, hs2⟩ : ∃ s, s = Plain.sumTo (Plain.hbit (A &&& ~~~(Plain.fm k n))) 128 := ⟨_, rfl⟩
    have h12 := Plain.parts_ones A (Plain.fm k n) 128 (Nat.le_refl _)
    have u1 := Plain.sumTo_le _ (Plain.hbit_le (A &&& Plain.fm k n)) 128
    have u2 := Plain.sumTo_le _ (Plain.hbit_le (A &&& ~~~(Plain.fm k n))) 128
    rw [← hs1] at u1 h12
    rw [← hs2] at u2 h12
    have O1 : ∀ W, Calls Try.prog 18 #[.agg #[.int .u64 ((Plain.hiOf (A &&& Plain.fm k n)).toNat : Int), .int .u64 ((Plain.loOf (A &&& Plain.fm k n)).toNat : Int)]] W fun e w' => e = .returned (.int .i64 (s1 : Int)) ∧ RowKit.Below W.heap.size W w' := fun W => by rw [hs1]; exact Ones_c _ W
    have O2 : ∀ W, Calls Try.prog 18 #[.agg #[.int .u64 ((Plain.hiOf (A &&& ~~~(Plain.fm k n))).toNat : Int), .int .u64 ((Plain.loOf (A &&& ~~~(Plain.fm k n))).toNat : Int)]] W fun e w' => e = .returned (.int .i64 (s2 : Int)) ∧ RowKit.Below W.heap.size W w' := fun W => by rw [hs2]; exact Ones_c _ W
    have O3 : ∀ W, Calls Try.prog 18 #[.agg #[.int .u64 ((Plain.hiOf (A)).toNat : Int), .int .u64 ((Plain.loOf (A)).toNat : Int)]] W fun e w' => e = .returned (.int .i64 ((s1 : Int) + (s2 : Int))) ∧ RowKit.Below W.heap.size W w' := fun W => by
      have := Ones_c A W
      rw [← h12] at this
      simpa using this
    have C1 : ∀ W, Calls Try.prog 20 #[.agg #[.int .u64 ((Plain.hiOf (A &&& Plain.fm k n)).toNat : Int), .int .u64 ((Plain.loOf (A &&& Plain.fm k n)).toNat : Int)], .agg #[.int .u64 ((Plain.hiOf (A &&& ~~~(Plain.fm k n))).toNat : Int), .int .u64 ((Plain.loOf (A &&& ~~~(Plain.fm k n))).toNat : Int)]] W fun e w' => e = .returned (.agg #[.int .u64 ((Plain.hiOf (A)).toNat : Int), .int .u64 ((Plain.loOf (A)).toNat : Int)]) ∧ RowKit.Below W.heap.size W w' := fun W => by
      have := Or_c (X := A &&& Plain.fm k n) (Y := A &&& ~~~(Plain.fm k n)) rfl rfl rfl rfl W
      rw [Plain.parts_or] at this; exact this
    have C2 : ∀ W, Calls Try.prog 21 #[.agg #[.int .u64 ((Plain.hiOf (A &&& Plain.fm k n)).toNat : Int), .int .u64 ((Plain.loOf (A &&& Plain.fm k n)).toNat : Int)], .agg #[.int .u64 ((Plain.hiOf (A &&& ~~~(Plain.fm k n))).toNat : Int), .int .u64 ((Plain.loOf (A &&& ~~~(Plain.fm k n))).toNat : Int)]] W fun e w' => e = .returned (.agg #[.int .u64 ((Plain.hiOf (A)).toNat : Int), .int .u64 ((Plain.loOf (A)).toNat : Int)]) ∧ RowKit.Below W.heap.size W w' := fun W => by
      have := Xor_c (X := A &&& Plain.fm k n) (Y := A &&& ~~~(Plain.fm k n)) rfl rfl rfl rfl W
      rw [Plain.parts_xor] at this; exact this
    have C3 : ∀ W, Calls Try.prog 19 #[.agg #[.int .u64 ((Plain.hiOf (A &&& Plain.fm k n)).toNat : Int), .int .u64 ((Plain.loOf (A &&& Plain.fm k n)).toNat : Int)], .agg #[.int .u64 ((Plain.hiOf (A &&& ~~~(Plain.fm k n))).toNat : Int), .int .u64 ((Plain.loOf (A &&& ~~~(Plain.fm k n))).toNat : Int)]] W fun e w' => e = .returned (.agg #[.int .u64 0, .int .u64 0]) ∧ RowKit.Below W.heap.size W w' := fun W => by
      have := And_c (X := A &&& Plain.fm k n) (Y := A &&& ~~~(Plain.fm k n)) rfl rfl rfl rfl W
      rw [Plain.parts_and] at this; exact this
    obtain ⟨cc, hcc⟩ : ∃ s, s = cmpN (A &&& Plain.fm k n).toNat A.toNat := ⟨_, rfl⟩
    have hc0 : cc ≤ 0 := hcc ▸ Plain.parts_cmp A (Plain.fm k n)
    have C4 : ∀ W, Calls Try.prog 16 #[.agg #[.int .u64 ((Plain.hiOf (A &&& Plain.fm k n)).toNat : Int), .int .u64 ((Plain.loOf (A &&& Plain.fm k n)).toNat : Int)], .agg #[.int .u64 ((Plain.hiOf (A)).toNat : Int), .int .u64 ((Plain.loOf (A)).toNat : Int)]] W fun e w' => e = .returned (.int .i64 cc) ∧ RowKit.Below W.heap.size W w' := fun W => by rw [hcc]; exact Compare_c _ _ W
    generalize κ 6 = x1 at *
    generalize κ 7 = x2 at *
    clear hs1 hs2 h12 hcc hb hκ hlaid hne k1 k2 l1 l2 b0 b1 hb1 e1 c1 f1
    generalize ((Plain.hiOf (A &&& Plain.fm k n)).toNat : Int) = ah at *
    generalize ((Plain.loOf (A &&& Plain.fm k n)).toNat : Int) = al at *
    generalize ((Plain.hiOf (A &&& ~~~(Plain.fm k n))).toNat : Int) = bh at *
    generalize ((Plain.loOf (A &&& ~~~(Plain.fm k n))).toNat : Int) = bl at *
    generalize ((Plain.hiOf A).toNat : Int) = ch at *
    generalize ((Plain.loOf A).toNat : Int) = cl at *
    generalize ((Plain.hiOf (Plain.fm k n)).toNat : Int) = dh at *
    generalize ((Plain.loOf (Plain.fm k n)).toNat : Int) = dl at *
    have HB := Lib.hid hbW
    clear hbW
    go_wp2_with fail
    refine wp_region_quiet_below (by kernel_rfl) (by kernel_rfl) ?_; (repeat (go_big_quiet_step ((first | (go_at_call 12; exact Calls.regrown_of (awake_c _)) | (go_at_call 20; exact Calls.regrown_of (C1 _)) | (go_at_call 21; exact Calls.regrown_of (C2 _)) | (go_at_call 19; exact Calls.regrown_of (C3 _)) | (go_at_call 16; exact Calls.regrown_of (C4 _)) | (go_at_call_of 18 ah; exact Calls.regrown_of (O1 _)) | (go_at_call_of 18 bh; exact Calls.regrown_of (O2 _)) | (go_at_call_of 18 ch; exact Calls.regrown_of (O3 _)))))); refine wpQuiet_nil ?_; intro _ hw'; obtain ⟨⟨dq, osq⟩, hw''⟩ := hw'; subst hw''
    go_wp2
    go_ret
    exact ⟨rfl, below_reg HB.out hsW dq osq⟩
theorem parts_lifted (A : BitVec 128) (p q : Int) (hp : (Lit.int .u8 p).wf = true) (hq : (Lit.int .u8 q).wf = true) (w : World) :
    Calls Try.prog 7 #[.agg #[.int .u64 ((Plain.hiOf (A)).toNat : Int), .int .u64 ((Plain.loOf (A)).toNat : Int)], .int .u8 p, .int .u8 q] w fun e w' => e = .returned (.bool true) ∧ RowKit.Below w.heap.size w w' := by
  have h1 := bounds_u8 hp
  have h2 := bounds_u8 hq
  have e1 : q % 129 = ((q.toNat % 129 : Nat) : Int) := by omega
  have hlt : q.toNat % 129 ≤ 128 := by omega
  generalize hn : q.toNat % 129 = n at e1 hlt
  have e2 : p % (129 - (n : Int)) = ((p.toNat % (129 - n) : Nat) : Int) := by
    rw [Int.natCast_emod, show ((p.toNat : Nat) : Int) = p by omega, show ((129 - n : Nat) : Int) = 129 - (n : Int) by omega]
  have hlt2 : p.toNat % (129 - n) < 129 - n := Nat.mod_lt _ (by omega)
  have h := parts_core A p.toNat q.toNat (by omega) (by omega) n (p.toNat % (129 - n)) (by rw [show ((q.toNat : Nat) : Int) = q by omega]; exact e1) (by rw [show ((p.toNat : Nat) : Int) = p by omega]; exact e2) hlt (by omega) w
  rw [show ((p.toNat : Nat) : Int) = p by omega, show ((q.toNat : Nat) : Int) = q by omega] at h
  exact h
end Go.Proofs.Ytjbmhcjncldnhaa
