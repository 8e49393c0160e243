/- Delta: Diff, the walk. -/
import Derived.Test.YtdmakcfgcgioeaaDDiff
namespace Go.Proofs.Ytdmakcfgcgioeaa
open Go.RowKit Go.Maps
set_option linter.unusedSimpArgs false
set_option linter.unusedVariables false
set_option maxRecDepth 100000
theorem wp_worldL {P : Program} {ops : Array Oper} {Q : Exit → Act → World → Prop} {rest : List Oper} {a : Act} {w : World} (S : World → Prop) (h : S w) (H : ∀ W, S W → wpList P ops Q rest a W) : wpList P ops Q rest a w := H w h
set_option maxHeartbeats 8000000 in
theorem diff_c (w : World) {T U : List (List (List Ru))} {o1 o2 o3 o4 o5 o6 : Option Addr} {n1 n2 n3 n4 n5 n6 c1 c2 c3 c4 c5 c6 : Nat} {x y : Int} {vt ut : Value} (ha : Rows (Rows (Sl ceR)) w T vt) (hb : Rows (Rows (Sl ceR)) w U ut) (hbA : Bt T) (hbB : Bt U) (hlen : (diffF T U).length ≤ 20000000) :
    Calls Try.prog 12 #[.agg #[.slice o1 n1 c1, .int .i64 x, .slice o2 n2 c2, .slice o3 n3 c3, vt], .agg #[.slice o4 n4 c4, .int .i64 y, .slice o5 n5 c5, .slice o6 n6 c6, ut]] w fun e w' => ∃ v, e = .returned (.tuple #[v, .int .i64 (diffR T U).1]) ∧ O1 ceE 55 16 w' (fun g => w.heap.size ≤ g) (diffR T U).2 v ∧ RowKit.Below w.heap.size w w' := by
  have hta := ha
  have htb := hb
  obtain ⟨oa, ca, ba, fa, rfl, a1, a2, a3, a4⟩ := ha.get
  obtain ⟨ob, cb, bb, fb, rfl, b1, b2, b3, b4⟩ := hb.get
  obtain ⟨n, hn⟩ : ∃ n, Hid (T.length = n) := ⟨_, Lib.hid rfl⟩
  obtain ⟨m, hm⟩ : ∃ n, Hid (U.length = n) := ⟨_, Lib.hid rfl⟩
  have A4 := Lib.hid a4
  have B4 := Lib.hid b4
  have HBA := Lib.hid hbA
  have HBB := Lib.hid hbB
  have HLEN := Lib.hid hlen
  obtain ⟨i0, hi0, hz0, hz1, hz2⟩ := info_parts inf55
  clear ha hb a4 b4 hbA hbB hlen
  rw [hn.out] at a1 a3 hta ⊢
  rw [hm.out] at b1 b3 htb ⊢
  have A3 := Lib.hid a3
  have B3 := Lib.hid b3
  have hA := Lib.hid hta
  have hB := Lib.hid htb
  clear a3 b3 hta htb
  obtain ⟨W, hW⟩ : ∃ W, Hid (W = (w.alloc (.cells #[.slice o1 n1 c1, .int .i64 x, .slice o2 n2 c2, .slice o3 n3 c3, .slice oa n ca] 31)).alloc (.cells #[.slice o4 n4 c4, .int .i64 y, .slice o5 n5 c5, .slice o6 n6 c6, .slice ob m cb] 31)) := ⟨_, Lib.hid rfl⟩
  have hbx : RowKit.Below w.heap.size w W := by rw [hW.out]; exact below2 _ _ _
  have hm0 : W.heap[w.heap.size]? = some (.cells #[.slice o1 n1 c1, .int .i64 x, .slice o2 n2 c2, .slice o3 n3 c3, .slice oa n ca] 31 (0, 0)) := by
    rw [hW.out]; exact hpm1 w _ _
  have hm1 : W.heap[w.heap.size + 1]? = some (.cells #[.slice o4 n4 c4, .int .i64 y, .slice o5 n5 c5, .slice o6 n6 c6, .slice ob m cb] 31 (0, 0)) := by
    rw [hW.out]; exact hpm2 w _ _
  have y0 : W.cell? ⟨w.heap.size, 4, none⟩ = some (.slice oa n ca) := (cell_b hm0).trans rfl
  have y1 : W.cell? ⟨w.heap.size + 1, 4, none⟩ = some (.slice ob m cb) := (cell_b hm1).trans rfl
  have heq := eqf_c W (hA.out.below (fun _ _ h => h.below (fun _ _ h => h.below hbx) hbx) hbx) (hB.out.below (fun _ _ h => h.below (fun _ _ h => h.below hbx) hbx) hbx)
  have HEQ := Lib.hid heq
  have HM1 := Lib.hid y1
  clear heq hm0 hm1
  go_enter Try.func12, Try.ntmps12
  go_upto_region 1 with (fail)
  rw [← hW.out]
  go_wp2_with fail
  refine HEQ.out.mono ?_
  rintro e w1 ⟨rfl, hb1⟩
  have hbw := below_st hbx hb1
  have z0 := cell_below hb1 y0
  have z1 := cell_below hb1 y1
  by_cases hne : ¬ T.map List.length = U.map List.length
  · have hd : decide (T.map List.length = U.map List.length) = false := decide_eq_false hne
    have HD := Lib.hid hne
    rw [hd]
    clear hd hne
    go_wp2_with fail
    refine bodyPost_ret (results_tmp2 rfl _ _ _) rfl ?_
    unfold diffR
    rw [if_neg HD.out]
    exact ⟨_, rfl, Ow.nil rfl, hbw⟩
  · have hd : decide (T.map List.length = U.map List.length) = true := decide_eq_true (Decidable.not_not.1 hne)
    have HD := Lib.hid (Decidable.not_not.1 hne)
    rw [hd]
    clear hd hne
    go_wp2_with fail
    go_loopw [6, 19] (fun v6 v19 wr => ∃ i : Nat, v19 = .int .i64 (i : Int) ∧ i ≤ n ∧ O1 ceE 55 16 wr (fun g => w1.heap.size ≤ g) (outF T U i) v6 ∧ RowKit.Below w1.heap.size w1 wr) (fun _ v19 _ => n - (intOf v19).toNat)
    case atStart => exact ⟨0, rfl, Nat.zero_le _, Ow.nil rfl, Below.refl _ _⟩
    case round =>
      obtain ⟨i, rfl, hi, hown, hbr⟩ := hrel
      have hmn : m = n := by
        have := congrArg List.length HD.out
        rw [List.length_map, List.length_map, hn.out, hm.out] at this
        exact this.symm
      by_cases hlt : i < n
      · have hltI : (i : Int) < (n : Int) := by omega
        have hltM : (i : Int) < (m : Int) := by omega
        have hiT : i < T.length := by rw [hn.out]; exact hlt
        have hiU : i < U.length := by rw [hm.out]; omega
        obtain ⟨u1, s1, R1⟩ := A4.out i hiT
        obtain ⟨u2, s2, R2⟩ := B4.out i hiU
        have hle : U[i].length = T[i].length := by
          have h9 := congrArg (fun l => l[i]?) HD.out
          simp only [List.getElem?_map, List.getElem?_eq_getElem hiT, List.getElem?_eq_getElem hiU, Option.map_some, Option.some.injEq] at h9
          exact h9.symm
        obtain ⟨o7, d7, b7, f7, rfl, p1, p2, p3, p4⟩ := R1.get
        obtain ⟨o8, d8, b8, f8, rfl, q1, q2, q3, q4⟩ := R2.get
        obtain ⟨X, hX⟩ : ∃ X, Hid (T[i] = X) := ⟨_, Lib.hid rfl⟩
        obtain ⟨Y, hY⟩ : ∃ X, Hid (U[i] = X) := ⟨_, Lib.hid rfl⟩
        rw [hX.out, hY.out] at hle
        rw [hX.out] at p1 p3 s1
        simp only [hX.out] at p4
        rw [hY.out] at q1 q3 s2
        simp only [hY.out] at q4
        obtain ⟨k, hk⟩ : ∃ k, Hid (X.length = k) := ⟨_, Lib.hid rfl⟩
        rw [hk.out] at hle p1 p3 s1
        rw [hle] at q1 q3 s2
        have P3 := Lib.hid p3
        have Q3 := Lib.hid q3
        have P4 := Lib.hid p4
        have Q4 := Lib.hid q4
        have HLE := Lib.hid hle
        have HS1 := Lib.hid s1
        have HS2 := Lib.hid s2
        obtain rfl := A3.out (by omega)
        obtain rfl := B3.out (by omega)
        have hgx : Hid (T.getD i [] = X) := Lib.hid ((getD_at [] hiT).trans hX.out)
        have hgy : Hid (U.getD i [] = Y) := Lib.hid ((getD_at [] hiU).trans hY.out)
        have hsm := below_st hbw hbr
        have x0 := cell_below hsm s1
        have HOWN := Lib.hid hown
        have HMN := Lib.hid hmn
        clear R1 R2 p3 p4 q3 q4 s1 s2 hle hown hsm hmn y0 y1 z0
        go_wp2_with fail
        go_loopw [6, 26] (fun v6 v26 wq => ∃ j : Nat, v26 = .int .i64 (j : Int) ∧ j ≤ k ∧ O1 ceE 55 16 wq (fun g => w1.heap.size ≤ g) (outF T U i ++ inF T U i j) v6 ∧ RowKit.Below w1.heap.size w1 wq) (fun _ v26 _ => k - (intOf v26).toNat)
        case atStart =>
          refine ⟨0, rfl, Nat.zero_le _, ?_, hbr⟩
          have : inF T U i 0 = [] := rfl
          rw [this, List.append_nil]
          exact HOWN.out
        case round =>
          obtain ⟨j, rfl, hj, hown, hbq⟩ := hrel
          obtain ⟨o9, c9, e9⟩ := Ow.form hown
          obtain ⟨nn, hnn⟩ : ∃ nn, Hid ((outF T U i ++ inF T U i j).length = nn) := ⟨_, Lib.hid rfl⟩
          rw [hnn.out] at e9
          subst e9
          have HOW := Lib.hid hown
          clear hown
          by_cases hjk : j < k
          · have hjkI : (j : Int) < (k : Int) := by omega
            have hjX : j < X.length := by rw [hk.out]; exact hjk
            have hjY : j < Y.length := by rw [HLE.out]; exact hjk
            obtain ⟨u3, t1, S1⟩ := P4.out j hjX
            obtain ⟨u4, t2, S2⟩ := Q4.out j hjY
            have hlb1 : X[j].length ≤ 20000000 := HBA.out.nl T[i] (List.getElem_mem hiT) X[j] (by rw [hX.out]; exact List.getElem_mem hjX)
            have hlb2 : Y[j].length ≤ 20000000 := HBB.out.nl U[i] (List.getElem_mem hiU) Y[j] (by rw [hY.out]; exact List.getElem_mem hjY)
            have htx : tab T i j = X[j] := by unfold tab; rw [hgx.out]; exact getD_at [] hjX
            have hty : tab U i j = Y[j] := by unfold tab; rw [hgy.out]; exact getD_at [] hjY
            have hrow : inF T U i (j + 1) = inF T U i j ++ tableF (i : Int) (j : Int) X[j] Y[j] := by rw [inF_succ]; unfold rowF; rw [htx, hty]
            have hpre := pre_le T U (n := i) (k := j + 1) hiT (by rw [hgx.out, hk.out]; exact hjk)
            rw [hrow, ← List.append_assoc, List.length_append, hnn.out] at hpre
            have HLN := Lib.hid (Nat.le_trans hpre HLEN.out)
            have HROW := Lib.hid hrow
            have hbq' := below_st hbw hbq
            have hct : ∀ V, RowKit.Below w1.heap.size w1 V → Calls Try.prog 21 #[.int .i64 (i : Int), .int .i64 (j : Int), u3, u4] V fun e w' => ∃ v, e = .returned v ∧ O1 ceE 55 16 w' (fun g => V.heap.size ≤ g) (tableF (i : Int) (j : Int) X[j] Y[j]) v ∧ RowKit.Below V.heap.size V w' := fun V hV =>
              table_c V i j (S1.below (below_st hbw hV)) (S2.below (below_st hbw hV)) hlb1 hlb2
            have HCT := Lib.hid hct
            obtain ⟨ou, cu, b, f, rfl, _⟩ := S1.get lenR
            obtain ⟨ov, cv, b', f', rfl, _⟩ := S2.get lenR
            obtain ⟨L, hL⟩ : ∃ L, Hid (tableF (i : Int) (j : Int) X[j] Y[j] = L) := ⟨_, Lib.hid rfl⟩
            obtain ⟨lx, hlx⟩ : ∃ L, Hid (X[j].length = L) := ⟨_, Lib.hid rfl⟩
            obtain ⟨ly, hly⟩ : ∃ L, Hid (Y[j].length = L) := ⟨_, Lib.hid rfl⟩
            rw [hL.out, hlx.out, hly.out] at HCT
            rw [hL.out] at HLN HROW
            rw [hlx.out] at t1
            rw [hly.out] at t2
            obtain rfl := P3.out (by omega)
            obtain rfl := Q3.out (by omega)
            have HK : Hid (∀ V, RowKit.Below w1.heap.size w1 V → V.cell? ⟨b7, f7 + j, none⟩ = some (.slice ou lx cu) ∧ V.cell? ⟨w.heap.size + 1, 4, none⟩ = some (.slice (some ⟨bb, fb, none⟩) m cb) ∧ V.cell? ⟨bb, fb + i, none⟩ = some (.slice (some ⟨b8, f8, none⟩) k d8) ∧ V.cell? ⟨b8, f8 + j, none⟩ = some (.slice ov ly cv)) :=
              Lib.hid fun V hV => ⟨cell_below (below_st hbw hV) t1, cell_below hV z1, cell_below (below_st hbw hV) HS2.out, cell_below (below_st hbw hV) t2⟩
            obtain ⟨g0, g1, g2, g3⟩ := HK.out _ hbq
            have hlr : Hid (Ow wr (fun g => w1.heap.size ≤ g) 55 16 (.slice o9 nn c9) nn ((outF T U i ++ inF T U i j).flatMap ceE)) := Lib.hid (by have := HOW.out; unfold O1 at this; rw [hnn.out] at this; exact this)
            obtain ⟨xs, hxs⟩ : ∃ xs, Hid ((outF T U i ++ inF T U i j).flatMap ceE = xs) := ⟨_, Lib.hid rfl⟩
            rw [hxs.out] at hlr
            clear S1 S2 t1 t2 hlb1 hlb2 htx hty hrow hpre hct
            have HMI : (i : Int) < (m : Int) := by have := HMN.out; omega
            go_upto_region 10 with (fail)
            have hp : nn + L.length ≤ maxLen := by have := HLN.out; simp only [maxLen]; omega
            have hq : (nn + L.length) * 128 ≤ 140737488355328 := by have := HLN.out; omega
            have hs4 := hbq.size
            go_region_held_law (fun w' => w'.cell? ⟨b7, f7 + j, none⟩ = some (.slice ou lx cu) ∧ w'.cell? ⟨w.heap.size + 1, 4, none⟩ = some (.slice (some ⟨bb, fb, none⟩) m cb) ∧ w'.cell? ⟨bb, fb + i, none⟩ = some (.slice (some ⟨b8, f8, none⟩) k d8) ∧ w'.cell? ⟨b8, f8 + j, none⟩ = some (.slice ov ly cv)) ((refine HK.out _ ?_; (focus (repeat (first | exact hbA | exact hbq | refine below_dr ?_ | refine below_al ?_ _))); done))
              (first
                | (go_at_call 21; refine (HCT.out _ (by (repeat (first | exact hbA | exact hbq | refine below_dr ?_ | refine below_al ?_ _)))).mono ?_; rintro e w2 ⟨v2, rfl, hov, hb2⟩; obtain ⟨o5, c5, rfl⟩ := Ow.form hov; have hbR : RowKit.Below wr.heap.size wr w2 := below_st (by (repeat (first | exact Below.refl _ _ | exact hbR | refine below_dr ?_ | refine below_al ?_ _))) hb2; have hbA := below_st hbq hbR; have HOV := Lib.hid hov; clear hov hb2)
                | (refine step_app_ow rfl (.tmp 29) (.tmp 44) 32 rfl (fun g => w1.heap.size ≤ g) 55 i0 (.agg #[.int .i64 0, .int .i64 0, .int .i64 0, .bool false, .int .i64 0, .int .u64 0, .int .u64 0, .int .u64 0, .int .u64 0, .int .i64 0, .int .i64 0, .int .i64 0, .int .u64 0, .int .u64 0, .int .u64 0, .int .u64 0]) 16 128 und32 hi0 hz0 hz1 hz2 rfl (by decide) (.slice o9 nn c9) nn xs (by simp [Act.eval, Act.put]) o5 L.length c5 (L.flatMap ceE) (by simp [Act.eval, Act.put]) 45 rfl (hlr.out.below hbR) (flat_len lenE L) (fun h => (Ow.rd HOV.out).news h) (flat_one oneE L) hp hq hbA.size ?_; intro o6 c6 w6 hown6 hg6 hat6 hsm6; have hbA : RowKit.Below w1.heap.size w1 w6 := below_grown (below_st hbq hbR) (fun g hgv => (hlr.out.lt hgv).1) hg6; have HO6 := Lib.hid hown6; clear hown6 hg6 hat6 hsm6))
            go_wp2_with fail
            have HB9 := Lib.hid hbA
            go_roundw
            case rel =>
              refine ⟨j + 1, by go_num, by omega, ?_, HB9.out⟩
              unfold O1
              rw [HROW.out, ← List.append_assoc, List.length_append, hnn.out, List.flatMap_append, hxs.out]
              exact HO6.out
            case measure => simp [intOf]; omega
          · obtain rfl : j = k := by omega
            have hsu := outF_succ T U i
            rw [hgx.out, hk.out] at hsu
            have HSU := Lib.hid hsu
            clear hsu
            go_wp2_with fail
            go_roundw
            case rel =>
              refine ⟨i + 1, by go_num, by omega, ?_, hbq⟩
              rw [HSU.out]
              exact HOW.out
            case measure => simp [intOf]; omega
      · obtain rfl : i = n := by omega
        have hdf : outF T U i = diffF T U := by unfold diffF; rw [hn.out]
        rw [hdf] at hown
        obtain ⟨o9, c9, e9⟩ := Ow.form hown
        obtain ⟨nn, hnn⟩ : ∃ nn, Hid ((diffF T U).length = nn) := ⟨_, Lib.hid rfl⟩
        rw [hnn.out] at e9
        subst e9
        have how : Ow wr (fun g => w1.heap.size ≤ g) 55 16 (.slice o9 nn c9) nn ((diffF T U).flatMap ceE) := by have := hown; unfold O1 at this; rw [hnn.out] at this; exact this
        have hcl := clipE wr (fun h => how.nn h) how.rd.1 how.rd.2.1
        have HCL := Lib.hid hcl
        have HOW := Lib.hid how
        clear hown hdf hmn how hcl
        go_wp2_with fail
        refine HCL.out.mono ?_
        rintro e w9 ⟨rfl, rfl⟩
        go_wp2_with fail
        refine bodyPost_ret (results_tmp2 rfl _ _ _) rfl ?_
        unfold diffR
        rw [if_pos HD.out]
        refine ⟨_, rfl, ?_, below_st hbw hbr⟩
        unfold O1
        rw [hnn.out]
        exact HOW.out.clip.mono fun g _ h => Nat.le_trans hbw.size h
end Go.Proofs.Ytdmakcfgcgioeaa
