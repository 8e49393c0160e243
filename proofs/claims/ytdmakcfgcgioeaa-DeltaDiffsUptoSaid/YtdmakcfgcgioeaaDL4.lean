/- Delta: the walk of DeltaDiffs. -/
import Derived.Test.YtdmakcfgcgioeaaDL6
import Derived.Test.YtdmakcfgcgioeaaDTabW
import Derived.Test.YtdmakcfgcgioeaaDPl3
import Derived.Test.YtdmakcfgcgioeaaDObl
namespace Go.Proofs.Ytdmakcfgcgioeaa
open Go.RowKit Go.Maps
set_option linter.unusedSimpArgs false
set_option linter.unusedVariables false
set_option maxRecDepth 100000
theorem shape_iff {T U : List (List (List Ru))} : T.map List.length = U.map List.length ↔ (T.length = U.length ∧ ∀ j, j < T.length → (T.getD j []).length = (U.getD j []).length) := by
  constructor
  · intro h
    refine ⟨by have := congrArg List.length h; simpa using this, fun j _ => shape_at h j⟩
  · rintro ⟨h1, h2⟩
    refine List.ext_getElem (by simpa using h1) fun i a b => ?_
    rw [List.length_map] at a b
    have := h2 i a
    rw [getD_at [] a, getD_at [] b] at this
    simpa using this
/-- what the first loop knows. -/
def OKR (T U : List (List (List Ru))) (i : Nat) (ok : Bool) : Prop :=
  i ≤ T.length ∧ (ok = true ↔ (T.length = U.length ∧ ∀ j, j < i → (T.getD j []).length = (U.getD j []).length))
theorem OKR.step {T U : List (List (List Ru))} {i : Nat} {ok : Bool} (h : OKR T U i ok) (ho : ok = true) (hi : i < T.length) {b : Bool} (hb : b = true ↔ (T.getD i []).length = (U.getD i []).length) : OKR T U (i + 1) b := by
  refine ⟨hi, hb.trans ⟨fun e => ⟨(h.2.1 ho).1, fun j hj => ?_⟩, fun e => e.2 i (by omega)⟩⟩
  by_cases hji : j = i
  · subst hji; exact e
  · exact (h.2.1 ho).2 j (by omega)
theorem OKR.fin {T U : List (List (List Ru))} {i : Nat} {ok : Bool} (h : OKR T U i ok) (he : ok = false ∨ i = T.length) : (ok = true ↔ T.map List.length = U.map List.length) := by
  rw [shape_iff]
  constructor
  · intro ho
    rcases he with e | e
    · rw [e] at ho; exact absurd ho (by simp)
    · exact ⟨(h.2.1 ho).1, fun j hj => (h.2.1 ho).2 j (by omega)⟩
  · rintro ⟨h1, h2⟩
    exact h.2.2 ⟨h1, fun j hj => h2 j (by have := h.1; omega)⟩
theorem Rd.el {W : World} {o : Option Addr} {n cap : Nat} {l : List Ed} (h : Rd W o n cap (l.flatMap ceE)) (hl : l.length = n) : ∃ b f, n ≤ cap ∧ n ≤ 9223372036854775807 ∧ (0 < n → o = some ⟨b, f, none⟩) ∧ ∀ i (hi : i < l.length) k, k < 16 → W.cell? ⟨b, f + (i * 16 + k), none⟩ = (ceE l[i])[k]? := by
  obtain ⟨h1, h2, b, f, h3, h4⟩ := h
  refine ⟨b, f, h1, by simp only [maxLen] at h2; omega, h3, fun i hi k hk => ?_⟩
  have e1 := flat_at (sz := 16) lenE l i hi k hk
  have e2 : k < (ceE l[i]).length := by rw [lenE]; exact hk
  rw [List.getElem?_eq_getElem e2] at e1 ⊢
  exact h4 _ _ e1
theorem ld55_reg {V W : World} {b o i : Nat} {y : Ed} (hb : RowKit.Below V.heap.size V W) (h : ∀ k, k < 16 → V.cell? ⟨b, o + (i * 16 + k), none⟩ = (ceE y)[k]?) : ∀ p : Regrown, (ld55 (.pointer (some ⟨b, o + i * 16, none⟩))).run Try.prog (Sort.grow (redrawn W p.d) p.os) = .ok (.value (.agg #[.int .i64 y.sw, .int .i64 y.tb, .int .i64 y.at_, .bool y.gone, .int .i64 y.r.p, .int .u64 y.r.vh, .int .u64 y.r.vl, .int .u64 y.r.ch, .int .u64 y.r.cl, .int .i64 y.r.kd, .int .i64 y.r.po, .int .i64 y.r.tb, .int .u64 y.r.sh, .int .u64 y.r.sl, .int .u64 y.r.th, .int .u64 y.r.tl])) (Sort.grow (redrawn W p.d) p.os) := fun p => run_ld55 (y := y) fun j v hv => by
  have hj : j < 16 := by have := (List.getElem?_eq_some_iff.1 hv).1; rwa [lenE] at this
  exact reg_c (cell_below hb (by rw [Nat.add_assoc, h j hj]; exact hv)) p
theorem ld53_reg {V W : World} {b o i : Nat} {y : Ru} (hb : RowKit.Below V.heap.size V W) (h : ∀ k, k < 12 → V.cell? ⟨b, o + (i * 12 + k), none⟩ = (ceR y)[k]?) : ∀ p : Regrown, (ld53 (.pointer (some ⟨b, o + i * 12, none⟩))).run Try.prog (Sort.grow (redrawn W p.d) p.os) = .ok (.value (.agg #[.int .i64 y.p, .int .u64 y.vh, .int .u64 y.vl, .int .u64 y.ch, .int .u64 y.cl, .int .i64 y.kd, .int .i64 y.po, .int .i64 y.tb, .int .u64 y.sh, .int .u64 y.sl, .int .u64 y.th, .int .u64 y.tl])) (Sort.grow (redrawn W p.d) p.os) := fun p => run_ld53 (y := y) fun j v hv => by
  have hj : j < 12 := by have := (List.getElem?_eq_some_iff.1 hv).1; rwa [lenR] at this
  exact reg_c (cell_below hb (by rw [Nat.add_assoc, h j hj]; exact hv)) p
theorem ld53_now {V W : World} {b o i : Nat} {y : Ru} (hb : RowKit.Below V.heap.size V W) (h : ∀ k, k < 12 → V.cell? ⟨b, o + (i * 12 + k), none⟩ = (ceR y)[k]?) : (ld53 (.pointer (some ⟨b, o + i * 12, none⟩))).run Try.prog W = .ok (.value (.agg #[.int .i64 y.p, .int .u64 y.vh, .int .u64 y.vl, .int .u64 y.ch, .int .u64 y.cl, .int .i64 y.kd, .int .i64 y.po, .int .i64 y.tb, .int .u64 y.sh, .int .u64 y.sl, .int .u64 y.th, .int .u64 y.tl])) W := run_ld53 (y := y) fun j v hv => by
  have hj : j < 12 := by have := (List.getElem?_eq_some_iff.1 hv).1; rwa [lenR] at this
  exact cell_below hb (by rw [Nat.add_assoc, h j hj]; exact hv)
attribute [local go_sem ↓] eqRR eqEE execOp_ld55 execOp_ld53
set_option maxHeartbeats 16000000 in
theorem diffs4_c (w : World) {A B : Cf} {va vb vc vd ua ub uc ud : Value} (ha : RC w A va vb vc vd) (hb : RC w B ua ub uc ud) (hbA : Bt A.tb) (hbB : Bt B.tb) (hsz : szT A.tb ≤ 9000000 ∧ szT B.tb ≤ 9000000) :
    Calls Try.prog 4 #[.agg #[va, .int .i64 A.ten, vb, vc, vd], .agg #[ua, .int .i64 B.ten, ub, uc, ud]] w fun e w' => e = .returned (.bool true) ∧ RowKit.Below w.heap.size w w' := by
  obtain ⟨o1, c1, o2, c2, o3, c3, o4, c4, rfl, rfl, rfl, rfl⟩ := ha.forms
  obtain ⟨p1, d1, p2, d2, p3, d3, p4, d4, rfl, rfl, rfl, rfl⟩ := hb.forms
  obtain ⟨sA, sB⟩ := hsz
  obtain ⟨W, hW⟩ : ∃ W, Hid (W = (w.alloc (.cells #[.slice o1 A.pt.length c1, .int .i64 A.ten, .slice o2 A.pe.length c2, .slice o3 A.wy.length c3, .slice o4 A.tb.length c4] 31)).alloc (.cells #[.slice p1 B.pt.length d1, .int .i64 B.ten, .slice p2 B.pe.length d2, .slice p3 B.wy.length d3, .slice p4 B.tb.length d4] 31)) := ⟨_, Lib.hid rfl⟩
  have hbx : RowKit.Below w.heap.size w W := by rw [hW.out]; exact below2 _ _ _
  have hm0 : W.heap[w.heap.size]? = some (.cells #[.slice o1 A.pt.length c1, .int .i64 A.ten, .slice o2 A.pe.length c2, .slice o3 A.wy.length c3, .slice o4 A.tb.length c4] 31 (0, 0)) := by rw [hW.out]; exact hpm1 w _ _
  have hm1 : W.heap[w.heap.size + 1]? = some (.cells #[.slice p1 B.pt.length d1, .int .i64 B.ten, .slice p2 B.pe.length d2, .slice p3 B.wy.length d3, .slice p4 B.tb.length d4] 31 (0, 0)) := by rw [hW.out]; exact hpm2 w _ _
  have hltW : w.heap.size + 1 < W.heap.size := by rw [hW.out]; simp
  have HM0 := Lib.hid hm0
  have HM1 := Lib.hid hm1
  have HA := Lib.hid (ha.below hbx)
  have HB := Lib.hid (hb.below hbx)
  have HBA := Lib.hid hbA
  have HBB := Lib.hid hbB
  have hdf := diff_cf W HA.out HB.out hbA hbB (by omega)
  have hle := diffF_len_le A.tb B.tb
  obtain ⟨Ld, hLd⟩ : ∃ L, Hid ((diffR A.tb B.tb).2 = L) := ⟨_, Lib.hid rfl⟩
  obtain ⟨en, hen⟩ : ∃ L, Hid ((diffR A.tb B.tb).1 = L) := ⟨_, Lib.hid rfl⟩
  obtain ⟨nl, hnl⟩ : ∃ L, Hid (Ld.length = L) := ⟨_, Lib.hid rfl⟩
  rw [hLd.out, hen.out, hnl.out] at hdf
  have HDF := Lib.hid hdf
  have HLE := Lib.hid (show (diffF A.tb B.tb).length ≤ 18000000 by omega)
  obtain ⟨i0, hi0, hz0, hz1, hz2⟩ := info_parts inf55
  clear hdf hle hbA hbB
  have y0 : W.cell? ⟨w.heap.size, 0, none⟩ = some (.slice o1 A.pt.length c1) := (cell_b hm0).trans rfl
  have y1 : W.cell? ⟨w.heap.size, 1, none⟩ = some (.int .i64 A.ten) := (cell_b hm0).trans rfl
  have y2 : W.cell? ⟨w.heap.size, 2, none⟩ = some (.slice o2 A.pe.length c2) := (cell_b hm0).trans rfl
  have y3 : W.cell? ⟨w.heap.size, 3, none⟩ = some (.slice o3 A.wy.length c3) := (cell_b hm0).trans rfl
  have y4 : W.cell? ⟨w.heap.size, 4, none⟩ = some (.slice o4 A.tb.length c4) := (cell_b hm0).trans rfl
  have z0 : W.cell? ⟨w.heap.size + 1, 0, none⟩ = some (.slice p1 B.pt.length d1) := (cell_b hm1).trans rfl
  have z1 : W.cell? ⟨w.heap.size + 1, 1, none⟩ = some (.int .i64 B.ten) := (cell_b hm1).trans rfl
  have z2 : W.cell? ⟨w.heap.size + 1, 2, none⟩ = some (.slice p2 B.pe.length d2) := (cell_b hm1).trans rfl
  have z3 : W.cell? ⟨w.heap.size + 1, 3, none⟩ = some (.slice p3 B.wy.length d3) := (cell_b hm1).trans rfl
  have z4 : W.cell? ⟨w.heap.size + 1, 4, none⟩ = some (.slice p4 B.tb.length d4) := (cell_b hm1).trans rfl
  clear hm0 hm1
  go_enter Try.func4, Try.ntmps4
  refine wp_hide ?_
  intro ZZ HZZ
  go_upto_region 1 with (fail)
  rw [← hW.out]
  go_wp2_with fail
  refine HDF.out.mono ?_
  rintro e w1 ⟨ol, cl, rfl, hrd, hb1⟩
  have HRD := Lib.hid hrd
  have hbw := below_st hbx hb1
  obtain ⟨oa, ca, ba, fa, ea, a1, a2, a3, a4⟩ := (HA.out.tb.below (fun _ _ h => h.below (fun _ _ h => h.below hb1) hb1) hb1).get
  obtain ⟨ob, cb, bb, fb, eb, b1, b2, b3, b4⟩ := (HB.out.tb.below (fun _ _ h => h.below (fun _ _ h => h.below hb1) hb1) hb1).get
  cases ea
  cases eb
  obtain ⟨nT, hnT⟩ : ∃ n, Hid (A.tb.length = n) := ⟨_, Lib.hid rfl⟩
  obtain ⟨nU, hnU⟩ : ∃ n, Hid (B.tb.length = n) := ⟨_, Lib.hid rfl⟩
  rw [hnT.out] at a1 a3 y4
  rw [hnU.out] at b1 b3 z4
  have A4t := Lib.hid a4
  have B4t := Lib.hid b4
  have A3t := Lib.hid a3
  have B3t := Lib.hid b3
  have g4 := cell_below hb1 y4
  have k4 := cell_below hb1 z4
  have G4 := Lib.hid g4
  have K4 := Lib.hid k4
  clear hrd a4 b4 a3 b3 HDF y0 y1 y2 y3 y4 z0 z1 z2 z3 z4
  go_wp2_with fail
  go_loopw [7, 8] (fun v7 v8 wr => ∃ (i : Nat) (ok : Bool), v8 = .int .i64 (i : Int) ∧ v7 = .bool ok ∧ OKR A.tb B.tb i ok ∧ RowKit.Below w1.heap.size w1 wr) (fun _ v8 _ => nT - (intOf v8).toNat)
  case atStart =>
    refine ⟨0, _, rfl, rfl, ⟨Nat.zero_le _, ?_⟩, Below.refl _ _⟩
    rw [hnT.out, hnU.out]
    simp
    try omega
  case round =>
    obtain ⟨i, ok, rfl, rfl, hok, hbr⟩ := hrel
    have HOK := Lib.hid hok
    have hin : i ≤ nT := by have := hok.1; rw [hnT.out] at this; exact this
    have y4 := cell_below hbr G4.out
    have z4 := cell_below hbr K4.out
    clear hok
    by_cases hlt : i < nT
    · have hltI : (i : Int) < (nT : Int) := by omega
      cases ok
      · have hR : diffR A.tb B.tb = (1, []) := by unfold diffR; rw [if_neg (fun h => absurd ((HOK.out.fin (.inl rfl)).2 h) (by simp))]
        obtain rfl : (1 : Int) = en := by rw [← hen.out, hR]
        obtain rfl : 0 = nl := by rw [← hnl.out, ← hLd.out, hR]; rfl
        have haw := awake_c wr
        have HAW := Lib.hid haw
        clear haw hR
        go_wp2_with fail
        refine HAW.out.mono ?_
        rintro e w2 ⟨rfl, hb2⟩
        go_wp2_with fail
        (try simp only [Exit.inBlock, Exit.then])
        rw [HZZ.out]
        refine bodyPost_ret (results_tmp rfl _ _ _) rfl ?_
        exact ⟨rfl, below_st (below_st hbw hbr) hb2⟩
      · have hUT : nU = nT := by have := (HOK.out.2.1 rfl).1; rw [hnT.out, hnU.out] at this; exact this.symm
        have hltU : (i : Int) < (nU : Int) := by omega
        have hiT : i < A.tb.length := by rw [hnT.out]; exact hlt
        have hiU : i < B.tb.length := by rw [hnU.out]; omega
        obtain ⟨u1, s1, R1⟩ := A4t.out i hiT
        obtain ⟨u2, s2, R2⟩ := B4t.out i hiU
        obtain ⟨o7, d7, b7, f7, rfl, _⟩ := R1.get
        obtain ⟨o8, d8, b8, f8, rfl, _⟩ := R2.get
        obtain ⟨lx, hlx⟩ : ∃ n, Hid (A.tb[i].length = n) := ⟨_, Lib.hid rfl⟩
        obtain ⟨ly, hly⟩ : ∃ n, Hid (B.tb[i].length = n) := ⟨_, Lib.hid rfl⟩
        rw [hlx.out] at s1
        rw [hly.out] at s2
        obtain rfl := A3t.out (by omega)
        obtain rfl := B3t.out (by omega)
        clear R1 R2
        go_upto_region 6 with (fail)
        have y4 := reg_c y4
        have z4 := reg_c z4
        have y5 := reg_c (cell_below hbr s1)
        have z5 := reg_c (cell_below hbr s2)
        refine wp_region_quiet_below (by kernel_rfl) (by kernel_rfl) ?_; (repeat (go_big_quiet_step (fail))); refine wpQuiet_nil ?_; intro _ hw'; obtain ⟨⟨dq, osq⟩, hw''⟩ := hw'; subst hw''
        go_wp2_with fail
        go_roundw
        case rel =>
          refine ⟨i + 1, _, by go_num, rfl, HOK.out.step rfl hiT ?_, below_st hbr (below_regrown wr dq osq)⟩
          rw [getD_at [] hiT, getD_at [] hiU, hlx.out, hly.out]
          simp
          try omega
        case measure => simp [intOf]; omega
    · have hltI : ¬ (i : Int) < (nT : Int) := by omega
      cases ok
      · have hR : diffR A.tb B.tb = (1, []) := by unfold diffR; rw [if_neg (fun h => absurd ((HOK.out.fin (.inl rfl)).2 h) (by simp))]
        obtain rfl : (1 : Int) = en := by rw [← hen.out, hR]
        obtain rfl : 0 = nl := by rw [← hnl.out, ← hLd.out, hR]; rfl
        have haw := awake_c wr
        have HAW := Lib.hid haw
        clear haw hR
        go_wp2_with fail
        refine HAW.out.mono ?_
        rintro e w2 ⟨rfl, hb2⟩
        go_wp2_with fail
        (try simp only [Exit.inBlock, Exit.then])
        rw [HZZ.out]
        refine bodyPost_ret (results_tmp rfl _ _ _) rfl ?_
        exact ⟨rfl, below_st (below_st hbw hbr) hb2⟩
      · have hsh := (HOK.out.fin (.inr (by rw [hnT.out]; omega))).1 rfl
        have HSH := Lib.hid hsh
        have hR : diffR A.tb B.tb = (0, diffF A.tb B.tb) := by unfold diffR; rw [if_pos hsh]
        obtain rfl : (0 : Int) = en := by rw [← hen.out, hR]
        have hLd2 : Hid (Ld = diffF A.tb B.tb) := Lib.hid (by rw [← hLd.out, hR])
        have HBR := Lib.hid hbr
        clear hsh hR
        go_wp2_with fail
        go_loopw [9, 10] (fun v9 v10 wr => ∃ N : Nat, v10 = .int .i64 (N : Int) ∧ N ≤ nT ∧ O1 ceE 55 16 wr (fun g => w1.heap.size ≤ g) (outF A.tb B.tb N) v9 ∧ RowKit.Below w1.heap.size w1 wr) (fun _ v10 _ => nT - (intOf v10).toNat)
        case atStart =>
          refine ⟨0, rfl, Nat.zero_le _, ?_, below_al hbr _⟩
          unfold O1
          exact Ow.empty HBR.out.size (heap_alloc_new wr _)
        case round =>
          obtain ⟨N, rfl, hN, hown, hbr⟩ := hrel
          have hUT : nU = nT := by have := (shape_iff.1 HSH.out).1; rw [hnT.out, hnU.out] at this; exact this.symm
          have y4 := cell_below hbr G4.out
          have z4 := cell_below hbr K4.out
          have HOWN := Lib.hid hown
          clear hown
          by_cases hlt2 : N < nT
          · have hltI : (N : Int) < (nT : Int) := by omega
            have hltU : (N : Int) < (nU : Int) := by omega
            have hNT : N < A.tb.length := by rw [hnT.out]; exact hlt2
            have hNU : N < B.tb.length := by rw [hnU.out]; omega
            obtain ⟨u1, s1, R1⟩ := A4t.out N hNT
            obtain ⟨u2, s2, R2⟩ := B4t.out N hNU
            have hle : B.tb[N].length = A.tb[N].length := by
              have := (shape_iff.1 HSH.out).2 N hNT
              rw [getD_at [] hNT, getD_at [] hNU] at this
              exact this.symm
            obtain ⟨o7, d7, b7, f7, rfl, p1', p2', p3', p4'⟩ := R1.get
            obtain ⟨o8, d8, b8, f8, rfl, q1', q2', q3', q4'⟩ := R2.get
            obtain ⟨X, hX⟩ : ∃ X, Hid (A.tb[N] = X) := ⟨_, Lib.hid rfl⟩
            obtain ⟨Y, hY⟩ : ∃ X, Hid (B.tb[N] = X) := ⟨_, Lib.hid rfl⟩
            rw [hX.out, hY.out] at hle
            rw [hX.out] at p1' p3' s1
            simp only [hX.out] at p4'
            rw [hY.out] at q1' q3' s2
            simp only [hY.out] at q4'
            obtain ⟨kk, hkk⟩ : ∃ k, Hid (X.length = k) := ⟨_, Lib.hid rfl⟩
            rw [hkk.out] at hle p1' p3' s1
            rw [hle] at q1' q3' s2
            have P3 := Lib.hid p3'
            have Q3 := Lib.hid q3'
            have P4 := Lib.hid p4'
            have Q4 := Lib.hid q4'
            have HLY := Lib.hid hle
            have HS1 := Lib.hid s1
            have HS2 := Lib.hid s2
            obtain rfl := A3t.out (by omega)
            obtain rfl := B3t.out (by omega)
            have hgx : Hid (A.tb.getD N [] = X) := Lib.hid ((getD_at [] hNT).trans hX.out)
            have hgy : Hid (B.tb.getD N [] = Y) := Lib.hid ((getD_at [] hNU).trans hY.out)
            have HUT := Lib.hid hUT
            clear R1 R2 p3' p4' q3' q4' s1 s2 hle hUT
            go_wp2_with fail
            go_loopw [9, 11] (fun v9 v11 wq => ∃ M : Nat, v11 = .int .i64 (M : Int) ∧ M ≤ kk ∧ O1 ceE 55 16 wq (fun g => w1.heap.size ≤ g) (outF A.tb B.tb N ++ inF A.tb B.tb N M) v9 ∧ RowKit.Below w1.heap.size w1 wq) (fun _ v11 _ => kk - (intOf v11).toNat)
            case atStart =>
              refine ⟨0, rfl, Nat.zero_le _, ?_, hbr⟩
              have : inF A.tb B.tb N 0 = [] := rfl
              rw [this, List.append_nil]
              exact HOWN.out
            case round =>
              obtain ⟨M, rfl, hM, hown, hbq⟩ := hrel
              obtain ⟨o9, c9, e9⟩ := Ow.form hown
              obtain ⟨pre, hpre⟩ : ∃ l, Hid (outF A.tb B.tb N ++ inF A.tb B.tb N M = l) := ⟨_, Lib.hid rfl⟩
              rw [hpre.out] at hown e9
              obtain ⟨lp, hlp⟩ : ∃ n, Hid (pre.length = n) := ⟨_, Lib.hid rfl⟩
              rw [hlp.out] at e9
              subst e9
              have HOW0 := Lib.hid hown
              have y4 := cell_below hbq G4.out
              have z4 := cell_below hbq K4.out
              have y5 := cell_below hbq HS1.out
              have z5 := cell_below hbq HS2.out
              clear hown
              by_cases hjk : M < kk
              · have hjkI : (M : Int) < (kk : Int) := by omega
                have hjX : M < X.length := by rw [hkk.out]; exact hjk
                have hjY : M < Y.length := by rw [HLY.out]; exact hjk
                obtain ⟨u3, t1, S1⟩ := P4.out M hjX
                obtain ⟨u4, t2, S2⟩ := Q4.out M hjY
                obtain ⟨X2, hX2⟩ : ∃ X2, Hid (X[M] = X2) := ⟨_, Lib.hid rfl⟩
                obtain ⟨Y2, hY2⟩ : ∃ X2, Hid (Y[M] = X2) := ⟨_, Lib.hid rfl⟩
                have hal : X2.length ≤ 20000000 := by rw [← hX2.out]; exact HBA.out.nl A.tb[N] (List.getElem_mem hNT) X[M] (by rw [hX.out]; exact List.getElem_mem hjX)
                have hbl : Y2.length ≤ 20000000 := by rw [← hY2.out]; exact HBB.out.nl B.tb[N] (List.getElem_mem hNU) Y[M] (by rw [hY.out]; exact List.getElem_mem hjY)
                have htx : tab A.tb N M = X2 := by unfold tab; rw [hgx.out, ← hX2.out]; exact getD_at [] hjX
                have hty : tab B.tb N M = Y2 := by unfold tab; rw [hgy.out, ← hY2.out]; exact getD_at [] hjY
                have hrow : inF A.tb B.tb N (M + 1) = inF A.tb B.tb N M ++ tableF (N : Int) (M : Int) X2 Y2 := by rw [inF_succ]; unfold rowF; rw [htx, hty]
                have HROW := Lib.hid hrow
                have hpl := pre_le A.tb B.tb (n := N) (k := M) hNT (by rw [hgx.out, hkk.out]; omega)
                rw [hpre.out, hlp.out] at hpl
                have HLP : Hid (lp ≤ 20000000) := Lib.hid (by have := HLE.out; omega)
                rw [hX2.out] at S1
                rw [hY2.out] at S2
                obtain ⟨ou, cu, ba1, fa1, rfl, a1', a2', a3', a4'⟩ := S1.get lenR
                obtain ⟨ov, cv, bb1, fb1, rfl, b1', b2', b3', b4'⟩ := S2.get lenR
                obtain ⟨la, hla⟩ : ∃ n, Hid (X2.length = n) := ⟨_, Lib.hid rfl⟩
                obtain ⟨lb, hlb⟩ : ∃ n, Hid (Y2.length = n) := ⟨_, Lib.hid rfl⟩
                obtain ⟨F, hF⟩ : ∃ n, Hid (fromF X2 Y2 = n) := ⟨_, Lib.hid rfl⟩
                obtain ⟨E, hE⟩ : ∃ n, Hid (endF X2 Y2 = n) := ⟨_, Lib.hid rfl⟩
                have A4 := Lib.hid a4'
                have B4 := Lib.hid b4'
                have hEF := endF_le X2 Y2
                rw [hla.out] at a1' a3' hal hEF t1
                rw [hlb.out] at b1' b3' hbl hEF t2
                rw [hF.out, hE.out] at hEF
                have A3 := Lib.hid a3'
                have B3 := Lib.hid b3'
                obtain ⟨hE1, hE2⟩ := hEF
                obtain rfl := P3.out (by omega)
                obtain rfl := Q3.out (by omega)
                have hMN : (N : Int) < (nU : Int) := by have := HUT.out; omega
                clear S1 S2 a3' a4' b3' b4' htx hty hrow hpl
                go_upto_region 16 with (fail)
                have y4 := reg_c y4
                have z4 := reg_c z4
                have y5 := reg_c y5
                have z5 := reg_c z5
                have y6 := reg_c (cell_below hbq t1)
                have z6 := reg_c (cell_below hbq t2)
                refine wp_region_quiet_below (by kernel_rfl) (by kernel_rfl) ?_; (repeat (go_big_quiet_step (fail))); refine wpQuiet_nil ?_; intro _ hw'; obtain ⟨⟨dq, osq⟩, hw''⟩ := hw'; subst hw''
                go_upto_region 17 with (fail)
                refine wp_world (fun V => RowKit.Below wr.heap.size wr V) (below_regrown wr dq osq) ?_
                rintro V0 hbV0
                have HOW : Hid (O1 ceE 55 16 V0 (fun g => w1.heap.size ≤ g) pre (.slice o9 lp c9)) := Lib.hid (by have h9 := HOW0.out; unfold O1 at h9 ⊢; exact h9.below hbV0)
                have hbq := below_st hbq hbV0
                clear y4 z4 y5 z5 y6 z6 HOW0 hbV0 t1 t2
                go_wp2_with fail
                go_loopw [14] (fun v9 wr => ∃ i : Nat, v9 = .int .i64 (i : Int) ∧ i ≤ F ∧ Hid (F = i + fromF (X2.drop i) (Y2.drop i)) ∧ RowKit.Below V0.heap.size V0 wr) (fun v9 _ => F - (intOf v9).toNat)
                case atStart => exact ⟨0, rfl, Nat.zero_le _, Lib.hid (by rw [← hF.out]; simp), Below.refl _ _⟩
                case round =>
                  obtain ⟨i, rfl, hi, hfi, hbr⟩ := hrel
                  have hbr1 := below_st hbq hbr
                  have hst : i < F ∨ i = F := by omega
                  have hin : (∃ (ha : i < X2.length) (hb : i < Y2.length), X2[i] = Y2[i]) ↔ i < F := by
                    constructor
                    · rintro ⟨h1, h2, h3⟩
                      have := fromF_step h1 h2 h3
                      have := hfi.out
                      omega
                    · intro h
                      by_cases h9 : ∃ (ha : i < X2.length) (hb : i < Y2.length), X2[i] = Y2[i]
                      · exact h9
                      · have := fromF_stop h9
                        have := hfi.out
                        omega
                  have HIN := Lib.hid hin
                  clear hin
                  by_cases hlt : i < F
                  · obtain ⟨h1, h2, h3⟩ := HIN.out.2 hlt
                    have hnx := fromF_step h1 h2 h3
                    have HNX := Lib.hid hnx
                    have hia : i < la := by rw [← hla.out]; exact h1
                    have hib : i < lb := by rw [← hlb.out]; exact h2
                    have hiaI : (i : Int) < (la : Int) := by omega
                    have hibI : (i : Int) < (lb : Int) := by omega
                    have ea := Lib.hid (A3.out (by omega))
                    have eb := Lib.hid (B3.out (by omega))
                    obtain ⟨x, hx⟩ : ∃ x, Hid (X2[i] = x) := ⟨_, Lib.hid rfl⟩
                    have px := A4.out i h1
                    have qx := B4.out i h2
                    rw [← h3, hx.out] at qx
                    rw [hx.out] at px
                    rw [ea.out, eb.out]
                    have hde : decide (x = x) = true := by simp
                    clear hnx h3
                    go_upto_region 18 with (fail)
                    have LP := ld53_reg hbr1 px
                    have LQ := ld53_reg hbr1 qx
                    clear px qx
                    refine wp_region_quiet_below (by kernel_rfl) (by kernel_rfl) ?_; (repeat (go_big_quiet_step (fail))); refine wpQuiet_nil ?_; intro _ hw'; obtain ⟨⟨dq, osq⟩, hw''⟩ := hw'; subst hw''
                    go_wp2_with fail
                    go_roundw
                    case rel => exact ⟨i + 1, by go_num, by omega, Lib.hid (by have := hfi.out; have := HNX.out; omega), below_st hbr (below_regrown wr dq osq)⟩
                    case measure => simp [intOf]; omega
                  · obtain rfl : i = F := by omega
                    have hst0 : ¬ (∃ (ha : i < X2.length) (hb : i < Y2.length), X2[i] = Y2[i]) := fun h => hlt (HIN.out.1 h)
                    have HST := Lib.hid hst0
                    clear hst0
                    go_upto_region 18 with (fail)
                    go_cut [121] from 101 to 121 (fun v34 wx => v34 = .bool false ∧ RowKit.Below V0.heap.size V0 wx)
                    case first =>
                      by_cases h1 : i < la
                      rotate_left
                      · have e1 : decide (i < la) = false := decide_eq_false h1
                        have e1' : decide ((i : Int) < (la : Int)) = false := decide_eq_false (by omega)
                        refine wp_region_quiet_below (by kernel_rfl) (by kernel_rfl) ?_; (repeat (go_big_quiet_step (fail))); refine wpQuiet_nil ?_; intro _ hw'; obtain ⟨⟨dq, osq⟩, hw''⟩ := hw'; subst hw''
                        go_wp2_with fail
                        (go_meet; case rel => exact ⟨rfl, below_st hbr (below_regrown wr dq osq)⟩)
                      have hiaI : (i : Int) < (la : Int) := by omega
                      by_cases h2 : i < lb
                      rotate_left
                      · have e1 : decide (i < lb) = false := decide_eq_false h2
                        have e1' : decide ((i : Int) < (lb : Int)) = false := decide_eq_false (by omega)
                        refine wp_region_quiet_below (by kernel_rfl) (by kernel_rfl) ?_; (repeat (go_big_quiet_step (fail))); refine wpQuiet_nil ?_; intro _ hw'; obtain ⟨⟨dq, osq⟩, hw''⟩ := hw'; subst hw''
                        go_wp2_with fail
                        (go_meet; case rel => exact ⟨rfl, below_st hbr (below_regrown wr dq osq)⟩)
                      have hibI : (i : Int) < (lb : Int) := by omega
                      have h1' : i < X2.length := by rw [hla.out]; exact h1
                      have h2' : i < Y2.length := by rw [hlb.out]; exact h2
                      obtain rfl := A3.out (by omega)
                      obtain rfl := B3.out (by omega)
                      obtain ⟨x, hx⟩ : ∃ x, Hid (X2[i] = x) := ⟨_, Lib.hid rfl⟩
                      obtain ⟨y, hy⟩ : ∃ x, Hid (Y2[i] = x) := ⟨_, Lib.hid rfl⟩
                      have px := A4.out i h1'
                      have qx := B4.out i h2'
                      rw [hx.out] at px
                      rw [hy.out] at qx
                      have hxy : x ≠ y := fun e => HST.out ⟨h1', h2', by rw [hx.out, hy.out]; exact e⟩
                      have hde : decide (x = y) = false := decide_eq_false hxy
                      clear hxy
                      have LP := ld53_reg hbr1 px
                      have LQ := ld53_reg hbr1 qx
                      clear px qx
                      refine wp_region_quiet_below (by kernel_rfl) (by kernel_rfl) ?_; (repeat (go_big_quiet_step (fail))); refine wpQuiet_nil ?_; intro _ hw'; obtain ⟨⟨dq, osq⟩, hw''⟩ := hw'; subst hw''
                      go_wp2_with fail
                      (go_meet; case rel => exact ⟨rfl, below_st hbr (below_regrown wr dq osq)⟩)
                    case rest =>
                      obtain ⟨rfl, hb2⟩ := hcut
                      rename_i Kc hKc
                      refine hKc _ _ ?_
                      clear hKc hbr
                      refine wp_world (fun V => V = wc) rfl ?_
                      rintro V rfl
                      have hE9 := hE
                      go_wp2_with fail
                      go_loopw [15] (fun v10 wr => ∃ e : Nat, v10 = .int .i64 (e : Int) ∧ e ≤ E ∧ Hid (E = e + fromF ((X2.drop i).reverse.drop e) ((Y2.drop i).reverse.drop e)) ∧ RowKit.Below V0.heap.size V0 wr) (fun v10 _ => E - (intOf v10).toNat)
                      case atStart => exact ⟨0, rfl, Nat.zero_le _, Lib.hid (by rw [← hE.out]; simp [endF, hF.out]), hb2⟩
                      case round =>
                        obtain ⟨e, rfl, he, hfe, hbr⟩ := hrel
                        have hbr1 := below_st hbq hbr
                        have hin : (e < la - i ∧ e < lb - i ∧ X2[la - 1 - e]? = Y2[lb - 1 - e]?) ↔ e < E := by
                          have key : ∀ (h1 : e < la - i) (h2 : e < lb - i), (X2[la - 1 - e]? = Y2[lb - 1 - e]? ↔ ∃ (ha : e < (X2.drop i).reverse.length) (hb : e < (Y2.drop i).reverse.length), (X2.drop i).reverse[e] = (Y2.drop i).reverse[e]) := fun h1 h2 => by
                            have r1 := rev_at (a := X2) (f := i) (e := e) (by rw [hla.out]; exact h1)
                            have r2 := rev_at (a := Y2) (f := i) (e := e) (by rw [hlb.out]; exact h2)
                            have q1 : X2[la - 1 - e]? = some ((X2.drop i).reverse[e]'(by simp [hla.out]; exact h1)) := by
                              rw [r1, List.getElem?_eq_getElem (by rw [hla.out]; omega)]
                              simp only [hla.out]
                            have q2 : Y2[lb - 1 - e]? = some ((Y2.drop i).reverse[e]'(by simp [hlb.out]; exact h2)) := by
                              rw [r2, List.getElem?_eq_getElem (by rw [hlb.out]; omega)]
                              simp only [hlb.out]
                            rw [q1, q2, Option.some.injEq]
                            exact ⟨fun h => ⟨by simp [hla.out]; exact h1, by simp [hlb.out]; exact h2, h⟩, fun ⟨_, _, h⟩ => h⟩
                          constructor
                          · rintro ⟨h1, h2, h3⟩
                            obtain ⟨k1, k2, k3⟩ := (key h1 h2).1 h3
                            have := fromF_step k1 k2 k3
                            have := hfe.out
                            omega
                          · intro h
                            by_cases h9 : ∃ (ha : e < (X2.drop i).reverse.length) (hb : e < (Y2.drop i).reverse.length), (X2.drop i).reverse[e] = (Y2.drop i).reverse[e]
                            · obtain ⟨k1, k2, k3⟩ := h9
                              have k1' : e < la - i := by have := k1; simp [hla.out] at this; exact this
                              have k2' : e < lb - i := by have := k2; simp [hlb.out] at this; exact this
                              exact ⟨k1', k2', (key k1' k2').2 ⟨k1, k2, k3⟩⟩
                            · have := fromF_stop h9
                              have := hfe.out
                              omega
                        have HIN2 := Lib.hid hin
                        have wa : IntKind.i64.wrap ((i : Int) + (e : Int)) = (i : Int) + (e : Int) := by rw [IntKind.wrap_i64]; omega
                        have wa1 : IntKind.i64.wrap ((la : Int) - 1) = (la : Int) - 1 := by rw [IntKind.wrap_i64]; omega
                        have wb1 : IntKind.i64.wrap ((lb : Int) - 1) = (lb : Int) - 1 := by rw [IntKind.wrap_i64]; omega
                        clear hin
                        by_cases hlt2 : e < E
                        · obtain ⟨h1, h2, h3⟩ := HIN2.out.2 hlt2
                          obtain ⟨ia, hia⟩ : ∃ ia, Hid (la - 1 - e = ia) := ⟨_, Lib.hid rfl⟩
                          obtain ⟨ib, hib⟩ : ∃ ia, Hid (lb - 1 - e = ia) := ⟨_, Lib.hid rfl⟩
                          rw [hia.out, hib.out] at h3
                          have hia' := hia.out
                          have hib' := hib.out
                          have hial : ia < la := by omega
                          have hibl : ib < lb := by omega
                          have hialI : (ia : Int) < (la : Int) := by omega
                          have hiblI : (ib : Int) < (lb : Int) := by omega
                          have wa2 : IntKind.i64.wrap ((la : Int) - 1 - (e : Int)) = (ia : Int) := by rw [IntKind.wrap_i64]; omega
                          have wb2 : IntKind.i64.wrap ((lb : Int) - 1 - (e : Int)) = (ib : Int) := by rw [IntKind.wrap_i64]; omega
                          have c1 : (i : Int) + (e : Int) < (la : Int) := by omega
                          have c2 : (i : Int) + (e : Int) < (lb : Int) := by omega
                          have hA : ia < X2.length := by rw [hla.out]; exact hial
                          have hB : ib < Y2.length := by rw [hlb.out]; exact hibl
                          rw [List.getElem?_eq_getElem hA, List.getElem?_eq_getElem hB, Option.some.injEq] at h3
                          have hnx : fromF ((X2.drop i).reverse.drop e) ((Y2.drop i).reverse.drop e) = fromF ((X2.drop i).reverse.drop (e + 1)) ((Y2.drop i).reverse.drop (e + 1)) + 1 := by
                            refine fromF_step (by simp [hla.out]; exact h1) (by simp [hlb.out]; exact h2) ?_
                            rw [rev_at (by rw [hla.out]; exact h1), rev_at (by rw [hlb.out]; exact h2)]
                            simp only [hla.out, hlb.out, hia.out, hib.out]
                            exact h3
                          have HNX := Lib.hid hnx
                          obtain rfl := A3.out (by omega)
                          obtain rfl := B3.out (by omega)
                          obtain ⟨x, hx⟩ : ∃ x, Hid (X2[ia] = x) := ⟨_, Lib.hid rfl⟩
                          have px := A4.out ia hA
                          have qx := B4.out ib hB
                          rw [← h3, hx.out] at qx
                          rw [hx.out] at px
                          have hde : decide (x = x) = true := by simp
                          clear hnx h3 h1 h2 hia' hib'
                          go_upto_region 21 with (fail)
                          have LP := ld53_reg hbr1 px
                          have LQ := ld53_reg hbr1 qx
                          clear px qx
                          refine wp_region_quiet_below (by kernel_rfl) (by kernel_rfl) ?_; (repeat (go_big_quiet_step (fail))); refine wpQuiet_nil ?_; intro _ hw'; obtain ⟨⟨dq, osq⟩, hw''⟩ := hw'; subst hw''
                          go_wp2_with fail
                          go_roundw
                          case rel => exact ⟨e + 1, by go_num, by omega, Lib.hid (by have := hfe.out; have := HNX.out; omega), below_st hbr (below_regrown wr dq osq)⟩
                          case measure => simp [intOf]; omega
                        · obtain rfl : e = E := by omega
                          have hst0 : ¬ (e < la - i ∧ e < lb - i ∧ X2[la - 1 - e]? = Y2[lb - 1 - e]?) := fun h => hlt2 (HIN2.out.1 h)
                          have HST2 := Lib.hid hst0
                          clear hst0
                          go_upto_region 21 with (fail)
                          go_cut [156] from 124 to 156 (fun v69 wx => v69 = .bool false ∧ RowKit.Below V0.heap.size V0 wx)
                          case first =>
                            by_cases h1 : e < la - i
                            rotate_left
                            · have e1' : decide ((i : Int) + (e : Int) < (la : Int)) = false := decide_eq_false (by omega)
                              refine wp_region_quiet_below (by kernel_rfl) (by kernel_rfl) ?_; (repeat (go_big_quiet_step (fail))); refine wpQuiet_nil ?_; intro _ hw'; obtain ⟨⟨dq, osq⟩, hw''⟩ := hw'; subst hw''
                              go_wp2_with fail
                              (go_meet; case rel => exact ⟨rfl, below_st hbr (below_regrown wr dq osq)⟩)
                            have c1 : (i : Int) + (e : Int) < (la : Int) := by omega
                            by_cases h2 : e < lb - i
                            rotate_left
                            · have e1' : decide ((i : Int) + (e : Int) < (lb : Int)) = false := decide_eq_false (by omega)
                              refine wp_region_quiet_below (by kernel_rfl) (by kernel_rfl) ?_; (repeat (go_big_quiet_step (fail))); refine wpQuiet_nil ?_; intro _ hw'; obtain ⟨⟨dq, osq⟩, hw''⟩ := hw'; subst hw''
                              go_wp2_with fail
                              (go_meet; case rel => exact ⟨rfl, below_st hbr (below_regrown wr dq osq)⟩)
                            have c2 : (i : Int) + (e : Int) < (lb : Int) := by omega
                            obtain ⟨ia, hia⟩ : ∃ ia, Hid (la - 1 - e = ia) := ⟨_, Lib.hid rfl⟩
                            obtain ⟨ib, hib⟩ : ∃ ia, Hid (lb - 1 - e = ia) := ⟨_, Lib.hid rfl⟩
                            have hia' := hia.out
                            have hib' := hib.out
                            have hial : ia < la := by omega
                            have hibl : ib < lb := by omega
                            have hialI : (ia : Int) < (la : Int) := by omega
                            have hiblI : (ib : Int) < (lb : Int) := by omega
                            have wa2 : IntKind.i64.wrap ((la : Int) - 1 - (e : Int)) = (ia : Int) := by rw [IntKind.wrap_i64]; omega
                            have wb2 : IntKind.i64.wrap ((lb : Int) - 1 - (e : Int)) = (ib : Int) := by rw [IntKind.wrap_i64]; omega
                            have hA : ia < X2.length := by rw [hla.out]; exact hial
                            have hB : ib < Y2.length := by rw [hlb.out]; exact hibl
                            obtain rfl := A3.out (by omega)
                            obtain rfl := B3.out (by omega)
                            obtain ⟨x, hx⟩ : ∃ x, Hid (X2[ia] = x) := ⟨_, Lib.hid rfl⟩
                            obtain ⟨y, hy⟩ : ∃ x, Hid (Y2[ib] = x) := ⟨_, Lib.hid rfl⟩
                            have px := A4.out ia hA
                            have qx := B4.out ib hB
                            rw [hx.out] at px
                            rw [hy.out] at qx
                            have hxy : x ≠ y := fun e9 => HST2.out ⟨h1, h2, by rw [hia.out, hib.out, List.getElem?_eq_getElem hA, List.getElem?_eq_getElem hB, hx.out, hy.out, e9]⟩
                            have hde : decide (x = y) = false := decide_eq_false hxy
                            clear hxy h1 h2 hia' hib'
                            have LP := ld53_reg hbr1 px
                            have LQ := ld53_reg hbr1 qx
                            clear px qx
                            refine wp_region_quiet_below (by kernel_rfl) (by kernel_rfl) ?_; (repeat (go_big_quiet_step (fail))); refine wpQuiet_nil ?_; intro _ hw'; obtain ⟨⟨dq, osq⟩, hw''⟩ := hw'; subst hw''
                            go_wp2_with fail
                            (go_meet; case rel => exact ⟨rfl, below_st hbr (below_regrown wr dq osq)⟩)
                          case rest =>
                            obtain ⟨rfl, hb3⟩ := hcut
                            rename_i Kc hKc
                            refine hKc _ _ ?_
                            clear hKc hbr
                            refine wp_world (fun V => V = wc) rfl ?_
                            rintro V3 rfl
                            have wa3 : IntKind.i64.wrap ((la : Int) - (e : Int)) = (la : Int) - (e : Int) := by rw [IntKind.wrap_i64]; omega
                            have wa4 : IntKind.i64.wrap ((la : Int) - (e : Int) - 1) = (la : Int) - (e : Int) - 1 := by rw [IntKind.wrap_i64]; omega
                            have wb4 : IntKind.i64.wrap ((lb : Int) - (e : Int)) = (lb : Int) - (e : Int) := by rw [IntKind.wrap_i64]; omega
                            clear wa wa1 wb1
                            obtain ⟨nd, hnd⟩ : ∃ nd, Hid (la - e - i = nd) := ⟨_, Lib.hid rfl⟩
                            go_wp2_with fail
                            have hnil : pre ++ delF (N : Int) (M : Int) (la - e) 0 = pre := by rw [show delF (N : Int) (M : Int) (la - e) 0 = [] from rfl, List.append_nil]
                            have HNIL := Lib.hid hnil
                            have hbV3 := below_st hbq hb3
                            clear hnil
                            go_loopw [9, 16] (fun v9 v16 wr => ∃ k : Nat, v16 = .int .i64 ((la : Int) - (e : Int) - 1 - (k : Int)) ∧ k ≤ nd ∧ O1 ceE 55 16 wr (fun g => w1.heap.size ≤ g) (pre ++ delF (N : Int) (M : Int) (la - e) k) v9 ∧ RowKit.Below w1.heap.size w1 wr) (fun _ v16 _ => (intOf v16 - (i : Int) + 1).toNat)
                            case atStart =>
                              refine ⟨0, by simp, Nat.zero_le _, ?_, hbV3⟩
                              rw [HNIL.out]
                              have h9 := HOW.out
                              unfold O1 at h9 ⊢
                              exact h9.below hb3
                            case round =>
                              obtain ⟨k, rfl, hk, hown, hbr⟩ := hrel
                              have hnd' := hnd.out
                              obtain ⟨or, cr, eo⟩ := Ow.form hown
                              obtain ⟨nn, hnn⟩ : ∃ nn, Hid ((pre ++ delF (N : Int) (M : Int) (la - e) k).length = nn) := ⟨_, Lib.hid rfl⟩
                              rw [hnn.out] at eo
                              subst eo
                              have hnl9 : nn = lp + k := by rw [← hnn.out, List.length_append, delF_len, hlp.out]
                              have HNL := Lib.hid hnl9
                              have HOWN := Lib.hid hown
                              clear hown hnl9
                              by_cases hlt3 : k < nd
                              · have e1 : (i : Int) ≤ (la : Int) - (e : Int) - 1 - (k : Int) := by omega
                                have w1' : IntKind.i64.wrap ((la : Int) - (e : Int) - 1 - (k : Int) - 1) = (la : Int) - (e : Int) - 1 - (k : Int) - 1 := by rw [IntKind.wrap_i64]; omega
                                have hsucc := delF_succ (N : Int) (M : Int) (la - e) k
                                have hcast : (((la - e : Nat) : Int)) - 1 - (k : Int) = (la : Int) - (e : Int) - 1 - (k : Int) := by omega
                                rw [hcast] at hsucc
                                have HSUCC := Lib.hid hsucc
                                have hp : nn + 1 ≤ maxLen := by have := HNL.out; have := HLP.out; simp only [maxLen]; omega
                                have hq : (nn + 1) * 128 ≤ 140737488355328 := by have := HNL.out; have := HLP.out; omega
                                obtain ⟨xs, hxs⟩ : ∃ xs, Hid ((pre ++ delF (N : Int) (M : Int) (la - e) k).flatMap ceE = xs) := ⟨_, Lib.hid rfl⟩
                                have hlr : Hid (Ow wr (fun g => w1.heap.size ≤ g) 55 16 (.slice or nn cr) nn xs) := Lib.hid (by have := HOWN.out; unfold O1 at this; rw [hnn.out, hxs.out] at this; exact this)
                                have hbs := hbr.size
                                clear hsucc hcast hnd'
                                go_wp2_with (at_builtin; refine wpList_app_ow rfl _ _ 32 rfl (fun g => w1.heap.size ≤ g) 55 i0 (.agg #[.int .i64 0, .int .i64 0, .int .i64 0, .bool false, .int .i64 0, .int .u64 0, .int .u64 0, .int .u64 0, .int .u64 0, .int .i64 0, .int .i64 0, .int .i64 0, .int .u64 0, .int .u64 0, .int .u64 0, .int .u64 0]) 16 128 und32 hi0 hz0 hz1 hz2 rfl (by decide) (.slice or nn cr) nn xs (by simp [Act.eval, Act.put]) (some ⟨wr.heap.size, 0, none⟩) 1 1 (ceE ⟨(N : Int), (M : Int), (la : Int) - (e : Int) - 1 - (k : Int), true, zeroR⟩) (by simp [Act.eval, Act.put]) ((hlr.out).keep fun g hg => al_lt' (hlr.out.lt hg).2) rfl (fun _ => ⟨_, rfl, row_cells2 (cs := ceE ⟨(N : Int), (M : Int), (la : Int) - (e : Int) - 1 - (k : Int), true, zeroR⟩) (heap_alloc_new wr _)⟩) (oneE _) hp hq (by simp; omega) ?_; intro oo co w2 hown2 hg2 hat2 hsm2; have hb9 : RowKit.Below w1.heap.size w1 w2 := below_grown (below_al hbr _) (fun g hgv => (hlr.out.lt hgv).1) hg2; have HO2 := Lib.hid hown2; clear hown2 hg2 hat2 hsm2; have HB9 := Lib.hid hb9; clear hb9)
                                go_roundw
                                case rel =>
                                  refine ⟨k + 1, ?_, by omega, ?_, HB9.out⟩
                                  · congr 1; omega
                                  · unfold O1
                                    rw [HSUCC.out, ← List.append_assoc, List.length_append, List.flatMap_append, hnn.out, hxs.out]
                                    simpa using HO2.out
                                case measure => simp [intOf]; omega
                              · obtain rfl : k = nd := by omega
                                have e1 : ¬ (i : Int) ≤ (la : Int) - (e : Int) - 1 - (k : Int) := by omega
                                have HND := Lib.hid hnd'
                                clear hnd'
                                go_wp2_with fail
                                go_loopw [9, 17] (fun v9 v17 wr => ∃ p : Nat, v17 = .int .i64 (p : Int) ∧ i ≤ p ∧ p + e ≤ lb ∧ O1 ceE 55 16 wr (fun g => w1.heap.size ≤ g) (pre ++ delF (N : Int) (M : Int) (la - e) k ++ addF (N : Int) (M : Int) Y2 i (p - i)) v9 ∧ RowKit.Below w1.heap.size w1 wr) (fun _ v17 _ => ((lb : Int) - (e : Int) - intOf v17).toNat)
                                case atStart =>
                                  refine ⟨i, rfl, Nat.le_refl _, by omega, ?_, hbr⟩
                                  have : addF (N : Int) (M : Int) Y2 i (i - i) = [] := by rw [Nat.sub_self]; rfl
                                  rw [this, List.append_nil]
                                  exact HOWN.out
                                case round =>
                                  obtain ⟨p, rfl, hip, hpl, hown, hbr⟩ := hrel
                                  obtain ⟨or, cr, eo⟩ := Ow.form hown
                                  obtain ⟨nn, hnn⟩ : ∃ nn, Hid ((pre ++ delF (N : Int) (M : Int) (la - e) k ++ addF (N : Int) (M : Int) Y2 i (p - i)).length = nn) := ⟨_, Lib.hid rfl⟩
                                  rw [hnn.out] at eo
                                  subst eo
                                  have HOWN := Lib.hid hown
                                  have hnl9 : nn = lp + k + (p - i) := by rw [← hnn.out, List.length_append, List.length_append, delF_len, addF_len, hlp.out]
                                  have HNL := Lib.hid hnl9
                                  clear hown hnl9
                                  by_cases hlt4 : p + e < lb
                                  · have c1 : (p : Int) < (lb : Int) - (e : Int) := by omega
                                    have c2 : (p : Int) < (lb : Int) := by omega
                                    have hpB : p < Y2.length := by rw [hlb.out]; omega
                                    obtain ⟨x, hx⟩ : ∃ x, Hid (Y2[p] = x) := ⟨_, Lib.hid rfl⟩
                                    have qx := B4.out p hpB
                                    rw [hx.out] at qx
                                    have hsucc := addF_succ (N : Int) (M : Int) Y2 i (p - i)
                                    have hcast : i + (p - i) = p := by omega
                                    have hge : Y2.getD p zeroR = x := by rw [List.getD_eq_getElem?_getD, List.getElem?_eq_getElem hpB, hx.out]; rfl
                                    have hs1 : p + 1 - i = p - i + 1 := by omega
                                    rw [hcast, hge, ← hs1] at hsucc
                                    have HSUCC := Lib.hid hsucc
                                    have hp : nn + 1 ≤ maxLen := by have := HNL.out; have := HND.out; have := HLP.out; simp only [maxLen]; omega
                                    have hq : (nn + 1) * 128 ≤ 140737488355328 := by have := HNL.out; have := HND.out; have := HLP.out; omega
                                    obtain ⟨xs, hxs⟩ : ∃ xs, Hid ((pre ++ delF (N : Int) (M : Int) (la - e) k ++ addF (N : Int) (M : Int) Y2 i (p - i)).flatMap ceE = xs) := ⟨_, Lib.hid rfl⟩
                                    have hlr : Hid (Ow wr (fun g => w1.heap.size ≤ g) 55 16 (.slice or nn cr) nn xs) := Lib.hid (by have := HOWN.out; unfold O1 at this; rw [hnn.out, hxs.out] at this; exact this)
                                    have hbs := hbr.size
                                    clear hsucc hcast hge hs1
                                    try obtain rfl := B3.out (by omega)
                                    have LQ := ld53_now hbr qx
                                    clear qx
                                    go_wp2_with (at_builtin; refine wpList_app_ow rfl _ _ 32 rfl (fun g => w1.heap.size ≤ g) 55 i0 (.agg #[.int .i64 0, .int .i64 0, .int .i64 0, .bool false, .int .i64 0, .int .u64 0, .int .u64 0, .int .u64 0, .int .u64 0, .int .i64 0, .int .i64 0, .int .i64 0, .int .u64 0, .int .u64 0, .int .u64 0, .int .u64 0]) 16 128 und32 hi0 hz0 hz1 hz2 rfl (by decide) (.slice or nn cr) nn xs (by simp [Act.eval, Act.put]) (some ⟨wr.heap.size, 0, none⟩) 1 1 (ceE ⟨(N : Int), (M : Int), (p : Int), false, x⟩) (by simp [Act.eval, Act.put]) ((hlr.out).keep fun g hg => al_lt' (hlr.out.lt hg).2) rfl (fun _ => ⟨_, rfl, row_cells2 (cs := ceE ⟨(N : Int), (M : Int), (p : Int), false, x⟩) (heap_alloc_new wr _)⟩) (oneE _) hp hq (by simp; omega) ?_; intro oo co w2 hown2 hg2 hat2 hsm2; have hb9 : RowKit.Below w1.heap.size w1 w2 := below_grown (below_al hbr _) (fun g hgv => (hlr.out.lt hgv).1) hg2; have HO2 := Lib.hid hown2; clear hown2 hg2 hat2 hsm2; have HB9 := Lib.hid hb9; clear hb9)
                                    go_roundw
                                    case rel =>
                                      refine ⟨p + 1, by go_num, by omega, by omega, ?_, HB9.out⟩
                                      unfold O1
                                      rw [HSUCC.out, ← List.append_assoc, List.length_append, List.flatMap_append, hnn.out, hxs.out]
                                      simpa using HO2.out
                                    case measure => simp [intOf]; omega
                                  · have c1 : ¬ (p : Int) < (lb : Int) - (e : Int) := by omega
                                    go_wp2_with fail
                                    go_roundw
                                    case rel =>
                                      refine ⟨M + 1, by go_num, by omega, ?_, hbr⟩
                                      have h9 := HOWN.out
                                      have hpp : p - i = lb - e - i := by omega
                                      rw [HROW.out]
                                      unfold tableF
                                      rw [hF.out, hE.out, hla.out, hlb.out, hnd.out, ← hpp, ← List.append_assoc, ← List.append_assoc, hpre.out]
                                      exact h9
                                    case measure => simp [intOf]; omega
              · obtain rfl : M = kk := by omega
                have hjkI : ¬ (M : Int) < (M : Int) := by omega
                have hsu := outF_succ A.tb B.tb N
                rw [hgx.out, hkk.out, hpre.out] at hsu
                have HSU := Lib.hid hsu
                clear hsu
                go_wp2_with fail
                go_roundw
                case rel =>
                  refine ⟨N + 1, by go_num, by omega, ?_, hbq⟩
                  rw [HSU.out]
                  exact HOW0.out
                case measure => simp [intOf]; omega
          · obtain rfl : N = nT := by omega
            have hltI : ¬ (N : Int) < (N : Int) := by omega
            have hod : outF A.tb B.tb N = Ld := by rw [hLd2.out]; unfold diffF; rw [hnT.out]
            have hown := HOWN.out
            rw [hod] at hown
            obtain ⟨o9, c9, e9⟩ := Ow.form hown
            rw [hnl.out] at e9
            subst e9
            have how : Ow wr (fun g => w1.heap.size ≤ g) 55 16 (.slice o9 nl c9) nl (Ld.flatMap ceE) := by have := hown; unfold O1 at this; rw [hnl.out] at this; exact this
            have HRW := Lib.hid how.rd
            have HRL := Lib.hid (HRD.out.below hbr)
            have HUT := Lib.hid hUT
            clear hown hod how hUT
            go_wp2_with fail
            go_loopw [18] (fun v18 wq => ∃ k : Nat, v18 = .int .i64 (k : Int) ∧ k ≤ nl ∧ RowKit.Below wr.heap.size wr wq) (fun v18 _ => nl - (intOf v18).toNat)
            case atStart => exact ⟨0, rfl, Nat.zero_le _, Below.refl _ _⟩
            case round =>
              obtain ⟨k, rfl, hk, hbq⟩ := hrel
              by_cases hkl : k < nl
              · have hkI : (k : Int) < (nl : Int) := by omega
                obtain ⟨bw, fw, r1, rm, r2, r3⟩ := HRW.out.el hnl.out
                obtain ⟨bl, fl, l1, lm, l2, l3⟩ := HRL.out.el hnl.out
                have hkL : k < Ld.length := by rw [hnl.out]; exact hkl
                obtain ⟨x, hx⟩ : ∃ x, Hid (Ld[k] = x) := ⟨_, Lib.hid rfl⟩
                have px := r3 k hkL
                have qx := l3 k hkL
                rw [hx.out] at px qx
                obtain rfl := r2 (by omega)
                obtain rfl := l2 (by omega)
                have hde : decide (x = x) = true := by simp
                clear r2 r3 l2 l3
                go_upto_region 36 with (fail)
                have LP := ld55_reg hbq px
                have LQ := ld55_reg hbq qx
                clear px qx
                refine wp_region_quiet_below (by kernel_rfl) (by kernel_rfl) ?_; (repeat (go_big_quiet_step (fail))); refine wpQuiet_nil ?_; intro _ hw'; obtain ⟨⟨dq, osq⟩, hw''⟩ := hw'; subst hw''
                go_wp2_with fail
                go_roundw
                case rel => exact ⟨k + 1, by go_num, by omega, below_st hbq (below_regrown wr dq osq)⟩
                case measure => simp [intOf]; omega
              · obtain rfl : nl = k := by omega
                have hkI : ¬ (nl : Int) < (nl : Int) := by omega
                have haw := awake_c wr
                have HAW := Lib.hid haw
                clear haw
                go_wp2_with fail
                refine HAW.out.mono ?_
                rintro e w2 ⟨rfl, hb2⟩
                go_wp2_with fail
                (try simp only [Exit.inBlock, Exit.then])
                rw [HZZ.out]
                refine bodyPost_ret (results_tmp rfl _ _ _) rfl ?_
                exact ⟨rfl, below_st (below_st hbw (below_st hbr hbq)) hb2⟩
end Go.Proofs.Ytdmakcfgcgioeaa
