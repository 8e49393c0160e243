/- Delta: Ports, Rules. -/
import Derived.Test.YtdmakcfgcgioeaaDEq
import Derived.Test.YtdmakcfgcgioeaaDCfg
namespace Go.Proofs.Ytdmakcfgcgioeaa
open Go.RowKit Go.Maps
set_option linter.unusedSimpArgs false
set_option linter.unusedVariables false
set_option maxRecDepth 100000
theorem eqRR (x y : Ru) (w : World) : (Op.equalIn 10000 53 (.agg #[.int .i64 x.p, .int .u64 x.vh, .int .u64 x.vl, .int .u64 x.ch, .int .u64 x.cl, .int .i64 x.kd, .int .i64 x.po, .int .i64 x.tb, .int .u64 x.sh, .int .u64 x.sl, .int .u64 x.th, .int .u64 x.tl]) (.agg #[.int .i64 y.p, .int .u64 y.vh, .int .u64 y.vl, .int .u64 y.ch, .int .u64 y.cl, .int .i64 y.kd, .int .i64 y.po, .int .i64 y.tb, .int .u64 y.sh, .int .u64 y.sl, .int .u64 y.th, .int .u64 y.tl])).run Try.prog w = .ok (decide (x = y)) w := by
  rw [eqR]
  cases x; cases y
  simp only [Ru.mk.injEq]
theorem eqPP (x y : Pt) (w : World) : (Op.equalIn 10000 73 (.agg #[.int .i64 x.kind, .int .i64 x.ten, .int .i64 x.peer, .int .i64 x.at_, .int .i64 x.cost]) (.agg #[.int .i64 y.kind, .int .i64 y.ten, .int .i64 y.peer, .int .i64 y.at_, .int .i64 y.cost])).run Try.prog w = .ok (decide (x = y)) w := by
  rw [eqP]
  cases x; cases y
  simp only [Pt.mk.injEq]
theorem eq22 (x y : Int × Int) (w : World) : (Op.equalIn 10000 63 (.agg #[.int .i64 x.1, .int .i64 x.2]) (.agg #[.int .i64 y.1, .int .i64 y.2])).run Try.prog w = .ok (decide (x = y)) w := by
  rw [eq2]
  cases x; cases y
  simp only [Prod.mk.injEq]
theorem eq33 (x y : Int × Int × Int) (w : World) : (Op.equalIn 10000 65 (.agg #[.int .i64 x.1, .int .i64 x.2.1, .int .i64 x.2.2]) (.agg #[.int .i64 y.1, .int .i64 y.2.1, .int .i64 y.2.2])).run Try.prog w = .ok (decide (x = y)) w := by
  rw [eqW]
  obtain ⟨a, b, c⟩ := x; obtain ⟨a', b', c'⟩ := y
  simp only [Prod.mk.injEq]
theorem eqEE (x y : Ed) (w : World) : (Op.equalIn 10000 55 (.agg #[.int .i64 x.sw, .int .i64 x.tb, .int .i64 x.at_, .bool x.gone, .int .i64 x.r.p, .int .u64 x.r.vh, .int .u64 x.r.vl, .int .u64 x.r.ch, .int .u64 x.r.cl, .int .i64 x.r.kd, .int .i64 x.r.po, .int .i64 x.r.tb, .int .u64 x.r.sh, .int .u64 x.r.sl, .int .u64 x.r.th, .int .u64 x.r.tl]) (.agg #[.int .i64 y.sw, .int .i64 y.tb, .int .i64 y.at_, .bool y.gone, .int .i64 y.r.p, .int .u64 y.r.vh, .int .u64 y.r.vl, .int .u64 y.r.ch, .int .u64 y.r.cl, .int .i64 y.r.kd, .int .i64 y.r.po, .int .i64 y.r.tb, .int .u64 y.r.sh, .int .u64 y.r.sl, .int .u64 y.r.th, .int .u64 y.r.tl])).run Try.prog w = .ok (decide (x = y)) w := by
  rw [eqE]
  obtain ⟨a, b, c, d, r⟩ := x; obtain ⟨a', b', c', d', r'⟩ := y
  cases r; cases r'
  simp only [Ed.mk.injEq, Ru.mk.injEq]
theorem Rows.get {α : Type} {P : World → α → Value → Prop} {W : World} {L : List α} {v : Value} (h : Rows P W L v) : ∃ o c b off, v = .slice o L.length c ∧ L.length ≤ c ∧ c ≤ 9223372036854775807 ∧ (0 < L.length → o = some ⟨b, off, none⟩) ∧ ∀ i (hi : i < L.length), ∃ u, W.cell? ⟨b, off + i, none⟩ = some u ∧ P W L[i] u := by
  obtain ⟨o, c, vs, h1, _, ⟨h2, h3, b, off, h4, h5⟩, h6, h7⟩ := h
  exact ⟨o, c, b, off, h1, h2, h3, h4, fun i hi => by obtain ⟨u, h8, h9⟩ := h7 i hi; exact ⟨u, h5 i u h8, h9⟩⟩
theorem Sl.get {α : Type} {ce : α → List Value} {sz : Nat} (hce : ∀ x, (ce x).length = sz) {W : World} {l : List α} {v : Value} (h : Sl ce W l v) : ∃ o c b off, v = .slice o l.length c ∧ l.length ≤ c ∧ c ≤ 9223372036854775807 ∧ (0 < l.length → o = some ⟨b, off, none⟩) ∧ ∀ i (hi : i < l.length) k, k < sz → W.cell? ⟨b, off + (i * sz + k), none⟩ = (ce l[i])[k]? := by
  obtain ⟨o, c, h1, _, ⟨h2, h3, b, off, h4, h5⟩⟩ := h
  refine ⟨o, c, b, off, h1, h2, h3, h4, fun i hi k hk => ?_⟩
  have e1 := flat_at hce l i hi k hk
  obtain ⟨u, hu⟩ : ∃ u, (ce l[i])[k]? = some u := ⟨_, List.getElem?_eq_getElem (by rw [hce l[i]]; exact hk)⟩
  rw [hu] at e1 ⊢
  exact h5 _ u e1
theorem take_ne {α : Type} {A B : List α} {i : Nat} (ha : i < A.length) (hb : i < B.length) (h : A[i] ≠ B[i]) : A ≠ B := fun e => by subst e; exact h rfl
theorem takes_eq {α : Type} {A B : List α} {i n : Nat} (hA : A.length = n) (hB : B.length = n) (hi : n ≤ i) (h : A.take i = B.take i) : A = B := by
  rw [List.take_of_length_le (by omega), List.take_of_length_le (by omega)] at h
  exact h
theorem takes_snoc {α : Type} {A B : List α} {i : Nat} (ha : i < A.length) (hb : i < B.length) (h : A.take i = B.take i) (he : A[i] = B[i]) : A.take (i + 1) = B.take (i + 1) := by
  have e1 := take_snoc A i ha
  have e2 := take_snoc B i hb
  rw [e1, e2, h, he]
theorem Ru.dec_self (x : Ru) : decide (x = x) = true := by simp
set_option maxHeartbeats 4000000 in
attribute [local go_sem ↓] eqRR in
theorem rules_c (w : World) {va vb : Value} {A B : List (List Ru)} (ha : Rows (Sl ceR) w A va) (hb : Rows (Sl ceR) w B vb) :
    Calls Try.prog 18 #[va, vb] w fun e w' => e = .returned (.bool (decide (A = B))) ∧ RowKit.Below w.heap.size w w' := by
  obtain ⟨oa, ca, ba, fa, rfl, a1, a2, a3, a4⟩ := ha.get
  obtain ⟨ob, cb, bb, fb, rfl, b1, b2, b3, b4⟩ := hb.get
  obtain ⟨n, hn⟩ : ∃ n, Hid (A.length = n) := ⟨_, Lib.hid rfl⟩
  obtain ⟨m, hm⟩ : ∃ n, Hid (B.length = n) := ⟨_, Lib.hid rfl⟩
  have A4 := Lib.hid a4
  have B4 := Lib.hid b4
  clear ha hb a4 b4
  rw [hn.out] at a1 a3 ⊢
  rw [hm.out] at b1 b3 ⊢
  have A3 := Lib.hid a3
  have B3 := Lib.hid b3
  clear a3 b3
  by_cases hnm : n = m
  rotate_left
  · have e1 : ((n : Int) != (m : Int)) = true := by simp; omega
    have hne : decide (A = B) = false := decide_eq_false (fun e => hnm (by rw [← hn.out, ← hm.out, e]))
    have HNE := Lib.hid hne
    clear hne hnm
    go_enter Try.func18, Try.ntmps18
    go_wp2_with fail
    go_ret
    rw [HNE.out]
    exact ⟨rfl, Below.refl _ _⟩
  subst hnm
  go_enter Try.func18, Try.ntmps18
  go_wp2_with fail
  go_loopw [5] (fun v5 wr => ∃ i : Nat, v5 = .int .i64 (i : Int) ∧ i ≤ n ∧ Hid (A.take i = B.take i) ∧ RowKit.Below w.heap.size w wr) (fun v5 _ => n - (intOf v5).toNat)
  case atStart => exact ⟨0, rfl, Nat.zero_le _, Lib.hid rfl, Below.refl _ _⟩
  case round =>
    obtain ⟨i, rfl, hi, htk, hbr⟩ := hrel
    by_cases hlt : i < n
    · have hltI : (i : Int) < (n : Int) := by omega
      have hiA : i < A.length := by rw [hn.out]; exact hlt
      have hiB : i < B.length := by rw [hm.out]; exact hlt
      obtain ⟨ua, c1, s1⟩ := A4.out i hiA
      obtain ⟨ub, c2, s2⟩ := B4.out i hiB
      obtain ⟨oc, cc, bc, fc, rfl, p1, p2, p3, p4⟩ := s1.get lenR
      obtain ⟨od, cd, bd, fd, rfl, q1, q2, q3, q4⟩ := s2.get lenR
      obtain ⟨x, hx⟩ : ∃ x, Hid (A[i] = x) := ⟨_, Lib.hid rfl⟩
      obtain ⟨y, hy⟩ : ∃ x, Hid (B[i] = x) := ⟨_, Lib.hid rfl⟩
      rw [hx.out] at p1 p3 c1
      rw [hy.out] at q1 q3 c2
      simp only [hx.out] at p4
      simp only [hy.out] at q4
      have hne : x ≠ y → Hid (decide (A = B) = false) := fun h => decide_eq_false (take_ne hiA hiB (by rw [hx.out, hy.out]; exact h))
      have HNE := Lib.hid hne
      have hsn : x = y → Hid (A.take (i + 1) = B.take (i + 1)) := fun h => takes_snoc hiA hiB htk.out (by rw [hx.out, hy.out]; exact h)
      have HSN := Lib.hid hsn
      obtain ⟨l, hl⟩ : ∃ n, Hid (x.length = n) := ⟨_, Lib.hid rfl⟩
      obtain ⟨k, hk⟩ : ∃ n, Hid (y.length = n) := ⟨_, Lib.hid rfl⟩
      rw [hl.out] at p1 p3 c1
      rw [hk.out] at q1 q3 c2
      have P3 := Lib.hid p3
      have Q3 := Lib.hid q3
      have P4 := Lib.hid p4
      have Q4 := Lib.hid q4
      obtain ea := Lib.hid (A3.out (by omega))
      obtain eb := Lib.hid (B3.out (by omega))
      rw [ea.out, eb.out]
      have z0 := cell_below hbr c1
      have z1 := cell_below hbr c2
      have Z0 := Lib.hid c1
      have Z1 := Lib.hid c2
      clear p3 q3 p4 q4 hne hsn s1 s2 c1 c2
      by_cases hlk : l = k
      rotate_left
      · have e1 : ((l : Int) != (k : Int)) = true := by simp; omega
        have hnn := HNE.out (fun e => hlk (by rw [← hl.out, ← hk.out, e]))
        clear hlk
        go_upto_region 6 with (fail)
        have z0' := reg_c z0
        have z1' := reg_c z1
        refine wp_region_quiet_below (by kernel_rfl) (by kernel_rfl) ?_; (repeat (go_big_quiet_step (fail))); refine wpQuiet_nil ?_; intro _ hw'; obtain ⟨⟨dq, osq⟩, hw''⟩ := hw'; subst hw''
        go_wp2_with fail
        go_ret
        rw [hnn.out]
        exact ⟨rfl, below_st hbr (below_regrown wr dq osq)⟩
      subst hlk
      go_upto_region 6 with (fail)
      have z0' := reg_c z0
      have z1' := reg_c z1
      refine wp_region_quiet_below (by kernel_rfl) (by kernel_rfl) ?_; (repeat (go_big_quiet_step (fail))); refine wpQuiet_nil ?_; intro _ hw'; obtain ⟨⟨dq, osq⟩, hw''⟩ := hw'; subst hw''
      go_upto_region 8 with (fail)
      refine wp_world (fun V => RowKit.Below w.heap.size w V) (below_st hbr (below_regrown wr dq osq)) ?_
      rintro V hbV
      clear z0 z1 z0' z1'
      go_wp2_with fail
      go_loopw [6] (fun v6 wr => ∃ j : Nat, v6 = .int .i64 (j : Int) ∧ j ≤ l ∧ Hid (x.take j = y.take j) ∧ RowKit.Below w.heap.size w wr) (fun v6 _ => l - (intOf v6).toNat)
      case atStart => exact ⟨0, rfl, Nat.zero_le _, Lib.hid rfl, hbV⟩
      case round =>
        obtain ⟨j, rfl, hj, htj, hbk⟩ := hrel
        have z0 := cell_below hbk Z0.out
        have z1 := cell_below hbk Z1.out
        by_cases hjl : j < l
        · have hjI : (j : Int) < (l : Int) := by omega
          have hjx : j < x.length := by rw [hl.out]; exact hjl
          have hjy : j < y.length := by rw [hk.out]; exact hjl
          obtain ⟨r, hr⟩ : ∃ r, Hid (x[j] = r) := ⟨_, Lib.hid rfl⟩
          obtain ⟨s, hs⟩ : ∃ r, Hid (y[j] = r) := ⟨_, Lib.hid rfl⟩
          have px := P4.out j hjx
          have qx := Q4.out j hjy
          rw [hr.out] at px
          rw [hs.out] at qx
          obtain ec := Lib.hid (P3.out (by omega))
          obtain ed := Lib.hid (Q3.out (by omega))
          rw [ec.out] at z0
          rw [ed.out] at z1
          have PX := Lib.hid px
          have QX := Lib.hid qx
          have hne2 : r ≠ s → Hid (decide (A = B) = false) := fun h => HNE.out (take_ne hjx hjy (by rw [hr.out, hs.out]; exact h))
          have hsn2 : r = s → Hid (x.take (j + 1) = y.take (j + 1)) := fun h => takes_snoc hjx hjy htj.out (by rw [hr.out, hs.out]; exact h)
          have HNE2 := Lib.hid hne2
          have HSN2 := Lib.hid hsn2
          clear px qx hne2 hsn2
          go_upto_region 11 with (fail)
          have z0' := reg_c z0
          have z1' := reg_c z1
          have p0 := reg_c (show wr.cell? ⟨bc, fc + j * 12, none⟩ = some (.int .i64 r.p) from cell_below hbk (by have := PX.out 0 (by decide); rw [← Nat.add_assoc] at this; exact this))
          have p1 := reg_c (show wr.cell? ⟨bc, fc + j * 12 + 1, none⟩ = some (.int .u64 r.vh) from cell_below hbk (by have := PX.out 1 (by decide); rw [← Nat.add_assoc] at this; exact this))
          have p2 := reg_c (show wr.cell? ⟨bc, fc + j * 12 + 2, none⟩ = some (.int .u64 r.vl) from cell_below hbk (by have := PX.out 2 (by decide); rw [← Nat.add_assoc] at this; exact this))
          have p3 := reg_c (show wr.cell? ⟨bc, fc + j * 12 + 3, none⟩ = some (.int .u64 r.ch) from cell_below hbk (by have := PX.out 3 (by decide); rw [← Nat.add_assoc] at this; exact this))
          have p4 := reg_c (show wr.cell? ⟨bc, fc + j * 12 + 4, none⟩ = some (.int .u64 r.cl) from cell_below hbk (by have := PX.out 4 (by decide); rw [← Nat.add_assoc] at this; exact this))
          have p5 := reg_c (show wr.cell? ⟨bc, fc + j * 12 + 5, none⟩ = some (.int .i64 r.kd) from cell_below hbk (by have := PX.out 5 (by decide); rw [← Nat.add_assoc] at this; exact this))
          have p6 := reg_c (show wr.cell? ⟨bc, fc + j * 12 + 6, none⟩ = some (.int .i64 r.po) from cell_below hbk (by have := PX.out 6 (by decide); rw [← Nat.add_assoc] at this; exact this))
          have p7 := reg_c (show wr.cell? ⟨bc, fc + j * 12 + 7, none⟩ = some (.int .i64 r.tb) from cell_below hbk (by have := PX.out 7 (by decide); rw [← Nat.add_assoc] at this; exact this))
          have p8 := reg_c (show wr.cell? ⟨bc, fc + j * 12 + 8, none⟩ = some (.int .u64 r.sh) from cell_below hbk (by have := PX.out 8 (by decide); rw [← Nat.add_assoc] at this; exact this))
          have p9 := reg_c (show wr.cell? ⟨bc, fc + j * 12 + 9, none⟩ = some (.int .u64 r.sl) from cell_below hbk (by have := PX.out 9 (by decide); rw [← Nat.add_assoc] at this; exact this))
          have p10 := reg_c (show wr.cell? ⟨bc, fc + j * 12 + 10, none⟩ = some (.int .u64 r.th) from cell_below hbk (by have := PX.out 10 (by decide); rw [← Nat.add_assoc] at this; exact this))
          have p11 := reg_c (show wr.cell? ⟨bc, fc + j * 12 + 11, none⟩ = some (.int .u64 r.tl) from cell_below hbk (by have := PX.out 11 (by decide); rw [← Nat.add_assoc] at this; exact this))
          have q0 := reg_c (show wr.cell? ⟨bd, fd + j * 12, none⟩ = some (.int .i64 s.p) from cell_below hbk (by have := QX.out 0 (by decide); rw [← Nat.add_assoc] at this; exact this))
          have q1 := reg_c (show wr.cell? ⟨bd, fd + j * 12 + 1, none⟩ = some (.int .u64 s.vh) from cell_below hbk (by have := QX.out 1 (by decide); rw [← Nat.add_assoc] at this; exact this))
          have q2 := reg_c (show wr.cell? ⟨bd, fd + j * 12 + 2, none⟩ = some (.int .u64 s.vl) from cell_below hbk (by have := QX.out 2 (by decide); rw [← Nat.add_assoc] at this; exact this))
          have q3 := reg_c (show wr.cell? ⟨bd, fd + j * 12 + 3, none⟩ = some (.int .u64 s.ch) from cell_below hbk (by have := QX.out 3 (by decide); rw [← Nat.add_assoc] at this; exact this))
          have q4 := reg_c (show wr.cell? ⟨bd, fd + j * 12 + 4, none⟩ = some (.int .u64 s.cl) from cell_below hbk (by have := QX.out 4 (by decide); rw [← Nat.add_assoc] at this; exact this))
          have q5 := reg_c (show wr.cell? ⟨bd, fd + j * 12 + 5, none⟩ = some (.int .i64 s.kd) from cell_below hbk (by have := QX.out 5 (by decide); rw [← Nat.add_assoc] at this; exact this))
          have q6 := reg_c (show wr.cell? ⟨bd, fd + j * 12 + 6, none⟩ = some (.int .i64 s.po) from cell_below hbk (by have := QX.out 6 (by decide); rw [← Nat.add_assoc] at this; exact this))
          have q7 := reg_c (show wr.cell? ⟨bd, fd + j * 12 + 7, none⟩ = some (.int .i64 s.tb) from cell_below hbk (by have := QX.out 7 (by decide); rw [← Nat.add_assoc] at this; exact this))
          have q8 := reg_c (show wr.cell? ⟨bd, fd + j * 12 + 8, none⟩ = some (.int .u64 s.sh) from cell_below hbk (by have := QX.out 8 (by decide); rw [← Nat.add_assoc] at this; exact this))
          have q9 := reg_c (show wr.cell? ⟨bd, fd + j * 12 + 9, none⟩ = some (.int .u64 s.sl) from cell_below hbk (by have := QX.out 9 (by decide); rw [← Nat.add_assoc] at this; exact this))
          have q10 := reg_c (show wr.cell? ⟨bd, fd + j * 12 + 10, none⟩ = some (.int .u64 s.th) from cell_below hbk (by have := QX.out 10 (by decide); rw [← Nat.add_assoc] at this; exact this))
          have q11 := reg_c (show wr.cell? ⟨bd, fd + j * 12 + 11, none⟩ = some (.int .u64 s.tl) from cell_below hbk (by have := QX.out 11 (by decide); rw [← Nat.add_assoc] at this; exact this))
          by_cases hrs : r = s
          rotate_left
          · have e1 : decide (r = s) = false := decide_eq_false hrs
            have hnn := HNE2.out hrs
            clear hrs
            refine wp_region_quiet_below (by kernel_rfl) (by kernel_rfl) ?_; (repeat (go_big_quiet_step (fail))); refine wpQuiet_nil ?_; intro _ hw'; obtain ⟨⟨dq, osq⟩, hw''⟩ := hw'; subst hw''
            go_wp2_with fail
            go_ret
            rw [hnn.out]
            exact ⟨rfl, below_st hbk (below_regrown wr dq osq)⟩
          have e1 : decide (r = s) = true := decide_eq_true hrs
          have hss := HSN2.out hrs
          have HRS := Lib.hid hrs
          clear hrs
          refine wp_region_quiet_below (by kernel_rfl) (by kernel_rfl) ?_; (repeat (go_big_quiet_step (fail))); refine wpQuiet_nil ?_; intro _ hw'; obtain ⟨⟨dq, osq⟩, hw''⟩ := hw'; subst hw''
          go_wp2_with fail
          go_roundw
          case rel => exact ⟨j + 1, by go_num, by omega, hss, below_st hbk (below_regrown wr dq osq)⟩
          case measure => simp [intOf]; omega
        · obtain rfl : j = l := by omega
          have hxy : x = y := takes_eq hl.out hk.out (Nat.le_refl _) htj.out
          have hss := HSN.out hxy
          have HXY := Lib.hid hxy
          clear hxy
          go_wp2_with fail
          go_roundw
          case rel => exact ⟨i + 1, by go_num, by omega, hss, hbk⟩
          case measure => simp [intOf]; omega
    · obtain rfl : i = n := by omega
      have hab : decide (A = B) = true := decide_eq_true (takes_eq hn.out hm.out (Nat.le_refl _) htk.out)
      have HAB := Lib.hid hab
      clear hab
      go_wp2_with fail
      go_ret
      rw [HAB.out]
      exact ⟨rfl, hbr⟩
set_option maxHeartbeats 4000000 in
attribute [local go_sem ↓] eqPP in
theorem ports_c (w : World) {va vb : Value} {A B : List (List Pt)} (ha : Rows (Sl ceP) w A va) (hb : Rows (Sl ceP) w B vb) :
    Calls Try.prog 17 #[.agg #[va], .agg #[vb]] w fun e w' => e = .returned (.bool (decide (A = B))) ∧ RowKit.Below w.heap.size w w' := by
  obtain ⟨oa, ca, ba, fa, rfl, a1, a2, a3, a4⟩ := ha.get
  obtain ⟨ob, cb, bb, fb, rfl, b1, b2, b3, b4⟩ := hb.get
  obtain ⟨n, hn⟩ : ∃ n, Hid (A.length = n) := ⟨_, Lib.hid rfl⟩
  obtain ⟨m, hm⟩ : ∃ n, Hid (B.length = n) := ⟨_, Lib.hid rfl⟩
  have A4 := Lib.hid a4
  have B4 := Lib.hid b4
  clear ha hb a4 b4
  rw [hn.out] at a1 a3 ⊢
  rw [hm.out] at b1 b3 ⊢
  have A3 := Lib.hid a3
  have B3 := Lib.hid b3
  clear a3 b3
  obtain ⟨W, hW⟩ : ∃ W, Hid (W = (w.alloc (.cells #[.slice oa n ca] 24)).alloc (.cells #[.slice ob m cb] 24)) := ⟨_, Lib.hid rfl⟩
  have hbx : RowKit.Below w.heap.size w W := by rw [hW.out]; exact below2 _ _ _
  have hs : W.heap.size = w.heap.size + 1 + 1 := by rw [hW.out]; simp
  have hm0 : W.heap[w.heap.size]? = some (.cells #[.slice oa n ca] 24 (0, 0)) := by
    rw [hW.out, al_lt' (by simp)]; exact heap_alloc_new w _
  have hm1 : W.heap[w.heap.size + 1]? = some (.cells #[.slice ob m cb] 24 (0, 0)) := by
    have := heap_alloc_new (w.alloc (.cells #[.slice oa n ca] 24)) (.cells #[.slice ob m cb] 24)
    rw [hW.out]
    rwa [World.size_alloc] at this
  have x0 : W.cell? ⟨w.heap.size, 0, none⟩ = some (.slice oa n ca) := (cell_b hm0).trans rfl
  have x1 : W.cell? ⟨w.heap.size + 1, 0, none⟩ = some (.slice ob m cb) := (cell_b hm1).trans rfl
  have X0 := Lib.hid x0
  have X1 := Lib.hid x1
  clear hm0 hm1
  by_cases hnm : n = m
  rotate_left
  · have e1 : ((n : Int) != (m : Int)) = true := by simp; omega
    have hne : decide (A = B) = false := decide_eq_false (fun e => hnm (by rw [← hn.out, ← hm.out, e]))
    have HNE := Lib.hid hne
    clear hne hnm
    go_enter Try.func17, Try.ntmps17
    go_upto_region 1 with (fail)
    rw [← hW.out]
    go_wp2_with fail
    go_ret
    rw [HNE.out]
    exact ⟨rfl, hbx⟩
  subst hnm
  go_enter Try.func17, Try.ntmps17
  go_upto_region 1 with (fail)
  rw [← hW.out]
  go_wp2_with fail
  go_loopw [5] (fun v5 wr => ∃ i : Nat, v5 = .int .i64 (i : Int) ∧ i ≤ n ∧ Hid (A.take i = B.take i) ∧ RowKit.Below w.heap.size w wr ∧ RowKit.Below W.heap.size W wr) (fun v5 _ => n - (intOf v5).toNat)
  case atStart => exact ⟨0, rfl, Nat.zero_le _, Lib.hid rfl, hbx, Below.refl _ _⟩
  case round =>
    obtain ⟨i, rfl, hi, htk, hbr, hbR⟩ := hrel
    have y0 := cell_below hbR X0.out
    have y1 := cell_below hbR X1.out
    by_cases hlt : i < n
    · have hltI : (i : Int) < (n : Int) := by omega
      have hiA : i < A.length := by rw [hn.out]; exact hlt
      have hiB : i < B.length := by rw [hm.out]; exact hlt
      obtain ⟨ua, c1, s1⟩ := A4.out i hiA
      obtain ⟨ub, c2, s2⟩ := B4.out i hiB
      obtain ⟨oc, cc, bc, fc, rfl, p1, p2, p3, p4⟩ := s1.get lenP
      obtain ⟨od, cd, bd, fd, rfl, q1, q2, q3, q4⟩ := s2.get lenP
      obtain ⟨x, hx⟩ : ∃ x, Hid (A[i] = x) := ⟨_, Lib.hid rfl⟩
      obtain ⟨y, hy⟩ : ∃ x, Hid (B[i] = x) := ⟨_, Lib.hid rfl⟩
      rw [hx.out] at p1 p3 c1
      rw [hy.out] at q1 q3 c2
      simp only [hx.out] at p4
      simp only [hy.out] at q4
      have hne : x ≠ y → Hid (decide (A = B) = false) := fun h => decide_eq_false (take_ne hiA hiB (by rw [hx.out, hy.out]; exact h))
      have HNE := Lib.hid hne
      have hsn : x = y → Hid (A.take (i + 1) = B.take (i + 1)) := fun h => takes_snoc hiA hiB htk.out (by rw [hx.out, hy.out]; exact h)
      have HSN := Lib.hid hsn
      obtain ⟨l, hl⟩ : ∃ n, Hid (x.length = n) := ⟨_, Lib.hid rfl⟩
      obtain ⟨k, hk⟩ : ∃ n, Hid (y.length = n) := ⟨_, Lib.hid rfl⟩
      rw [hl.out] at p1 p3 c1
      rw [hk.out] at q1 q3 c2
      have P3 := Lib.hid p3
      have Q3 := Lib.hid q3
      have P4 := Lib.hid p4
      have Q4 := Lib.hid q4
      obtain ea := Lib.hid (A3.out (by omega))
      obtain eb := Lib.hid (B3.out (by omega))
      rw [ea.out, eb.out]
      rw [ea.out] at y0
      rw [eb.out] at y1
      have z0 := cell_below hbr c1
      have z1 := cell_below hbr c2
      have Z0 := Lib.hid c1
      have Z1 := Lib.hid c2
      clear p3 q3 p4 q4 hne hsn s1 s2 c1 c2
      by_cases hlk : l = k
      rotate_left
      · have e1 : ((l : Int) != (k : Int)) = true := by simp; omega
        have hnn := HNE.out (fun e => hlk (by rw [← hl.out, ← hk.out, e]))
        clear hlk
        go_upto_region 6 with (fail)
        have z0' := reg_c z0
        have z1' := reg_c z1
        have y0' := reg_c y0
        have y1' := reg_c y1
        refine wp_region_quiet_below (by kernel_rfl) (by kernel_rfl) ?_; (repeat (go_big_quiet_step (fail))); refine wpQuiet_nil ?_; intro _ hw'; obtain ⟨⟨dq, osq⟩, hw''⟩ := hw'; subst hw''
        go_wp2_with fail
        go_ret
        rw [hnn.out]
        exact ⟨rfl, below_st hbr (below_regrown wr dq osq)⟩
      subst hlk
      go_upto_region 6 with (fail)
      have z0' := reg_c z0
      have z1' := reg_c z1
      have y0' := reg_c y0
      have y1' := reg_c y1
      refine wp_region_quiet_below (by kernel_rfl) (by kernel_rfl) ?_; (repeat (go_big_quiet_step (fail))); refine wpQuiet_nil ?_; intro _ hw'; obtain ⟨⟨dq, osq⟩, hw''⟩ := hw'; subst hw''
      go_upto_region 8 with (fail)
      refine wp_world (fun V => RowKit.Below w.heap.size w V ∧ RowKit.Below W.heap.size W V) ⟨below_st hbr (below_regrown wr dq osq), below_st hbR (below_regrown wr dq osq)⟩ ?_
      rintro V ⟨hbV, hbVR⟩
      clear z0 z1 z0' z1' y0 y1 y0' y1'
      go_wp2_with fail
      go_loopw [6] (fun v6 wr => ∃ j : Nat, v6 = .int .i64 (j : Int) ∧ j ≤ l ∧ Hid (x.take j = y.take j) ∧ RowKit.Below w.heap.size w wr ∧ RowKit.Below W.heap.size W wr) (fun v6 _ => l - (intOf v6).toNat)
      case atStart => exact ⟨0, rfl, Nat.zero_le _, Lib.hid rfl, hbV, hbVR⟩
      case round =>
        obtain ⟨j, rfl, hj, htj, hbk, hbK⟩ := hrel
        have z0 := cell_below hbk Z0.out
        have z1 := cell_below hbk Z1.out
        have y0 := cell_below hbK X0.out
        have y1 := cell_below hbK X1.out
        rw [ea.out] at y0
        rw [eb.out] at y1
        by_cases hjl : j < l
        · have hjI : (j : Int) < (l : Int) := by omega
          have hjx : j < x.length := by rw [hl.out]; exact hjl
          have hjy : j < y.length := by rw [hk.out]; exact hjl
          obtain ⟨r, hr⟩ : ∃ r, Hid (x[j] = r) := ⟨_, Lib.hid rfl⟩
          obtain ⟨s, hs⟩ : ∃ r, Hid (y[j] = r) := ⟨_, Lib.hid rfl⟩
          have px := P4.out j hjx
          have qx := Q4.out j hjy
          rw [hr.out] at px
          rw [hs.out] at qx
          obtain ec := Lib.hid (P3.out (by omega))
          obtain ed := Lib.hid (Q3.out (by omega))
          rw [ec.out] at z0
          rw [ed.out] at z1
          have PX := Lib.hid px
          have QX := Lib.hid qx
          have hne2 : r ≠ s → Hid (decide (A = B) = false) := fun h => HNE.out (take_ne hjx hjy (by rw [hr.out, hs.out]; exact h))
          have hsn2 : r = s → Hid (x.take (j + 1) = y.take (j + 1)) := fun h => takes_snoc hjx hjy htj.out (by rw [hr.out, hs.out]; exact h)
          have HNE2 := Lib.hid hne2
          have HSN2 := Lib.hid hsn2
          clear px qx hne2 hsn2
          go_upto_region 11 with (fail)
          have z0' := reg_c z0
          have z1' := reg_c z1
          have y0' := reg_c y0
          have y1' := reg_c y1
          have p0 := reg_c (show wr.cell? ⟨bc, fc + j * 5, none⟩ = some (.int .i64 r.kind) from cell_below hbk (by have := PX.out 0 (by decide); rw [← Nat.add_assoc] at this; exact this))
          have p1 := reg_c (show wr.cell? ⟨bc, fc + j * 5 + 1, none⟩ = some (.int .i64 r.ten) from cell_below hbk (by have := PX.out 1 (by decide); rw [← Nat.add_assoc] at this; exact this))
          have p2 := reg_c (show wr.cell? ⟨bc, fc + j * 5 + 2, none⟩ = some (.int .i64 r.peer) from cell_below hbk (by have := PX.out 2 (by decide); rw [← Nat.add_assoc] at this; exact this))
          have p3 := reg_c (show wr.cell? ⟨bc, fc + j * 5 + 3, none⟩ = some (.int .i64 r.at_) from cell_below hbk (by have := PX.out 3 (by decide); rw [← Nat.add_assoc] at this; exact this))
          have p4 := reg_c (show wr.cell? ⟨bc, fc + j * 5 + 4, none⟩ = some (.int .i64 r.cost) from cell_below hbk (by have := PX.out 4 (by decide); rw [← Nat.add_assoc] at this; exact this))
          have q0 := reg_c (show wr.cell? ⟨bd, fd + j * 5, none⟩ = some (.int .i64 s.kind) from cell_below hbk (by have := QX.out 0 (by decide); rw [← Nat.add_assoc] at this; exact this))
          have q1 := reg_c (show wr.cell? ⟨bd, fd + j * 5 + 1, none⟩ = some (.int .i64 s.ten) from cell_below hbk (by have := QX.out 1 (by decide); rw [← Nat.add_assoc] at this; exact this))
          have q2 := reg_c (show wr.cell? ⟨bd, fd + j * 5 + 2, none⟩ = some (.int .i64 s.peer) from cell_below hbk (by have := QX.out 2 (by decide); rw [← Nat.add_assoc] at this; exact this))
          have q3 := reg_c (show wr.cell? ⟨bd, fd + j * 5 + 3, none⟩ = some (.int .i64 s.at_) from cell_below hbk (by have := QX.out 3 (by decide); rw [← Nat.add_assoc] at this; exact this))
          have q4 := reg_c (show wr.cell? ⟨bd, fd + j * 5 + 4, none⟩ = some (.int .i64 s.cost) from cell_below hbk (by have := QX.out 4 (by decide); rw [← Nat.add_assoc] at this; exact this))
          by_cases hrs : r = s
          rotate_left
          · have e1 : decide (r = s) = false := decide_eq_false hrs
            have hnn := HNE2.out hrs
            clear hrs
            refine wp_region_quiet_below (by kernel_rfl) (by kernel_rfl) ?_; (repeat (go_big_quiet_step (fail))); refine wpQuiet_nil ?_; intro _ hw'; obtain ⟨⟨dq, osq⟩, hw''⟩ := hw'; subst hw''
            go_wp2_with fail
            go_ret
            rw [hnn.out]
            exact ⟨rfl, below_st hbk (below_regrown wr dq osq)⟩
          have e1 : decide (r = s) = true := decide_eq_true hrs
          have hss := HSN2.out hrs
          have HRS := Lib.hid hrs
          clear hrs
          refine wp_region_quiet_below (by kernel_rfl) (by kernel_rfl) ?_; (repeat (go_big_quiet_step (fail))); refine wpQuiet_nil ?_; intro _ hw'; obtain ⟨⟨dq, osq⟩, hw''⟩ := hw'; subst hw''
          go_wp2_with fail
          go_roundw
          case rel => exact ⟨j + 1, by go_num, by omega, hss, below_st hbk (below_regrown wr dq osq), below_st hbK (below_regrown wr dq osq)⟩
          case measure => simp [intOf]; omega
        · obtain rfl : j = l := by omega
          have hxy : x = y := takes_eq hl.out hk.out (Nat.le_refl _) htj.out
          have hss := HSN.out hxy
          have HXY := Lib.hid hxy
          clear hxy
          go_wp2_with fail
          go_roundw
          case rel => exact ⟨i + 1, by go_num, by omega, hss, hbk, hbK⟩
          case measure => simp [intOf]; omega
    · obtain rfl : i = n := by omega
      have hab : decide (A = B) = true := decide_eq_true (takes_eq hn.out hm.out (Nat.le_refl _) htk.out)
      have HAB := Lib.hid hab
      clear hab
      go_wp2_with fail
      go_ret
      rw [HAB.out]
      exact ⟨rfl, hbr⟩
end Go.Proofs.Ytdmakcfgcgioeaa
