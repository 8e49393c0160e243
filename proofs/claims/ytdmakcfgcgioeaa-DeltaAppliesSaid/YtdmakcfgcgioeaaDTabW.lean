/- Delta: table. -/
import Derived.Test.YtdmakcfgcgioeaaDTab
namespace Go.Proofs.Ytdmakcfgcgioeaa
open Go.RowKit Go.Maps
set_option linter.unusedSimpArgs false
set_option linter.unusedVariables false
set_option maxRecDepth 100000
theorem inf55 : (Try.prog.info? 55).map (fun i => (i.zero, i.size, i.bytes)) = some (some (.agg #[.int .i64 0, .int .i64 0, .int .i64 0, .bool false, .int .i64 0, .int .u64 0, .int .u64 0, .int .u64 0, .int .u64 0, .int .i64 0, .int .i64 0, .int .i64 0, .int .u64 0, .int .u64 0, .int .u64 0, .int .u64 0]), 16, 128) := by kernel_rfl
theorem row_cells2 {w : World} {b : Nat} {cs : List Value} {t : TypeId} {f : Nat × Nat} (h : w.heap[b]? = some (.cells cs.toArray t f)) : ∀ (j : Nat) (u : Value), cs[j]? = some u → w.cell? ((⟨b, 0, none⟩ : Addr).add j) = some u := fun j u hu => by
  rw [Addr.add_lit, Nat.zero_add, cell_b h]
  simpa using hu
attribute [local go_sem ↓] eqRR
set_option maxHeartbeats 8000000 in
theorem table_c (w : World) (n m : Int) {va vb : Value} {A B : List Ru} (ha : Sl ceR w A va) (hb : Sl ceR w B vb) (hal : A.length ≤ 20000000) (hbl : B.length ≤ 20000000) :
    Calls Try.prog 21 #[.int .i64 n, .int .i64 m, va, vb] w fun e w' => ∃ v, e = .returned v ∧ O1 ceE 55 16 w' (fun g => w.heap.size ≤ g) (tableF n m A B) v ∧ RowKit.Below w.heap.size w w' := by
  obtain ⟨oa, ca, ba, fa, rfl, a1, a2, a3, a4⟩ := ha.get lenR
  obtain ⟨ob, cb, bb, fb, rfl, b1, b2, b3, b4⟩ := hb.get lenR
  obtain ⟨la, hla⟩ : ∃ n, Hid (A.length = n) := ⟨_, Lib.hid rfl⟩
  obtain ⟨lb, hlb⟩ : ∃ n, Hid (B.length = n) := ⟨_, Lib.hid rfl⟩
  obtain ⟨F, hF⟩ : ∃ n, Hid (fromF A B = n) := ⟨_, Lib.hid rfl⟩
  obtain ⟨E, hE⟩ : ∃ n, Hid (endF A B = n) := ⟨_, Lib.hid rfl⟩
  have A4 := Lib.hid a4
  have B4 := Lib.hid b4
  have hEF := endF_le A B
  rw [hla.out] at a1 a3 hal hEF ⊢
  rw [hlb.out] at b1 b3 hbl hEF ⊢
  rw [hF.out, hE.out] at hEF
  have A3 := Lib.hid a3
  have B3 := Lib.hid b3
  obtain ⟨hE1, hE2⟩ := hEF
  obtain ⟨i0, hi0, hz0, hz1, hz2⟩ := info_parts inf55
  clear ha hb a4 b4 a3 b3
  go_enter Try.func21, Try.ntmps21
  go_wp2_with fail
  go_loopw [9] (fun v9 wr => ∃ i : Nat, v9 = .int .i64 (i : Int) ∧ i ≤ F ∧ Hid (F = i + fromF (A.drop i) (B.drop i)) ∧ RowKit.Below w.heap.size w wr) (fun v9 _ => F - (intOf v9).toNat)
  case atStart => exact ⟨0, rfl, Nat.zero_le _, Lib.hid (by rw [← hF.out]; simp), Below.refl _ _⟩
  case round =>
    obtain ⟨i, rfl, hi, hfi, hbr⟩ := hrel
    have hst : i < F ∨ i = F := by omega
    have hin : (∃ (ha : i < A.length) (hb : i < B.length), A[i] = B[i]) ↔ i < F := by
      constructor
      · rintro ⟨h1, h2, h3⟩
        have := fromF_step h1 h2 h3
        have := hfi.out
        omega
      · intro h
        by_cases h9 : ∃ (ha : i < A.length) (hb : i < B.length), A[i] = B[i]
        · exact h9
        · have := fromF_stop h9
          have := hfi.out
          omega
    have HIN := Lib.hid hin
    clear hin
    by_cases hlt : i < F
    · obtain ⟨h1, h2, h3⟩ := HIN.out.2 hlt
      have hnx := fromF_step h1 h2 h3
      have HNX := Lib.hid hnx
      have hia : i < la := by rw [← hla.out]; exact h1
      have hib : i < lb := by rw [← hlb.out]; exact h2
      have hiaI : (i : Int) < (la : Int) := by omega
      have hibI : (i : Int) < (lb : Int) := by omega
      have ea := Lib.hid (A3.out (by omega))
      have eb := Lib.hid (B3.out (by omega))
      obtain ⟨x, hx⟩ : ∃ x, Hid (A[i] = x) := ⟨_, Lib.hid rfl⟩
      have px := A4.out i h1
      have qx := B4.out i h2
      rw [← h3, hx.out] at qx
      rw [hx.out] at px
      rw [ea.out, eb.out]
      have hde : decide (x = x) = true := by simp
      clear hnx h3
      go_upto_region 2 with (fail)
      have p0 := reg_c (show wr.cell? ⟨ba, fa + i * 12, none⟩ = some (.int .i64 x.p) from cell_below hbr (by have := px 0 (by decide); rw [← Nat.add_assoc] at this; exact this))
      have p1 := reg_c (show wr.cell? ⟨ba, fa + i * 12 + 1, none⟩ = some (.int .u64 x.vh) from cell_below hbr (by have := px 1 (by decide); rw [← Nat.add_assoc] at this; exact this))
      have p2 := reg_c (show wr.cell? ⟨ba, fa + i * 12 + 2, none⟩ = some (.int .u64 x.vl) from cell_below hbr (by have := px 2 (by decide); rw [← Nat.add_assoc] at this; exact this))
      have p3 := reg_c (show wr.cell? ⟨ba, fa + i * 12 + 3, none⟩ = some (.int .u64 x.ch) from cell_below hbr (by have := px 3 (by decide); rw [← Nat.add_assoc] at this; exact this))
      have p4 := reg_c (show wr.cell? ⟨ba, fa + i * 12 + 4, none⟩ = some (.int .u64 x.cl) from cell_below hbr (by have := px 4 (by decide); rw [← Nat.add_assoc] at this; exact this))
      have p5 := reg_c (show wr.cell? ⟨ba, fa + i * 12 + 5, none⟩ = some (.int .i64 x.kd) from cell_below hbr (by have := px 5 (by decide); rw [← Nat.add_assoc] at this; exact this))
      have p6 := reg_c (show wr.cell? ⟨ba, fa + i * 12 + 6, none⟩ = some (.int .i64 x.po) from cell_below hbr (by have := px 6 (by decide); rw [← Nat.add_assoc] at this; exact this))
      have p7 := reg_c (show wr.cell? ⟨ba, fa + i * 12 + 7, none⟩ = some (.int .i64 x.tb) from cell_below hbr (by have := px 7 (by decide); rw [← Nat.add_assoc] at this; exact this))
      have p8 := reg_c (show wr.cell? ⟨ba, fa + i * 12 + 8, none⟩ = some (.int .u64 x.sh) from cell_below hbr (by have := px 8 (by decide); rw [← Nat.add_assoc] at this; exact this))
      have p9 := reg_c (show wr.cell? ⟨ba, fa + i * 12 + 9, none⟩ = some (.int .u64 x.sl) from cell_below hbr (by have := px 9 (by decide); rw [← Nat.add_assoc] at this; exact this))
      have p10 := reg_c (show wr.cell? ⟨ba, fa + i * 12 + 10, none⟩ = some (.int .u64 x.th) from cell_below hbr (by have := px 10 (by decide); rw [← Nat.add_assoc] at this; exact this))
      have p11 := reg_c (show wr.cell? ⟨ba, fa + i * 12 + 11, none⟩ = some (.int .u64 x.tl) from cell_below hbr (by have := px 11 (by decide); rw [← Nat.add_assoc] at this; exact this))
      have q0 := reg_c (show wr.cell? ⟨bb, fb + i * 12, none⟩ = some (.int .i64 x.p) from cell_below hbr (by have := qx 0 (by decide); rw [← Nat.add_assoc] at this; exact this))
      have q1 := reg_c (show wr.cell? ⟨bb, fb + i * 12 + 1, none⟩ = some (.int .u64 x.vh) from cell_below hbr (by have := qx 1 (by decide); rw [← Nat.add_assoc] at this; exact this))
      have q2 := reg_c (show wr.cell? ⟨bb, fb + i * 12 + 2, none⟩ = some (.int .u64 x.vl) from cell_below hbr (by have := qx 2 (by decide); rw [← Nat.add_assoc] at this; exact this))
      have q3 := reg_c (show wr.cell? ⟨bb, fb + i * 12 + 3, none⟩ = some (.int .u64 x.ch) from cell_below hbr (by have := qx 3 (by decide); rw [← Nat.add_assoc] at this; exact this))
      have q4 := reg_c (show wr.cell? ⟨bb, fb + i * 12 + 4, none⟩ = some (.int .u64 x.cl) from cell_below hbr (by have := qx 4 (by decide); rw [← Nat.add_assoc] at this; exact this))
      have q5 := reg_c (show wr.cell? ⟨bb, fb + i * 12 + 5, none⟩ = some (.int .i64 x.kd) from cell_below hbr (by have := qx 5 (by decide); rw [← Nat.add_assoc] at this; exact this))
      have q6 := reg_c (show wr.cell? ⟨bb, fb + i * 12 + 6, none⟩ = some (.int .i64 x.po) from cell_below hbr (by have := qx 6 (by decide); rw [← Nat.add_assoc] at this; exact this))
      have q7 := reg_c (show wr.cell? ⟨bb, fb + i * 12 + 7, none⟩ = some (.int .i64 x.tb) from cell_below hbr (by have := qx 7 (by decide); rw [← Nat.add_assoc] at this; exact this))
      have q8 := reg_c (show wr.cell? ⟨bb, fb + i * 12 + 8, none⟩ = some (.int .u64 x.sh) from cell_below hbr (by have := qx 8 (by decide); rw [← Nat.add_assoc] at this; exact this))
      have q9 := reg_c (show wr.cell? ⟨bb, fb + i * 12 + 9, none⟩ = some (.int .u64 x.sl) from cell_below hbr (by have := qx 9 (by decide); rw [← Nat.add_assoc] at this; exact this))
      have q10 := reg_c (show wr.cell? ⟨bb, fb + i * 12 + 10, none⟩ = some (.int .u64 x.th) from cell_below hbr (by have := qx 10 (by decide); rw [← Nat.add_assoc] at this; exact this))
      have q11 := reg_c (show wr.cell? ⟨bb, fb + i * 12 + 11, none⟩ = some (.int .u64 x.tl) from cell_below hbr (by have := qx 11 (by decide); rw [← Nat.add_assoc] at this; exact this))
      clear px qx
      refine wp_region_quiet_below (by kernel_rfl) (by kernel_rfl) ?_; (repeat (go_big_quiet_step (fail))); refine wpQuiet_nil ?_; intro _ hw'; obtain ⟨⟨dq, osq⟩, hw''⟩ := hw'; subst hw''
      go_wp2_with fail
      go_roundw
      case rel => exact ⟨i + 1, by go_num, by omega, Lib.hid (by have := hfi.out; have := HNX.out; omega), below_st hbr (below_regrown wr dq osq)⟩
      case measure => simp [intOf]; omega
    · obtain rfl : i = F := by omega
      have hst0 : ¬ (∃ (ha : i < A.length) (hb : i < B.length), A[i] = B[i]) := fun h => hlt (HIN.out.1 h)
      have HST := Lib.hid hst0
      clear hst0
      go_upto_region 2 with (fail)
      go_cut [34] from 14 to 36 (fun v34 wx => v34 = .bool false ∧ RowKit.Below w.heap.size w wx)
      case first =>
        by_cases h1 : i < la
        rotate_left
        · have e1 : decide (i < la) = false := decide_eq_false h1
          have e1' : decide ((i : Int) < (la : Int)) = false := decide_eq_false (by omega)
          refine wp_region_quiet_below (by kernel_rfl) (by kernel_rfl) ?_; (repeat (go_big_quiet_step (fail))); refine wpQuiet_nil ?_; intro _ hw'; obtain ⟨⟨dq, osq⟩, hw''⟩ := hw'; subst hw''
          go_wp2_with fail
          (go_meet; case rel => exact ⟨rfl, below_st hbr (below_regrown wr dq osq)⟩)
        have hiaI : (i : Int) < (la : Int) := by omega
        by_cases h2 : i < lb
        rotate_left
        · have e1 : decide (i < lb) = false := decide_eq_false h2
          have e1' : decide ((i : Int) < (lb : Int)) = false := decide_eq_false (by omega)
          refine wp_region_quiet_below (by kernel_rfl) (by kernel_rfl) ?_; (repeat (go_big_quiet_step (fail))); refine wpQuiet_nil ?_; intro _ hw'; obtain ⟨⟨dq, osq⟩, hw''⟩ := hw'; subst hw''
          go_wp2_with fail
          (go_meet; case rel => exact ⟨rfl, below_st hbr (below_regrown wr dq osq)⟩)
        have hibI : (i : Int) < (lb : Int) := by omega
        have h1' : i < A.length := by rw [hla.out]; exact h1
        have h2' : i < B.length := by rw [hlb.out]; exact h2
        obtain rfl := A3.out (by omega)
        obtain rfl := B3.out (by omega)
        obtain ⟨x, hx⟩ : ∃ x, Hid (A[i] = x) := ⟨_, Lib.hid rfl⟩
        obtain ⟨y, hy⟩ : ∃ x, Hid (B[i] = x) := ⟨_, Lib.hid rfl⟩
        have px := A4.out i h1'
        have qx := B4.out i h2'
        rw [hx.out] at px
        rw [hy.out] at qx
        have hxy : x ≠ y := fun e => HST.out ⟨h1', h2', by rw [hx.out, hy.out]; exact e⟩
        have hde : decide (x = y) = false := decide_eq_false hxy
        clear hxy
        have p0 := reg_c (show wr.cell? ⟨ba, fa + i * 12, none⟩ = some (.int .i64 x.p) from cell_below hbr (by have := px 0 (by decide); rw [← Nat.add_assoc] at this; exact this))
        have p1 := reg_c (show wr.cell? ⟨ba, fa + i * 12 + 1, none⟩ = some (.int .u64 x.vh) from cell_below hbr (by have := px 1 (by decide); rw [← Nat.add_assoc] at this; exact this))
        have p2 := reg_c (show wr.cell? ⟨ba, fa + i * 12 + 2, none⟩ = some (.int .u64 x.vl) from cell_below hbr (by have := px 2 (by decide); rw [← Nat.add_assoc] at this; exact this))
        have p3 := reg_c (show wr.cell? ⟨ba, fa + i * 12 + 3, none⟩ = some (.int .u64 x.ch) from cell_below hbr (by have := px 3 (by decide); rw [← Nat.add_assoc] at this; exact this))
        have p4 := reg_c (show wr.cell? ⟨ba, fa + i * 12 + 4, none⟩ = some (.int .u64 x.cl) from cell_below hbr (by have := px 4 (by decide); rw [← Nat.add_assoc] at this; exact this))
        have p5 := reg_c (show wr.cell? ⟨ba, fa + i * 12 + 5, none⟩ = some (.int .i64 x.kd) from cell_below hbr (by have := px 5 (by decide); rw [← Nat.add_assoc] at this; exact this))
        have p6 := reg_c (show wr.cell? ⟨ba, fa + i * 12 + 6, none⟩ = some (.int .i64 x.po) from cell_below hbr (by have := px 6 (by decide); rw [← Nat.add_assoc] at this; exact this))
        have p7 := reg_c (show wr.cell? ⟨ba, fa + i * 12 + 7, none⟩ = some (.int .i64 x.tb) from cell_below hbr (by have := px 7 (by decide); rw [← Nat.add_assoc] at this; exact this))
        have p8 := reg_c (show wr.cell? ⟨ba, fa + i * 12 + 8, none⟩ = some (.int .u64 x.sh) from cell_below hbr (by have := px 8 (by decide); rw [← Nat.add_assoc] at this; exact this))
        have p9 := reg_c (show wr.cell? ⟨ba, fa + i * 12 + 9, none⟩ = some (.int .u64 x.sl) from cell_below hbr (by have := px 9 (by decide); rw [← Nat.add_assoc] at this; exact this))
        have p10 := reg_c (show wr.cell? ⟨ba, fa + i * 12 + 10, none⟩ = some (.int .u64 x.th) from cell_below hbr (by have := px 10 (by decide); rw [← Nat.add_assoc] at this; exact this))
        have p11 := reg_c (show wr.cell? ⟨ba, fa + i * 12 + 11, none⟩ = some (.int .u64 x.tl) from cell_below hbr (by have := px 11 (by decide); rw [← Nat.add_assoc] at this; exact this))
        have q0 := reg_c (show wr.cell? ⟨bb, fb + i * 12, none⟩ = some (.int .i64 y.p) from cell_below hbr (by have := qx 0 (by decide); rw [← Nat.add_assoc] at this; exact this))
        have q1 := reg_c (show wr.cell? ⟨bb, fb + i * 12 + 1, none⟩ = some (.int .u64 y.vh) from cell_below hbr (by have := qx 1 (by decide); rw [← Nat.add_assoc] at this; exact this))
        have q2 := reg_c (show wr.cell? ⟨bb, fb + i * 12 + 2, none⟩ = some (.int .u64 y.vl) from cell_below hbr (by have := qx 2 (by decide); rw [← Nat.add_assoc] at this; exact this))
        have q3 := reg_c (show wr.cell? ⟨bb, fb + i * 12 + 3, none⟩ = some (.int .u64 y.ch) from cell_below hbr (by have := qx 3 (by decide); rw [← Nat.add_assoc] at this; exact this))
        have q4 := reg_c (show wr.cell? ⟨bb, fb + i * 12 + 4, none⟩ = some (.int .u64 y.cl) from cell_below hbr (by have := qx 4 (by decide); rw [← Nat.add_assoc] at this; exact this))
        have q5 := reg_c (show wr.cell? ⟨bb, fb + i * 12 + 5, none⟩ = some (.int .i64 y.kd) from cell_below hbr (by have := qx 5 (by decide); rw [← Nat.add_assoc] at this; exact this))
        have q6 := reg_c (show wr.cell? ⟨bb, fb + i * 12 + 6, none⟩ = some (.int .i64 y.po) from cell_below hbr (by have := qx 6 (by decide); rw [← Nat.add_assoc] at this; exact this))
        have q7 := reg_c (show wr.cell? ⟨bb, fb + i * 12 + 7, none⟩ = some (.int .i64 y.tb) from cell_below hbr (by have := qx 7 (by decide); rw [← Nat.add_assoc] at this; exact this))
        have q8 := reg_c (show wr.cell? ⟨bb, fb + i * 12 + 8, none⟩ = some (.int .u64 y.sh) from cell_below hbr (by have := qx 8 (by decide); rw [← Nat.add_assoc] at this; exact this))
        have q9 := reg_c (show wr.cell? ⟨bb, fb + i * 12 + 9, none⟩ = some (.int .u64 y.sl) from cell_below hbr (by have := qx 9 (by decide); rw [← Nat.add_assoc] at this; exact this))
        have q10 := reg_c (show wr.cell? ⟨bb, fb + i * 12 + 10, none⟩ = some (.int .u64 y.th) from cell_below hbr (by have := qx 10 (by decide); rw [← Nat.add_assoc] at this; exact this))
        have q11 := reg_c (show wr.cell? ⟨bb, fb + i * 12 + 11, none⟩ = some (.int .u64 y.tl) from cell_below hbr (by have := qx 11 (by decide); rw [← Nat.add_assoc] at this; exact this))
        clear px qx
        refine wp_region_quiet_below (by kernel_rfl) (by kernel_rfl) ?_; (repeat (go_big_quiet_step (fail))); refine wpQuiet_nil ?_; intro _ hw'; obtain ⟨⟨dq, osq⟩, hw''⟩ := hw'; subst hw''
        go_wp2_with fail
        (go_meet; case rel => exact ⟨rfl, below_st hbr (below_regrown wr dq osq)⟩)
      case rest =>
        obtain ⟨rfl, hb2⟩ := hcut
        rename_i Kc hKc
        refine hKc _ _ ?_
        clear hKc hbr
        refine wp_world (fun V => V = wc) rfl ?_
        rintro V rfl
        have hE9 := hE
        go_wp2_with fail
        go_loopw [10] (fun v10 wr => ∃ e : Nat, v10 = .int .i64 (e : Int) ∧ e ≤ E ∧ Hid (E = e + fromF ((A.drop i).reverse.drop e) ((B.drop i).reverse.drop e)) ∧ RowKit.Below w.heap.size w wr) (fun v10 _ => E - (intOf v10).toNat)
        case atStart => exact ⟨0, rfl, Nat.zero_le _, Lib.hid (by rw [← hE.out]; simp [endF, hF.out]), hb2⟩
        case round =>
          obtain ⟨e, rfl, he, hfe, hbr⟩ := hrel
          have hin : (e < la - i ∧ e < lb - i ∧ A[la - 1 - e]? = B[lb - 1 - e]?) ↔ e < E := by
            have key : ∀ (h1 : e < la - i) (h2 : e < lb - i), (A[la - 1 - e]? = B[lb - 1 - e]? ↔ ∃ (ha : e < (A.drop i).reverse.length) (hb : e < (B.drop i).reverse.length), (A.drop i).reverse[e] = (B.drop i).reverse[e]) := fun h1 h2 => by
              have r1 := rev_at (a := A) (f := i) (e := e) (by rw [hla.out]; exact h1)
              have r2 := rev_at (a := B) (f := i) (e := e) (by rw [hlb.out]; exact h2)
              have q1 : A[la - 1 - e]? = some ((A.drop i).reverse[e]'(by simp [hla.out]; exact h1)) := by
                rw [r1, List.getElem?_eq_getElem (by rw [hla.out]; omega)]
                simp only [hla.out]
              have q2 : B[lb - 1 - e]? = some ((B.drop i).reverse[e]'(by simp [hlb.out]; exact h2)) := by
                rw [r2, List.getElem?_eq_getElem (by rw [hlb.out]; omega)]
                simp only [hlb.out]
              rw [q1, q2, Option.some.injEq]
              exact ⟨fun h => ⟨by simp [hla.out]; exact h1, by simp [hlb.out]; exact h2, h⟩, fun ⟨_, _, h⟩ => h⟩
            constructor
            · rintro ⟨h1, h2, h3⟩
              obtain ⟨k1, k2, k3⟩ := (key h1 h2).1 h3
              have := fromF_step k1 k2 k3
              have := hfe.out
              omega
            · intro h
              by_cases h9 : ∃ (ha : e < (A.drop i).reverse.length) (hb : e < (B.drop i).reverse.length), (A.drop i).reverse[e] = (B.drop i).reverse[e]
              · obtain ⟨k1, k2, k3⟩ := h9
                have k1' : e < la - i := by have := k1; simp [hla.out] at this; exact this
                have k2' : e < lb - i := by have := k2; simp [hlb.out] at this; exact this
                exact ⟨k1', k2', (key k1' k2').2 ⟨k1, k2, k3⟩⟩
              · have := fromF_stop h9
                have := hfe.out
                omega
          have HIN2 := Lib.hid hin
          have wa : IntKind.i64.wrap ((la : Int) - (i : Int)) = (la : Int) - (i : Int) := by rw [IntKind.wrap_i64]; omega
          have wb : IntKind.i64.wrap ((lb : Int) - (i : Int)) = (lb : Int) - (i : Int) := by rw [IntKind.wrap_i64]; omega
          have wa1 : IntKind.i64.wrap ((la : Int) - 1) = (la : Int) - 1 := by rw [IntKind.wrap_i64]; omega
          have wb1 : IntKind.i64.wrap ((lb : Int) - 1) = (lb : Int) - 1 := by rw [IntKind.wrap_i64]; omega
          clear hin
          by_cases hlt2 : e < E
          · obtain ⟨h1, h2, h3⟩ := HIN2.out.2 hlt2
            obtain ⟨ia, hia⟩ : ∃ ia, Hid (la - 1 - e = ia) := ⟨_, Lib.hid rfl⟩
            obtain ⟨ib, hib⟩ : ∃ ia, Hid (lb - 1 - e = ia) := ⟨_, Lib.hid rfl⟩
            rw [hia.out, hib.out] at h3
            have hia' := hia.out
            have hib' := hib.out
            have hial : ia < la := by omega
            have hibl : ib < lb := by omega
            have hialI : (ia : Int) < (la : Int) := by omega
            have hiblI : (ib : Int) < (lb : Int) := by omega
            have wa2 : IntKind.i64.wrap ((la : Int) - 1 - (e : Int)) = (ia : Int) := by rw [IntKind.wrap_i64]; omega
            have wb2 : IntKind.i64.wrap ((lb : Int) - 1 - (e : Int)) = (ib : Int) := by rw [IntKind.wrap_i64]; omega
            have c1 : (e : Int) < (la : Int) - (i : Int) := by omega
            have c2 : (e : Int) < (lb : Int) - (i : Int) := by omega
            have hA : ia < A.length := by rw [hla.out]; exact hial
            have hB : ib < B.length := by rw [hlb.out]; exact hibl
            rw [List.getElem?_eq_getElem hA, List.getElem?_eq_getElem hB, Option.some.injEq] at h3
            have hnx : fromF ((A.drop i).reverse.drop e) ((B.drop i).reverse.drop e) = fromF ((A.drop i).reverse.drop (e + 1)) ((B.drop i).reverse.drop (e + 1)) + 1 := by
              refine fromF_step (by simp [hla.out]; exact h1) (by simp [hlb.out]; exact h2) ?_
              rw [rev_at (by rw [hla.out]; exact h1), rev_at (by rw [hlb.out]; exact h2)]
              simp only [hla.out, hlb.out, hia.out, hib.out]
              exact h3
            have HNX := Lib.hid hnx
            obtain rfl := A3.out (by omega)
            obtain rfl := B3.out (by omega)
            obtain ⟨x, hx⟩ : ∃ x, Hid (A[ia] = x) := ⟨_, Lib.hid rfl⟩
            have px := A4.out ia hA
            have qx := B4.out ib hB
            rw [← h3, hx.out] at qx
            rw [hx.out] at px
            have hde : decide (x = x) = true := by simp
            clear hnx h3 h1 h2 hia' hib'
            go_upto_region 5 with (fail)
            have p0 := reg_c (show wr.cell? ⟨ba, fa + ia * 12, none⟩ = some (.int .i64 x.p) from cell_below hbr (by have := px 0 (by decide); rw [← Nat.add_assoc] at this; exact this))
            have p1 := reg_c (show wr.cell? ⟨ba, fa + ia * 12 + 1, none⟩ = some (.int .u64 x.vh) from cell_below hbr (by have := px 1 (by decide); rw [← Nat.add_assoc] at this; exact this))
            have p2 := reg_c (show wr.cell? ⟨ba, fa + ia * 12 + 2, none⟩ = some (.int .u64 x.vl) from cell_below hbr (by have := px 2 (by decide); rw [← Nat.add_assoc] at this; exact this))
            have p3 := reg_c (show wr.cell? ⟨ba, fa + ia * 12 + 3, none⟩ = some (.int .u64 x.ch) from cell_below hbr (by have := px 3 (by decide); rw [← Nat.add_assoc] at this; exact this))
            have p4 := reg_c (show wr.cell? ⟨ba, fa + ia * 12 + 4, none⟩ = some (.int .u64 x.cl) from cell_below hbr (by have := px 4 (by decide); rw [← Nat.add_assoc] at this; exact this))
            have p5 := reg_c (show wr.cell? ⟨ba, fa + ia * 12 + 5, none⟩ = some (.int .i64 x.kd) from cell_below hbr (by have := px 5 (by decide); rw [← Nat.add_assoc] at this; exact this))
            have p6 := reg_c (show wr.cell? ⟨ba, fa + ia * 12 + 6, none⟩ = some (.int .i64 x.po) from cell_below hbr (by have := px 6 (by decide); rw [← Nat.add_assoc] at this; exact this))
            have p7 := reg_c (show wr.cell? ⟨ba, fa + ia * 12 + 7, none⟩ = some (.int .i64 x.tb) from cell_below hbr (by have := px 7 (by decide); rw [← Nat.add_assoc] at this; exact this))
            have p8 := reg_c (show wr.cell? ⟨ba, fa + ia * 12 + 8, none⟩ = some (.int .u64 x.sh) from cell_below hbr (by have := px 8 (by decide); rw [← Nat.add_assoc] at this; exact this))
            have p9 := reg_c (show wr.cell? ⟨ba, fa + ia * 12 + 9, none⟩ = some (.int .u64 x.sl) from cell_below hbr (by have := px 9 (by decide); rw [← Nat.add_assoc] at this; exact this))
            have p10 := reg_c (show wr.cell? ⟨ba, fa + ia * 12 + 10, none⟩ = some (.int .u64 x.th) from cell_below hbr (by have := px 10 (by decide); rw [← Nat.add_assoc] at this; exact this))
            have p11 := reg_c (show wr.cell? ⟨ba, fa + ia * 12 + 11, none⟩ = some (.int .u64 x.tl) from cell_below hbr (by have := px 11 (by decide); rw [← Nat.add_assoc] at this; exact this))
            have q0 := reg_c (show wr.cell? ⟨bb, fb + ib * 12, none⟩ = some (.int .i64 x.p) from cell_below hbr (by have := qx 0 (by decide); rw [← Nat.add_assoc] at this; exact this))
            have q1 := reg_c (show wr.cell? ⟨bb, fb + ib * 12 + 1, none⟩ = some (.int .u64 x.vh) from cell_below hbr (by have := qx 1 (by decide); rw [← Nat.add_assoc] at this; exact this))
            have q2 := reg_c (show wr.cell? ⟨bb, fb + ib * 12 + 2, none⟩ = some (.int .u64 x.vl) from cell_below hbr (by have := qx 2 (by decide); rw [← Nat.add_assoc] at this; exact this))
            have q3 := reg_c (show wr.cell? ⟨bb, fb + ib * 12 + 3, none⟩ = some (.int .u64 x.ch) from cell_below hbr (by have := qx 3 (by decide); rw [← Nat.add_assoc] at this; exact this))
            have q4 := reg_c (show wr.cell? ⟨bb, fb + ib * 12 + 4, none⟩ = some (.int .u64 x.cl) from cell_below hbr (by have := qx 4 (by decide); rw [← Nat.add_assoc] at this; exact this))
            have q5 := reg_c (show wr.cell? ⟨bb, fb + ib * 12 + 5, none⟩ = some (.int .i64 x.kd) from cell_below hbr (by have := qx 5 (by decide); rw [← Nat.add_assoc] at this; exact this))
            have q6 := reg_c (show wr.cell? ⟨bb, fb + ib * 12 + 6, none⟩ = some (.int .i64 x.po) from cell_below hbr (by have := qx 6 (by decide); rw [← Nat.add_assoc] at this; exact this))
            have q7 := reg_c (show wr.cell? ⟨bb, fb + ib * 12 + 7, none⟩ = some (.int .i64 x.tb) from cell_below hbr (by have := qx 7 (by decide); rw [← Nat.add_assoc] at this; exact this))
            have q8 := reg_c (show wr.cell? ⟨bb, fb + ib * 12 + 8, none⟩ = some (.int .u64 x.sh) from cell_below hbr (by have := qx 8 (by decide); rw [← Nat.add_assoc] at this; exact this))
            have q9 := reg_c (show wr.cell? ⟨bb, fb + ib * 12 + 9, none⟩ = some (.int .u64 x.sl) from cell_below hbr (by have := qx 9 (by decide); rw [← Nat.add_assoc] at this; exact this))
            have q10 := reg_c (show wr.cell? ⟨bb, fb + ib * 12 + 10, none⟩ = some (.int .u64 x.th) from cell_below hbr (by have := qx 10 (by decide); rw [← Nat.add_assoc] at this; exact this))
            have q11 := reg_c (show wr.cell? ⟨bb, fb + ib * 12 + 11, none⟩ = some (.int .u64 x.tl) from cell_below hbr (by have := qx 11 (by decide); rw [← Nat.add_assoc] at this; exact this))
            clear px qx
            refine wp_region_quiet_below (by kernel_rfl) (by kernel_rfl) ?_; (repeat (go_big_quiet_step (fail))); refine wpQuiet_nil ?_; intro _ hw'; obtain ⟨⟨dq, osq⟩, hw''⟩ := hw'; subst hw''
            go_wp2_with fail
            go_roundw
            case rel => exact ⟨e + 1, by go_num, by omega, Lib.hid (by have := hfe.out; have := HNX.out; omega), below_st hbr (below_regrown wr dq osq)⟩
            case measure => simp [intOf]; omega
          · obtain rfl : e = E := by omega
            have hst0 : ¬ (e < la - i ∧ e < lb - i ∧ A[la - 1 - e]? = B[lb - 1 - e]?) := fun h => hlt2 (HIN2.out.1 h)
            have HST2 := Lib.hid hst0
            clear hst0
            go_upto_region 5 with (fail)
            go_cut [69] from 37 to 71 (fun v69 wx => v69 = .bool false ∧ RowKit.Below w.heap.size w wx)
            case first =>
              by_cases h1 : e < la - i
              rotate_left
              · have e1' : decide ((e : Int) < (la : Int) - (i : Int)) = false := decide_eq_false (by omega)
                refine wp_region_quiet_below (by kernel_rfl) (by kernel_rfl) ?_; (repeat (go_big_quiet_step (fail))); refine wpQuiet_nil ?_; intro _ hw'; obtain ⟨⟨dq, osq⟩, hw''⟩ := hw'; subst hw''
                go_wp2_with fail
                (go_meet; case rel => exact ⟨rfl, below_st hbr (below_regrown wr dq osq)⟩)
              have c1 : (e : Int) < (la : Int) - (i : Int) := by omega
              by_cases h2 : e < lb - i
              rotate_left
              · have e1' : decide ((e : Int) < (lb : Int) - (i : Int)) = false := decide_eq_false (by omega)
                refine wp_region_quiet_below (by kernel_rfl) (by kernel_rfl) ?_; (repeat (go_big_quiet_step (fail))); refine wpQuiet_nil ?_; intro _ hw'; obtain ⟨⟨dq, osq⟩, hw''⟩ := hw'; subst hw''
                go_wp2_with fail
                (go_meet; case rel => exact ⟨rfl, below_st hbr (below_regrown wr dq osq)⟩)
              have c2 : (e : Int) < (lb : Int) - (i : Int) := by omega
              obtain ⟨ia, hia⟩ : ∃ ia, Hid (la - 1 - e = ia) := ⟨_, Lib.hid rfl⟩
              obtain ⟨ib, hib⟩ : ∃ ia, Hid (lb - 1 - e = ia) := ⟨_, Lib.hid rfl⟩
              have hia' := hia.out
              have hib' := hib.out
              have hial : ia < la := by omega
              have hibl : ib < lb := by omega
              have hialI : (ia : Int) < (la : Int) := by omega
              have hiblI : (ib : Int) < (lb : Int) := by omega
              have wa2 : IntKind.i64.wrap ((la : Int) - 1 - (e : Int)) = (ia : Int) := by rw [IntKind.wrap_i64]; omega
              have wb2 : IntKind.i64.wrap ((lb : Int) - 1 - (e : Int)) = (ib : Int) := by rw [IntKind.wrap_i64]; omega
              have hA : ia < A.length := by rw [hla.out]; exact hial
              have hB : ib < B.length := by rw [hlb.out]; exact hibl
              obtain rfl := A3.out (by omega)
              obtain rfl := B3.out (by omega)
              obtain ⟨x, hx⟩ : ∃ x, Hid (A[ia] = x) := ⟨_, Lib.hid rfl⟩
              obtain ⟨y, hy⟩ : ∃ x, Hid (B[ib] = x) := ⟨_, Lib.hid rfl⟩
              have px := A4.out ia hA
              have qx := B4.out ib hB
              rw [hx.out] at px
              rw [hy.out] at qx
              have hxy : x ≠ y := fun e9 => HST2.out ⟨h1, h2, by rw [hia.out, hib.out, List.getElem?_eq_getElem hA, List.getElem?_eq_getElem hB, hx.out, hy.out, e9]⟩
              have hde : decide (x = y) = false := decide_eq_false hxy
              clear hxy h1 h2 hia' hib'
              have p0 := reg_c (show wr.cell? ⟨ba, fa + ia * 12, none⟩ = some (.int .i64 x.p) from cell_below hbr (by have := px 0 (by decide); rw [← Nat.add_assoc] at this; exact this))
              have p1 := reg_c (show wr.cell? ⟨ba, fa + ia * 12 + 1, none⟩ = some (.int .u64 x.vh) from cell_below hbr (by have := px 1 (by decide); rw [← Nat.add_assoc] at this; exact this))
              have p2 := reg_c (show wr.cell? ⟨ba, fa + ia * 12 + 2, none⟩ = some (.int .u64 x.vl) from cell_below hbr (by have := px 2 (by decide); rw [← Nat.add_assoc] at this; exact this))
              have p3 := reg_c (show wr.cell? ⟨ba, fa + ia * 12 + 3, none⟩ = some (.int .u64 x.ch) from cell_below hbr (by have := px 3 (by decide); rw [← Nat.add_assoc] at this; exact this))
              have p4 := reg_c (show wr.cell? ⟨ba, fa + ia * 12 + 4, none⟩ = some (.int .u64 x.cl) from cell_below hbr (by have := px 4 (by decide); rw [← Nat.add_assoc] at this; exact this))
              have p5 := reg_c (show wr.cell? ⟨ba, fa + ia * 12 + 5, none⟩ = some (.int .i64 x.kd) from cell_below hbr (by have := px 5 (by decide); rw [← Nat.add_assoc] at this; exact this))
              have p6 := reg_c (show wr.cell? ⟨ba, fa + ia * 12 + 6, none⟩ = some (.int .i64 x.po) from cell_below hbr (by have := px 6 (by decide); rw [← Nat.add_assoc] at this; exact this))
              have p7 := reg_c (show wr.cell? ⟨ba, fa + ia * 12 + 7, none⟩ = some (.int .i64 x.tb) from cell_below hbr (by have := px 7 (by decide); rw [← Nat.add_assoc] at this; exact this))
              have p8 := reg_c (show wr.cell? ⟨ba, fa + ia * 12 + 8, none⟩ = some (.int .u64 x.sh) from cell_below hbr (by have := px 8 (by decide); rw [← Nat.add_assoc] at this; exact this))
              have p9 := reg_c (show wr.cell? ⟨ba, fa + ia * 12 + 9, none⟩ = some (.int .u64 x.sl) from cell_below hbr (by have := px 9 (by decide); rw [← Nat.add_assoc] at this; exact this))
              have p10 := reg_c (show wr.cell? ⟨ba, fa + ia * 12 + 10, none⟩ = some (.int .u64 x.th) from cell_below hbr (by have := px 10 (by decide); rw [← Nat.add_assoc] at this; exact this))
              have p11 := reg_c (show wr.cell? ⟨ba, fa + ia * 12 + 11, none⟩ = some (.int .u64 x.tl) from cell_below hbr (by have := px 11 (by decide); rw [← Nat.add_assoc] at this; exact this))
              have q0 := reg_c (show wr.cell? ⟨bb, fb + ib * 12, none⟩ = some (.int .i64 y.p) from cell_below hbr (by have := qx 0 (by decide); rw [← Nat.add_assoc] at this; exact this))
              have q1 := reg_c (show wr.cell? ⟨bb, fb + ib * 12 + 1, none⟩ = some (.int .u64 y.vh) from cell_below hbr (by have := qx 1 (by decide); rw [← Nat.add_assoc] at this; exact this))
              have q2 := reg_c (show wr.cell? ⟨bb, fb + ib * 12 + 2, none⟩ = some (.int .u64 y.vl) from cell_below hbr (by have := qx 2 (by decide); rw [← Nat.add_assoc] at this; exact this))
              have q3 := reg_c (show wr.cell? ⟨bb, fb + ib * 12 + 3, none⟩ = some (.int .u64 y.ch) from cell_below hbr (by have := qx 3 (by decide); rw [← Nat.add_assoc] at this; exact this))
              have q4 := reg_c (show wr.cell? ⟨bb, fb + ib * 12 + 4, none⟩ = some (.int .u64 y.cl) from cell_below hbr (by have := qx 4 (by decide); rw [← Nat.add_assoc] at this; exact this))
              have q5 := reg_c (show wr.cell? ⟨bb, fb + ib * 12 + 5, none⟩ = some (.int .i64 y.kd) from cell_below hbr (by have := qx 5 (by decide); rw [← Nat.add_assoc] at this; exact this))
              have q6 := reg_c (show wr.cell? ⟨bb, fb + ib * 12 + 6, none⟩ = some (.int .i64 y.po) from cell_below hbr (by have := qx 6 (by decide); rw [← Nat.add_assoc] at this; exact this))
              have q7 := reg_c (show wr.cell? ⟨bb, fb + ib * 12 + 7, none⟩ = some (.int .i64 y.tb) from cell_below hbr (by have := qx 7 (by decide); rw [← Nat.add_assoc] at this; exact this))
              have q8 := reg_c (show wr.cell? ⟨bb, fb + ib * 12 + 8, none⟩ = some (.int .u64 y.sh) from cell_below hbr (by have := qx 8 (by decide); rw [← Nat.add_assoc] at this; exact this))
              have q9 := reg_c (show wr.cell? ⟨bb, fb + ib * 12 + 9, none⟩ = some (.int .u64 y.sl) from cell_below hbr (by have := qx 9 (by decide); rw [← Nat.add_assoc] at this; exact this))
              have q10 := reg_c (show wr.cell? ⟨bb, fb + ib * 12 + 10, none⟩ = some (.int .u64 y.th) from cell_below hbr (by have := qx 10 (by decide); rw [← Nat.add_assoc] at this; exact this))
              have q11 := reg_c (show wr.cell? ⟨bb, fb + ib * 12 + 11, none⟩ = some (.int .u64 y.tl) from cell_below hbr (by have := qx 11 (by decide); rw [← Nat.add_assoc] at this; exact this))
              clear px qx
              refine wp_region_quiet_below (by kernel_rfl) (by kernel_rfl) ?_; (repeat (go_big_quiet_step (fail))); refine wpQuiet_nil ?_; intro _ hw'; obtain ⟨⟨dq, osq⟩, hw''⟩ := hw'; subst hw''
              go_wp2_with fail
              (go_meet; case rel => exact ⟨rfl, below_st hbr (below_regrown wr dq osq)⟩)
            case rest =>
              obtain ⟨rfl, hb3⟩ := hcut
              rename_i Kc hKc
              refine hKc _ _ ?_
              clear hKc hbr
              refine wp_world (fun V => V = wc) rfl ?_
              rintro V3 rfl
              have wa3 : IntKind.i64.wrap ((la : Int) - (e : Int)) = (la : Int) - (e : Int) := by rw [IntKind.wrap_i64]; omega
              have wa4 : IntKind.i64.wrap ((la : Int) - (e : Int) - 1) = (la : Int) - (e : Int) - 1 := by rw [IntKind.wrap_i64]; omega
              have wb4 : IntKind.i64.wrap ((lb : Int) - (e : Int)) = (lb : Int) - (e : Int) := by rw [IntKind.wrap_i64]; omega
              clear wa wb wa1 wb1
              obtain ⟨nd, hnd⟩ : ∃ nd, Hid (la - e - i = nd) := ⟨_, Lib.hid rfl⟩
              go_wp2_with fail
              go_loopw [11, 12] (fun v11 v12 wr => ∃ k : Nat, v12 = .int .i64 ((la : Int) - (e : Int) - 1 - (k : Int)) ∧ k ≤ nd ∧ O1 ceE 55 16 wr (fun g => w.heap.size ≤ g) (delF n m (la - e) k) v11 ∧ RowKit.Below w.heap.size w wr) (fun _ v12 _ => (intOf v12 - (i : Int) + 1).toNat)
              case atStart => exact ⟨0, by simp, Nat.zero_le _, Ow.nil rfl, hb3⟩
              case round =>
                obtain ⟨k, rfl, hk, hown, hbr⟩ := hrel
                have hnd' := hnd.out
                obtain ⟨o1, c1, eo⟩ := Ow.form hown
                rw [delF_len] at eo
                subst eo
                have HOWN := Lib.hid hown
                clear hown
                by_cases hlt3 : k < nd
                · have e1 : (i : Int) ≤ (la : Int) - (e : Int) - 1 - (k : Int) := by omega
                  have w1 : IntKind.i64.wrap ((la : Int) - (e : Int) - 1 - (k : Int) - 1) = (la : Int) - (e : Int) - 1 - (k : Int) - 1 := by rw [IntKind.wrap_i64]; omega
                  have hsucc := delF_succ n m (la - e) k
                  have hcast : (((la - e : Nat) : Int)) - 1 - (k : Int) = (la : Int) - (e : Int) - 1 - (k : Int) := by omega
                  rw [hcast] at hsucc
                  have HSUCC := Lib.hid hsucc
                  have hp : k + 1 ≤ maxLen := by simp only [maxLen]; omega
                  have hq : (k + 1) * 128 ≤ 140737488355328 := by omega
                  have hlr : Hid (Ow wr (fun g => w.heap.size ≤ g) 55 16 (.slice o1 k c1) k ((delF n m (la - e) k).flatMap ceE)) := Lib.hid (by have := HOWN.out; unfold O1 at this; rw [delF_len] at this; exact this)
                  have hbs := hbr.size
                  clear hsucc hcast hnd'
                  obtain ⟨pos, hpos⟩ : ∃ pos : Int, Hid ((la : Int) - (e : Int) - 1 - (k : Int) = pos) := ⟨_, Lib.hid rfl⟩
                  go_wp2_with (at_builtin; refine wpList_app_ow rfl _ _ 32 rfl (fun g => w.heap.size ≤ g) 55 i0 (.agg #[.int .i64 0, .int .i64 0, .int .i64 0, .bool false, .int .i64 0, .int .u64 0, .int .u64 0, .int .u64 0, .int .u64 0, .int .i64 0, .int .i64 0, .int .i64 0, .int .u64 0, .int .u64 0, .int .u64 0, .int .u64 0]) 16 128 und32 hi0 hz0 hz1 hz2 rfl (by decide) (.slice o1 k c1) k ((delF n m (la - e) k).flatMap ceE) (by simp [Act.eval, Act.put]) (some ⟨wr.heap.size, 0, none⟩) 1 1 (ceE ⟨n, m, (la : Int) - (e : Int) - 1 - (k : Int), true, zeroR⟩) (by simp [Act.eval, Act.put]) ((hlr.out).keep fun g hg => al_lt' (hlr.out.lt hg).2) rfl (fun _ => ⟨_, rfl, row_cells2 (cs := ceE ⟨n, m, (la : Int) - (e : Int) - 1 - (k : Int), true, zeroR⟩) (heap_alloc_new wr _)⟩) (oneE _) hp hq (by simp; omega) ?_; intro o2 c2 w2 hown2 hg2 hat2 hsm2; have hb9 : RowKit.Below w.heap.size w w2 := below_grown (below_al hbr _) (fun g hgv => (hlr.out.lt hgv).1) hg2; have HO2 := Lib.hid hown2; clear hown2 hg2 hat2 hsm2; have HB9 := Lib.hid hb9; clear hb9)
                  go_roundw
                  case rel =>
                    refine ⟨k + 1, ?_, by omega, ?_, HB9.out⟩
                    · congr 1; omega
                    · unfold O1
                      rw [delF_len, HSUCC.out, List.flatMap_append]
                      simpa using HO2.out
                  case measure => simp [intOf]; omega
                · obtain rfl : k = nd := by omega
                  have e1 : ¬ (i : Int) ≤ (la : Int) - (e : Int) - 1 - (k : Int) := by omega
                  have HND := Lib.hid hnd'
                  clear hnd'
                  go_wp2_with fail
                  go_loopw [11, 13] (fun v11 v13 wr => ∃ p : Nat, v13 = .int .i64 (p : Int) ∧ i ≤ p ∧ p + e ≤ lb ∧ O1 ceE 55 16 wr (fun g => w.heap.size ≤ g) (delF n m (la - e) k ++ addF n m B i (p - i)) v11 ∧ RowKit.Below w.heap.size w wr) (fun _ v13 _ => ((lb : Int) - (e : Int) - intOf v13).toNat)
                  case atStart =>
                    refine ⟨i, rfl, Nat.le_refl _, by omega, ?_, hbr⟩
                    have : addF n m B i (i - i) = [] := by rw [Nat.sub_self]; rfl
                    rw [this, List.append_nil]
                    exact HOWN.out
                  case round =>
                    obtain ⟨p, rfl, hip, hpl, hown, hbr⟩ := hrel
                    obtain ⟨o3, c3, eo⟩ := Ow.form hown
                    obtain ⟨nn, hnn⟩ : ∃ nn, Hid ((delF n m (la - e) k ++ addF n m B i (p - i)).length = nn) := ⟨_, Lib.hid rfl⟩
                    rw [hnn.out] at eo
                    subst eo
                    have HOWN := Lib.hid hown
                    have hnl : nn = k + (p - i) := by rw [← hnn.out, List.length_append, delF_len, addF_len]
                    have HNL := Lib.hid hnl
                    clear hown hnl
                    have hpI : ((p : Int) < (lb : Int) - (e : Int)) ↔ p + e < lb := by omega
                    have HPI := Lib.hid hpI
                    clear hpI
                    by_cases hlt4 : p + e < lb
                    · have c1 : (p : Int) < (lb : Int) - (e : Int) := by omega
                      have c2 : (p : Int) < (lb : Int) := by omega
                      have hpB : p < B.length := by rw [hlb.out]; omega
                      obtain ⟨x, hx⟩ : ∃ x, Hid (B[p] = x) := ⟨_, Lib.hid rfl⟩
                      have qx := B4.out p hpB
                      rw [hx.out] at qx
                      have hsucc := addF_succ n m B i (p - i)
                      have hcast : i + (p - i) = p := by omega
                      have hge : B.getD p zeroR = x := by rw [List.getD_eq_getElem?_getD, List.getElem?_eq_getElem hpB, hx.out]; rfl
                      have hs1 : p + 1 - i = p - i + 1 := by omega
                      rw [hcast, hge, ← hs1] at hsucc
                      have HSUCC := Lib.hid hsucc
                      have hp : nn + 1 ≤ maxLen := by have := HNL.out; have := HND.out; simp only [maxLen]; omega
                      have hq : (nn + 1) * 128 ≤ 140737488355328 := by have := HNL.out; have := HND.out; omega
                      obtain ⟨xs, hxs⟩ : ∃ xs, Hid ((delF n m (la - e) k ++ addF n m B i (p - i)).flatMap ceE = xs) := ⟨_, Lib.hid rfl⟩
                      have hlr : Hid (Ow wr (fun g => w.heap.size ≤ g) 55 16 (.slice o3 nn c3) nn xs) := Lib.hid (by have := HOWN.out; unfold O1 at this; rw [hnn.out, hxs.out] at this; exact this)
                      have hbs := hbr.size
                      clear hsucc hcast hge hs1
                      try obtain rfl := B3.out (by omega)
                      have q0 := (show wr.cell? ⟨bb, fb + p * 12, none⟩ = some (.int .i64 x.p) from cell_below hbr (by have := qx 0 (by decide); rw [← Nat.add_assoc] at this; exact this))
                      have q1 := (show wr.cell? ⟨bb, fb + p * 12 + 1, none⟩ = some (.int .u64 x.vh) from cell_below hbr (by have := qx 1 (by decide); rw [← Nat.add_assoc] at this; exact this))
                      have q2 := (show wr.cell? ⟨bb, fb + p * 12 + 2, none⟩ = some (.int .u64 x.vl) from cell_below hbr (by have := qx 2 (by decide); rw [← Nat.add_assoc] at this; exact this))
                      have q3 := (show wr.cell? ⟨bb, fb + p * 12 + 3, none⟩ = some (.int .u64 x.ch) from cell_below hbr (by have := qx 3 (by decide); rw [← Nat.add_assoc] at this; exact this))
                      have q4 := (show wr.cell? ⟨bb, fb + p * 12 + 4, none⟩ = some (.int .u64 x.cl) from cell_below hbr (by have := qx 4 (by decide); rw [← Nat.add_assoc] at this; exact this))
                      have q5 := (show wr.cell? ⟨bb, fb + p * 12 + 5, none⟩ = some (.int .i64 x.kd) from cell_below hbr (by have := qx 5 (by decide); rw [← Nat.add_assoc] at this; exact this))
                      have q6 := (show wr.cell? ⟨bb, fb + p * 12 + 6, none⟩ = some (.int .i64 x.po) from cell_below hbr (by have := qx 6 (by decide); rw [← Nat.add_assoc] at this; exact this))
                      have q7 := (show wr.cell? ⟨bb, fb + p * 12 + 7, none⟩ = some (.int .i64 x.tb) from cell_below hbr (by have := qx 7 (by decide); rw [← Nat.add_assoc] at this; exact this))
                      have q8 := (show wr.cell? ⟨bb, fb + p * 12 + 8, none⟩ = some (.int .u64 x.sh) from cell_below hbr (by have := qx 8 (by decide); rw [← Nat.add_assoc] at this; exact this))
                      have q9 := (show wr.cell? ⟨bb, fb + p * 12 + 9, none⟩ = some (.int .u64 x.sl) from cell_below hbr (by have := qx 9 (by decide); rw [← Nat.add_assoc] at this; exact this))
                      have q10 := (show wr.cell? ⟨bb, fb + p * 12 + 10, none⟩ = some (.int .u64 x.th) from cell_below hbr (by have := qx 10 (by decide); rw [← Nat.add_assoc] at this; exact this))
                      have q11 := (show wr.cell? ⟨bb, fb + p * 12 + 11, none⟩ = some (.int .u64 x.tl) from cell_below hbr (by have := qx 11 (by decide); rw [← Nat.add_assoc] at this; exact this))
                      clear qx
                      go_wp2_with (at_builtin; refine wpList_app_ow rfl _ _ 32 rfl (fun g => w.heap.size ≤ g) 55 i0 (.agg #[.int .i64 0, .int .i64 0, .int .i64 0, .bool false, .int .i64 0, .int .u64 0, .int .u64 0, .int .u64 0, .int .u64 0, .int .i64 0, .int .i64 0, .int .i64 0, .int .u64 0, .int .u64 0, .int .u64 0, .int .u64 0]) 16 128 und32 hi0 hz0 hz1 hz2 rfl (by decide) (.slice o3 nn c3) nn xs (by simp [Act.eval, Act.put]) (some ⟨wr.heap.size, 0, none⟩) 1 1 (ceE ⟨n, m, (p : Int), false, x⟩) (by simp [Act.eval, Act.put]) ((hlr.out).keep fun g hg => al_lt' (hlr.out.lt hg).2) rfl (fun _ => ⟨_, rfl, row_cells2 (cs := ceE ⟨n, m, (p : Int), false, x⟩) (heap_alloc_new wr _)⟩) (oneE _) hp hq (by simp; omega) ?_; intro o2 c2 w2 hown2 hg2 hat2 hsm2; have hb9 : RowKit.Below w.heap.size w w2 := below_grown (below_al hbr _) (fun g hgv => (hlr.out.lt hgv).1) hg2; have HO2 := Lib.hid hown2; clear hown2 hg2 hat2 hsm2; have HB9 := Lib.hid hb9; clear hb9)
                      go_roundw
                      case rel =>
                        refine ⟨p + 1, by go_num, by omega, by omega, ?_, HB9.out⟩
                        unfold O1
                        rw [HSUCC.out, ← List.append_assoc, List.length_append, List.flatMap_append, hnn.out, hxs.out]
                        simpa using HO2.out
                      case measure => simp [intOf]; omega
                    · have c1 : ¬ (p : Int) < (lb : Int) - (e : Int) := by omega
                      go_wp2_with fail
                      refine bodyPost_ret (results_tmp rfl _ _ _) rfl ?_
                      refine ⟨_, rfl, ?_, hbr⟩
                      have h9 := HOWN.out
                      have hpp : p - i = lb - e - i := by omega
                      unfold tableF
                      rw [hF.out, hE.out, hla.out, hlb.out, hnd.out, ← hpp]
                      exact h9
end Go.Proofs.Ytdmakcfgcgioeaa
