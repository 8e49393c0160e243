/- Topo: when a port may be, by the document. -/
import Derived.Test.YtgebehnlfihliaaTop1
import Derived.BigRegion
namespace Go.Proofs.Ytgebehnlfihliaa
open Go.RowKit
set_option linter.unusedSimpArgs false
set_option linter.unusedVariables false
set_option maxRecDepth 100000
theorem wp_world {P : Program} {c : Code} {Q : Exit → Act → World → Prop} {a : Act} {w : World} (S : World → Prop) (h : S w) (H : ∀ W, S W → c.wp P Q a W) : c.wp P Q a w := H w h
theorem reg_c {W : World} {a : Addr} {v : Value} (h : W.cell? a = some v) : ∀ p : Regrown, (Sort.grow (redrawn W p.d) p.os).cell? a = some v := fun p => by
  rw [World.cell?_of_block (w := W) ((below_regrown W p.d p.os).block a.block (World.block_lt_of_cell? W a h))]
  exact h
theorem cell_b {w : World} {b o : Nat} {c : Array Value} {t : TypeId} {f : Nat × Nat} (h : w.heap[b]? = some (.cells c t f)) : w.cell? ⟨b, o, none⟩ = c[o]? := by
  simp [World.cell?, h]
set_option maxHeartbeats 40000000 in
theorem rport_c {o : Option Addr} {cap : Nat} {T : Tp} {w : World} (h : TA w o cap T) (i j : Nat) (hi : i < T.n) (hj : j < T.ln i) :
    Calls Try.prog 32 #[.agg #[.slice o T.n cap], .int .i64 (i : Int), .int .i64 (j : Int)] w fun e w' => e = .returned (.bool (portOk T i j)) ∧ RowKit.Below w.heap.size w w' := by
  obtain ⟨b, off, ro, rc, rb, rf, h1, h2, h3, h4, h5⟩ := h.ex
  obtain rfl := h1 (by omega)
  obtain ⟨r1, r2, r3, r4⟩ := h4 i hi
  rw [r4 (by omega)] at r1
  obtain ⟨p0, p1, p2, p3, p4⟩ := h5 i j hi hj
  have hiI : (i : Int) < (T.n : Int) := by omega
  have hjI : (j : Int) < (T.ln i : Int) := by omega
  obtain ⟨P, hP⟩ : ∃ P, Hid (P = T.pt i j) := ⟨_, rfl⟩
  rw [← hP.out] at p0 p1 p2 p3 p4
  obtain ⟨kind, ten, peer, at_, cost⟩ := P
  simp only at p0 p1 p2 p3 p4
  have b1 := World.block_lt_of_cell? w _ r1
  have b2 := World.block_lt_of_cell? w _ p0
  simp only at b1 b2
  have hi' := Lib.hid hi
  have H4 := Lib.hid h4
  have H5 := Lib.hid h5
  clear h4 h5 h1
  go_enter Try.func32, Try.ntmps32
  have hok : Hid (portOk T i j = okP T i j ⟨kind, ten, peer, at_, cost⟩) := by unfold portOk; rw [hP.out]; exact rfl
  by_cases k0 : kind = 0
  · subst k0
    go_wp2_with fail
    all_goals go_ret
    all_goals (refine ⟨?_, below2 _ _ _⟩; rw [hok.out]; simp [okP, *])
    all_goals (try (rw [Bool.eq_iff_iff]; simp))
  · have k0b : (kind == 0) = false := by simpa using k0
    by_cases k1 : kind = 1
    · subst k1
      go_wp2_with fail
      all_goals go_ret
      all_goals (refine ⟨?_, below2 _ _ _⟩; rw [hok.out]; simp [okP, *])
      all_goals (try omega)
      all_goals (try (rw [Bool.eq_iff_iff]; simp))
    · have k1b : (kind == 1) = false := by simpa using k1
      by_cases k2 : kind = 2
      · subst k2
        go_wp2_with fail
        refine wp_world (fun W => W.heap[w.heap.size]? = some (.cells #[.slice (some ⟨b, off, none⟩) T.n cap] 24 (0, 0)) ∧ W.heap[w.heap.size + 1]? = some (.cells #[.int .i64 2, .int .i64 ten, .int .i64 peer, .int .i64 at_, .int .i64 cost] 35 (0, 0)) ∧ RowKit.Below w.heap.size w W) ?_ ?_
        · refine ⟨?_, ?_, below2 _ _ _⟩
          · rw [Below.heap_alloc _ _ _ (by rw [World.size_alloc]; omega)]
            exact heap_alloc_new w _
          · have := heap_alloc_new (w.alloc (.cells #[.slice (some ⟨b, off, none⟩) T.n cap] 24)) (.cells #[.int .i64 2, .int .i64 ten, .int .i64 peer, .int .i64 at_, .int .i64 cost] 35)
            rw [World.size_alloc] at this
            exact this
        obtain ⟨gb, hgb⟩ : ∃ gb, Hid (gb = w.heap.size) := ⟨_, rfl⟩
        rw [← hgb.out]
        rintro W ⟨hW0, hW1, hbW⟩
        rw [hgb.out] at hbW
        have x0 := reg_c (show W.cell? ⟨gb, 0, none⟩ = some (.slice (some ⟨b, off, none⟩) T.n cap) from by rw [cell_b hW0]; rfl)
        have y0 := reg_c (show W.cell? ⟨gb + 1, 0, none⟩ = some (.int .i64 2) from by rw [cell_b hW1]; rfl)
        have y1 := reg_c (show W.cell? ⟨gb + 1, 1, none⟩ = some (.int .i64 ten) from by rw [cell_b hW1]; rfl)
        have y2 := reg_c (show W.cell? ⟨gb + 1, 2, none⟩ = some (.int .i64 peer) from by rw [cell_b hW1]; rfl)
        have y3 := reg_c (show W.cell? ⟨gb + 1, 3, none⟩ = some (.int .i64 at_) from by rw [cell_b hW1]; rfl)
        have y4 := reg_c (show W.cell? ⟨gb + 1, 4, none⟩ = some (.int .i64 cost) from by rw [cell_b hW1]; rfl)
        clear p0 p1 p2 p3 p4 r1 b1 b2
        by_cases c1 : ten = 0
        rotate_left
        · have c1b : (ten != 0) = true := by simpa using c1
          refine wp_region_quiet_below (by kernel_rfl) (by kernel_rfl) ?_; (repeat (go_big_quiet_step ((fail)))); refine wpQuiet_nil ?_; intro _ hw'; obtain ⟨⟨dq, osq⟩, hw''⟩ := hw'; subst hw''
          have hbq := hbW.trans ((below_regrown W dq osq).mono hbW.size)
          go_wp2_with fail
          all_goals go_ret
          all_goals (refine ⟨?_, hbq⟩; rw [hok.out]; simp [okP, *]; try omega)
        subst c1
        by_cases c2 : 1 ≤ cost
        rotate_left
        · have c2b : decide (cost < 1) = true := decide_eq_true (by omega)
          refine wp_region_quiet_below (by kernel_rfl) (by kernel_rfl) ?_; (repeat (go_big_quiet_step ((fail)))); refine wpQuiet_nil ?_; intro _ hw'; obtain ⟨⟨dq, osq⟩, hw''⟩ := hw'; subst hw''
          have hbq := hbW.trans ((below_regrown W dq osq).mono hbW.size)
          go_wp2_with fail
          all_goals go_ret
          all_goals (refine ⟨?_, hbq⟩; rw [hok.out]; simp [okP, *]; try omega)
        have c2b : decide (cost < 1) = false := decide_eq_false (by omega)
        by_cases c3 : cost ≤ 1000
        rotate_left
        · have c3b : decide (1000 < cost) = true := decide_eq_true (by omega)
          refine wp_region_quiet_below (by kernel_rfl) (by kernel_rfl) ?_; (repeat (go_big_quiet_step ((fail)))); refine wpQuiet_nil ?_; intro _ hw'; obtain ⟨⟨dq, osq⟩, hw''⟩ := hw'; subst hw''
          have hbq := hbW.trans ((below_regrown W dq osq).mono hbW.size)
          go_wp2_with fail
          all_goals go_ret
          all_goals (refine ⟨?_, hbq⟩; rw [hok.out]; simp [okP, *]; try omega)
        have c3b : decide (1000 < cost) = false := decide_eq_false (by omega)
        by_cases c4 : 0 ≤ peer
        rotate_left
        · have c4b : decide (peer < 0) = true := decide_eq_true (by omega)
          refine wp_region_quiet_below (by kernel_rfl) (by kernel_rfl) ?_; (repeat (go_big_quiet_step ((fail)))); refine wpQuiet_nil ?_; intro _ hw'; obtain ⟨⟨dq, osq⟩, hw''⟩ := hw'; subst hw''
          have hbq := hbW.trans ((below_regrown W dq osq).mono hbW.size)
          go_wp2_with fail
          all_goals go_ret
          all_goals (refine ⟨?_, hbq⟩; rw [hok.out]; simp [okP, *]; try omega)
        obtain ⟨pn, rfl⟩ : ∃ pn : Nat, peer = (pn : Int) := ⟨peer.toNat, by omega⟩
        have hb4 : decide ((pn : Int) < 0) = false := decide_eq_false (by omega)
        by_cases c5 : pn < T.n
        rotate_left
        · have c5b : decide (T.n ≤ pn) = true := decide_eq_true (by omega)
          have c5bi : decide ((T.n : Int) ≤ (pn : Int)) = true := decide_eq_true (by omega)
          refine wp_region_quiet_below (by kernel_rfl) (by kernel_rfl) ?_; (repeat (go_big_quiet_step ((fail)))); refine wpQuiet_nil ?_; intro _ hw'; obtain ⟨⟨dq, osq⟩, hw''⟩ := hw'; subst hw''
          have hbq := hbW.trans ((below_regrown W dq osq).mono hbW.size)
          go_wp2_with fail
          all_goals go_ret
          all_goals (refine ⟨?_, hbq⟩; rw [hok.out]; simp [okP, *]; try omega)
        have hb5 : decide (T.n ≤ pn) = false := decide_eq_false (by omega)
        have hb5i : decide ((T.n : Int) ≤ (pn : Int)) = false := decide_eq_false (by omega)
        by_cases c6 : pn = i
        · subst c6
          refine wp_region_quiet_below (by kernel_rfl) (by kernel_rfl) ?_; (repeat (go_big_quiet_step ((fail)))); refine wpQuiet_nil ?_; intro _ hw'; obtain ⟨⟨dq, osq⟩, hw''⟩ := hw'; subst hw''
          have hbq := hbW.trans ((below_regrown W dq osq).mono hbW.size)
          go_wp2_with fail
          all_goals go_ret
          all_goals (refine ⟨?_, hbq⟩; rw [hok.out]; simp [okP, *]; try omega)
        have c6i : ¬ (pn : Int) = (i : Int) := by omega
        have hb6 : ((pn : Int) == (i : Int)) = false := by simpa using c6i
        have hb6' : (pn == i) = false := by simpa using c6
        by_cases c7 : 0 ≤ at_
        rotate_left
        · have c7b : decide (at_ < 0) = true := decide_eq_true (by omega)
          refine wp_region_quiet_below (by kernel_rfl) (by kernel_rfl) ?_; (repeat (go_big_quiet_step ((fail)))); refine wpQuiet_nil ?_; intro _ hw'; obtain ⟨⟨dq, osq⟩, hw''⟩ := hw'; subst hw''
          have hbq := hbW.trans ((below_regrown W dq osq).mono hbW.size)
          go_wp2_with fail
          all_goals go_ret
          all_goals (refine ⟨?_, hbq⟩; rw [hok.out]; simp [okP, *]; try omega)
        obtain ⟨an, rfl⟩ : ∃ an : Nat, at_ = (an : Int) := ⟨at_.toNat, by omega⟩
        have hb7 : decide ((an : Int) < 0) = false := decide_eq_false (by omega)
        obtain ⟨q1, q2, q3, q4⟩ := H4.out pn c5
        have c5I : (pn : Int) < (T.n : Int) := by omega
        by_cases c8 : an < T.ln pn
        rotate_left
        · have c8b : decide (T.ln pn ≤ an) = true := decide_eq_true (by omega)
          have c8bi : decide ((T.ln pn : Int) ≤ (an : Int)) = true := decide_eq_true (by omega)
          have z0 := reg_c (cell_below hbW q1)
          refine wp_region_quiet_below (by kernel_rfl) (by kernel_rfl) ?_; (repeat (go_big_quiet_step ((fail)))); refine wpQuiet_nil ?_; intro _ hw'; obtain ⟨⟨dq, osq⟩, hw''⟩ := hw'; subst hw''
          have hbq := hbW.trans ((below_regrown W dq osq).mono hbW.size)
          go_wp2_with fail
          all_goals go_ret
          all_goals (refine ⟨?_, hbq⟩; rw [hok.out]; simp [okP, *]; try omega)
        have hb8 : decide (T.ln pn ≤ an) = false := decide_eq_false (by omega)
        have hb8i : decide ((T.ln pn : Int) ≤ (an : Int)) = false := decide_eq_false (by omega)
        rw [q4 (by omega)] at q1
        have z0 := reg_c (cell_below hbW q1)
        have H5p := H5.out pn an c5 c8
        obtain ⟨Q, hQ⟩ : ∃ Q, Hid (T.pt pn an = Q) := ⟨_, rfl⟩
        rw [hQ.out] at H5p
        obtain ⟨qk, qt, qp, qa, qc⟩ := Q
        obtain ⟨t0, t1, t2, t3, t4⟩ := H5p
        simp only at t0 t1 t2 t3 t4
        have t0' := cell_below hbW t0
        have t1' := cell_below hbW t1
        have t2' := cell_below hbW t2
        have t3' := cell_below hbW t3
        have t4' := cell_below hbW t4
        have c8I : (an : Int) < (T.ln pn : Int) := by omega
        refine wp_region_quiet_below (by kernel_rfl) (by kernel_rfl) ?_; (repeat (go_big_quiet_step ((fail)))); refine wpQuiet_nil ?_; intro _ hw'; obtain ⟨⟨dq, osq⟩, hw''⟩ := hw'; subst hw''
        have hbq := hbW.trans ((below_regrown W dq osq).mono hbW.size)
        go_wp2_with fail
        refine wp_world (fun V => V.cell? ⟨gb, 0, none⟩ = some (.slice (some ⟨b, off, none⟩) T.n cap) ∧ V.cell? ⟨gb + 1, 2, none⟩ = some (.int .i64 (pn : Int)) ∧ V.cell? ⟨gb + 1, 3, none⟩ = some (.int .i64 (an : Int)) ∧ V.cell? ⟨gb + 1, 4, none⟩ = some (.int .i64 cost) ∧ V.cell? ⟨b, off + pn, none⟩ = some (.slice (some ⟨rb pn, rf pn, none⟩) (T.ln pn) (rc pn)) ∧ (V.cell? ⟨rb pn, rf pn + an * 5, none⟩ = some (.int .i64 qk) ∧ V.cell? ⟨rb pn, rf pn + an * 5 + 1, none⟩ = some (.int .i64 qt) ∧ V.cell? ⟨rb pn, rf pn + an * 5 + 2, none⟩ = some (.int .i64 qp) ∧ V.cell? ⟨rb pn, rf pn + an * 5 + 3, none⟩ = some (.int .i64 qa) ∧ V.cell? ⟨rb pn, rf pn + an * 5 + 4, none⟩ = some (.int .i64 qc)) ∧ RowKit.Below w.heap.size w V) ?_ ?_
        · exact ⟨x0 ⟨dq, osq⟩, y2 ⟨dq, osq⟩, y3 ⟨dq, osq⟩, y4 ⟨dq, osq⟩, z0 ⟨dq, osq⟩, ⟨reg_c t0' ⟨dq, osq⟩, reg_c t1' ⟨dq, osq⟩, reg_c t2' ⟨dq, osq⟩, reg_c t3' ⟨dq, osq⟩, reg_c t4' ⟨dq, osq⟩⟩, hbq⟩
        clear x0 y0 y1 y2 y3 y4 z0 t0 t1 t2 t3 t4 t0' t1' t2' t3' t4' hbq hW0 hW1 hbW q1 q2 q3 q4
        rintro V ⟨x0, y2, y3, y4, z0, ⟨t0, t1, t2, t3, t4⟩, hbV⟩
        have l0 := World.block_lt_of_cell? V _ x0
        have l1 := World.block_lt_of_cell? V _ y2
        have l2 := World.block_lt_of_cell? V _ t0
        have l3 := World.block_lt_of_cell? V _ z0
        simp only at l0 l1 l2 l3
        go_region
        go_wp2_with fail
        all_goals go_ret
        all_goals (refine ⟨?_, (hbV.alloc hbV.size _).drew⟩; rw [hok.out]; simp [okP, hQ.out, *])
        all_goals (try (rw [Bool.eq_iff_iff]; simp))
        all_goals (try omega)
      · have k2b : (kind != 2) = true := by simpa using k2
        go_wp2_with fail
        (try go_quiet (fail))
        go_wp2_with fail
        all_goals go_ret
        all_goals (refine ⟨?_, (below2 _ _ _).trans ⟨rfl, rfl, rfl, Nat.le_refl _, fun _ _ => rfl⟩⟩; rw [hok.out]; simp [okP, *]; try omega)
end Go.Proofs.Ytgebehnlfihliaa
