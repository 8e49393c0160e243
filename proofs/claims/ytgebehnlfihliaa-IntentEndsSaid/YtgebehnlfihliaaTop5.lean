/- Topo: the document's Edges. -/
import Derived.Test.YtgebehnlfihliaaTop4
namespace Go.Proofs.Ytgebehnlfihliaa
open Go.RowKit
set_option linter.unusedSimpArgs false
set_option linter.unusedVariables false
set_option maxRecDepth 100000
set_option maxHeartbeats 8000000 in
theorem redges_c {o : Option Addr} {cap : Nat} {T : Tp} {w : World} (h : TA w o cap T) (hsum : sumL T T.n ≤ 1100000) :
    Calls Try.prog 16 #[.agg #[.slice o T.n cap]] w fun e w' => ∃ v, e = .returned v ∧ w'.ownsRow w.heap.size 26 2 v (edgs T T.n).length (flatS (edgs T T.n)) ∧ RowKit.Below w.heap.size w w' := by
  obtain ⟨b, off, ro, rc, rb, rf, h1, h2, h3, h4, h5⟩ := h.ex
  have H4 := Lib.hid h4
  have H5 := Lib.hid h5
  have H1 := Lib.hid h1
  clear h4 h5 h1
  obtain ⟨n, hn⟩ : ∃ n, Hid (T.n = n) := ⟨_, rfl⟩
  rw [hn.out] at h2 hsum ⊢
  have hcap : (cap : Int) ≤ 9223372036854775807 := by simp only [maxLen] at h3; omega
  obtain ⟨i0, hi, hz0, hz1, hz2⟩ := info_parts i26
  go_enter Try.func16, Try.ntmps16
  go_wp2_with fail
  refine wp_world (fun W => W.heap[w.heap.size]? = some (.cells #[.slice o n cap] 24 (0, 0)) ∧ RowKit.Below w.heap.size w W ∧ W.ownsRow w.heap.size 26 2 (.slice (some ⟨w.heap.size + 1, 0, none⟩) 0 0) 0 []) ?_ ?_
  · refine ⟨?_, below2 _ _ _, rfl, .inr ⟨w.heap.size + 1, 0, #[], rfl, by omega, ?_, Nat.le_refl _, by decide, rfl, rfl⟩⟩
    · rw [al_lt' (by rw [World.size_alloc]; omega)]
      exact heap_alloc_new w _
    · have := heap_alloc_new (w.alloc (.cells #[.slice o n cap] 24)) (.cells #[] 26)
      rw [World.size_alloc] at this
      exact this
  obtain ⟨gb, hgb⟩ : ∃ gb, Hid (gb = w.heap.size) := ⟨_, rfl⟩
  rw [← hgb.out]
  rintro W ⟨x0, hbW, hrow0⟩
  rw [hgb.out] at hbW hrow0 ⊢
  have hgbs : gb = w.heap.size := hgb.out
  clear hgbs
  have hW0 := hbW.size
  go_loopw [3, 4] (fun v3 v11 wr => ∃ i : Nat, v11 = .int .i64 (i : Int) ∧ i ≤ n ∧ wr.ownsRow w.heap.size 26 2 v3 (edgs T i).length (flatS (edgs T i)) ∧ RowKit.Below w.heap.size w wr ∧ wr.heap[w.heap.size]? = some (.cells #[.slice o n cap] 24 (0, 0))) (fun _ v11 _ => n - (intOf v11).toNat)
  case atStart => exact ⟨0, rfl, Nat.zero_le _, hrow0, hbW, by rw [← hgb.out]; exact x0⟩
  case round =>
    obtain ⟨i, rfl, hin, hown, hbr, xbh⟩ := hrel
    have xb : wr.cell? ⟨w.heap.size, 0, none⟩ = some (.slice o n cap) := by rw [cell_b xbh]; rfl
    by_cases hlt : i < n
    · obtain rfl := H1.out (by rw [hn.out]; omega)
      obtain ⟨r1, r2, r3, r4⟩ := H4.out i (by rw [hn.out]; exact hlt)
      have r0 := cell_below hbr r1
      have hltI : (i : Int) < (n : Int) := by omega
      obtain ⟨m, hm⟩ : ∃ m, Hid (T.ln i = m) := ⟨_, rfl⟩
      rw [hm.out] at r0 r2 r4
      have hsm : (edgs T i).length + m ≤ 1100000 := by
        have a1 := edgs_len T i
        have a2 := sumL_mono T (show i + 1 ≤ n by omega)
        simp only [sumL] at a2
        rw [hm.out] at a2
        omega
      have hmI : (m : Int) ≤ 9223372036854775807 := by simp only [maxLen] at r3; omega
      generalize ro i = orr at r0 r1 r4
      go_wp2_with fail
      go_loopw [3, 5] (fun v3 v18 wr2 => ∃ j : Nat, v18 = .int .i64 (j : Int) ∧ j ≤ m ∧ wr2.ownsRow w.heap.size 26 2 v3 (edgs T i ++ edgRow T i j).length (flatS (edgs T i ++ edgRow T i j)) ∧ RowKit.Below w.heap.size w wr2 ∧ wr2.heap[w.heap.size]? = some (.cells #[.slice (some ⟨b, off, none⟩) n cap] 24 (0, 0))) (fun _ v18 _ => m - (intOf v18).toNat)
      case atStart => exact ⟨0, rfl, Nat.zero_le _, by simpa [edgRow] using hown, hbr, xbh⟩
      case round =>
        obtain ⟨j, rfl, hjm, hown2, hbr2, xb2h⟩ := hrel
        have xb2 : wr.cell? ⟨w.heap.size, 0, none⟩ = some (.slice (some ⟨b, off, none⟩) n cap) := by rw [cell_b xb2h]; rfl
        have hgb2 := (Array.getElem?_eq_some_iff.1 xb2h).1
        have r0' := cell_below hbr2 r1
        rw [hm.out] at r0'
        by_cases hjl : j < m
        · have hjI : (j : Int) < (m : Int) := by omega
          obtain ⟨p0, p1, p2, p3, p4⟩ := H5.out i j (by rw [hn.out]; exact hlt) (by rw [hm.out]; exact hjl)
          obtain rfl := r4 (by omega)
          have t0 := cell_below hbr2 p0
          have t1 := cell_below hbr2 p1
          have t2 := cell_below hbr2 p2
          have t3 := cell_below hbr2 p3
          have t4 := cell_below hbr2 p4
          have hlj : (edgs T i ++ edgRow T i j).length ≤ 1100000 := by
            rw [List.length_append]
            have := edgRow_len T i j
            omega
          obtain ⟨L, hL⟩ : ∃ L, Hid (edgs T i ++ edgRow T i j = L) := ⟨_, rfl⟩
          rw [hL.out] at hown2 hlj
          have hbs := hbr2.size
          obtain ⟨P, hP⟩ : ∃ P, Hid (T.pt i j = P) := ⟨_, rfl⟩
          rw [hP.out] at t0 t1 t2 t3 t4
          obtain ⟨kind, ten, peer, at_, cost⟩ := P
          simp only at t0 t1 t2 t3 t4
          clear p0 p1 p2 p3 p4
          by_cases k1 : kind = 1
          · subst k1
            have hE := Lib.hid (edgRow_hit (T := T) (i := i) (m := j) (by rw [hP.out]))
            obtain ⟨o3, cap3, rfl⟩ := slice_form hown2
            go_wp2_with (first
              | (at_builtin; refine wpList_append_own_at _ rfl _ _ 29 rfl w.heap.size 26 i0 (.agg #[.int .i64 0, .int .i64 0]) 2 16 und29 hi hz0 hz1 hz2 rfl (by decide) _ _ _ rfl (owns_of (w := wr) hown2 ?_) ⟨wr.heap.size, 0, none⟩ 1 1 [.int .i64 (i : Int), .int .i64 (j : Int)] rfl rfl ?_ ?_ ?_ ?_ ?_ ?_)
              | fail)
            case refine_1 =>
              intro g hg
              have hgl := (hown2.lt g hg).2
              rw [al_lt' hgl]
            case refine_3 => exact ⟨rfl, rfl⟩
            case refine_4 => unfold maxLen; omega
            case refine_5 => omega
            case refine_6 => (try simp only [World.size_alloc]); omega
            case refine_7 =>
              intro v' w3 hown3 hg3 hnil hloc
              have hs3 := hg3.size
              simp only [World.size_alloc] at hs3
              have hb3 : RowKit.Below w.heap.size w w3 := by
                refine hbr2.trans ⟨hg3.os, hg3.tape, hg3.output, by omega, fun b' hbb => ?_⟩
                rw [hg3.block b' (by simp only [World.size_alloc]; omega) (fun e => by have := (hown2.lt b' e.symm).1; omega), al_lt' (by omega)]
              have hxb3 : w3.heap[w.heap.size]? = some (.cells #[.slice (some ⟨b, off, none⟩) n cap] 24 (0, 0)) := by
                rw [hg3.block w.heap.size (by simp only [World.size_alloc]; omega) (fun e => ?_), al_lt' hgb2]
                · exact xb2h
                · rcases hown2.2 with ⟨e1, _⟩ | ⟨g', cap', cur', e1, _, hgg, _⟩
                  · rw [e1] at e; cases e
                  · rw [e1] at e
                    simp [Value.ownBlock] at e
                    rw [← e, xb2h] at hgg
                    simp at hgg
              have hrow : Hid (w3.ownsRow w.heap.size 26 2 v' (edgs T i ++ edgRow T i (j + 1)).length (flatS (edgs T i ++ edgRow T i (j + 1)))) := by
                rw [hE.out, ← List.append_assoc, hL.out, List.length_append, flatS_app]
                exact hown3
              clear hown3 hnil hloc
              go_wp2_with fail
              go_roundw
              case rel => exact ⟨j + 1, by go_num, by omega, hrow.out, hb3, hxb3⟩
              case measure => simp [intOf]; omega
          · have hE := Lib.hid (edgRow_miss (T := T) (i := i) (m := j) (by rw [hP.out]; exact k1))
            have k1b : (kind == 1) = false := by simpa using k1
            go_wp2_with fail
            go_roundw
            case rel => exact ⟨j + 1, by go_num, by omega, by rw [hE.out, hL.out]; exact hown2, hbr2, xb2h⟩
            case measure => simp [intOf]; omega
        · have : j = m := by omega
          subst this
          have hE : Hid (edgs T (i + 1) = edgs T i ++ edgRow T i j) := by rw [edgs_succ, hm.out]; exact rfl
          go_wp2_with fail
          go_roundw
          case rel => exact ⟨i + 1, by go_num, by omega, by rw [hE.out]; exact hown2, hbr2, xb2h⟩
          case measure => simp [intOf]; omega
    · have : i = n := by omega
      subst this
      go_wp2_with fail
      go_ret
      exact ⟨_, rfl, hown, hbr⟩
end Go.Proofs.Ytgebehnlfihliaa
