/- Delta: slices.Delete at rules. -/
import Derived.Test.YtdmakcfgcgioeaaDRow
namespace Go.Proofs.Ytdmakcfgcgioeaa
open Go.RowKit Go.Maps
set_option linter.unusedSimpArgs false
set_option linter.unusedVariables false
set_option maxRecDepth 100000
set_option maxHeartbeats 4000000 in
theorem delete_c (w : World) {B : Nat → Prop} {o : Option Addr} {c : Nat} {l : List Ru} (h : Ow w B 53 12 (.slice o l.length c) l.length (l.flatMap ceR)) (i : Nat) (hi : i < l.length) (hl : l.length ≤ 1466015503700) (hB : B w.heap.size) :
    Calls Try.prog 31 #[.slice o l.length c, .int .i64 (i : Int), .int .i64 ((i : Int) + 1)] w fun e w' => e = .returned (.slice o (l.length - 1) c) ∧ Ow w' B 53 12 (.slice o (l.length - 1) c) (l.length - 1) ((l.eraseIdx i).flatMap ceR) ∧ w.grownBy w' (Value.slice o l.length c).ownBlock := by
  obtain ⟨g, cur, rfl, hBg, hg, hnc, hcm, hcs, htk⟩ := h.blk (by omega)
  have H := Lib.hid h
  simp only [maxLen] at hcm
  obtain ⟨m, hn⟩ : ∃ m, Hid (l.length = m + 1) := ⟨l.length - 1, Lib.hid (by omega)⟩
  rw [hn.out] at hi hl hnc ⊢
  have hiI : (i : Int) < (m : Int) + 1 := by omega
  have hne : ((i : Int) == (i : Int) + 1) = false := by simp; omega
  obtain ⟨xs, hxs⟩ : ∃ xs, Hid (l.flatMap ceR = xs) := ⟨_, Lib.hid rfl⟩
  have hxl : xs.length = (m + 1) * 12 := by rw [← hxs.out, flat_len lenR, hn.out]
  have hx1 : ∀ u ∈ xs, u.oneCell' = true := by rw [← hxs.out]; exact flat_one oneR l
  have HX1 := Lib.hid hx1
  have HXL := Lib.hid hxl
  have hH : Ow w B 53 12 (.slice (some ⟨g, 0, none⟩) (m + 1) c) (m + 1) xs := by rw [← hxs.out, ← hn.out]; exact H.out
  have HH := Lib.hid hH
  have hcell : ∀ j u, (xs.drop ((i + 1) * 12))[j]? = some u → w.cell? ((⟨g, 0 + (i + 1) * 12, none⟩ : Addr).add j) = some u := fun j u hu => by
    rw [Addr.add_lit, Nat.zero_add]
    rw [List.getElem?_drop] at hu
    have := hH.cells (g := g) rfl _ u hu
    rw [Addr.add_lit, Nat.zero_add] at this
    exact this
  have HC := Lib.hid hcell
  obtain ⟨i0, hi0, hz0, hz1, hz2⟩ := info_parts inf53
  have hp : m ≤ maxLen := by simp only [maxLen]; omega
  have hq : m * 96 ≤ 140737488355328 := by omega
  have HE : Hid (xs.take (i * 12) ++ xs.drop ((i + 1) * 12) = (l.eraseIdx i).flatMap ceR) := by
    rw [List.eraseIdx_eq_take_drop_succ, List.flatMap_append, flat_take lenR _ _ (by rw [hn.out]; omega), flat_drop lenR _ _ (by rw [hn.out]; omega), hxs.out]
    exact Lib.hid rfl
  have FIN : Hid (∀ w1, Ow w1 B 53 12 (.slice (some ⟨g, 0, none⟩) m c) m (xs.take (i * 12) ++ xs.drop ((i + 1) * 12)) → w.grownBy w1 (Value.slice (some ⟨g, 0, none⟩) i c).ownBlock → ∃ w2, (∀ ty k, (Builtin.clear_ #[44] ty #[.slice (some ⟨g, m * 12, none⟩) 1 k]).run Try.prog w1 = .ok (.tuple #[]) w2) ∧ Ow w2 B 53 12 (.slice (some ⟨g, 0, none⟩) m c) m ((l.eraseIdx i).flatMap ceR) ∧ w.grownBy w2 (Value.slice (some ⟨g, 0, none⟩) (m + 1) c).ownBlock) := Lib.hid fun w1 h1 h2 => by
    obtain ⟨cur1, _, hg1, _, _, hc1, _⟩ := h1.blk2
    have hzl : (Builtin.zeroCells (Value.agg #[.int .i64 0, .int .u64 0, .int .u64 0, .int .u64 0, .int .u64 0, .int .i64 0, .int .i64 0, .int .i64 0, .int .u64 0, .int .u64 0, .int .u64 0, .int .u64 0]).cells 1).toList.length = 12 := by rw [Array.length_toList, size_zeroCells]; rfl
    refine ⟨_, fun ty k => run_clear_rows 44 53 ty i0 (.agg #[.int .i64 0, .int .u64 0, .int .u64 0, .int .u64 0, .int .u64 0, .int .i64 0, .int .i64 0, .int .i64 0, .int .u64 0, .int .u64 0, .int .u64 0, .int .u64 0]) und44 hi0 hz0 g (m * 12) 1 k cur1 53 hg1 (by decide) (by simp [Value.cells]; omega) (by decide +kernel), ?_, h2.trans (grown_setRow (v := .slice (some ⟨g, 0, none⟩) (m + 1) c) rfl)⟩
    rw [← HE.out]
    exact h1.tail rfl hg1 (Nat.le_refl _) (by rw [hzl]; omega)
  have hcm2 : ¬ c = m := by omega
  clear h hg htk hxl hx1 hH hcell H
  go_enter Try.func31, Try.ntmps31
  go_upto_region 5 with (fail)
  by_cases hci : c = i + 1
  · obtain rfl : m = i := by omega
    subst hci
    go_region_held_law (fun _ => True) (exact trivial)
      (first
        | (refine step_app_owN rfl (.tmp 22) (.tmp 25) 44 rfl B 53 i0 (.agg #[.int .i64 0, .int .u64 0, .int .u64 0, .int .u64 0, .int .u64 0, .int .i64 0, .int .i64 0, .int .i64 0, .int .u64 0, .int .u64 0, .int .u64 0, .int .u64 0]) 12 96 und44 hi0 hz0 hz1 hz2 rfl (by decide) (.slice (some ⟨g, 0, none⟩) m (m + 1)) m (xs.take (m * 12)) (by simp [Act.eval, Act.put]) _ 0 _ m (Nat.add_zero m) [] (by simp [Act.eval, Act.put]; exact ⟨rfl, rfl⟩) 26 rfl (HH.out.pre (by omega)) rfl (fun h => by omega) (fun u hu => by simp at hu) hp hq hB ?_; intro o' c' w1 hown hg hat hsm; obtain ⟨rfl, rfl⟩ := hsm _ _ rfl (by omega)))
    all_goals
      obtain ⟨w2, hrun, hfin, hgr⟩ := FIN.out w1 (by rw [List.drop_of_length_le (by rw [HXL.out]; exact Nat.le_refl _)]; exact hown) (grown_drew hg)
      have HFIN := Lib.hid hfin
      have HRUN := Lib.hid hrun
      clear hown hg hat hsm hfin hrun
      go_wp2_with (refine wpList_clear_run rfl _ _ rfl _ rfl (HRUN.out _ _) ?_)
      go_ret
      exact ⟨by simp, by simpa using HFIN.out, hgr⟩
  · go_region_held_law (fun _ => True) (exact trivial)
      (first
        | (refine step_app_owN rfl (.tmp 22) (.tmp 25) 44 rfl B 53 i0 (.agg #[.int .i64 0, .int .u64 0, .int .u64 0, .int .u64 0, .int .u64 0, .int .i64 0, .int .i64 0, .int .i64 0, .int .u64 0, .int .u64 0, .int .u64 0, .int .u64 0]) 12 96 und44 hi0 hz0 hz1 hz2 rfl (by decide) (.slice (some ⟨g, 0, none⟩) i c) i (xs.take (i * 12)) (by simp [Act.eval, Act.put]) (some ⟨g, 0 + (i + 1) * 12, none⟩) (m + 1 - (i + 1)) (c - (i + 1)) m (by omega) (xs.drop ((i + 1) * 12)) (by simp [Act.eval, Act.put]) 26 rfl (HH.out.pre (by omega)) (by rw [List.length_drop, HXL.out, Nat.sub_mul]) (fun _ => ⟨_, rfl, HC.out⟩) (fun u hu => HX1.out u (List.mem_of_mem_drop hu)) hp hq hB ?_; intro o' c' w1 hown hg hat hsm; obtain ⟨rfl, rfl⟩ := hsm _ _ rfl (by omega)))
    all_goals
      obtain ⟨w2, hrun, hfin, hgr⟩ := FIN.out w1 hown (grown_drew hg)
      have HFIN := Lib.hid hfin
      have HRUN := Lib.hid hrun
      clear hown hg hat hsm hfin hrun
      go_wp2_with (refine wpList_clear_run rfl _ _ rfl _ rfl (HRUN.out _ _) ?_)
      go_ret
      exact ⟨by simp, by simpa using HFIN.out, hgr⟩
end Go.Proofs.Ytdmakcfgcgioeaa
