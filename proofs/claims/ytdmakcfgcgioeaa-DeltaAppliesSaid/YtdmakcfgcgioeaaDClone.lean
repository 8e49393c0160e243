/- Delta: Clone and Clip. -/
import Derived.Test.YtdmakcfgcgioeaaDBase
import Derived.Lib.SliceRun
namespace Go.Proofs.Ytdmakcfgcgioeaa
open Go.RowKit Go.Maps
set_option linter.unusedSimpArgs false
set_option linter.unusedVariables false
set_option maxRecDepth 100000
theorem und25 : Try.prog.underlying 25 = some (.slice 63) := by kernel_rfl
theorem inf63 : (Try.prog.info? 63).map (fun i => (i.zero, i.size, i.bytes)) = some (some (.agg #[.int .i64 0, .int .i64 0]), 2, 16) := by kernel_rfl
theorem clip2 (W : World) {o : Option Addr} {n c : Nat} (h0 : o = none → n = 0 ∧ c = 0) (hn : n ≤ c) (hc : c ≤ maxLen) :
    Calls Try.prog 25 #[.slice o n c] W fun e w' => e = .returned (.slice o n n) ∧ w' = W := by
  simp only [maxLen] at hc
  cases o with
  | none =>
    obtain ⟨rfl, rfl⟩ := h0 rfl
    clear h0
    go_enter Try.func25, Try.ntmps25
    go_wp2_with fail
    go_ret
    exact ⟨rfl, rfl⟩
  | some a =>
    clear h0
    go_enter Try.func25, Try.ntmps25
    go_wp2_with fail
    all_goals go_ret
    all_goals exact ⟨rfl, rfl⟩
set_option maxHeartbeats 1000000 in
theorem clone2 (W : World) {o : Option Addr} {c : Nat} {l : List _} (h : Rd W o l.length c (l.flatMap ce2)) (h0 : o = none → l.length = 0 ∧ c = 0) (hb : l.length ≤ 8796093022208) :
    Calls Try.prog 26 #[.slice o l.length c] W fun e w' => ∃ v, e = .returned v ∧ Ow w' (fun g => W.heap.size ≤ g) 63 2 v l.length (l.flatMap ce2) ∧ RowKit.Below W.heap.size W w' := by
  cases o with
  | none =>
    obtain ⟨h1, rfl⟩ := h0 rfl
    obtain rfl : l = [] := List.eq_nil_of_length_eq_zero h1
    clear h h0 h1 hb
    have qn := fun (w : World) => Lib.run_eql_slice_nil (P := Try.prog) w 25 63 none 0 0 0 0 und25
    go_enter Try.func26, Try.ntmps26
    go_wp2_with fail
    go_ret
    exact ⟨_, rfl, Ow.nil (by simp), Below.refl _ _⟩
  | some a =>
    obtain ⟨i0, hi, hz0, hz1, hz2⟩ := info_parts inf63
    have hnews := Lib.hid (h.news)
    have hl := flat_len len2 l
    obtain ⟨xs, hxs⟩ : ∃ xs, Hid (l.flatMap ce2 = xs) := ⟨_, rfl⟩
    obtain ⟨n, hn⟩ : ∃ n, Hid (l.length = n) := ⟨_, rfl⟩
    have h1 : ∀ u ∈ xs, u.oneCell' = true := by rw [← hxs.out]; exact flat_one one2 l
    rw [hxs.out] at hl hnews ⊢
    rw [hn.out] at hl hb hnews ⊢
    have H1 := Lib.hid h1
    have HL := Lib.hid hl
    have hp : 0 + n ≤ maxLen := by simp only [maxLen]; omega
    have hq : (0 + n) * 16 ≤ 140737488355328 := by omega
    clear h h0 h1 hl hxs hn hb
    have qn := fun (w : World) => Lib.run_eql_slice_nil (P := Try.prog) w 25 63 (some a) n c 0 0 und25
    go_enter Try.func26, Try.ntmps26
    go_wp2_with (first | (at_builtin; refine wpList_app_ow rfl _ _ 25 rfl (fun g => W.heap.size ≤ g) 63 i0 (.agg #[.int .i64 0, .int .i64 0]) 2 16 und25 hi hz0 hz1 hz2 rfl (by decide) (.slice (some ⟨W.heap.size, 0, none⟩) 0 0) 0 [] (by simp [Act.eval, Act.put]) (some a) n c xs (by simp [Act.eval, Act.put]) (Ow.empty (Nat.le_refl _) (heap_alloc_new W _)) HL.out ?_ H1.out hp hq (by simp) ?_; (focus (intro h0; obtain ⟨ad, had, hc⟩ := hnews.out h0; exact ⟨ad, had, fun j u hu => cell_below (below_al (Below.refl _ _) _) (hc j u hu)⟩)); intro o' c' w1 hown hg hat hsm))
    go_ret
    refine ⟨_, rfl, ?_, below_grown (below_al (Below.refl _ _) _) (fun g hg => by simp [Value.ownBlock] at hg; omega) hg⟩
    simpa using hown
theorem und26 : Try.prog.underlying 26 = some (.slice 65) := by kernel_rfl
theorem inf65 : (Try.prog.info? 65).map (fun i => (i.zero, i.size, i.bytes)) = some (some (.agg #[.int .i64 0, .int .i64 0, .int .i64 0]), 3, 24) := by kernel_rfl
theorem clipW (W : World) {o : Option Addr} {n c : Nat} (h0 : o = none → n = 0 ∧ c = 0) (hn : n ≤ c) (hc : c ≤ maxLen) :
    Calls Try.prog 27 #[.slice o n c] W fun e w' => e = .returned (.slice o n n) ∧ w' = W := by
  simp only [maxLen] at hc
  cases o with
  | none =>
    obtain ⟨rfl, rfl⟩ := h0 rfl
    clear h0
    go_enter Try.func27, Try.ntmps27
    go_wp2_with fail
    go_ret
    exact ⟨rfl, rfl⟩
  | some a =>
    clear h0
    go_enter Try.func27, Try.ntmps27
    go_wp2_with fail
    all_goals go_ret
    all_goals exact ⟨rfl, rfl⟩
set_option maxHeartbeats 1000000 in
theorem cloneW (W : World) {o : Option Addr} {c : Nat} {l : List _} (h : Rd W o l.length c (l.flatMap ce3)) (h0 : o = none → l.length = 0 ∧ c = 0) (hb : l.length ≤ 5864062014805) :
    Calls Try.prog 28 #[.slice o l.length c] W fun e w' => ∃ v, e = .returned v ∧ Ow w' (fun g => W.heap.size ≤ g) 65 3 v l.length (l.flatMap ce3) ∧ RowKit.Below W.heap.size W w' := by
  cases o with
  | none =>
    obtain ⟨h1, rfl⟩ := h0 rfl
    obtain rfl : l = [] := List.eq_nil_of_length_eq_zero h1
    clear h h0 h1 hb
    have qn := fun (w : World) => Lib.run_eql_slice_nil (P := Try.prog) w 26 65 none 0 0 0 0 und26
    go_enter Try.func28, Try.ntmps28
    go_wp2_with fail
    go_ret
    exact ⟨_, rfl, Ow.nil (by simp), Below.refl _ _⟩
  | some a =>
    obtain ⟨i0, hi, hz0, hz1, hz2⟩ := info_parts inf65
    have hnews := Lib.hid (h.news)
    have hl := flat_len len3 l
    obtain ⟨xs, hxs⟩ : ∃ xs, Hid (l.flatMap ce3 = xs) := ⟨_, rfl⟩
    obtain ⟨n, hn⟩ : ∃ n, Hid (l.length = n) := ⟨_, rfl⟩
    have h1 : ∀ u ∈ xs, u.oneCell' = true := by rw [← hxs.out]; exact flat_one one3 l
    rw [hxs.out] at hl hnews ⊢
    rw [hn.out] at hl hb hnews ⊢
    have H1 := Lib.hid h1
    have HL := Lib.hid hl
    have hp : 0 + n ≤ maxLen := by simp only [maxLen]; omega
    have hq : (0 + n) * 24 ≤ 140737488355328 := by omega
    clear h h0 h1 hl hxs hn hb
    have qn := fun (w : World) => Lib.run_eql_slice_nil (P := Try.prog) w 26 65 (some a) n c 0 0 und26
    go_enter Try.func28, Try.ntmps28
    go_wp2_with (first | (at_builtin; refine wpList_app_ow rfl _ _ 26 rfl (fun g => W.heap.size ≤ g) 65 i0 (.agg #[.int .i64 0, .int .i64 0, .int .i64 0]) 3 24 und26 hi hz0 hz1 hz2 rfl (by decide) (.slice (some ⟨W.heap.size, 0, none⟩) 0 0) 0 [] (by simp [Act.eval, Act.put]) (some a) n c xs (by simp [Act.eval, Act.put]) (Ow.empty (Nat.le_refl _) (heap_alloc_new W _)) HL.out ?_ H1.out hp hq (by simp) ?_; (focus (intro h0; obtain ⟨ad, had, hc⟩ := hnews.out h0; exact ⟨ad, had, fun j u hu => cell_below (below_al (Below.refl _ _) _) (hc j u hu)⟩)); intro o' c' w1 hown hg hat hsm))
    go_ret
    refine ⟨_, rfl, ?_, below_grown (below_al (Below.refl _ _) _) (fun g hg => by simp [Value.ownBlock] at hg; omega) hg⟩
    simpa using hown
theorem und58 : Try.prog.underlying 58 = some (.slice 73) := by kernel_rfl
theorem inf73 : (Try.prog.info? 73).map (fun i => (i.zero, i.size, i.bytes)) = some (some (.agg #[.int .i64 0, .int .i64 0, .int .i64 0, .int .i64 0, .int .i64 0]), 5, 40) := by kernel_rfl
theorem clipP (W : World) {o : Option Addr} {n c : Nat} (h0 : o = none → n = 0 ∧ c = 0) (hn : n ≤ c) (hc : c ≤ maxLen) :
    Calls Try.prog 33 #[.slice o n c] W fun e w' => e = .returned (.slice o n n) ∧ w' = W := by
  simp only [maxLen] at hc
  cases o with
  | none =>
    obtain ⟨rfl, rfl⟩ := h0 rfl
    clear h0
    go_enter Try.func33, Try.ntmps33
    go_wp2_with fail
    go_ret
    exact ⟨rfl, rfl⟩
  | some a =>
    clear h0
    go_enter Try.func33, Try.ntmps33
    go_wp2_with fail
    all_goals go_ret
    all_goals exact ⟨rfl, rfl⟩
set_option maxHeartbeats 1000000 in
theorem cloneP (W : World) {o : Option Addr} {c : Nat} {l : List _} (h : Rd W o l.length c (l.flatMap ceP)) (h0 : o = none → l.length = 0 ∧ c = 0) (hb : l.length ≤ 3518437208883) :
    Calls Try.prog 34 #[.slice o l.length c] W fun e w' => ∃ v, e = .returned v ∧ Ow w' (fun g => W.heap.size ≤ g) 73 5 v l.length (l.flatMap ceP) ∧ RowKit.Below W.heap.size W w' := by
  cases o with
  | none =>
    obtain ⟨h1, rfl⟩ := h0 rfl
    obtain rfl : l = [] := List.eq_nil_of_length_eq_zero h1
    clear h h0 h1 hb
    have qn := fun (w : World) => Lib.run_eql_slice_nil (P := Try.prog) w 58 73 none 0 0 0 0 und58
    go_enter Try.func34, Try.ntmps34
    go_wp2_with fail
    go_ret
    exact ⟨_, rfl, Ow.nil (by simp), Below.refl _ _⟩
  | some a =>
    obtain ⟨i0, hi, hz0, hz1, hz2⟩ := info_parts inf73
    have hnews := Lib.hid (h.news)
    have hl := flat_len lenP l
    obtain ⟨xs, hxs⟩ : ∃ xs, Hid (l.flatMap ceP = xs) := ⟨_, rfl⟩
    obtain ⟨n, hn⟩ : ∃ n, Hid (l.length = n) := ⟨_, rfl⟩
    have h1 : ∀ u ∈ xs, u.oneCell' = true := by rw [← hxs.out]; exact flat_one oneP l
    rw [hxs.out] at hl hnews ⊢
    rw [hn.out] at hl hb hnews ⊢
    have H1 := Lib.hid h1
    have HL := Lib.hid hl
    have hp : 0 + n ≤ maxLen := by simp only [maxLen]; omega
    have hq : (0 + n) * 40 ≤ 140737488355328 := by omega
    clear h h0 h1 hl hxs hn hb
    have qn := fun (w : World) => Lib.run_eql_slice_nil (P := Try.prog) w 58 73 (some a) n c 0 0 und58
    go_enter Try.func34, Try.ntmps34
    go_wp2_with (first | (at_builtin; refine wpList_app_ow rfl _ _ 58 rfl (fun g => W.heap.size ≤ g) 73 i0 (.agg #[.int .i64 0, .int .i64 0, .int .i64 0, .int .i64 0, .int .i64 0]) 5 40 und58 hi hz0 hz1 hz2 rfl (by decide) (.slice (some ⟨W.heap.size, 0, none⟩) 0 0) 0 [] (by simp [Act.eval, Act.put]) (some a) n c xs (by simp [Act.eval, Act.put]) (Ow.empty (Nat.le_refl _) (heap_alloc_new W _)) HL.out ?_ H1.out hp hq (by simp) ?_; (focus (intro h0; obtain ⟨ad, had, hc⟩ := hnews.out h0; exact ⟨ad, had, fun j u hu => cell_below (below_al (Below.refl _ _) _) (hc j u hu)⟩)); intro o' c' w1 hown hg hat hsm))
    go_ret
    refine ⟨_, rfl, ?_, below_grown (below_al (Below.refl _ _) _) (fun g hg => by simp [Value.ownBlock] at hg; omega) hg⟩
    simpa using hown
theorem und44 : Try.prog.underlying 44 = some (.slice 53) := by kernel_rfl
theorem inf53 : (Try.prog.info? 53).map (fun i => (i.zero, i.size, i.bytes)) = some (some (.agg #[.int .i64 0, .int .u64 0, .int .u64 0, .int .u64 0, .int .u64 0, .int .i64 0, .int .i64 0, .int .i64 0, .int .u64 0, .int .u64 0, .int .u64 0, .int .u64 0]), 12, 96) := by kernel_rfl
theorem clipR (W : World) {o : Option Addr} {n c : Nat} (h0 : o = none → n = 0 ∧ c = 0) (hn : n ≤ c) (hc : c ≤ maxLen) :
    Calls Try.prog 36 #[.slice o n c] W fun e w' => e = .returned (.slice o n n) ∧ w' = W := by
  simp only [maxLen] at hc
  cases o with
  | none =>
    obtain ⟨rfl, rfl⟩ := h0 rfl
    clear h0
    go_enter Try.func36, Try.ntmps36
    go_wp2_with fail
    go_ret
    exact ⟨rfl, rfl⟩
  | some a =>
    clear h0
    go_enter Try.func36, Try.ntmps36
    go_wp2_with fail
    all_goals go_ret
    all_goals exact ⟨rfl, rfl⟩
set_option maxHeartbeats 1000000 in
theorem cloneR (W : World) {o : Option Addr} {c : Nat} {l : List _} (h : Rd W o l.length c (l.flatMap ceR)) (h0 : o = none → l.length = 0 ∧ c = 0) (hb : l.length ≤ 1466015503701) :
    Calls Try.prog 37 #[.slice o l.length c] W fun e w' => ∃ v, e = .returned v ∧ Ow w' (fun g => W.heap.size ≤ g) 53 12 v l.length (l.flatMap ceR) ∧ RowKit.Below W.heap.size W w' := by
  cases o with
  | none =>
    obtain ⟨h1, rfl⟩ := h0 rfl
    obtain rfl : l = [] := List.eq_nil_of_length_eq_zero h1
    clear h h0 h1 hb
    have qn := fun (w : World) => Lib.run_eql_slice_nil (P := Try.prog) w 44 53 none 0 0 0 0 und44
    go_enter Try.func37, Try.ntmps37
    go_wp2_with fail
    go_ret
    exact ⟨_, rfl, Ow.nil (by simp), Below.refl _ _⟩
  | some a =>
    obtain ⟨i0, hi, hz0, hz1, hz2⟩ := info_parts inf53
    have hnews := Lib.hid (h.news)
    have hl := flat_len lenR l
    obtain ⟨xs, hxs⟩ : ∃ xs, Hid (l.flatMap ceR = xs) := ⟨_, rfl⟩
    obtain ⟨n, hn⟩ : ∃ n, Hid (l.length = n) := ⟨_, rfl⟩
    have h1 : ∀ u ∈ xs, u.oneCell' = true := by rw [← hxs.out]; exact flat_one oneR l
    rw [hxs.out] at hl hnews ⊢
    rw [hn.out] at hl hb hnews ⊢
    have H1 := Lib.hid h1
    have HL := Lib.hid hl
    have hp : 0 + n ≤ maxLen := by simp only [maxLen]; omega
    have hq : (0 + n) * 96 ≤ 140737488355328 := by omega
    clear h h0 h1 hl hxs hn hb
    have qn := fun (w : World) => Lib.run_eql_slice_nil (P := Try.prog) w 44 53 (some a) n c 0 0 und44
    go_enter Try.func37, Try.ntmps37
    go_wp2_with (first | (at_builtin; refine wpList_app_ow rfl _ _ 44 rfl (fun g => W.heap.size ≤ g) 53 i0 (.agg #[.int .i64 0, .int .u64 0, .int .u64 0, .int .u64 0, .int .u64 0, .int .i64 0, .int .i64 0, .int .i64 0, .int .u64 0, .int .u64 0, .int .u64 0, .int .u64 0]) 12 96 und44 hi hz0 hz1 hz2 rfl (by decide) (.slice (some ⟨W.heap.size, 0, none⟩) 0 0) 0 [] (by simp [Act.eval, Act.put]) (some a) n c xs (by simp [Act.eval, Act.put]) (Ow.empty (Nat.le_refl _) (heap_alloc_new W _)) HL.out ?_ H1.out hp hq (by simp) ?_; (focus (intro h0; obtain ⟨ad, had, hc⟩ := hnews.out h0; exact ⟨ad, had, fun j u hu => cell_below (below_al (Below.refl _ _) _) (hc j u hu)⟩)); intro o' c' w1 hown hg hat hsm))
    go_ret
    refine ⟨_, rfl, ?_, below_grown (below_al (Below.refl _ _) _) (fun g hg => by simp [Value.ownBlock] at hg; omega) hg⟩
    simpa using hown
theorem und22 : Try.prog.underlying 22 = some (.slice 58) := by kernel_rfl
theorem clipPP (W : World) {o : Option Addr} {n c : Nat} (h0 : o = none → n = 0 ∧ c = 0) (hn : n ≤ c) (hc : c ≤ maxLen) :
    Calls Try.prog 35 #[.slice o n c] W fun e w' => e = .returned (.slice o n n) ∧ w' = W := by
  simp only [maxLen] at hc
  cases o with
  | none =>
    obtain ⟨rfl, rfl⟩ := h0 rfl
    clear h0
    go_enter Try.func35, Try.ntmps35
    go_wp2_with fail
    go_ret
    exact ⟨rfl, rfl⟩
  | some a =>
    clear h0
    go_enter Try.func35, Try.ntmps35
    go_wp2_with fail
    all_goals go_ret
    all_goals exact ⟨rfl, rfl⟩
theorem und43 : Try.prog.underlying 43 = some (.slice 44) := by kernel_rfl
theorem clipRR (W : World) {o : Option Addr} {n c : Nat} (h0 : o = none → n = 0 ∧ c = 0) (hn : n ≤ c) (hc : c ≤ maxLen) :
    Calls Try.prog 38 #[.slice o n c] W fun e w' => e = .returned (.slice o n n) ∧ w' = W := by
  simp only [maxLen] at hc
  cases o with
  | none =>
    obtain ⟨rfl, rfl⟩ := h0 rfl
    clear h0
    go_enter Try.func38, Try.ntmps38
    go_wp2_with fail
    go_ret
    exact ⟨rfl, rfl⟩
  | some a =>
    clear h0
    go_enter Try.func38, Try.ntmps38
    go_wp2_with fail
    all_goals go_ret
    all_goals exact ⟨rfl, rfl⟩
theorem und29 : Try.prog.underlying 29 = some (.slice 43) := by kernel_rfl
theorem clipRRR (W : World) {o : Option Addr} {n c : Nat} (h0 : o = none → n = 0 ∧ c = 0) (hn : n ≤ c) (hc : c ≤ maxLen) :
    Calls Try.prog 30 #[.slice o n c] W fun e w' => e = .returned (.slice o n n) ∧ w' = W := by
  simp only [maxLen] at hc
  cases o with
  | none =>
    obtain ⟨rfl, rfl⟩ := h0 rfl
    clear h0
    go_enter Try.func30, Try.ntmps30
    go_wp2_with fail
    go_ret
    exact ⟨rfl, rfl⟩
  | some a =>
    clear h0
    go_enter Try.func30, Try.ntmps30
    go_wp2_with fail
    all_goals go_ret
    all_goals exact ⟨rfl, rfl⟩
theorem und32 : Try.prog.underlying 32 = some (.slice 55) := by kernel_rfl
theorem clipE (W : World) {o : Option Addr} {n c : Nat} (h0 : o = none → n = 0 ∧ c = 0) (hn : n ≤ c) (hc : c ≤ maxLen) :
    Calls Try.prog 22 #[.slice o n c] W fun e w' => e = .returned (.slice o n n) ∧ w' = W := by
  simp only [maxLen] at hc
  cases o with
  | none =>
    obtain ⟨rfl, rfl⟩ := h0 rfl
    clear h0
    go_enter Try.func22, Try.ntmps22
    go_wp2_with fail
    go_ret
    exact ⟨rfl, rfl⟩
  | some a =>
    clear h0
    go_enter Try.func22, Try.ntmps22
    go_wp2_with fail
    all_goals go_ret
    all_goals exact ⟨rfl, rfl⟩
end Go.Proofs.Ytdmakcfgcgioeaa
