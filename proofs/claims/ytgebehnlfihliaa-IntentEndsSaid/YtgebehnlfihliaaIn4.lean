/- Intent: cubes, tenants, and what a pair, a way, an end, a line must be. -/
import Derived.Test.YtgebehnlfihliaaIn3
import Derived.Test.YtgebehnlfihliaaIHead2
namespace Go.Proofs.Ytgebehnlfihliaa
open Go.RowKit
set_option linter.unusedSimpArgs false
set_option linter.unusedVariables false
set_option maxRecDepth 100000
/-- may it be a cube? -/
def cubeOk (V C : BitVec 128) : Bool := decide (V &&& ~~~C = 0)
def cubeHas (V C X : BitVec 128) : Bool := cubeOk V C && decide (X &&& C = V)
theorem bv_zero (X : BitVec 128) : (decide (((Plain.hiOf X).toNat : Int) = 0) && decide (((Plain.loOf X).toNat : Int) = 0)) = decide (X = 0) := by
  by_cases h : X = 0
  · subst h; decide
  · rw [decide_eq_false h]
    rw [Bool.and_eq_false_iff]
    by_cases h1 : ((Plain.hiOf X).toNat : Int) = 0
    · right
      rw [decide_eq_false_iff_not]
      intro h2
      apply h
      apply Plain.ext2
      · apply BitVec.eq_of_toNat_eq; rw [show (Plain.hiOf X).toNat = 0 by omega]; rfl
      · apply BitVec.eq_of_toNat_eq; rw [show (Plain.loOf X).toNat = 0 by omega]; rfl
    · left; exact decide_eq_false h1
theorem bv_eq (X Y : BitVec 128) : (decide (((Plain.hiOf X).toNat : Int) = ((Plain.hiOf Y).toNat : Int)) && decide (((Plain.loOf X).toNat : Int) = ((Plain.loOf Y).toNat : Int))) = decide (X = Y) := by
  by_cases h : X = Y
  · subst h; simp
  · rw [decide_eq_false h]
    rw [Bool.and_eq_false_iff]
    by_cases h1 : ((Plain.hiOf X).toNat : Int) = ((Plain.hiOf Y).toNat : Int)
    · right
      rw [decide_eq_false_iff_not]
      intro h2
      apply h
      apply Plain.ext2
      · exact BitVec.eq_of_toNat_eq (by omega)
      · exact BitVec.eq_of_toNat_eq (by omega)
    · left; exact decide_eq_false h1
theorem none_c (X : BitVec 128) (w : World) : Calls Try.prog 98 #[.agg #[.int .u64 ((Plain.hiOf (X)).toNat : Int), .int .u64 ((Plain.loOf (X)).toNat : Int)]] w fun e w' => e = .returned (.bool (decide (X = 0))) ∧ Below w.heap.size w w' := by
  have hb := bv_zero X
  generalize ((Plain.hiOf X).toNat : Int) = a at hb ⊢
  generalize ((Plain.loOf X).toNat : Int) = b at hb ⊢
  rw [← hb]
  clear hb
  go_enter Try.func98, Try.ntmps98
  go_wp2_with fail
  all_goals go_ret
  all_goals refine ⟨?_, (Below.refl _ _).alloc (Nat.le_refl _) _⟩
  all_goals (simp [*]; done)
set_option maxHeartbeats 1000000 in
theorem csound_c {a b c d : Int} {V C : BitVec 128} (ha : a = (Plain.hiOf V).toNat) (hb : b = (Plain.loOf V).toNat) (hc : c = (Plain.hiOf C).toNat) (hd : d = (Plain.loOf C).toNat) (w : World) :
    Calls Try.prog 82 #[.agg #[.int .u64 a, .int .u64 b, .int .u64 c, .int .u64 d]] w fun e w' => e = .returned (.bool (cubeOk V C)) ∧ Below w.heap.size w w' := by
  have hL := fun W => Hd.Less_c ha hb hc hd W
  obtain ⟨Z, hZ⟩ : ∃ Z, Hid (V &&& ~~~C = Z) := ⟨_, rfl⟩
  rw [hZ.out] at hL
  have hN := fun W => none_c Z W
  have hr : Hid (cubeOk V C = decide (Z = 0)) := by unfold cubeOk; rw [hZ.out]; exact rfl
  obtain ⟨r, hr2⟩ : ∃ r, Hid (decide (Z = 0) = r) := ⟨_, rfl⟩
  rw [hr.out, hr2.out]
  simp only [hr2.out] at hN
  generalize ((Plain.hiOf Z).toNat : Int) = z1 at hL hN
  generalize ((Plain.loOf Z).toNat : Int) = z2 at hL hN
  have HL := Lib.hid hL
  have HN := Lib.hid hN
  clear hL hN ha hb hc hd
  go_enter Try.func82, Try.ntmps82
  go_wp2_with fail
  refine (HL.out _).mono ?_
  rintro e w2 ⟨rfl, hb2⟩
  go_wp2_with fail
  refine (HN.out _).mono ?_
  rintro e w3 ⟨rfl, hb3⟩
  go_wp2_with fail
  go_ret
  have hba := (Below.refl w.heap.size w).alloc (Nat.le_refl _) (.cells #[.int .u64 a, .int .u64 b, .int .u64 c, .int .u64 d] 73)
  have hbb := hba.trans (hb2.mono hba.size)
  exact ⟨rfl, hbb.trans (hb3.mono hbb.size)⟩
set_option maxHeartbeats 2000000 in
theorem chas_c {a b c d x y : Int} {V C X : BitVec 128} (ha : a = (Plain.hiOf V).toNat) (hb : b = (Plain.loOf V).toNat) (hc : c = (Plain.hiOf C).toNat) (hd : d = (Plain.loOf C).toNat) (hx : x = (Plain.hiOf X).toNat) (hy : y = (Plain.loOf X).toNat) (w : World) :
    Calls Try.prog 56 #[.agg #[.int .u64 a, .int .u64 b, .int .u64 c, .int .u64 d], .agg #[.int .u64 x, .int .u64 y]] w fun e w' => e = .returned (.bool (cubeHas V C X)) ∧ Below w.heap.size w w' := by
  have hS := fun p : Regrown => csound_c ha hb hc hd (Sort.grow (redrawn ((w.alloc (.cells #[.int .u64 a, .int .u64 b, .int .u64 c, .int .u64 d] 73)).alloc (.cells #[.int .u64 x, .int .u64 y] 61)) p.d) p.os)
  have hA := fun p : Regrown => Hd.And_c hx hy hc hd (Sort.grow (redrawn ((w.alloc (.cells #[.int .u64 a, .int .u64 b, .int .u64 c, .int .u64 d] 73)).alloc (.cells #[.int .u64 x, .int .u64 y] 61)) p.d) p.os)
  obtain ⟨Z, hZ⟩ : ∃ Z, Hid (X &&& C = Z) := ⟨_, rfl⟩
  rw [hZ.out] at hA
  have hq := bv_eq Z V
  rw [← ha, ← hb] at hq
  have hr : Hid (cubeHas V C X = (cubeOk V C && decide (Z = V))) := by unfold cubeHas; rw [hZ.out]; exact rfl
  rw [hr.out, ← hq]
  generalize ((Plain.hiOf Z).toNat : Int) = z1 at hA hq
  generalize ((Plain.loOf Z).toNat : Int) = z2 at hA hq
  generalize cubeOk V C = ok at hS hr
  have HS := Lib.hid hS
  have HA := Lib.hid hA
  clear hS hA ha hb hc hd hx hy hq hr
  have hba := below2 w (.cells #[.int .u64 a, .int .u64 b, .int .u64 c, .int .u64 d] 73) (.cells #[.int .u64 x, .int .u64 y] 61)
  have b0 : ((w.alloc (.cells #[.int .u64 a, .int .u64 b, .int .u64 c, .int .u64 d] 73)).alloc (.cells #[.int .u64 x, .int .u64 y] 61)).heap[w.heap.size]? = some (.cells #[.int .u64 a, .int .u64 b, .int .u64 c, .int .u64 d] 73 (0, 0)) := by
    rw [al_lt' (by simp)]; exact heap_alloc_new w _
  have b1 : ((w.alloc (.cells #[.int .u64 a, .int .u64 b, .int .u64 c, .int .u64 d] 73)).alloc (.cells #[.int .u64 x, .int .u64 y] 61)).heap[w.heap.size + 1]? = some (.cells #[.int .u64 x, .int .u64 y] 61 (0, 0)) := by
    have := heap_alloc_new (w.alloc (.cells #[.int .u64 a, .int .u64 b, .int .u64 c, .int .u64 d] 73)) (.cells #[.int .u64 x, .int .u64 y] 61)
    rwa [World.size_alloc] at this
  have x0 := reg_c (show ((w.alloc (.cells #[.int .u64 a, .int .u64 b, .int .u64 c, .int .u64 d] 73)).alloc (.cells #[.int .u64 x, .int .u64 y] 61)).cell? ⟨w.heap.size, 0, none⟩ = some (.int .u64 a) from (cell_b b0).trans rfl)
  have x1 := reg_c (show ((w.alloc (.cells #[.int .u64 a, .int .u64 b, .int .u64 c, .int .u64 d] 73)).alloc (.cells #[.int .u64 x, .int .u64 y] 61)).cell? ⟨w.heap.size, 1, none⟩ = some (.int .u64 b) from (cell_b b0).trans rfl)
  have x2 := reg_c (show ((w.alloc (.cells #[.int .u64 a, .int .u64 b, .int .u64 c, .int .u64 d] 73)).alloc (.cells #[.int .u64 x, .int .u64 y] 61)).cell? ⟨w.heap.size, 2, none⟩ = some (.int .u64 c) from (cell_b b0).trans rfl)
  have x3 := reg_c (show ((w.alloc (.cells #[.int .u64 a, .int .u64 b, .int .u64 c, .int .u64 d] 73)).alloc (.cells #[.int .u64 x, .int .u64 y] 61)).cell? ⟨w.heap.size, 3, none⟩ = some (.int .u64 d) from (cell_b b0).trans rfl)
  have y0 := reg_c (show ((w.alloc (.cells #[.int .u64 a, .int .u64 b, .int .u64 c, .int .u64 d] 73)).alloc (.cells #[.int .u64 x, .int .u64 y] 61)).cell? ⟨w.heap.size + 1, 0, none⟩ = some (.int .u64 x) from (cell_b b1).trans rfl)
  have y1 := reg_c (show ((w.alloc (.cells #[.int .u64 a, .int .u64 b, .int .u64 c, .int .u64 d] 73)).alloc (.cells #[.int .u64 x, .int .u64 y] 61)).cell? ⟨w.heap.size + 1, 1, none⟩ = some (.int .u64 y) from (cell_b b1).trans rfl)
  go_enter Try.func56, Try.ntmps56
  go_wp2_with fail
  generalize (w.alloc (.cells #[.int .u64 a, .int .u64 b, .int .u64 c, .int .u64 d] 73)).alloc (.cells #[.int .u64 x, .int .u64 y] 61) = W at HS HA hba x0 x1 x2 x3 y0 y1 b0 b1 ⊢
  cases ok with
  | false =>
    refine wp_region_quiet_below (by kernel_rfl) (by kernel_rfl) ?_; (repeat (go_big_quiet_step ((first | (go_at_call 82; exact Calls.regrown_of (HS.out _)))))); refine wpQuiet_nil ?_; intro _ hw'; obtain ⟨⟨dq, osq⟩, hw''⟩ := hw'; subst hw''
    go_wp2_with fail
    all_goals go_ret
    exact ⟨by simp [*], hba.trans ((below_regrown W dq osq).mono hba.size)⟩
  | true =>
    by_cases q1 : z1 = a
    · by_cases q2 : z2 = b
      · subst q1 q2
        refine wp_region_quiet_below (by kernel_rfl) (by kernel_rfl) ?_; (repeat (go_big_quiet_step ((first | (go_at_call 82; exact Calls.regrown_of (HS.out _)) | (go_at_call 85; exact Calls.regrown_of (HA.out _)))))); refine wpQuiet_nil ?_; intro _ hw'; obtain ⟨⟨dq, osq⟩, hw''⟩ := hw'; subst hw''
        go_wp2_with fail
        all_goals go_ret
        exact ⟨by simp [*], hba.trans ((below_regrown W dq osq).mono hba.size)⟩
      · have q2b : (z2 == b) = false := by simpa using q2
        refine wp_region_quiet_below (by kernel_rfl) (by kernel_rfl) ?_; (repeat (go_big_quiet_step ((first | (go_at_call 82; exact Calls.regrown_of (HS.out _)) | (go_at_call 85; exact Calls.regrown_of (HA.out _)))))); refine wpQuiet_nil ?_; intro _ hw'; obtain ⟨⟨dq, osq⟩, hw''⟩ := hw'; subst hw''
        go_wp2_with fail
        all_goals go_ret
        exact ⟨by simp [*], hba.trans ((below_regrown W dq osq).mono hba.size)⟩
    · have q1b : (z1 == a) = false := by simpa using q1
      refine wp_region_quiet_below (by kernel_rfl) (by kernel_rfl) ?_; (repeat (go_big_quiet_step ((first | (go_at_call 82; exact Calls.regrown_of (HS.out _)) | (go_at_call 85; exact Calls.regrown_of (HA.out _)))))); refine wpQuiet_nil ?_; intro _ hw'; obtain ⟨⟨dq, osq⟩, hw''⟩ := hw'; subst hw''
      go_wp2_with fail
      all_goals go_ret
      exact ⟨by simp [*], hba.trans ((below_regrown W dq osq).mono hba.size)⟩
def tenB (ten n : Int) : Bool := decide (0 ≤ n ∧ n < ten)
set_option maxHeartbeats 1000000 in
theorem tenant_c (v0 v2 v3 v4 v5 : Value) (ten n : Int) (w : World) :
    Calls Try.prog 72 #[.agg #[v0, .int .i64 ten, v2, v3, v4, v5], .int .i64 n] w fun e w' => e = .returned (.bool (tenB ten n)) ∧ Below w.heap.size w w' := by
  have hba := (Below.refl w.heap.size w).alloc (Nat.le_refl _) (.cells #[v0, .int .i64 ten, v2, v3, v4, v5] 56)
  by_cases c1 : 0 ≤ n
  · by_cases c2 : n < ten
    · have e3 : Hid (tenB ten n = true) := decide_eq_true ⟨c1, c2⟩
      rw [e3.out]
      have c1b : decide (0 ≤ n) = true := decide_eq_true c1
      have c2b : decide (n < ten) = true := decide_eq_true c2
      go_enter Try.func72, Try.ntmps72
      go_wp2_with fail
      go_ret
      exact ⟨rfl, hba⟩
    · have e3 : Hid (tenB ten n = false) := decide_eq_false (fun h => c2 h.2)
      rw [e3.out]
      have c1b : decide (0 ≤ n) = true := decide_eq_true c1
      have c2b : decide (n < ten) = false := decide_eq_false c2
      go_enter Try.func72, Try.ntmps72
      go_wp2_with fail
      go_ret
      exact ⟨rfl, hba⟩
  · have e3 : Hid (tenB ten n = false) := decide_eq_false (fun h => c1 h.1)
    rw [e3.out]
    have c1b : decide (0 ≤ n) = false := decide_eq_false c1
    go_enter Try.func72, Try.ntmps72
    go_wp2_with fail
    go_ret
    exact ⟨rfl, hba⟩
set_option maxHeartbeats 1000000 in
theorem pair_c (v0 v2 v3 v4 v5 : Value) (ten p q : Int) (w : World) :
    Calls Try.prog 40 #[.agg #[v0, .int .i64 ten, v2, v3, v4, v5], .agg #[.int .i64 p, .int .i64 q]] w fun e w' => e = .returned (.bool (tenB ten p && tenB ten q)) ∧ Below w.heap.size w w' := by
  have hba := below2 w (.cells #[v0, .int .i64 ten, v2, v3, v4, v5] 87) (.cells #[.int .i64 p, .int .i64 q] 70)
  have h1 := fun W => tenant_c v0 v2 v3 v4 v5 ten p W
  have h2 := fun W => tenant_c v0 v2 v3 v4 v5 ten q W
  generalize tenB ten p = t1 at h1 ⊢
  generalize tenB ten q = t2 at h2 ⊢
  have H1 := Lib.hid h1
  have H2 := Lib.hid h2
  clear h1 h2
  have b0 : ((w.alloc (.cells #[v0, .int .i64 ten, v2, v3, v4, v5] 87)).alloc (.cells #[.int .i64 p, .int .i64 q] 70)).heap[w.heap.size]? = some (.cells #[v0, .int .i64 ten, v2, v3, v4, v5] 87 (0, 0)) := by
    rw [al_lt' (by simp)]; exact heap_alloc_new w _
  have b1 : ((w.alloc (.cells #[v0, .int .i64 ten, v2, v3, v4, v5] 87)).alloc (.cells #[.int .i64 p, .int .i64 q] 70)).heap[w.heap.size + 1]? = some (.cells #[.int .i64 p, .int .i64 q] 70 (0, 0)) := by
    have := heap_alloc_new (w.alloc (.cells #[v0, .int .i64 ten, v2, v3, v4, v5] 87)) (.cells #[.int .i64 p, .int .i64 q] 70)
    rwa [World.size_alloc] at this
  go_enter Try.func40, Try.ntmps40
  go_wp2_with fail
  refine (H1.out _).mono ?_
  rintro e w2 ⟨rfl, hb2⟩
  have c0 := cell_below hb2 ((cell_b (o := 0) b0).trans rfl)
  have c1 := cell_below hb2 ((cell_b (o := 1) b0).trans rfl)
  have c2 := cell_below hb2 ((cell_b (o := 2) b0).trans rfl)
  have c3 := cell_below hb2 ((cell_b (o := 3) b0).trans rfl)
  have c4 := cell_below hb2 ((cell_b (o := 4) b0).trans rfl)
  have c5 := cell_below hb2 ((cell_b (o := 5) b0).trans rfl)
  have d1 := cell_below hb2 ((cell_b (o := 1) b1).trans rfl)
  have hb3 := hba.trans (hb2.mono hba.size)
  cases t1 with
  | false =>
    go_wp2_with fail
    go_ret
    exact ⟨rfl, hb3⟩
  | true =>
    go_wp2_with fail
    refine (H2.out _).mono ?_
    rintro e w3 ⟨rfl, hb4⟩
    go_wp2_with fail
    go_ret
    exact ⟨by simp, hb3.trans (hb4.mono hb3.size)⟩
def wayB (ten : Int) (n : Nat) (f t via : Int) : Bool := (tenB ten f && tenB ten t) && decide (0 ≤ via ∧ via < n)
set_option maxHeartbeats 2000000 in
theorem way_c (o : Option Addr) (n cap : Nat) (v2 v3 v4 v5 : Value) (ten f t via : Int) (w : World) :
    Calls Try.prog 42 #[.agg #[.slice o n cap, .int .i64 ten, v2, v3, v4, v5], .agg #[.int .i64 f, .int .i64 t, .int .i64 via]] w fun e w' => e = .returned (.bool (wayB ten n f t via)) ∧ Below w.heap.size w w' := by
  have hba := below2 w (.cells #[.slice o n cap, .int .i64 ten, v2, v3, v4, v5] 87) (.cells #[.int .i64 f, .int .i64 t, .int .i64 via] 92)
  have h1 := fun W => pair_c (.slice o n cap) v2 v3 v4 v5 ten f t W
  unfold wayB
  generalize (tenB ten f && tenB ten t) = t1 at h1 ⊢
  have H1 := Lib.hid h1
  clear h1
  have b0 : ((w.alloc (.cells #[.slice o n cap, .int .i64 ten, v2, v3, v4, v5] 87)).alloc (.cells #[.int .i64 f, .int .i64 t, .int .i64 via] 92)).heap[w.heap.size]? = some (.cells #[.slice o n cap, .int .i64 ten, v2, v3, v4, v5] 87 (0, 0)) := by
    rw [al_lt' (by simp)]; exact heap_alloc_new w _
  have b1 : ((w.alloc (.cells #[.slice o n cap, .int .i64 ten, v2, v3, v4, v5] 87)).alloc (.cells #[.int .i64 f, .int .i64 t, .int .i64 via] 92)).heap[w.heap.size + 1]? = some (.cells #[.int .i64 f, .int .i64 t, .int .i64 via] 92 (0, 0)) := by
    have := heap_alloc_new (w.alloc (.cells #[.slice o n cap, .int .i64 ten, v2, v3, v4, v5] 87)) (.cells #[.int .i64 f, .int .i64 t, .int .i64 via] 92)
    rwa [World.size_alloc] at this
  go_enter Try.func42, Try.ntmps42
  go_wp2_with fail
  refine (H1.out _).mono ?_
  rintro e w2 ⟨rfl, hb2⟩
  have c0 := cell_below hb2 ((cell_b (o := 0) b0).trans rfl)
  have d2 := cell_below hb2 ((cell_b (o := 2) b1).trans rfl)
  have hb3 := hba.trans (hb2.mono hba.size)
  cases t1 with
  | false =>
    go_wp2_with fail
    go_ret
    exact ⟨by simp, hb3⟩
  | true =>
    by_cases q1 : 0 ≤ via
    · by_cases q2 : via < (n : Int)
      · have q1b : decide (0 ≤ via) = true := decide_eq_true q1
        have q2b : decide (via < (n : Int)) = true := decide_eq_true q2
        go_wp2_with fail
        go_ret
        exact ⟨by simp [*], hb3⟩
      · have q1b : decide (0 ≤ via) = true := decide_eq_true q1
        have q2b : decide (via < (n : Int)) = false := decide_eq_false q2
        go_wp2_with fail
        go_ret
        exact ⟨by simp; omega, hb3⟩
    · have q1b : decide (0 ≤ via) = false := decide_eq_false q1
      go_wp2_with fail
      go_ret
      exact ⟨by simp; omega, hb3⟩
def endB (T : Tp) (ten sw po : Int) : Bool := decide (0 ≤ ten ∧ edgeF T sw po = ten)
set_option maxHeartbeats 2000000 in
theorem end_c {o : Option Addr} {cap : Nat} {T : Tp} {w : World} (h : TA w o cap T) (hsum : sumL T T.n ≤ 1100000) (v1 v2 v3 v4 v5 : Value) (ten addr sw po : Int) :
    Calls Try.prog 44 #[.agg #[.slice o T.n cap, v1, v2, v3, v4, v5], .agg #[.int .i64 ten, .int .u32 addr, .int .i64 sw, .int .i64 po]] w fun e w' => e = .returned (.bool (endB T ten sw po)) ∧ Below w.heap.size w w' := by
  have hba := below2 w (.cells #[.slice o T.n cap, v1, v2, v3, v4, v5] 87) (.cells #[.int .i64 ten, .int .u32 addr, .int .i64 sw, .int .i64 po] 68)
  have b0 : ((w.alloc (.cells #[.slice o T.n cap, v1, v2, v3, v4, v5] 87)).alloc (.cells #[.int .i64 ten, .int .u32 addr, .int .i64 sw, .int .i64 po] 68)).heap[w.heap.size]? = some (.cells #[.slice o T.n cap, v1, v2, v3, v4, v5] 87 (0, 0)) := by
    rw [al_lt' (by simp)]; exact heap_alloc_new w _
  have b1 : ((w.alloc (.cells #[.slice o T.n cap, v1, v2, v3, v4, v5] 87)).alloc (.cells #[.int .i64 ten, .int .u32 addr, .int .i64 sw, .int .i64 po] 68)).heap[w.heap.size + 1]? = some (.cells #[.int .i64 ten, .int .u32 addr, .int .i64 sw, .int .i64 po] 68 (0, 0)) := by
    have := heap_alloc_new (w.alloc (.cells #[.slice o T.n cap, v1, v2, v3, v4, v5] 87)) (.cells #[.int .i64 ten, .int .u32 addr, .int .i64 sw, .int .i64 po] 68)
    rwa [World.size_alloc] at this
  have hr : Hid (endB T ten sw po = decide (0 ≤ ten ∧ edgeF T sw po = ten)) := rfl
  have hc0 : ((w.alloc (.cells #[.slice o T.n cap, v1, v2, v3, v4, v5] 87)).alloc (.cells #[.int .i64 ten, .int .u32 addr, .int .i64 sw, .int .i64 po] 68)).cell? ⟨w.heap.size, 0, none⟩ = some (.slice o T.n cap) := (cell_b b0).trans rfl
  have hd0 : ((w.alloc (.cells #[.slice o T.n cap, v1, v2, v3, v4, v5] 87)).alloc (.cells #[.int .i64 ten, .int .u32 addr, .int .i64 sw, .int .i64 po] 68)).cell? ⟨w.heap.size + 1, 0, none⟩ = some (.int .i64 ten) := (cell_b b1).trans rfl
  have hd2 : ((w.alloc (.cells #[.slice o T.n cap, v1, v2, v3, v4, v5] 87)).alloc (.cells #[.int .i64 ten, .int .u32 addr, .int .i64 sw, .int .i64 po] 68)).cell? ⟨w.heap.size + 1, 2, none⟩ = some (.int .i64 sw) := (cell_b b1).trans rfl
  have hd3 : ((w.alloc (.cells #[.slice o T.n cap, v1, v2, v3, v4, v5] 87)).alloc (.cells #[.int .i64 ten, .int .u32 addr, .int .i64 sw, .int .i64 po] 68)).cell? ⟨w.heap.size + 1, 3, none⟩ = some (.int .i64 po) := (cell_b b1).trans rfl
  obtain ⟨z, hz⟩ : ∃ z, Hid (edgeF T sw po = z) := ⟨_, rfl⟩
  rw [hr.out, hz.out]
  go_enter Try.func44, Try.ntmps44
  go_wp2_with fail
  generalize (w.alloc (.cells #[.slice o T.n cap, v1, v2, v3, v4, v5] 87)).alloc (.cells #[.int .i64 ten, .int .u32 addr, .int .i64 sw, .int .i64 po] 68) = W at hba hc0 hd0 hd2 hd3 b0 b1 ⊢
  have hE := fun p : Regrown => tedge_c ((h.below hba).below (below_regrown W p.d p.os)) hsum sw po
  simp only [hz.out] at hE
  have HS := Lib.hid hE
  clear hE b0 b1
  have x0 := reg_c hc0
  have y0 := reg_c hd0
  have y2 := reg_c hd2
  have y3 := reg_c hd3
  by_cases q1 : 0 ≤ ten
  · have q1b : decide (0 ≤ ten) = true := decide_eq_true q1
    by_cases q2 : z = ten
    · have q2b : (z == ten) = true := by simpa using q2
      refine wp_region_quiet_below (by kernel_rfl) (by kernel_rfl) ?_; (repeat (go_big_quiet_step ((first | (go_at_call 58; exact Calls.regrown_of (HS.out _)))))); refine wpQuiet_nil ?_; intro _ hw'; obtain ⟨⟨dq, osq⟩, hw''⟩ := hw'; subst hw''
      go_wp2_with fail
      all_goals go_ret
      exact ⟨by simp [*], hba.trans ((below_regrown W dq osq).mono hba.size)⟩
    · have q2b : (z == ten) = false := by simpa using q2
      refine wp_region_quiet_below (by kernel_rfl) (by kernel_rfl) ?_; (repeat (go_big_quiet_step ((first | (go_at_call 58; exact Calls.regrown_of (HS.out _)))))); refine wpQuiet_nil ?_; intro _ hw'; obtain ⟨⟨dq, osq⟩, hw''⟩ := hw'; subst hw''
      go_wp2_with fail
      all_goals go_ret
      exact ⟨by simp [*], hba.trans ((below_regrown W dq osq).mono hba.size)⟩
  · have q1b : decide (0 ≤ ten) = false := decide_eq_false q1
    refine wp_region_quiet_below (by kernel_rfl) (by kernel_rfl) ?_; (repeat (go_big_quiet_step ((first | (go_at_call 58; exact Calls.regrown_of (HS.out _)))))); refine wpQuiet_nil ?_; intro _ hw'; obtain ⟨⟨dq, osq⟩, hw''⟩ := hw'; subst hw''
    go_wp2_with fail
    all_goals go_ret
    exact ⟨by simp [*], hba.trans ((below_regrown W dq osq).mono hba.size)⟩
/-- does a line look at nothing but what is looked at? -/
def aclB (V C : BitVec 128) : Bool := cubeOk V C && decide (C &&& ~~~(Plain.low (88 : Int).toNat <<< (0 : Int).toNat) = 0)
set_option maxHeartbeats 2000000 in
theorem acl_c (v0 v1 v2 v3 v4 v5 : Value) {a b c d : Int} {V C : BitVec 128} (ha : a = (Plain.hiOf V).toNat) (hb : b = (Plain.loOf V).toNat) (hc : c = (Plain.hiOf C).toNat) (hd : d = (Plain.loOf C).toNat) (per : Bool) (w : World) :
    Calls Try.prog 46 #[.agg #[v0, v1, v2, v3, v4, v5], .agg #[.int .u64 a, .int .u64 b, .int .u64 c, .int .u64 d, .bool per]] w fun e w' => e = .returned (.bool (aclB V C)) ∧ Below w.heap.size w w' := by
  have hba := below2 w (.cells #[v0, v1, v2, v3, v4, v5] 87) (.cells #[.int .u64 a, .int .u64 b, .int .u64 c, .int .u64 d, .bool per] 75)
  have b1 : ((w.alloc (.cells #[v0, v1, v2, v3, v4, v5] 87)).alloc (.cells #[.int .u64 a, .int .u64 b, .int .u64 c, .int .u64 d, .bool per] 75)).heap[w.heap.size + 1]? = some (.cells #[.int .u64 a, .int .u64 b, .int .u64 c, .int .u64 d, .bool per] 75 (0, 0)) := by
    have := heap_alloc_new (w.alloc (.cells #[v0, v1, v2, v3, v4, v5] 87)) (.cells #[.int .u64 a, .int .u64 b, .int .u64 c, .int .u64 d, .bool per] 75)
    rwa [World.size_alloc] at this
  have hM := fun W => Hd.Mask_yes 0 88 (by decide) W
  obtain ⟨M, hMe⟩ : ∃ M, Hid (Plain.low (88 : Int).toNat <<< (0 : Int).toNat = M) := ⟨_, rfl⟩
  rw [hMe.out] at hM
  have hL := fun W => Hd.Less_c (X := C) (Y := M) hc hd rfl rfl W
  have hS := fun W => csound_c ha hb hc hd W
  obtain ⟨Z, hZ⟩ : ∃ Z, Hid (C &&& ~~~M = Z) := ⟨_, rfl⟩
  rw [hZ.out] at hL
  have hr : Hid (aclB V C = (cubeOk V C && decide (Z = 0))) := by unfold aclB; rw [hMe.out, hZ.out]; exact rfl
  rw [hr.out, ← bv_zero Z]
  generalize ((Plain.hiOf Z).toNat : Int) = z1 at hL ⊢
  generalize ((Plain.loOf Z).toNat : Int) = z2 at hL ⊢
  generalize ((Plain.hiOf M).toNat : Int) = m1 at hL hM
  generalize ((Plain.loOf M).toNat : Int) = m2 at hL hM
  generalize cubeOk V C = ok at hS hr ⊢
  have HL := Lib.hid hL
  have HM := Lib.hid hM
  have HS := Lib.hid hS
  clear hL hM hS ha hb hc hd hr
  go_enter Try.func46, Try.ntmps46
  go_wp2_with fail
  refine (HM.out _).mono ?_
  rintro e w2 ⟨rfl, hb2⟩
  have hb3 := hba.trans (hb2.mono hba.size)
  have x0 := cell_below hb2 ((cell_b (o := 0) b1).trans rfl)
  have x1 := cell_below hb2 ((cell_b (o := 1) b1).trans rfl)
  have x2 := cell_below hb2 ((cell_b (o := 2) b1).trans rfl)
  have x3 := cell_below hb2 ((cell_b (o := 3) b1).trans rfl)
  have xl : w.heap.size + 1 < w2.heap.size := World.block_lt_of_cell? w2 _ x0
  have hb4 := hb3.alloc hb3.size (.cells #[.int .u64 m1, .int .u64 m2] 61)
  have bm := heap_alloc_new w2 (.cells #[.int .u64 m1, .int .u64 m2] 61)
  have hal := (Below.refl w2.heap.size w2).alloc (Nat.le_refl _) (.cells #[.int .u64 m1, .int .u64 m2] 61)
  go_wp2_with fail
  refine (HS.out _).mono ?_
  rintro e w3 ⟨rfl, hb5⟩
  have hb6 := hb4.trans (hb5.mono hb4.size)
  have y2 := cell_below hb5 (cell_below hal x2)
  have y3 := cell_below hb5 (cell_below hal x3)
  have z0 := cell_below hb5 ((cell_b (o := 0) bm).trans rfl)
  have z1' := cell_below hb5 ((cell_b (o := 1) bm).trans rfl)
  cases ok with
  | false =>
    go_wp2_with fail
    go_ret
    exact ⟨by simp, hb6⟩
  | true =>
    go_wp2_with fail
    refine (HL.out _).mono ?_
    rintro e w4 ⟨rfl, hb7⟩
    have hb8 := hb6.trans (hb7.mono hb6.size)
    go_wp2_with fail
    all_goals go_ret
    all_goals exact ⟨by simp [*], hb8⟩
end Go.Proofs.Ytgebehnlfihliaa
