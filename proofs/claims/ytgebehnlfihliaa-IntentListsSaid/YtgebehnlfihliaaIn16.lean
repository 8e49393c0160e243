/- Intent: two switches. -/
import Derived.Test.YtgebehnlfihliaaIn15
namespace Go.Proofs.Ytgebehnlfihliaa
open Go.RowKit Go.Maps
set_option linter.unusedSimpArgs false
set_option linter.unusedVariables false
set_option maxRecDepth 100000
def pt1 (i j : Nat) : Pt := if i = 0 then (if j = 0 then ⟨1, 0, 0, 0, 0⟩ else ⟨2, 0, 1, 0, 1⟩) else (if j = 0 then ⟨2, 0, 0, 1, 1⟩ else ⟨1, 1, 0, 0, 0⟩)
def T1 : Tp := ⟨2, fun _ => 2, pt1⟩
def d1 (m : Nat) : Int := if m = 0 then 0 else if m = 1 then 1 else -1
theorem lk1 {x m : Nat} {k : Int} (h : Lk T1 x m k) : (x = 0 ∧ m = 1 ∧ k = 1) ∨ (x = 1 ∧ m = 0 ∧ k = 1) := by
  obtain ⟨hx, j, hj, hk, hp, hc⟩ := h
  simp only [T1, pt1] at hx hj hk hp hc
  by_cases e : x = 0
  · subst e
    by_cases e2 : j = 0
    · subst e2; simp at hk
    · simp [e2] at hp hc
      exact .inl ⟨rfl, by omega, by omega⟩
  · by_cases e2 : j = 0
    · simp [e, e2] at hp hc
      exact .inr ⟨by omega, by omega, by omega⟩
    · simp [e, e2] at hk
theorem far1 : IsFar (Lk T1) 0 d1 where
  self := rfl
  neg m := by unfold d1; split; · right; omega
              split; · right; omega
              · exact .inl rfl
  clo x m k l _ := by rcases lk1 l with ⟨rfl, rfl, rfl⟩ | ⟨rfl, rfl, rfl⟩ <;> decide
  tight m hm := by
    by_cases e : m = 0
    · exact .inl e
    · by_cases e1 : m = 1
      · subst e1
        exact .inr ⟨0, 1, ⟨by decide, 1, by decide, rfl, rfl, rfl⟩, by decide, by decide⟩
      · simp [d1, e, e1] at hm
theorem sound1 : soundE T1 = 0 := by decide
def I2 : In := ⟨T1, 2, 1, fun _ => (0, 1), 0, fun _ => (0, 0, 0), 2, fun i => if i = 0 then ⟨0, 10, 0, 0⟩ else ⟨1, 20, 1, 1⟩, 1, fun _ => ⟨0, 0, true⟩⟩
def I3 : In := ⟨T1, 2, 0, fun _ => (0, 1), 0, fun _ => (0, 0, 0), 2, fun i => if i = 0 then ⟨0, 10, 0, 0⟩ else ⟨1, 20, 1, 1⟩, 1, fun _ => ⟨0, 0, true⟩⟩
theorem wf2 : WfI I2 := ⟨fun i hi => by simp only [I2]; split <;> decide, fun i hi => by simp [I2] at hi⟩
theorem wf3 : WfI I3 := ⟨fun i hi => by simp only [I3]; split <;> decide, fun i hi => by simp [I3] at hi⟩
theorem s2 : soundI I2 = 0 := by decide
theorem s3 : soundI I3 = 0 := by decide
def X20 : BitVec 128 := 20#128
theorem rch1 : rch T1 0 1 = true := by
  unfold rch
  have hT := sd_of sound1
  have := (farD_is hT 0).uniq (lk_cost hT) far1 1
  rw [show (0 : Int).toNat = 0 from rfl, show (1 : Int).toNat = 1 from rfl, this]
  decide
theorem wnt2 : wnt I2 0 0 X20 = (1, true) := by
  have e1 : edgeF I2.T 0 0 = 0 := by decide
  have e2 : fidx (adB I2 X20) I2.ne = 1 := by decide
  have e3 : wok I2 0 0 X20 1 = true := by
    unfold wok
    rw [show alB I2 (edgeF I2.T 0 0) (I2.en 1).ten = true by decide, show Hd.perB I2 X20 = true by decide, show viaL I2 (edgeF I2.T 0 0) (I2.en 1).ten I2.nw ++ [(I2.en 1).sw] = [1] by decide]
    show ((true && true) && (rch T1 0 1 && true)) = true
    rw [rch1]; rfl
  unfold wnt
  rw [s2, e1, e2, show (1 : Int).toNat = 1 from rfl, e3]
  rfl
theorem wnt3 : wnt I3 0 0 X20 = (0, false) := by
  have e1 : edgeF I3.T 0 0 = 0 := by decide
  have e2 : fidx (adB I3 X20) I3.ne = 1 := by decide
  have e3 : wok I3 0 0 X20 1 = false := by
    unfold wok
    rw [show alB I3 (edgeF I3.T 0 0) (I3.en 1).ten = false by decide]
    rfl
  unfold wnt
  rw [s3, e1, e2, show (1 : Int).toNat = 1 from rfl, e3]
  rfl
theorem per3 : Hd.perB I3 0 = true := by decide
def allocL (w : World) : List Obj → World
  | [] => w
  | o :: l => allocL (w.alloc o) l
theorem allocL_old (l : List Obj) : ∀ (w : World) {n : Nat}, n < w.heap.size → (allocL w l).heap[n]? = w.heap[n]? := by
  induction l with
  | nil => intro w n hn; rfl
  | cons o l ih =>
    intro w n hn
    rw [allocL, ih (w.alloc o) (by simp; omega)]
    exact al_lt' hn
theorem allocL_at (l : List Obj) : ∀ (w : World) {i : Nat} {o : Obj}, l[i]? = some o → (allocL w l).heap[w.heap.size + i]? = some o := by
  induction l with
  | nil => intro w i o h; simp at h
  | cons a l ih =>
    intro w i o h
    cases i with
    | zero =>
      simp at h; subst h
      rw [allocL, allocL_old l _ (by simp)]
      exact heap_alloc_new w _
    | succ i =>
      have := ih (w.alloc a) (i := i) (o := o) (by simpa using h)
      rw [World.size_alloc] at this
      rw [allocL, show w.heap.size + (i + 1) = w.heap.size + 1 + i by omega]
      exact this
theorem allocL_below (l : List Obj) : ∀ w, RowKit.Below w.heap.size w (allocL w l) := by
  induction l with
  | nil => intro w; exact Below.refl _ _
  | cons a l ih =>
    intro w
    exact below_st (below_al (Below.refl _ _) a) (ih (w.alloc a))
theorem u56 : Try.prog.underlying 56 = some (.struct (Try.prog.fieldsOf 56)) := by kernel_rfl
def r2 (s : Nat) : Ir := ⟨some ⟨s + 1 + 1 + 1 + 1 + 1, 0, none⟩, 2, some ⟨s + 1, 0, none⟩, 1, none, 0, some ⟨s + 1 + 1 + 1 + 1 + 1 + 1, 0, none⟩, 2, some ⟨s + 1 + 1 + 1 + 1 + 1 + 1 + 1, 0, none⟩, 1⟩
def tw (s : Nat) : List Obj := [.cells (I2.cells (r2 s)) 56, .cells #[.int .i64 0, .int .i64 1] 70, .cells (I2.cells (r2 s)) 56,
  .cells #[.int .i64 1, .int .i64 0, .int .i64 0, .int .i64 0, .int .i64 0, .int .i64 2, .int .i64 0, .int .i64 1, .int .i64 0, .int .i64 1] 35,
  .cells #[.int .i64 2, .int .i64 0, .int .i64 0, .int .i64 1, .int .i64 1, .int .i64 1, .int .i64 1, .int .i64 0, .int .i64 0, .int .i64 0] 35,
  .cells #[.slice (some ⟨s + 1 + 1 + 1, 0, none⟩) 2 2, .slice (some ⟨s + 1 + 1 + 1 + 1, 0, none⟩) 2 2] 33,
  .cells #[.int .i64 0, .int .u32 10, .int .i64 0, .int .i64 0, .int .i64 1, .int .u32 20, .int .i64 1, .int .i64 1] 68,
  .cells #[.int .u64 0, .int .u64 0, .int .u64 0, .int .u64 0, .bool true] 75]
theorem tw_na (w : World) : NA (allocL w (tw w.heap.size)) (r2 w.heap.size) I2 := by
  have b1 := allocL_at (tw w.heap.size) w (i := 1) rfl
  have b3 := allocL_at (tw w.heap.size) w (i := 3) rfl
  have b4 := allocL_at (tw w.heap.size) w (i := 4) rfl
  have b5 := allocL_at (tw w.heap.size) w (i := 5) rfl
  have b6 := allocL_at (tw w.heap.size) w (i := 6) rfl
  have b7 := allocL_at (tw w.heap.size) w (i := 7) rfl
  refine ⟨⟨⟨w.heap.size + 5, 0, fun i => some ⟨w.heap.size + 3 + i, 0, none⟩, fun _ => 2, fun i => w.heap.size + 3 + i, fun _ => 0, fun _ => rfl, Nat.le_refl _, by simp [r2, maxLen], fun i hi => ?_, fun i j hi hj => ?_⟩⟩, ?_, ?_, ?_, ?_⟩
  · have : i = 0 ∨ i = 1 := by simp [I2, T1] at hi; omega
    rcases this with rfl | rfl
    · exact ⟨(cell_b b5).trans rfl, Nat.le_refl _, by decide, fun _ => rfl⟩
    · exact ⟨(cell_b b5).trans rfl, Nat.le_refl _, by decide, fun _ => rfl⟩
  · have h1 : i = 0 ∨ i = 1 := by simp [I2, T1] at hi; omega
    have h2 : j = 0 ∨ j = 1 := by simp [I2, T1] at hj; omega
    rcases h1 with rfl | rfl
    · rcases h2 with rfl | rfl <;> exact ⟨(cell_b b3).trans rfl, (cell_b b3).trans rfl, (cell_b b3).trans rfl, (cell_b b3).trans rfl, (cell_b b3).trans rfl⟩
    · rcases h2 with rfl | rfl <;> exact ⟨(cell_b b4).trans rfl, (cell_b b4).trans rfl, (cell_b b4).trans rfl, (cell_b b4).trans rfl, (cell_b b4).trans rfl⟩
  · refine ⟨Nat.le_refl _, by simp [r2, maxLen], w.heap.size + 1, 0, fun _ => rfl, fun i k hi hk => ?_⟩
    have : i = 0 := by simp [I2] at hi; omega
    subst this
    have : k = 0 ∨ k = 1 := by omega
    rcases this with rfl | rfl <;> exact (cell_b b1).trans rfl
  · exact ⟨Nat.le_refl _, by simp [r2, maxLen], 0, 0, fun h => by simp [I2] at h, fun i k hi hk => by simp [I2] at hi⟩
  · refine ⟨Nat.le_refl _, by simp [r2, maxLen], w.heap.size + 6, 0, fun _ => rfl, fun i k hi hk => ?_⟩
    have : i = 0 ∨ i = 1 := by simp [I2] at hi; omega
    have h2 : k = 0 ∨ k = 1 ∨ k = 2 ∨ k = 3 := by omega
    rcases this with rfl | rfl <;> rcases h2 with rfl | rfl | rfl | rfl <;> exact (cell_b b6).trans rfl
  · refine ⟨Nat.le_refl _, by simp [r2, maxLen], w.heap.size + 7, 0, fun _ => rfl, fun i k hi hk => ?_⟩
    have : i = 0 := by simp [I2] at hi; omega
    subst this
    have h2 : k = 0 ∨ k = 1 ∨ k = 2 ∨ k = 3 ∨ k = 4 := by omega
    rcases h2 with rfl | rfl | rfl | rfl | rfl <;> exact (cell_b b7).trans rfl
set_option maxHeartbeats 2000000 in
theorem two_c (w : World) : Calls Try.prog 37 #[] w fun e w' => e = .returned (.agg (I2.cells (r2 w.heap.size))) ∧ NA w' (r2 w.heap.size) I2 ∧ RowKit.Below w.heap.size w w' := by
  have hna := tw_na w
  have hb := allocL_below (tw w.heap.size) w
  have b0 := allocL_at (tw w.heap.size) w (i := 0) rfl
  have HNA := Lib.hid hna
  have HB := Lib.hid hb
  have HB0 := Lib.hid b0
  clear hna hb b0
  go_enter Try.func37, Try.ntmps37
  go_wp2_with fail
  exact bodyPost_ret_by (results_cell_row rfl _ _ w.heap.size 56 (I2.cells (r2 w.heap.size)) (0, 0) _ rfl HB0.out u56 rfl (by kernel_rfl)) rfl ⟨rfl, HNA.out, HB.out⟩
end Go.Proofs.Ytgebehnlfihliaa
