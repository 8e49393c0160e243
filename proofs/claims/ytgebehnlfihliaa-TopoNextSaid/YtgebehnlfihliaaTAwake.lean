/- Topo: awake. -/
import Derived.Test.YtgebehnlfihliaaTNext
namespace Go.Proofs.Ytgebehnlfihliaa
open Go.RowKit Go.Maps
set_option linter.unusedSimpArgs false
set_option linter.unusedVariables false
set_option maxRecDepth 100000
def pt0 (i j : Nat) : Pt := if i = 0 then (if j = 0 then ⟨1, 0, 0, 0, 0⟩ else ⟨2, 0, 1, 0, 5⟩) else ⟨2, 0, 0, 1, 5⟩
def T0 : Tp := ⟨2, fun i => if i = 0 then 2 else 1, pt0⟩
def d0 (m : Nat) : Int := if m = 0 then 0 else if m = 1 then 5 else -1
theorem lk0 {x m : Nat} {k : Int} (h : Lk T0 x m k) : (x = 0 ∧ m = 1 ∧ k = 5) ∨ (x = 1 ∧ m = 0 ∧ k = 5) := by
  obtain ⟨hx, j, hj, hk, hp, hc⟩ := h
  simp only [T0, pt0] at hx hj hk hp hc
  by_cases e : x = 0
  · subst e
    by_cases e2 : j = 0
    · subst e2; simp at hk
    · simp [e2] at hp hc
      exact .inl ⟨rfl, by omega, by omega⟩
  · simp [e] at hp hc
    exact .inr ⟨by omega, by omega, by omega⟩
theorem far0 : IsFar (Lk T0) 0 d0 where
  self := rfl
  neg m := by unfold d0; split; · right; omega
              split; · right; omega
              · exact .inl rfl
  clo x m k l _ := by rcases lk0 l with ⟨rfl, rfl, rfl⟩ | ⟨rfl, rfl, rfl⟩ <;> decide
  tight m hm := by
    by_cases e : m = 0
    · exact .inl e
    · by_cases e1 : m = 1
      · subst e1
        exact .inr ⟨0, 5, ⟨by decide, 1, by decide, rfl, rfl, rfl⟩, by decide, by decide⟩
      · simp [d0, e, e1] at hm
theorem sound0 : soundE T0 = 0 := by decide
theorem edgs0 : (edgs T0 2).length = 1 := by decide
theorem other0 : otherF T0 0 1 = (1, 0, true) := by decide
def row0 : Array Value := #[.int .i64 1, .int .i64 0, .int .i64 0, .int .i64 0, .int .i64 0, .int .i64 2, .int .i64 0, .int .i64 1, .int .i64 0, .int .i64 5]
def row1 : Array Value := #[.int .i64 2, .int .i64 0, .int .i64 0, .int .i64 1, .int .i64 5]
def awW (w : World) : World := (((w.alloc (.cells row0 35)).alloc (.cells row1 35)).alloc (.cells #[.slice (some ⟨w.heap.size, 0, none⟩) 2 2, .slice (some ⟨w.heap.size + 1, 0, none⟩) 1 1] 33)).alloc (.cells #[.slice (some ⟨w.heap.size + 1 + 1, 0, none⟩) 2 2] 24)
theorem aw_below (w : World) : RowKit.Below w.heap.size w (awW w) :=
  ((((Below.refl _ _).alloc (Nat.le_refl _) _).alloc (by simp) _).alloc (by simp; omega) _).alloc (by simp; omega) _
theorem aw_0 (w : World) : (awW w).heap[w.heap.size]? = some (.cells row0 35 (0, 0)) := by
  unfold awW
  rw [al_lt' (by simp; omega), al_lt' (by simp; omega), al_lt' (by simp)]
  exact heap_alloc_new w _
theorem aw_1 (w : World) : (awW w).heap[w.heap.size + 1]? = some (.cells row1 35 (0, 0)) := by
  unfold awW
  rw [al_lt' (by simp), al_lt' (by simp)]
  have := heap_alloc_new (w.alloc (.cells row0 35)) (.cells row1 35)
  rwa [World.size_alloc] at this
theorem aw_2 (w : World) : (awW w).heap[w.heap.size + 1 + 1]? = some (.cells #[.slice (some ⟨w.heap.size, 0, none⟩) 2 2, .slice (some ⟨w.heap.size + 1, 0, none⟩) 1 1] 33 (0, 0)) := by
  unfold awW
  rw [al_lt' (by simp)]
  have := heap_alloc_new ((w.alloc (.cells row0 35)).alloc (.cells row1 35)) (.cells #[.slice (some ⟨w.heap.size, 0, none⟩) 2 2, .slice (some ⟨w.heap.size + 1, 0, none⟩) 1 1] 33)
  rwa [World.size_alloc, World.size_alloc] at this
theorem aw_3 (w : World) : (awW w).heap[w.heap.size + 1 + 1 + 1]? = some (.cells #[.slice (some ⟨w.heap.size + 1 + 1, 0, none⟩) 2 2] 24 (0, 0)) := by
  unfold awW
  have := heap_alloc_new (((w.alloc (.cells row0 35)).alloc (.cells row1 35)).alloc (.cells #[.slice (some ⟨w.heap.size, 0, none⟩) 2 2, .slice (some ⟨w.heap.size + 1, 0, none⟩) 1 1] 33)) (.cells #[.slice (some ⟨w.heap.size + 1 + 1, 0, none⟩) 2 2] 24)
  rwa [World.size_alloc, World.size_alloc, World.size_alloc] at this
theorem aw_TA (w : World) : TA (awW w) (some ⟨w.heap.size + 1 + 1, 0, none⟩) 2 T0 := by
  refine ⟨⟨w.heap.size + 1 + 1, 0, fun i => some ⟨w.heap.size + i, 0, none⟩, fun i => if i = 0 then 2 else 1, fun i => w.heap.size + i, fun _ => 0, fun _ => rfl, Nat.le_refl _, by decide, fun i hi => ?_, fun i j hi hj => ?_⟩⟩
  · have : i = 0 ∨ i = 1 := by simp [T0] at hi; omega
    rcases this with rfl | rfl
    · exact ⟨by rw [cell_b (aw_2 w)]; rfl, Nat.le_refl _, by decide, fun _ => rfl⟩
    · exact ⟨by rw [cell_b (aw_2 w)]; rfl, Nat.le_refl _, by decide, fun _ => rfl⟩
  · have : i = 0 ∨ i = 1 := by simp [T0] at hi; omega
    rcases this with rfl | rfl
    · have : j = 0 ∨ j = 1 := by simp [T0] at hj; omega
      rcases this with rfl | rfl
      · exact ⟨(cell_b (aw_0 w)).trans rfl, (cell_b (aw_0 w)).trans rfl, (cell_b (aw_0 w)).trans rfl, (cell_b (aw_0 w)).trans rfl, (cell_b (aw_0 w)).trans rfl⟩
      · exact ⟨(cell_b (aw_0 w)).trans rfl, (cell_b (aw_0 w)).trans rfl, (cell_b (aw_0 w)).trans rfl, (cell_b (aw_0 w)).trans rfl, (cell_b (aw_0 w)).trans rfl⟩
    · have : j = 0 := by simp [T0] at hj; omega
      subst this
      exact ⟨(cell_b (aw_1 w)).trans rfl, (cell_b (aw_1 w)).trans rfl, (cell_b (aw_1 w)).trans rfl, (cell_b (aw_1 w)).trans rfl, (cell_b (aw_1 w)).trans rfl⟩
set_option maxHeartbeats 4000000 in
theorem awake_c (w : World) : Calls Try.prog 19 #[] w fun e w' => e = .returned (.bool true) ∧ RowKit.Below w.heap.size w w' := by
  have hTA := aw_TA w
  have hbW := aw_below w
  have x0 : (awW w).cell? ⟨w.heap.size + 1 + 1 + 1, 0, none⟩ = some (.slice (some ⟨w.heap.size + 1 + 1, 0, none⟩) 2 2) := by rw [cell_b (aw_3 w)]; rfl
  have hc1 : Calls Try.prog 20 #[.agg #[.slice (some ⟨w.heap.size + 1 + 1, 0, none⟩) 2 2], .int .i64 0] (awW w) fun e w' => ∃ g, e = .returned (.tuple #[.slice (some ⟨g, 0, none⟩) 2 2, .int .i64 0]) ∧ IA w' g 2 d0 ∧ (awW w).heap.size ≤ g ∧ RowKit.Below (awW w).heap.size (awW w) w' :=
    tfar_ok hTA sound0 0 (by decide) d0 far0
  go_enter Try.func19, Try.ntmps19
  go_wp2_with fail
  refine hc1.mono ?_
  rintro e w1 ⟨g, rfl, hia, hg, hb1⟩
  have hT1 := hTA.below hb1
  have x1 := cell_below hb1 x0
  have hbw1 := hbW.trans (hb1.mono hbW.size)
  have hc2 : Calls Try.prog 23 #[.agg #[.slice (some ⟨w.heap.size + 1 + 1, 0, none⟩) 2 2], .int .i64 1, .int .i64 0] w1 fun e w' => ∃ i : Nat, e = .returned (.tuple #[.int .i64 (i : Int), .int .i64 0]) ∧ i < 1 ∧ Best T0 d0 1 i ∧ (∀ j, j < i → ¬ Best T0 d0 1 j) ∧ RowKit.Below w1.heap.size w1 w' :=
    next_ok hT1 sound0 1 0 (by decide) (by decide) (by decide) d0 far0 (by decide)
  go_wp2_with fail
  refine hc2.mono ?_
  rintro e w2 ⟨i, rfl, hi, _, _, hb2⟩
  have hi0 : i = 0 := by omega
  subst hi0
  have hT2 := hT1.below hb2
  have x2 := cell_below hb2 x1
  have hbw2 := hbw1.trans (hb2.mono hbw1.size)
  have hia2 := hia.of (hb2.block g hia.lt)
  have hc3 := other_c hT2 0 1
  rw [other0] at hc3
  go_wp2_with fail
  refine Calls.mono (show Calls Try.prog 18 #[.agg #[.slice (some ⟨w.heap.size + 1 + 1, 0, none⟩) 2 2], .agg #[.int .i64 0, .int .i64 1]] w2 _ from hc3) ?_
  rintro e w3 ⟨rfl, hb3⟩
  have hT3 := hT2.below hb3
  have x3 := cell_below hb3 x2
  have hbw3 := hbw2.trans (hb3.mono hbw2.size)
  have hia3 := hia2.of (hb3.block g hia2.lt)
  have l3 : w.heap.size + 1 + 1 + 1 < w3.heap.size := World.block_lt_of_cell? w3 _ x3
  have lg := hia3.lt
  have hT4 := hT3.below ((Below.refl w3.heap.size w3).alloc (Nat.le_refl _) (.cells #[.int .i64 1, .int .i64 0] 26))
  have hc4 := tsound_c hT4
  rw [sound0] at hc4
  have hbw4 := hbw3.alloc (by omega) (.cells #[.int .i64 1, .int .i64 0] 26)
  have z1 := hia3.cell (i := 1) (by decide)
  have z1' : w3.cell? ⟨g, 1, none⟩ = some (.int .i64 5) := z1
  have hW4 := heap_alloc_new w3 (.cells #[.int .i64 1, .int .i64 0] 26)
  go_wp2_with fail
  refine Calls.mono (show Calls Try.prog 17 #[.agg #[.slice (some ⟨w.heap.size + 1 + 1, 0, none⟩) 2 2]] _ _ from hc4) ?_
  rintro e w5 ⟨rfl, hb5⟩
  have hT5 := hT4.below hb5
  have x4 : (w3.alloc (.cells #[.int .i64 1, .int .i64 0] 26)).cell? ⟨w.heap.size + 1 + 1 + 1, 0, none⟩ = some (.slice (some ⟨w.heap.size + 1 + 1, 0, none⟩) 2 2) := cell_below ((Below.refl w3.heap.size w3).alloc (Nat.le_refl _) _) x3
  have x5 := cell_below hb5 x4
  have hbw5 := hbw4.trans (hb5.mono hbw4.size)
  have z5 : w5.cell? ⟨g, 1, none⟩ = some (.int .i64 5) := cell_below hb5 (cell_below ((Below.refl w3.heap.size w3).alloc (Nat.le_refl _) _) z1')
  have y0 : w5.cell? ⟨w3.heap.size, 0, none⟩ = some (.int .i64 1) := cell_below hb5 ((cell_b hW4).trans rfl)
  have y1 : w5.cell? ⟨w3.heap.size, 1, none⟩ = some (.int .i64 0) := cell_below hb5 ((cell_b hW4).trans rfl)
  have hc5 := tedges_c hT5 (by decide)
  go_wp2_with fail
  refine Calls.mono (show Calls Try.prog 15 #[.agg #[.slice (some ⟨w.heap.size + 1 + 1, 0, none⟩) 2 2]] _ _ from hc5) ?_
  rintro e w6 ⟨v, rfl, hown, hb6⟩
  have hbw6 := hbw5.trans (hb6.mono hbw5.size)
  obtain ⟨o6, c6, rfl⟩ := slice_form hown
  rw [show (edgs T0 T0.n).length = 1 from edgs0]
  go_wp2_with fail
  go_ret
  exact ⟨rfl, hbw6⟩
end Go.Proofs.Ytgebehnlfihliaa
