/- Intent: awake. -/
import Derived.Test.YtgebehnlfihliaaIn16
namespace Go.Proofs.Ytgebehnlfihliaa
open Go.RowKit Go.Maps
set_option linter.unusedSimpArgs false
set_option linter.unusedVariables false
set_option maxRecDepth 100000
def noP (r : Ir) : Ir := ⟨r.o, r.c, none, 0, r.ow, r.cw, r.oe, r.ce, r.oa, r.ca⟩
theorem NA.no {W : World} {r : Ir} (h : NA W r I2) : NA W (noP r) I3 :=
  ⟨h.ta, ⟨Nat.le_refl _, Nat.zero_le _, 0, 0, fun h => by simp [I3] at h, fun i k hi => by simp [I3] at hi⟩, h.wy, h.en, h.ac⟩
set_option maxHeartbeats 4000000 in
theorem iawake_c (w : World) : Calls Try.prog 24 #[] w fun e w' => e = .returned (.bool true) ∧ RowKit.Below w.heap.size w w' := by
  have ht := two_c w
  obtain ⟨r, hr⟩ : ∃ r, Hid (r2 w.heap.size = r) := ⟨_, rfl⟩
  rw [hr.out] at ht
  have c2 : Hid (I2.cells r = #[.slice r.o 2 r.c, .int .i64 2, .slice r.op 1 r.cp, .slice r.ow 0 r.cw, .slice r.oe 2 r.ce, .slice r.oa 1 r.ca]) := rfl
  have c3 : Hid (I3.cells (noP r) = #[.slice r.o 2 r.c, .int .i64 2, .slice none 0 0, .slice r.ow 0 r.cw, .slice r.oe 2 r.ce, .slice r.oa 1 r.ca]) := rfl
  have HW2 : Hid (∀ W, NA W r I2 → Calls Try.prog 29 #[.agg #[.slice r.o 2 r.c, .int .i64 2, .slice r.op 1 r.cp, .slice r.ow 0 r.cw, .slice r.oe 2 r.ce, .slice r.oa 1 r.ca], .agg #[.int .i64 0, .int .i64 0], .agg #[.int .u64 0, .int .u64 20]] W fun e w' => e = .returned (.tuple #[.int .i64 1, .bool true]) ∧ RowKit.Below W.heap.size W w') := fun W hW => by
    have := wants_c hW wf2 0 0 (x := 0) (y := 20) (X := X20) (by decide) (by decide)
    rw [c2.out, wnt2] at this
    exact this
  have HW3 : Hid (∀ W, NA W (noP r) I3 → Calls Try.prog 29 #[.agg #[.slice r.o 2 r.c, .int .i64 2, .slice none 0 0, .slice r.ow 0 r.cw, .slice r.oe 2 r.ce, .slice r.oa 1 r.ca], .agg #[.int .i64 0, .int .i64 0], .agg #[.int .u64 0, .int .u64 20]] W fun e w' => e = .returned (.tuple #[.int .i64 0, .bool false]) ∧ RowKit.Below W.heap.size W w') := fun W hW => by
    have := wants_c hW wf3 0 0 (x := 0) (y := 20) (X := X20) (by decide) (by decide)
    rw [c3.out, wnt3] at this
    exact this
  have HS3 : Hid (∀ W, NA W (noP r) I3 → Calls Try.prog 25 #[.agg #[.slice r.o 2 r.c, .int .i64 2, .slice none 0 0, .slice r.ow 0 r.cw, .slice r.oe 2 r.ce, .slice r.oa 1 r.ca]] W fun e w' => e = .returned (.int .i64 0) ∧ RowKit.Below W.heap.size W w') := fun W hW => by
    have := isound_c hW wf3
    rw [c3.out, s3] at this
    exact this
  have HP3 : Hid (∀ W, NA W (noP r) I3 → Calls Try.prog 27 #[.agg #[.slice r.o 2 r.c, .int .i64 2, .slice none 0 0, .slice r.ow 0 r.cw, .slice r.oe 2 r.ce, .slice r.oa 1 r.ca], .agg #[.int .u64 0, .int .u64 0]] W fun e w' => e = .returned (.bool true) ∧ RowKit.Below W.heap.size W w') := fun W hW => by
    have := Hd.permits_c hW (x := 0) (y := 0) (X := 0) (by decide) (by decide)
    rw [c3.out, per3] at this
    exact this
  rw [c2.out] at ht
  clear c2 c3
  go_enter Try.func24, Try.ntmps24
  go_wp2_with fail
  refine ht.mono ?_
  rintro e w1 ⟨rfl, hna, hb1⟩
  clear ht
  have hB2 := below_al (Below.refl w1.heap.size w1) (.cells #[.slice r.o 2 r.c, .int .i64 2, .slice r.op 1 r.cp, .slice r.ow 0 r.cw, .slice r.oe 2 r.ce, .slice r.oa 1 r.ca] 56)
  have h2 := HW2.out _ (hna.below hB2)
  have n2 := heap_alloc_new w1 (.cells #[.slice r.o 2 r.c, .int .i64 2, .slice r.op 1 r.cp, .slice r.ow 0 r.cw, .slice r.oe 2 r.ce, .slice r.oa 1 r.ca] 56)
  go_wp2_with fail
  refine h2.mono ?_
  rintro e w3 ⟨rfl, hb3⟩
  have hB3 := below_st hB2 hb3
  have n3 := (hb3.block w1.heap.size (by simp)).trans n2
  obtain ⟨bi, hbi⟩ : ∃ bi, Hid (bi = w1.heap.size) := ⟨_, rfl⟩
  rw [← hbi.out] at n3 ⊢
  have x0 : w3.cell? ⟨bi, 0, none⟩ = some (.slice r.o 2 r.c) := (cell_b n3).trans rfl
  have x1 : w3.cell? ⟨bi, 1, none⟩ = some (.int .i64 2) := (cell_b n3).trans rfl
  have x2 : w3.cell? ⟨bi, 2, none⟩ = some (.slice r.op 1 r.cp) := (cell_b n3).trans rfl
  have x3 : w3.cell? ⟨bi, 3, none⟩ = some (.slice r.ow 0 r.cw) := (cell_b n3).trans rfl
  have x4 : w3.cell? ⟨bi, 4, none⟩ = some (.slice r.oe 2 r.ce) := (cell_b n3).trans rfl
  have x5 : w3.cell? ⟨bi, 5, none⟩ = some (.slice r.oa 1 r.ca) := (cell_b n3).trans rfl
  have f2 : w3.frozen? ⟨bi, 2, none⟩ = false := froz_b n3
  have n4 : (w3.setCell ⟨bi, 2, none⟩ (.slice none 0 0)).heap[bi]? = some (.cells #[.slice r.o 2 r.c, .int .i64 2, .slice none 0 0, .slice r.ow 0 r.cw, .slice r.oe 2 r.ce, .slice r.oa 1 r.ca] 56 (0, 0)) := sc_at n3
  have hB4 : RowKit.Below w1.heap.size w1 (w3.setCell ⟨bi, 2, none⟩ (.slice none 0 0)) := RowKit.Below.setCell hB3 (by rw [hbi.out]; exact Nat.le_refl _) _
  have h4 := HW3.out _ (hna.below hB4).no
  go_wp2_with fail
  refine h4.mono ?_
  rintro e w5 ⟨rfl, hb5⟩
  have hB5 := below_st hB4 hb5
  have n5 := (hb5.block bi (Array.getElem?_eq_some_iff.1 n4).1).trans n4
  clear x0 x1 x2 x3 x4 x5 f2 n4 h4 n3 h2 n2
  have x0 : w5.cell? ⟨bi, 0, none⟩ = some (.slice r.o 2 r.c) := (cell_b n5).trans rfl
  have x1 : w5.cell? ⟨bi, 1, none⟩ = some (.int .i64 2) := (cell_b n5).trans rfl
  have x2 : w5.cell? ⟨bi, 2, none⟩ = some (.slice none 0 0) := (cell_b n5).trans rfl
  have x3 : w5.cell? ⟨bi, 3, none⟩ = some (.slice r.ow 0 r.cw) := (cell_b n5).trans rfl
  have x4 : w5.cell? ⟨bi, 4, none⟩ = some (.slice r.oe 2 r.ce) := (cell_b n5).trans rfl
  have x5 : w5.cell? ⟨bi, 5, none⟩ = some (.slice r.oa 1 r.ca) := (cell_b n5).trans rfl
  have h5 := HS3.out _ (hna.below hB5).no
  go_wp2_with fail
  refine h5.mono ?_
  rintro e w6 ⟨rfl, hb6⟩
  have hB6 := below_st hB5 hb6
  have x0 := cell_below hb6 x0
  have x1 := cell_below hb6 x1
  have x2 := cell_below hb6 x2
  have x3 := cell_below hb6 x3
  have x4 := cell_below hb6 x4
  have x5 := cell_below hb6 x5
  have h6 := HP3.out _ (hna.below hB6).no
  go_wp2_with fail
  refine h6.mono ?_
  rintro e w7 ⟨rfl, hb7⟩
  have hB7 := below_st hB6 hb7
  go_wp2_with fail
  go_ret
  exact ⟨rfl, below_st hb1 hB7⟩
end Go.Proofs.Ytgebehnlfihliaa
