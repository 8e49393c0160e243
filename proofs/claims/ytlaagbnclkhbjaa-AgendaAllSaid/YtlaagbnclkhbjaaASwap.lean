/- Agenda: Swap of items. -/
import Derived.Test.YtlaagbnclkhbjaaAItems
namespace Go.Proofs.Ytlaagbnclkhbjaa
open Go.RowKit
set_option linter.unusedSimpArgs false
set_option linter.unusedVariables false
set_option maxRecDepth 100000
set_option maxHeartbeats 1000000 in
theorem Swap_c (r i j len cap k1 k2 : Nat) (t1 t2 : Int) (hi : i < len) (hj : j < len) (hij : i ≠ j) (hk : k1 ≠ k2) (hr1 : r ≠ k1) (hr2 : r ≠ k2) (w : World)
    (c1 : w.cell? ⟨r, i, none⟩ = some (.pointer (some ⟨k1, 0, none⟩))) (c2 : w.cell? ⟨r, j, none⟩ = some (.pointer (some ⟨k2, 0, none⟩)))
    (d1 : w.cell? ⟨k1, 3, none⟩ = some (.int .i64 t1)) (d2 : w.cell? ⟨k2, 3, none⟩ = some (.int .i64 t2))
    (f1 : w.frozen? ⟨r, i, none⟩ = false) (f2 : w.frozen? ⟨r, j, none⟩ = false) (f3 : w.frozen? ⟨k1, 3, none⟩ = false) (f4 : w.frozen? ⟨k2, 3, none⟩ = false) :
    Calls Try.prog 42 #[.slice (some ⟨r, 0, none⟩) len cap, .int .i64 (i : Int), .int .i64 (j : Int)] w fun e w' => e = .returned (.tuple #[]) ∧ ∃ n, w' = redrawn ((((w.setCell ⟨r, i, none⟩ (.pointer (some ⟨k2, 0, none⟩))).setCell ⟨r, j, none⟩ (.pointer (some ⟨k1, 0, none⟩))).setCell ⟨k2, 3, none⟩ (.int .i64 (i : Int))).setCell ⟨k1, 3, none⟩ (.int .i64 (j : Int))) n := by
  have hiI : (i : Int) < len := by omega
  have hjI : (j : Int) < len := by omega
  have hfar : ∀ (V : World) (p a : Addr) (v : Value), p.block ≠ a.block → (V.setCell p v).cell? a = V.cell? a := fun V p a v h => World.cell?_setCell_far V p a v h
  have hji : j ≠ i := fun e => hij e.symm
  have hk' : k2 ≠ k1 := fun e => hk e.symm
  have hr1' : k1 ≠ r := fun e => hr1 e.symm
  have hr2' : k2 ≠ r := fun e => hr2 e.symm
  go_enter Try.func42, Try.ntmps42
  go_wp2_with fail
  go_region
  go_wp2_with fail
  go_region
  go_wp2
  go_end0
  refine ⟨rfl, w.drawn + 2, ?_⟩
  rfl
set_option maxHeartbeats 1000000 in
theorem Swap_same (r i len cap k1 : Nat) (t1 : Int) (hi : i < len) (hr1 : r ≠ k1) (w : World)
    (c1 : w.cell? ⟨r, i, none⟩ = some (.pointer (some ⟨k1, 0, none⟩)))
    (d1 : w.cell? ⟨k1, 3, none⟩ = some (.int .i64 t1))
    (f1 : w.frozen? ⟨r, i, none⟩ = false) (f3 : w.frozen? ⟨k1, 3, none⟩ = false) :
    Calls Try.prog 42 #[.slice (some ⟨r, 0, none⟩) len cap, .int .i64 (i : Int), .int .i64 (i : Int)] w fun e w' => e = .returned (.tuple #[]) ∧ ∃ n, w' = redrawn ((((w.setCell ⟨r, i, none⟩ (.pointer (some ⟨k1, 0, none⟩))).setCell ⟨r, i, none⟩ (.pointer (some ⟨k1, 0, none⟩))).setCell ⟨k1, 3, none⟩ (.int .i64 (i : Int))).setCell ⟨k1, 3, none⟩ (.int .i64 (i : Int))) n := by
  have hiI : (i : Int) < len := by omega
  have hfar : ∀ (V : World) (p a : Addr) (v : Value), p.block ≠ a.block → (V.setCell p v).cell? a = V.cell? a := fun V p a v h => World.cell?_setCell_far V p a v h
  have hr1' : k1 ≠ r := fun e => hr1 e.symm
  go_enter Try.func42, Try.ntmps42
  go_wp2_with fail
  go_region
  go_wp2_with fail
  go_region
  go_wp2
  go_end0
  refine ⟨rfl, w.drawn + 2, ?_⟩
  rfl
end Go.Proofs.Ytlaagbnclkhbjaa
