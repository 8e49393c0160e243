/- Agenda: the methods of items. -/
import Derived.Test.YtlaagbnclkhbjaaAAwake
import Derived.Deep.QuietTactic
import Derived.BigQuiet
import Derived.Lib.QuietBelow
import Derived.Deep.RegionHeld3
namespace Go.Proofs.Ytlaagbnclkhbjaa
open Go.RowKit
set_option linter.unusedSimpArgs false
set_option linter.unusedVariables false
set_option maxRecDepth 100000
/-- is the first one due ahead of the second? -/
def earlier (a1 o1 a2 o2 : Int) : Bool := decide (a1 < a2) || (decide (a1 = a2) && decide (o1 < o2))
set_option maxHeartbeats 1000000 in
theorem Less_c (r i j len cap k1 k2 : Nat) (a1 o1 a2 o2 : Int) (hi : i < len) (hj : j < len) (w : World)
    (c1 : w.cell? ⟨r, i, none⟩ = some (.pointer (some ⟨k1, 0, none⟩))) (c2 : w.cell? ⟨r, j, none⟩ = some (.pointer (some ⟨k2, 0, none⟩)))
    (d1 : w.cell? ⟨k1, 0, none⟩ = some (.int .i64 a1)) (d2 : w.cell? ⟨k2, 0, none⟩ = some (.int .i64 a2))
    (e1 : w.cell? ⟨k1, 1, none⟩ = some (.int .i64 o1)) (e2 : w.cell? ⟨k2, 1, none⟩ = some (.int .i64 o2)) :
    Calls Try.prog 41 #[.slice (some ⟨r, 0, none⟩) len cap, .int .i64 (i : Int), .int .i64 (j : Int)] w fun e w' => e = .returned (.bool (earlier a1 o1 a2 o2)) ∧ ∃ n, w' = redrawn w n := by
  have hiI : (i : Int) < len := by omega
  have hjI : (j : Int) < len := by omega
  go_enter Try.func41, Try.ntmps41
  by_cases h1 : a1 < a2
  · go_wp2_with fail
    go_quiet (fail)
    go_wp2
    go_ret
    exact ⟨by simp [earlier, h1], _, rfl⟩
  · by_cases h2 : a1 = a2
    · by_cases h3 : o1 < o2
      · go_wp2_with fail
        go_quiet (fail)
        go_wp2
        go_ret
        exact ⟨by simp [earlier, h1, h2, h3], _, rfl⟩
      · go_wp2_with fail
        go_quiet (fail)
        go_wp2
        go_ret
        exact ⟨by simp [earlier, h1, h2, h3], _, rfl⟩
    · go_wp2_with fail
      go_quiet (fail)
      go_wp2
      go_ret
      exact ⟨by simp [earlier, h1, h2], _, rfl⟩
theorem Len_c (o : Option Addr) (len cap : Nat) (w : World) : Calls Try.prog 40 #[.slice o len cap] w fun e w' => e = .returned (.int .i64 (len : Int)) ∧ w' = w := by
  go_enter Try.func40, Try.ntmps40
  go_wp2
  go_ret
  exact ⟨rfl, rfl⟩
end Go.Proofs.Ytlaagbnclkhbjaa
