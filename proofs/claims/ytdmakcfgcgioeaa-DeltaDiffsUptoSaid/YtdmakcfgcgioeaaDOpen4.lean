/- Delta: the walk of DeltaDiffs over opened arguments. -/
import Derived.Test.YtdmakcfgcgioeaaDOpen2
import Derived.Test.YtdmakcfgcgioeaaDL4
namespace Go.Proofs.Ytdmakcfgcgioeaa
open Go.ChangeShapes Go.WideShapes Go.ChangeAt Go.RowKit Go.Deep
set_option linter.unusedVariables false
theorem diffs_l {w : World} {A B : Cf} {va vb vc vd ua ub uc ud : Value} {M N : Nat} (ha : RC w A va vb vc vd) (hs : Sm A M) (hM : M ≤ 1100000) (hb : RC w B ua ub uc ud) (hs2 : Sm B N) (hN : N ≤ 1100000) :
    Calls Try.prog 4 #[.agg #[va, .int .i64 A.ten, vb, vc, vd], .agg #[ua, .int .i64 B.ten, ub, uc, ud]] w fun e w' => e = .returned (.bool true) ∧ RowKit.Below w.heap.size w w' :=
  diffs4_c w ha hb (hs.b hM) (hs2.b hN) ⟨by have := hs.sz; omega, by have := hs2.sz; omega⟩
end Go.Proofs.Ytdmakcfgcgioeaa
