/- Delta: the walk of DeltaBack over opened arguments. -/
import Derived.Test.YtdmakcfgcgioeaaDOpen2
import Derived.Test.YtdmakcfgcgioeaaDL5
namespace Go.Proofs.Ytdmakcfgcgioeaa
open Go.ChangeShapes Go.WideShapes Go.ChangeAt Go.RowKit Go.Deep
set_option linter.unusedVariables false
theorem back_l {w : World} {A B : Cf} {va vb vc vd ua ub uc ud : Value} {M N : Nat} (ha : RC w A va vb vc vd) (hs : Sm A M) (hM : M ≤ 1100000) (hb : RC w B ua ub uc ud) (hs2 : Sm B N) (hN : N ≤ 1100000) {ol : Option Addr} {cl : Nat} {l : List Ed} (hr : Rd w ol l.length cl (l.flatMap ceE)) :
    Calls Try.prog 5 #[.agg #[va, .int .i64 A.ten, vb, vc, vd], .agg #[ua, .int .i64 B.ten, ub, uc, ud], .slice ol l.length cl] w fun e w' => e = .returned (.bool true) ∧ RowKit.Below w.heap.size w w' :=
  back5_c w ha hb (hs.bd hM) (hs2.bd hN) (hs.bt hM) (by decide) (hs.b hM) (hs2.b hN) ⟨by have := hs.sz; omega, by have := hs2.sz; omega⟩ hr
end Go.Proofs.Ytdmakcfgcgioeaa
