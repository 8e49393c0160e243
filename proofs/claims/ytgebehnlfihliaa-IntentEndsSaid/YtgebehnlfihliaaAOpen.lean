/- Opening arguments: an integer with its bounds, a flag. -/
import Derived.Test.YtgebehnlfihliaaProg
import Derived.ProofKit
import Derived.OpenShut
import Derived.Lib.SmallJoins
namespace Go.Proofs.Ytgebehnlfihliaa
open Go.ChangeShapes Go.WideShapes Go.ChangeAt Go.RowKit Go.Joins
set_option maxRecDepth 100000
theorem open_num {H : Type} {enc : TypeId × Value → H} {W : World} {r : Reach} {b0 base : Nat} {spare : Nat → Bool} {held : Bool} {v : Value} {d : DataW H} {p : List MemPlace} {t : TypeId} {k : IntKind}
    (ht : Try.prog.underlying t = some (.int k)) (hv : Value.okWide Try.prog W r b0 t v) (h : DataW.Trod enc Try.prog W base spare held t v d p) : ∃ a : Int, v = .int k a ∧ (Lit.int k a).wf = true := by
  obtain ⟨a, rfl, rfl, rfl, w⟩ := open_int ht hv h
  exact ⟨a, rfl, w⟩
theorem open_flag {H : Type} {enc : TypeId × Value → H} {W : World} {r : Reach} {b0 base : Nat} {spare : Nat → Bool} {held : Bool} {v : Value} {d : DataW H} {p : List MemPlace} {t : TypeId}
    (ht : Try.prog.underlying t = some .bool) (hv : Value.okWide Try.prog W r b0 t v) (h : DataW.Trod enc Try.prog W base spare held t v d p) : ∃ a : Bool, v = .bool a := by
  obtain ⟨a, rfl, rfl, rfl⟩ := open_bool ht hv h
  exact ⟨a, rfl⟩
end Go.Proofs.Ytgebehnlfihliaa
