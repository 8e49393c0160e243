/-
  No cell of these rows narrows 'for every input' (looked for: loops, veiled, ifaces, maps, wideKeys, modest, calm, conditions, laid).
  DERIVED. THE GIVEN ROWS OF THIS SEAT. 5 by the template 'for every input the law returns true; each argument reads behind the call as it read before'; 0 by the template 'total and deterministic' (their statements: YtjbmhcjncldnhaaTotals.lean).
  GIVEN WITH THE SEED: the statements are not yours to turn. If you find one false, say at which input.
  Laid BY PROGRAM, IN A SANDBOX (cutbox-rows.mjs): the forced cells as the released guide's own fill.sh prints them over the translation 30e5f7bc9b8b581e… (all of the seat's roots in one cut). By AI agents, Wed Nov 11 2026. No macro, syntax, notation, axiom, sorry.
-/
import Derived.Test.YtjbmhcjncldnhaaChecked
import GoSem.Claim
import GoSem.ClaimJoined
import GoSem.ClaimMapViews
import Derived.JoinedTies
import Derived.KernelRfl
namespace Go.Proofs.Ytjbmhcjncldnhaa
/- THE CELL 'sum', in the pinned program and in every row, IS THE sha256 OF THE DUMP (.gsa) THAT YtjbmhcjncldnhaaProg.lean LOADS. Nothing in Lean hashes anything: it is a label: what it is worth is what the hold of that sum in a sandbox is worth. -/
noncomputable def Try.pinned : Pinned := { name := "ytjbmhcjncldnhaa", sum := "30e5f7bc9b8b581e253dee51b92437cf20a40c83cae06b2936cae9e45c0a53b1", checked := Try.checked }
namespace Rows
def none {H : Type} : Left H := { results := [], args := [] }

/-- 'customhouselaw01.HeadFields': WHATEVER THE INPUT: true; the input reads as it did. -/
def headFieldsSpec : ChangeSpec := { name := "headFields", fn := fun _ => fun
  | [d1, d2, d3, d4] => { results := [.lit (.bool true)], args := [d1, d2, d3, d4] }
  | _ => none }
def headFieldsRow : OpenClaim := { program := "ytjbmhcjncldnhaa", sum := "30e5f7bc9b8b581e253dee51b92437cf20a40c83cae06b2936cae9e45c0a53b1", func := "customhouse/customhouselaw01.HeadFields", spec := "headFields", inPlace := ["math/bits.Sub64"], apart := false }
def HeadFieldsSaid : Prop := headFieldsRow.holds Try.pinned (OpenSpec.ofChange headFieldsSpec)

/-- ITS FALSE NEIGHBOUR: 'it returns false'. Refute it at one input. -/
def headFieldsWrong : ChangeSpec := { name := "headFields", fn := fun _ => fun
  | [d1, d2, d3, d4] => { results := [.lit (.bool false)], args := [d1, d2, d3, d4] }
  | _ => none }
def HeadFieldsWrongFalsely : Prop := headFieldsRow.holds Try.pinned (OpenSpec.ofChange headFieldsWrong)

/-- 'customhouselaw01.HeadOrder': WHATEVER THE INPUT: true; the input reads as it did. -/
def headOrderSpec : ChangeSpec := { name := "headOrder", fn := fun _ => fun
  | [d1, d2] => { results := [.lit (.bool true)], args := [d1, d2] }
  | _ => none }
def headOrderRow : OpenClaim := { program := "ytjbmhcjncldnhaa", sum := "30e5f7bc9b8b581e253dee51b92437cf20a40c83cae06b2936cae9e45c0a53b1", func := "customhouse/customhouselaw01.HeadOrder", spec := "headOrder", inPlace := ["math/bits.Sub64"], apart := false }
def HeadOrderSaid : Prop := headOrderRow.holds Try.pinned (OpenSpec.ofChange headOrderSpec)

/-- ITS FALSE NEIGHBOUR: 'it returns false'. Refute it at one input. -/
def headOrderWrong : ChangeSpec := { name := "headOrder", fn := fun _ => fun
  | [d1, d2] => { results := [.lit (.bool false)], args := [d1, d2] }
  | _ => none }
def HeadOrderWrongFalsely : Prop := headOrderRow.holds Try.pinned (OpenSpec.ofChange headOrderWrong)

/-- 'customhouselaw01.HeadBack': WHATEVER THE INPUT: true; the input reads as it did. -/
def headBackSpec : ChangeSpec := { name := "headBack", fn := fun _ => fun
  | [d1, d2, d3, d4] => { results := [.lit (.bool true)], args := [d1, d2, d3, d4] }
  | _ => none }
def headBackRow : OpenClaim := { program := "ytjbmhcjncldnhaa", sum := "30e5f7bc9b8b581e253dee51b92437cf20a40c83cae06b2936cae9e45c0a53b1", func := "customhouse/customhouselaw01.HeadBack", spec := "headBack", inPlace := ["math/bits.Sub64"], unfollowed := true, recurses := true, apart := false }
def HeadBackSaid : Prop := headBackRow.holds Try.pinned (OpenSpec.ofChange headBackSpec)

/-- ITS FALSE NEIGHBOUR: 'it returns false'. Refute it at one input. -/
def headBackWrong : ChangeSpec := { name := "headBack", fn := fun _ => fun
  | [d1, d2, d3, d4] => { results := [.lit (.bool false)], args := [d1, d2, d3, d4] }
  | _ => none }
def HeadBackWrongFalsely : Prop := headBackRow.holds Try.pinned (OpenSpec.ofChange headBackWrong)

/-- 'customhouselaw01.HeadBits': WHATEVER THE INPUT: true; the input reads as it did. -/
def headBitsSpec : ChangeSpec := { name := "headBits", fn := fun _ => fun
  | [d1, d2, d3] => { results := [.lit (.bool true)], args := [d1, d2, d3] }
  | _ => none }
def headBitsRow : OpenClaim := { program := "ytjbmhcjncldnhaa", sum := "30e5f7bc9b8b581e253dee51b92437cf20a40c83cae06b2936cae9e45c0a53b1", func := "customhouse/customhouselaw01.HeadBits", spec := "headBits", inPlace := ["math/bits.Sub64"], unfollowed := true, recurses := true, apart := false }
def HeadBitsSaid : Prop := headBitsRow.holds Try.pinned (OpenSpec.ofChange headBitsSpec)

/-- ITS FALSE NEIGHBOUR: 'it returns false'. Refute it at one input. -/
def headBitsWrong : ChangeSpec := { name := "headBits", fn := fun _ => fun
  | [d1, d2, d3] => { results := [.lit (.bool false)], args := [d1, d2, d3] }
  | _ => none }
def HeadBitsWrongFalsely : Prop := headBitsRow.holds Try.pinned (OpenSpec.ofChange headBitsWrong)

/-- 'customhouselaw01.HeadParts': WHATEVER THE INPUT: true; the input reads as it did. -/
def headPartsSpec : ChangeSpec := { name := "headParts", fn := fun _ => fun
  | [d1, d2, d3] => { results := [.lit (.bool true)], args := [d1, d2, d3] }
  | _ => none }
def headPartsRow : OpenClaim := { program := "ytjbmhcjncldnhaa", sum := "30e5f7bc9b8b581e253dee51b92437cf20a40c83cae06b2936cae9e45c0a53b1", func := "customhouse/customhouselaw01.HeadParts", spec := "headParts", inPlace := ["math/bits.Sub64"], unfollowed := true, recurses := true, apart := false }
def HeadPartsSaid : Prop := headPartsRow.holds Try.pinned (OpenSpec.ofChange headPartsSpec)

/-- ITS FALSE NEIGHBOUR: 'it returns false'. Refute it at one input. -/
def headPartsWrong : ChangeSpec := { name := "headParts", fn := fun _ => fun
  | [d1, d2, d3] => { results := [.lit (.bool false)], args := [d1, d2, d3] }
  | _ => none }
def HeadPartsWrongFalsely : Prop := headPartsRow.holds Try.pinned (OpenSpec.ofChange headPartsWrong)

/- THE SECOND FORM. 'bulk': how many values and letters a reading holds, each counted each time it is reached (what is shared counts as often as it is met; a slice's spare places count too). A statement '..UptoSaid' is the law's where the arguments, and the package variables that the reading takes, are together of bulk at most 1048576: NARROWER than '..Said'. Prove '..Said' where nothing that the law and all that it calls make is longer than what came in: it says more and counts as full. Else prove '..UptoSaid'. A law counts once. -/
mutual
def uptoBulk {H : Type} : DataW H → Nat
  | .lit (.string bytes) => bytes.length + 1
  | .lit _ => 1
  | .nil => 1
  | .ptr d => uptoBulk d + 1
  | .slice elems spare => uptoBulkAll elems + uptoBulkAll spare + 1
  | .agg parts => uptoBulkAll parts + 1
  | .iface _ d => uptoBulk d + 1
  | .map entries => uptoBulkEntries entries + 1
  | .held _ => 1
def uptoBulkAll {H : Type} : List (DataW H) → Nat
  | [] => 0
  | d :: r => uptoBulk d + uptoBulkAll r
def uptoBulkEntries {H : Type} : List (Lit × DataW H) → Nat
  | [] => 0
  | x :: r => uptoBulkEntry x + uptoBulkEntries r
def uptoBulkEntry {H : Type} : Lit × DataW H → Nat
  | (.string bytes, d) => bytes.length + uptoBulk d + 1
  | (_, d) => uptoBulk d + 1
 end
def uptoSmall : (H : Type) → List (DataW H) → Bool := fun _ ds => decide (uptoBulkAll ds ≤ 1048576)
def OpenSpec.upto (s : _root_.Go.ChangeSpec) : _root_.Go.OpenSpec := { _root_.Go.OpenSpec.ofChange s with cond := some uptoSmall }

/-- 'customhouselaw01.HeadFields', WHERE WHAT IT READS IS OF BULK AT MOST 1048576: true; the input reads as it did. -/
def headFieldsUptoRow : OpenClaim := { program := "ytjbmhcjncldnhaa", sum := "30e5f7bc9b8b581e253dee51b92437cf20a40c83cae06b2936cae9e45c0a53b1", func := "customhouse/customhouselaw01.HeadFields", spec := "headFields", inPlace := ["math/bits.Sub64"], apart := false, narrowed := true }
def HeadFieldsUptoSaid : Prop := headFieldsUptoRow.holds Try.pinned (OpenSpec.upto headFieldsSpec)

/-- 'customhouselaw01.HeadOrder', WHERE WHAT IT READS IS OF BULK AT MOST 1048576: true; the input reads as it did. -/
def headOrderUptoRow : OpenClaim := { program := "ytjbmhcjncldnhaa", sum := "30e5f7bc9b8b581e253dee51b92437cf20a40c83cae06b2936cae9e45c0a53b1", func := "customhouse/customhouselaw01.HeadOrder", spec := "headOrder", inPlace := ["math/bits.Sub64"], apart := false, narrowed := true }
def HeadOrderUptoSaid : Prop := headOrderUptoRow.holds Try.pinned (OpenSpec.upto headOrderSpec)

/-- 'customhouselaw01.HeadBack', WHERE WHAT IT READS IS OF BULK AT MOST 1048576: true; the input reads as it did. -/
def headBackUptoRow : OpenClaim := { program := "ytjbmhcjncldnhaa", sum := "30e5f7bc9b8b581e253dee51b92437cf20a40c83cae06b2936cae9e45c0a53b1", func := "customhouse/customhouselaw01.HeadBack", spec := "headBack", inPlace := ["math/bits.Sub64"], unfollowed := true, recurses := true, apart := false, narrowed := true }
def HeadBackUptoSaid : Prop := headBackUptoRow.holds Try.pinned (OpenSpec.upto headBackSpec)

/-- 'customhouselaw01.HeadBits', WHERE WHAT IT READS IS OF BULK AT MOST 1048576: true; the input reads as it did. -/
def headBitsUptoRow : OpenClaim := { program := "ytjbmhcjncldnhaa", sum := "30e5f7bc9b8b581e253dee51b92437cf20a40c83cae06b2936cae9e45c0a53b1", func := "customhouse/customhouselaw01.HeadBits", spec := "headBits", inPlace := ["math/bits.Sub64"], unfollowed := true, recurses := true, apart := false, narrowed := true }
def HeadBitsUptoSaid : Prop := headBitsUptoRow.holds Try.pinned (OpenSpec.upto headBitsSpec)

/-- 'customhouselaw01.HeadParts', WHERE WHAT IT READS IS OF BULK AT MOST 1048576: true; the input reads as it did. -/
def headPartsUptoRow : OpenClaim := { program := "ytjbmhcjncldnhaa", sum := "30e5f7bc9b8b581e253dee51b92437cf20a40c83cae06b2936cae9e45c0a53b1", func := "customhouse/customhouselaw01.HeadParts", spec := "headParts", inPlace := ["math/bits.Sub64"], unfollowed := true, recurses := true, apart := false, narrowed := true }
def HeadPartsUptoSaid : Prop := headPartsUptoRow.holds Try.pinned (OpenSpec.upto headPartsSpec)

end Rows
end Go.Proofs.Ytjbmhcjncldnhaa
