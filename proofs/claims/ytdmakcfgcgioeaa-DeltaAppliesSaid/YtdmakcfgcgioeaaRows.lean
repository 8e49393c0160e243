/-
  No cell of these rows narrows 'for every input' (looked for: loops, veiled, ifaces, maps, wideKeys, modest, calm, conditions, laid).
  DERIVED. THE GIVEN ROWS OF THIS SEAT. 4 by the template 'for every input the law returns true; each argument reads behind the call as it read before'; 0 by the template 'total and deterministic' (their statements: YtdmakcfgcgioeaaTotals.lean).
  GIVEN WITH THE SEED: the statements are not yours to turn. If you find one false, say at which input.
  Laid BY PROGRAM, IN A SANDBOX (cutbox-rows.mjs): the forced cells as the released guide's own fill.sh prints them over the translation 6cf51fc3b4b7cab0… (all of the seat's roots in one cut). By AI agents, Wed Nov 11 2026. No macro, syntax, notation, axiom, sorry.
-/
import Derived.Test.YtdmakcfgcgioeaaChecked
import GoSem.Claim
import GoSem.ClaimJoined
import GoSem.ClaimMapViews
import Derived.JoinedTies
import Derived.KernelRfl
namespace Go.Proofs.Ytdmakcfgcgioeaa
/- THE CELL 'sum', in the pinned program and in every row, IS THE sha256 OF THE DUMP (.gsa) THAT YtdmakcfgcgioeaaProg.lean LOADS. Nothing in Lean hashes anything: it is a label: what it is worth is what the hold of that sum in a sandbox is worth. -/
noncomputable def Try.pinned : Pinned := { name := "ytdmakcfgcgioeaa", sum := "6cf51fc3b4b7cab0598c35a5b45ee6ef0adf4104b472a3a3e2cbd1d6d141644f", checked := Try.checked }
namespace Rows
def none {H : Type} : Left H := { results := [], args := [] }

/-- 'customhouselaw14.DeltaApplies': WHATEVER THE INPUT: true; the input reads as it did. -/
def deltaAppliesSpec : ChangeSpec := { name := "deltaApplies", fn := fun _ => fun
  | [d1, d2] => { results := [.lit (.bool true)], args := [d1, d2] }
  | _ => none }
def deltaAppliesRow : OpenClaim := { program := "ytdmakcfgcgioeaa", sum := "6cf51fc3b4b7cab0598c35a5b45ee6ef0adf4104b472a3a3e2cbd1d6d141644f", func := "customhouse/customhouselaw14.DeltaApplies", spec := "deltaApplies", inPlace := ["slices.overlaps[customhouse/api.Rule]"], unfollowed := true, recurses := true, apart := false }
def DeltaAppliesSaid : Prop := deltaAppliesRow.holds Try.pinned (OpenSpec.ofChange deltaAppliesSpec)

/-- ITS FALSE NEIGHBOUR: 'it returns false'. Refute it at one input. -/
def deltaAppliesWrong : ChangeSpec := { name := "deltaApplies", fn := fun _ => fun
  | [d1, d2] => { results := [.lit (.bool false)], args := [d1, d2] }
  | _ => none }
def DeltaAppliesWrongFalsely : Prop := deltaAppliesRow.holds Try.pinned (OpenSpec.ofChange deltaAppliesWrong)

/-- 'customhouselaw14.DeltaDiffs': WHATEVER THE INPUT: true; the input reads as it did. -/
def deltaDiffsSpec : ChangeSpec := { name := "deltaDiffs", fn := fun _ => fun
  | [d1, d2] => { results := [.lit (.bool true)], args := [d1, d2] }
  | _ => none }
def deltaDiffsRow : OpenClaim := { program := "ytdmakcfgcgioeaa", sum := "6cf51fc3b4b7cab0598c35a5b45ee6ef0adf4104b472a3a3e2cbd1d6d141644f", func := "customhouse/customhouselaw14.DeltaDiffs", spec := "deltaDiffs", inPlace := ["slices.overlaps[customhouse/api.Rule]"], unfollowed := true, recurses := true, apart := false }
def DeltaDiffsSaid : Prop := deltaDiffsRow.holds Try.pinned (OpenSpec.ofChange deltaDiffsSpec)

/-- ITS FALSE NEIGHBOUR: 'it returns false'. Refute it at one input. -/
def deltaDiffsWrong : ChangeSpec := { name := "deltaDiffs", fn := fun _ => fun
  | [d1, d2] => { results := [.lit (.bool false)], args := [d1, d2] }
  | _ => none }
def DeltaDiffsWrongFalsely : Prop := deltaDiffsRow.holds Try.pinned (OpenSpec.ofChange deltaDiffsWrong)

/-- 'customhouselaw14.DeltaBack': WHATEVER THE INPUT: true; the input reads as it did. -/
def deltaBackSpec : ChangeSpec := { name := "deltaBack", fn := fun _ => fun
  | [d1, d2, d3] => { results := [.lit (.bool true)], args := [d1, d2, d3] }
  | _ => none }
def deltaBackRow : OpenClaim := { program := "ytdmakcfgcgioeaa", sum := "6cf51fc3b4b7cab0598c35a5b45ee6ef0adf4104b472a3a3e2cbd1d6d141644f", func := "customhouse/customhouselaw14.DeltaBack", spec := "deltaBack", inPlace := ["slices.overlaps[customhouse/api.Rule]"], unfollowed := true, recurses := true, apart := false }
def DeltaBackSaid : Prop := deltaBackRow.holds Try.pinned (OpenSpec.ofChange deltaBackSpec)

/-- ITS FALSE NEIGHBOUR: 'it returns false'. Refute it at one input. -/
def deltaBackWrong : ChangeSpec := { name := "deltaBack", fn := fun _ => fun
  | [d1, d2, d3] => { results := [.lit (.bool false)], args := [d1, d2, d3] }
  | _ => none }
def DeltaBackWrongFalsely : Prop := deltaBackRow.holds Try.pinned (OpenSpec.ofChange deltaBackWrong)

/-- 'customhouselaw14.DeltaNone': WHATEVER THE INPUT: true; the input reads as it did. -/
def deltaNoneSpec : ChangeSpec := { name := "deltaNone", fn := fun _ => fun
  | [d1, d2] => { results := [.lit (.bool true)], args := [d1, d2] }
  | _ => none }
def deltaNoneRow : OpenClaim := { program := "ytdmakcfgcgioeaa", sum := "6cf51fc3b4b7cab0598c35a5b45ee6ef0adf4104b472a3a3e2cbd1d6d141644f", func := "customhouse/customhouselaw14.DeltaNone", spec := "deltaNone", inPlace := ["slices.overlaps[customhouse/api.Rule]"], unfollowed := true, recurses := true, apart := false }
def DeltaNoneSaid : Prop := deltaNoneRow.holds Try.pinned (OpenSpec.ofChange deltaNoneSpec)

/-- ITS FALSE NEIGHBOUR: 'it returns false'. Refute it at one input. -/
def deltaNoneWrong : ChangeSpec := { name := "deltaNone", fn := fun _ => fun
  | [d1, d2] => { results := [.lit (.bool false)], args := [d1, d2] }
  | _ => none }
def DeltaNoneWrongFalsely : Prop := deltaNoneRow.holds Try.pinned (OpenSpec.ofChange deltaNoneWrong)

/- THE SECOND FORM. 'bulk': how many values and letters a reading holds, each counted each time it is reached (what is shared counts as often as it is met; a slice's spare places count too). A statement '..UptoSaid' is the law's where the arguments, and the package variables that the reading takes, are together of bulk at most 1048576: NARROWER than '..Said'. Prove '..Said' where nothing that the law and all that it calls make is longer than what came in: it says more and counts as full. Else prove '..UptoSaid'. A law counts once. -/
mutual
def uptoBulk {H : Type} : DataW H → Nat
  | .lit (.string bytes) => bytes.length + 1
  | .lit _ => 1
  | .nil => 1
  | .ptr d => uptoBulk d + 1
  | .slice elems spare => uptoBulkAll elems + uptoBulkAll spare + 1
  | .agg parts => uptoBulkAll parts + 1
  | .iface _ d => uptoBulk d + 1
  | .map entries => uptoBulkEntries entries + 1
  | .held _ => 1
def uptoBulkAll {H : Type} : List (DataW H) → Nat
  | [] => 0
  | d :: r => uptoBulk d + uptoBulkAll r
def uptoBulkEntries {H : Type} : List (Lit × DataW H) → Nat
  | [] => 0
  | x :: r => uptoBulkEntry x + uptoBulkEntries r
def uptoBulkEntry {H : Type} : Lit × DataW H → Nat
  | (.string bytes, d) => bytes.length + uptoBulk d + 1
  | (_, d) => uptoBulk d + 1
 end
def uptoSmall : (H : Type) → List (DataW H) → Bool := fun _ ds => decide (uptoBulkAll ds ≤ 1048576)
def OpenSpec.upto (s : _root_.Go.ChangeSpec) : _root_.Go.OpenSpec := { _root_.Go.OpenSpec.ofChange s with cond := some uptoSmall }

/-- 'customhouselaw14.DeltaApplies', WHERE WHAT IT READS IS OF BULK AT MOST 1048576: true; the input reads as it did. -/
def deltaAppliesUptoRow : OpenClaim := { program := "ytdmakcfgcgioeaa", sum := "6cf51fc3b4b7cab0598c35a5b45ee6ef0adf4104b472a3a3e2cbd1d6d141644f", func := "customhouse/customhouselaw14.DeltaApplies", spec := "deltaApplies", inPlace := ["slices.overlaps[customhouse/api.Rule]"], unfollowed := true, recurses := true, apart := false, narrowed := true }
def DeltaAppliesUptoSaid : Prop := deltaAppliesUptoRow.holds Try.pinned (OpenSpec.upto deltaAppliesSpec)

/-- 'customhouselaw14.DeltaDiffs', WHERE WHAT IT READS IS OF BULK AT MOST 1048576: true; the input reads as it did. -/
def deltaDiffsUptoRow : OpenClaim := { program := "ytdmakcfgcgioeaa", sum := "6cf51fc3b4b7cab0598c35a5b45ee6ef0adf4104b472a3a3e2cbd1d6d141644f", func := "customhouse/customhouselaw14.DeltaDiffs", spec := "deltaDiffs", inPlace := ["slices.overlaps[customhouse/api.Rule]"], unfollowed := true, recurses := true, apart := false, narrowed := true }
def DeltaDiffsUptoSaid : Prop := deltaDiffsUptoRow.holds Try.pinned (OpenSpec.upto deltaDiffsSpec)

/-- 'customhouselaw14.DeltaBack', WHERE WHAT IT READS IS OF BULK AT MOST 1048576: true; the input reads as it did. -/
def deltaBackUptoRow : OpenClaim := { program := "ytdmakcfgcgioeaa", sum := "6cf51fc3b4b7cab0598c35a5b45ee6ef0adf4104b472a3a3e2cbd1d6d141644f", func := "customhouse/customhouselaw14.DeltaBack", spec := "deltaBack", inPlace := ["slices.overlaps[customhouse/api.Rule]"], unfollowed := true, recurses := true, apart := false, narrowed := true }
def DeltaBackUptoSaid : Prop := deltaBackUptoRow.holds Try.pinned (OpenSpec.upto deltaBackSpec)

/-- 'customhouselaw14.DeltaNone', WHERE WHAT IT READS IS OF BULK AT MOST 1048576: true; the input reads as it did. -/
def deltaNoneUptoRow : OpenClaim := { program := "ytdmakcfgcgioeaa", sum := "6cf51fc3b4b7cab0598c35a5b45ee6ef0adf4104b472a3a3e2cbd1d6d141644f", func := "customhouse/customhouselaw14.DeltaNone", spec := "deltaNone", inPlace := ["slices.overlaps[customhouse/api.Rule]"], unfollowed := true, recurses := true, apart := false, narrowed := true }
def DeltaNoneUptoSaid : Prop := deltaNoneUptoRow.holds Try.pinned (OpenSpec.upto deltaNoneSpec)

end Rows
end Go.Proofs.Ytdmakcfgcgioeaa
