/-
  No cell of these rows narrows 'for every input' (looked for: loops, veiled, ifaces, maps, wideKeys, modest, calm, conditions, laid).
  DERIVED. THE GIVEN ROWS OF THIS SEAT. 11 by the template 'for every input the law returns true; each argument reads behind the call as it read before'; 0 by the template 'total and deterministic' (their statements: YtgebehnlfihliaaTotals.lean).
  GIVEN WITH THE SEED: the statements are not yours to turn. If you find one false, say at which input.
  Laid BY PROGRAM, IN A SANDBOX (cutbox-rows.mjs): the forced cells as the released guide's own fill.sh prints them over the translation e92dd6e175906f4b… (all of the seat's roots in one cut). By AI agents, Wed Nov 11 2026. No macro, syntax, notation, axiom, sorry.
-/
import Derived.Test.YtgebehnlfihliaaChecked
import GoSem.Claim
import GoSem.ClaimJoined
import GoSem.ClaimMapViews
import Derived.JoinedTies
import Derived.KernelRfl
namespace Go.Proofs.Ytgebehnlfihliaa
/- THE CELL 'sum', in the pinned program and in every row, IS THE sha256 OF THE DUMP (.gsa) THAT YtgebehnlfihliaaProg.lean LOADS. Nothing in Lean hashes anything: it is a label: what it is worth is what the hold of that sum in a sandbox is worth. -/
noncomputable def Try.pinned : Pinned := { name := "ytgebehnlfihliaa", sum := "e92dd6e175906f4bb9e4f1ffee39df3ed03b648228bdf1b81e0a60c73cb7a431", checked := Try.checked }
namespace Rows
def none {H : Type} : Left H := { results := [], args := [] }

/-- 'customhouselaw07.TopoSound': WHATEVER THE INPUT: true; the input reads as it did. -/
def topoSoundSpec : ChangeSpec := { name := "topoSound", fn := fun _ => fun
  | [d1, d2] => { results := [.lit (.bool true)], args := [d1, d2] }
  | _ => none }
def topoSoundRow : OpenClaim := { program := "ytgebehnlfihliaa", sum := "e92dd6e175906f4bb9e4f1ffee39df3ed03b648228bdf1b81e0a60c73cb7a431", func := "customhouse/customhouselaw07.TopoSound", spec := "topoSound", unfollowed := true, recurses := true, plainKeys := false, apart := false }
def TopoSoundSaid : Prop := topoSoundRow.holds Try.pinned (OpenSpec.ofChange topoSoundSpec)

/-- ITS FALSE NEIGHBOUR: 'it returns false'. Refute it at one input. -/
def topoSoundWrong : ChangeSpec := { name := "topoSound", fn := fun _ => fun
  | [d1, d2] => { results := [.lit (.bool false)], args := [d1, d2] }
  | _ => none }
def TopoSoundWrongFalsely : Prop := topoSoundRow.holds Try.pinned (OpenSpec.ofChange topoSoundWrong)

/-- 'customhouselaw07.TopoFar': WHATEVER THE INPUT: true; the input reads as it did. -/
def topoFarSpec : ChangeSpec := { name := "topoFar", fn := fun _ => fun
  | [d1, d2] => { results := [.lit (.bool true)], args := [d1, d2] }
  | _ => none }
def topoFarRow : OpenClaim := { program := "ytgebehnlfihliaa", sum := "e92dd6e175906f4bb9e4f1ffee39df3ed03b648228bdf1b81e0a60c73cb7a431", func := "customhouse/customhouselaw07.TopoFar", spec := "topoFar", unfollowed := true, recurses := true, plainKeys := false, apart := false }
def TopoFarSaid : Prop := topoFarRow.holds Try.pinned (OpenSpec.ofChange topoFarSpec)

/-- ITS FALSE NEIGHBOUR: 'it returns false'. Refute it at one input. -/
def topoFarWrong : ChangeSpec := { name := "topoFar", fn := fun _ => fun
  | [d1, d2] => { results := [.lit (.bool false)], args := [d1, d2] }
  | _ => none }
def TopoFarWrongFalsely : Prop := topoFarRow.holds Try.pinned (OpenSpec.ofChange topoFarWrong)

/-- 'customhouselaw07.TopoNext': WHATEVER THE INPUT: true; the input reads as it did. -/
def topoNextSpec : ChangeSpec := { name := "topoNext", fn := fun _ => fun
  | [d1, d2, d3] => { results := [.lit (.bool true)], args := [d1, d2, d3] }
  | _ => none }
def topoNextRow : OpenClaim := { program := "ytgebehnlfihliaa", sum := "e92dd6e175906f4bb9e4f1ffee39df3ed03b648228bdf1b81e0a60c73cb7a431", func := "customhouse/customhouselaw07.TopoNext", spec := "topoNext", unfollowed := true, recurses := true, plainKeys := false, apart := false }
def TopoNextSaid : Prop := topoNextRow.holds Try.pinned (OpenSpec.ofChange topoNextSpec)

/-- ITS FALSE NEIGHBOUR: 'it returns false'. Refute it at one input. -/
def topoNextWrong : ChangeSpec := { name := "topoNext", fn := fun _ => fun
  | [d1, d2, d3] => { results := [.lit (.bool false)], args := [d1, d2, d3] }
  | _ => none }
def TopoNextWrongFalsely : Prop := topoNextRow.holds Try.pinned (OpenSpec.ofChange topoNextWrong)

/-- 'customhouselaw07.TopoWays': WHATEVER THE INPUT: true; the input reads as it did. -/
def topoWaysSpec : ChangeSpec := { name := "topoWays", fn := fun _ => fun
  | [d1, d2, d3] => { results := [.lit (.bool true)], args := [d1, d2, d3] }
  | _ => none }
def topoWaysRow : OpenClaim := { program := "ytgebehnlfihliaa", sum := "e92dd6e175906f4bb9e4f1ffee39df3ed03b648228bdf1b81e0a60c73cb7a431", func := "customhouse/customhouselaw07.TopoWays", spec := "topoWays", unfollowed := true, recurses := true, plainKeys := false, apart := false }
def TopoWaysSaid : Prop := topoWaysRow.holds Try.pinned (OpenSpec.ofChange topoWaysSpec)

/-- ITS FALSE NEIGHBOUR: 'it returns false'. Refute it at one input. -/
def topoWaysWrong : ChangeSpec := { name := "topoWays", fn := fun _ => fun
  | [d1, d2, d3] => { results := [.lit (.bool false)], args := [d1, d2, d3] }
  | _ => none }
def TopoWaysWrongFalsely : Prop := topoWaysRow.holds Try.pinned (OpenSpec.ofChange topoWaysWrong)

/-- 'customhouselaw07.TopoOver': WHATEVER THE INPUT: true; the input reads as it did. -/
def topoOverSpec : ChangeSpec := { name := "topoOver", fn := fun _ => fun
  | [d1, d2, d3, d4] => { results := [.lit (.bool true)], args := [d1, d2, d3, d4] }
  | _ => none }
def topoOverRow : OpenClaim := { program := "ytgebehnlfihliaa", sum := "e92dd6e175906f4bb9e4f1ffee39df3ed03b648228bdf1b81e0a60c73cb7a431", func := "customhouse/customhouselaw07.TopoOver", spec := "topoOver", unfollowed := true, recurses := true, plainKeys := false, apart := false }
def TopoOverSaid : Prop := topoOverRow.holds Try.pinned (OpenSpec.ofChange topoOverSpec)

/-- ITS FALSE NEIGHBOUR: 'it returns false'. Refute it at one input. -/
def topoOverWrong : ChangeSpec := { name := "topoOver", fn := fun _ => fun
  | [d1, d2, d3, d4] => { results := [.lit (.bool false)], args := [d1, d2, d3, d4] }
  | _ => none }
def TopoOverWrongFalsely : Prop := topoOverRow.holds Try.pinned (OpenSpec.ofChange topoOverWrong)

/-- 'customhouselaw19.IntentSound': WHATEVER THE INPUT: true; the input reads as it did. -/
def intentSoundSpec : ChangeSpec := { name := "intentSound", fn := fun _ => fun
  | [d] => { results := [.lit (.bool true)], args := [d] }
  | _ => none }
def intentSoundRow : OpenClaim := { program := "ytgebehnlfihliaa", sum := "e92dd6e175906f4bb9e4f1ffee39df3ed03b648228bdf1b81e0a60c73cb7a431", func := "customhouse/customhouselaw19.IntentSound", spec := "intentSound", inPlace := ["math/bits.Sub64"], unfollowed := true, recurses := true, plainKeys := false, apart := false }
def IntentSoundSaid : Prop := intentSoundRow.holds Try.pinned (OpenSpec.ofChange intentSoundSpec)

/-- ITS FALSE NEIGHBOUR: 'it returns false'. Refute it at one input. -/
def intentSoundWrong : ChangeSpec := { name := "intentSound", fn := fun _ => fun
  | [d] => { results := [.lit (.bool false)], args := [d] }
  | _ => none }
def IntentSoundWrongFalsely : Prop := intentSoundRow.holds Try.pinned (OpenSpec.ofChange intentSoundWrong)

/-- 'customhouselaw19.IntentPermits': WHATEVER THE INPUT: true; the input reads as it did. -/
def intentPermitsSpec : ChangeSpec := { name := "intentPermits", fn := fun _ => fun
  | [d1, d2] => { results := [.lit (.bool true)], args := [d1, d2] }
  | _ => none }
def intentPermitsRow : OpenClaim := { program := "ytgebehnlfihliaa", sum := "e92dd6e175906f4bb9e4f1ffee39df3ed03b648228bdf1b81e0a60c73cb7a431", func := "customhouse/customhouselaw19.IntentPermits", spec := "intentPermits", inPlace := ["math/bits.Sub64"], unfollowed := true, recurses := true, plainKeys := false, apart := false }
def IntentPermitsSaid : Prop := intentPermitsRow.holds Try.pinned (OpenSpec.ofChange intentPermitsSpec)

/-- ITS FALSE NEIGHBOUR: 'it returns false'. Refute it at one input. -/
def intentPermitsWrong : ChangeSpec := { name := "intentPermits", fn := fun _ => fun
  | [d1, d2] => { results := [.lit (.bool false)], args := [d1, d2] }
  | _ => none }
def IntentPermitsWrongFalsely : Prop := intentPermitsRow.holds Try.pinned (OpenSpec.ofChange intentPermitsWrong)

/-- 'customhouselaw19.IntentWants': WHATEVER THE INPUT: true; the input reads as it did. -/
def intentWantsSpec : ChangeSpec := { name := "intentWants", fn := fun _ => fun
  | [d1, d2, d3] => { results := [.lit (.bool true)], args := [d1, d2, d3] }
  | _ => none }
def intentWantsRow : OpenClaim := { program := "ytgebehnlfihliaa", sum := "e92dd6e175906f4bb9e4f1ffee39df3ed03b648228bdf1b81e0a60c73cb7a431", func := "customhouse/customhouselaw19.IntentWants", spec := "intentWants", inPlace := ["math/bits.Sub64"], unfollowed := true, recurses := true, plainKeys := false, apart := false }
def IntentWantsSaid : Prop := intentWantsRow.holds Try.pinned (OpenSpec.ofChange intentWantsSpec)

/-- ITS FALSE NEIGHBOUR: 'it returns false'. Refute it at one input. -/
def intentWantsWrong : ChangeSpec := { name := "intentWants", fn := fun _ => fun
  | [d1, d2, d3] => { results := [.lit (.bool false)], args := [d1, d2, d3] }
  | _ => none }
def IntentWantsWrongFalsely : Prop := intentWantsRow.holds Try.pinned (OpenSpec.ofChange intentWantsWrong)

/-- 'customhouselaw19.IntentPeers': WHATEVER THE INPUT: true; the input reads as it did. -/
def intentPeersSpec : ChangeSpec := { name := "intentPeers", fn := fun _ => fun
  | [d1, d2, d3, d4, d5] => { results := [.lit (.bool true)], args := [d1, d2, d3, d4, d5] }
  | _ => none }
def intentPeersRow : OpenClaim := { program := "ytgebehnlfihliaa", sum := "e92dd6e175906f4bb9e4f1ffee39df3ed03b648228bdf1b81e0a60c73cb7a431", func := "customhouse/customhouselaw19.IntentPeers", spec := "intentPeers", inPlace := ["math/bits.Sub64"], unfollowed := true, recurses := true, plainKeys := false, apart := false }
def IntentPeersSaid : Prop := intentPeersRow.holds Try.pinned (OpenSpec.ofChange intentPeersSpec)

/-- ITS FALSE NEIGHBOUR: 'it returns false'. Refute it at one input. -/
def intentPeersWrong : ChangeSpec := { name := "intentPeers", fn := fun _ => fun
  | [d1, d2, d3, d4, d5] => { results := [.lit (.bool false)], args := [d1, d2, d3, d4, d5] }
  | _ => none }
def IntentPeersWrongFalsely : Prop := intentPeersRow.holds Try.pinned (OpenSpec.ofChange intentPeersWrong)

/-- 'customhouselaw19.IntentLists': WHATEVER THE INPUT: true; the input reads as it did. -/
def intentListsSpec : ChangeSpec := { name := "intentLists", fn := fun _ => fun
  | [d1, d2, d3, d4] => { results := [.lit (.bool true)], args := [d1, d2, d3, d4] }
  | _ => none }
def intentListsRow : OpenClaim := { program := "ytgebehnlfihliaa", sum := "e92dd6e175906f4bb9e4f1ffee39df3ed03b648228bdf1b81e0a60c73cb7a431", func := "customhouse/customhouselaw19.IntentLists", spec := "intentLists", inPlace := ["math/bits.Sub64"], unfollowed := true, recurses := true, plainKeys := false, apart := false }
def IntentListsSaid : Prop := intentListsRow.holds Try.pinned (OpenSpec.ofChange intentListsSpec)

/-- ITS FALSE NEIGHBOUR: 'it returns false'. Refute it at one input. -/
def intentListsWrong : ChangeSpec := { name := "intentLists", fn := fun _ => fun
  | [d1, d2, d3, d4] => { results := [.lit (.bool false)], args := [d1, d2, d3, d4] }
  | _ => none }
def IntentListsWrongFalsely : Prop := intentListsRow.holds Try.pinned (OpenSpec.ofChange intentListsWrong)

/-- 'customhouselaw19.IntentEnds': WHATEVER THE INPUT: true; the input reads as it did. -/
def intentEndsSpec : ChangeSpec := { name := "intentEnds", fn := fun _ => fun
  | [d1, d2, d3, d4] => { results := [.lit (.bool true)], args := [d1, d2, d3, d4] }
  | _ => none }
def intentEndsRow : OpenClaim := { program := "ytgebehnlfihliaa", sum := "e92dd6e175906f4bb9e4f1ffee39df3ed03b648228bdf1b81e0a60c73cb7a431", func := "customhouse/customhouselaw19.IntentEnds", spec := "intentEnds", inPlace := ["math/bits.Sub64"], unfollowed := true, recurses := true, plainKeys := false, apart := false }
def IntentEndsSaid : Prop := intentEndsRow.holds Try.pinned (OpenSpec.ofChange intentEndsSpec)

/-- ITS FALSE NEIGHBOUR: 'it returns false'. Refute it at one input. -/
def intentEndsWrong : ChangeSpec := { name := "intentEnds", fn := fun _ => fun
  | [d1, d2, d3, d4] => { results := [.lit (.bool false)], args := [d1, d2, d3, d4] }
  | _ => none }
def IntentEndsWrongFalsely : Prop := intentEndsRow.holds Try.pinned (OpenSpec.ofChange intentEndsWrong)

/- THE SECOND FORM. 'bulk': how many values and letters a reading holds, each counted each time it is reached (what is shared counts as often as it is met; a slice's spare places count too). A statement '..UptoSaid' is the law's where the arguments, and the package variables that the reading takes, are together of bulk at most 1048576: NARROWER than '..Said'. Prove '..Said' where nothing that the law and all that it calls make is longer than what came in: it says more and counts as full. Else prove '..UptoSaid'. A law counts once. -/
mutual
def uptoBulk {H : Type} : DataW H → Nat
  | .lit (.string bytes) => bytes.length + 1
  | .lit _ => 1
  | .nil => 1
  | .ptr d => uptoBulk d + 1
  | .slice elems spare => uptoBulkAll elems + uptoBulkAll spare + 1
  | .agg parts => uptoBulkAll parts + 1
  | .iface _ d => uptoBulk d + 1
  | .map entries => uptoBulkEntries entries + 1
  | .held _ => 1
def uptoBulkAll {H : Type} : List (DataW H) → Nat
  | [] => 0
  | d :: r => uptoBulk d + uptoBulkAll r
def uptoBulkEntries {H : Type} : List (Lit × DataW H) → Nat
  | [] => 0
  | x :: r => uptoBulkEntry x + uptoBulkEntries r
def uptoBulkEntry {H : Type} : Lit × DataW H → Nat
  | (.string bytes, d) => bytes.length + uptoBulk d + 1
  | (_, d) => uptoBulk d + 1
 end
def uptoSmall : (H : Type) → List (DataW H) → Bool := fun _ ds => decide (uptoBulkAll ds ≤ 1048576)
def OpenSpec.upto (s : _root_.Go.ChangeSpec) : _root_.Go.OpenSpec := { _root_.Go.OpenSpec.ofChange s with cond := some uptoSmall }

/-- 'customhouselaw07.TopoSound', WHERE WHAT IT READS IS OF BULK AT MOST 1048576: true; the input reads as it did. -/
def topoSoundUptoRow : OpenClaim := { program := "ytgebehnlfihliaa", sum := "e92dd6e175906f4bb9e4f1ffee39df3ed03b648228bdf1b81e0a60c73cb7a431", func := "customhouse/customhouselaw07.TopoSound", spec := "topoSound", unfollowed := true, recurses := true, plainKeys := false, apart := false, narrowed := true }
def TopoSoundUptoSaid : Prop := topoSoundUptoRow.holds Try.pinned (OpenSpec.upto topoSoundSpec)

/-- 'customhouselaw07.TopoFar', WHERE WHAT IT READS IS OF BULK AT MOST 1048576: true; the input reads as it did. -/
def topoFarUptoRow : OpenClaim := { program := "ytgebehnlfihliaa", sum := "e92dd6e175906f4bb9e4f1ffee39df3ed03b648228bdf1b81e0a60c73cb7a431", func := "customhouse/customhouselaw07.TopoFar", spec := "topoFar", unfollowed := true, recurses := true, plainKeys := false, apart := false, narrowed := true }
def TopoFarUptoSaid : Prop := topoFarUptoRow.holds Try.pinned (OpenSpec.upto topoFarSpec)

/-- 'customhouselaw07.TopoNext', WHERE WHAT IT READS IS OF BULK AT MOST 1048576: true; the input reads as it did. -/
def topoNextUptoRow : OpenClaim := { program := "ytgebehnlfihliaa", sum := "e92dd6e175906f4bb9e4f1ffee39df3ed03b648228bdf1b81e0a60c73cb7a431", func := "customhouse/customhouselaw07.TopoNext", spec := "topoNext", unfollowed := true, recurses := true, plainKeys := false, apart := false, narrowed := true }
def TopoNextUptoSaid : Prop := topoNextUptoRow.holds Try.pinned (OpenSpec.upto topoNextSpec)

/-- 'customhouselaw07.TopoWays', WHERE WHAT IT READS IS OF BULK AT MOST 1048576: true; the input reads as it did. -/
def topoWaysUptoRow : OpenClaim := { program := "ytgebehnlfihliaa", sum := "e92dd6e175906f4bb9e4f1ffee39df3ed03b648228bdf1b81e0a60c73cb7a431", func := "customhouse/customhouselaw07.TopoWays", spec := "topoWays", unfollowed := true, recurses := true, plainKeys := false, apart := false, narrowed := true }
def TopoWaysUptoSaid : Prop := topoWaysUptoRow.holds Try.pinned (OpenSpec.upto topoWaysSpec)

/-- 'customhouselaw07.TopoOver', WHERE WHAT IT READS IS OF BULK AT MOST 1048576: true; the input reads as it did. -/
def topoOverUptoRow : OpenClaim := { program := "ytgebehnlfihliaa", sum := "e92dd6e175906f4bb9e4f1ffee39df3ed03b648228bdf1b81e0a60c73cb7a431", func := "customhouse/customhouselaw07.TopoOver", spec := "topoOver", unfollowed := true, recurses := true, plainKeys := false, apart := false, narrowed := true }
def TopoOverUptoSaid : Prop := topoOverUptoRow.holds Try.pinned (OpenSpec.upto topoOverSpec)

/-- 'customhouselaw19.IntentSound', WHERE WHAT IT READS IS OF BULK AT MOST 1048576: true; the input reads as it did. -/
def intentSoundUptoRow : OpenClaim := { program := "ytgebehnlfihliaa", sum := "e92dd6e175906f4bb9e4f1ffee39df3ed03b648228bdf1b81e0a60c73cb7a431", func := "customhouse/customhouselaw19.IntentSound", spec := "intentSound", inPlace := ["math/bits.Sub64"], unfollowed := true, recurses := true, plainKeys := false, apart := false, narrowed := true }
def IntentSoundUptoSaid : Prop := intentSoundUptoRow.holds Try.pinned (OpenSpec.upto intentSoundSpec)

/-- 'customhouselaw19.IntentPermits', WHERE WHAT IT READS IS OF BULK AT MOST 1048576: true; the input reads as it did. -/
def intentPermitsUptoRow : OpenClaim := { program := "ytgebehnlfihliaa", sum := "e92dd6e175906f4bb9e4f1ffee39df3ed03b648228bdf1b81e0a60c73cb7a431", func := "customhouse/customhouselaw19.IntentPermits", spec := "intentPermits", inPlace := ["math/bits.Sub64"], unfollowed := true, recurses := true, plainKeys := false, apart := false, narrowed := true }
def IntentPermitsUptoSaid : Prop := intentPermitsUptoRow.holds Try.pinned (OpenSpec.upto intentPermitsSpec)

/-- 'customhouselaw19.IntentWants', WHERE WHAT IT READS IS OF BULK AT MOST 1048576: true; the input reads as it did. -/
def intentWantsUptoRow : OpenClaim := { program := "ytgebehnlfihliaa", sum := "e92dd6e175906f4bb9e4f1ffee39df3ed03b648228bdf1b81e0a60c73cb7a431", func := "customhouse/customhouselaw19.IntentWants", spec := "intentWants", inPlace := ["math/bits.Sub64"], unfollowed := true, recurses := true, plainKeys := false, apart := false, narrowed := true }
def IntentWantsUptoSaid : Prop := intentWantsUptoRow.holds Try.pinned (OpenSpec.upto intentWantsSpec)

/-- 'customhouselaw19.IntentPeers', WHERE WHAT IT READS IS OF BULK AT MOST 1048576: true; the input reads as it did. -/
def intentPeersUptoRow : OpenClaim := { program := "ytgebehnlfihliaa", sum := "e92dd6e175906f4bb9e4f1ffee39df3ed03b648228bdf1b81e0a60c73cb7a431", func := "customhouse/customhouselaw19.IntentPeers", spec := "intentPeers", inPlace := ["math/bits.Sub64"], unfollowed := true, recurses := true, plainKeys := false, apart := false, narrowed := true }
def IntentPeersUptoSaid : Prop := intentPeersUptoRow.holds Try.pinned (OpenSpec.upto intentPeersSpec)

/-- 'customhouselaw19.IntentLists', WHERE WHAT IT READS IS OF BULK AT MOST 1048576: true; the input reads as it did. -/
def intentListsUptoRow : OpenClaim := { program := "ytgebehnlfihliaa", sum := "e92dd6e175906f4bb9e4f1ffee39df3ed03b648228bdf1b81e0a60c73cb7a431", func := "customhouse/customhouselaw19.IntentLists", spec := "intentLists", inPlace := ["math/bits.Sub64"], unfollowed := true, recurses := true, plainKeys := false, apart := false, narrowed := true }
def IntentListsUptoSaid : Prop := intentListsUptoRow.holds Try.pinned (OpenSpec.upto intentListsSpec)

/-- 'customhouselaw19.IntentEnds', WHERE WHAT IT READS IS OF BULK AT MOST 1048576: true; the input reads as it did. -/
def intentEndsUptoRow : OpenClaim := { program := "ytgebehnlfihliaa", sum := "e92dd6e175906f4bb9e4f1ffee39df3ed03b648228bdf1b81e0a60c73cb7a431", func := "customhouse/customhouselaw19.IntentEnds", spec := "intentEnds", inPlace := ["math/bits.Sub64"], unfollowed := true, recurses := true, plainKeys := false, apart := false, narrowed := true }
def IntentEndsUptoSaid : Prop := intentEndsUptoRow.holds Try.pinned (OpenSpec.upto intentEndsSpec)

end Rows
end Go.Proofs.Ytgebehnlfihliaa
