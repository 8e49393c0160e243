/-
  No cell of these rows narrows 'for every input' (looked for: loops, veiled, ifaces, maps, wideKeys, modest, calm, conditions, laid).
  DERIVED. THE GIVEN ROWS OF THIS SEAT. 4 by the template 'for every input the law returns true; each argument reads behind the call as it read before'; 0 by the template 'total and deterministic' (their statements: YtlaagbnclkhbjaaTotals.lean).
  GIVEN WITH THE SEED: the statements are not yours to turn. If you find one false, say at which input.
  Laid BY PROGRAM, IN A SANDBOX (cutbox-rows.mjs): the forced cells as the released guide's own fill.sh prints them over the translation d473cfedcd17ad34… (all of the seat's roots in one cut). By AI agents, Wed Nov 11 2026. No macro, syntax, notation, axiom, sorry.
-/
import Derived.Test.YtlaagbnclkhbjaaChecked
import GoSem.Claim
import GoSem.ClaimJoined
import GoSem.ClaimMapViews
import Derived.JoinedTies
import Derived.KernelRfl
namespace Go.Proofs.Ytlaagbnclkhbjaa
/- THE CELL 'sum', in the pinned program and in every row, IS THE sha256 OF THE DUMP (.gsa) THAT YtlaagbnclkhbjaaProg.lean LOADS. Nothing in Lean hashes anything: it is a label: what it is worth is what the hold of that sum in a sandbox is worth. -/
noncomputable def Try.pinned : Pinned := { name := "ytlaagbnclkhbjaa", sum := "d473cfedcd17ad34305e0be864c4a5d90cbcb0c31d7c05f94326706a4733d51d", checked := Try.checked }
namespace Rows
def none {H : Type} : Left H := { results := [], args := [] }

/-- 'customhouselaw18.AgendaPlays': WHATEVER THE INPUT: true; the input reads as it did. -/
def agendaPlaysSpec : ChangeSpec := { name := "agendaPlays", fn := fun _ => fun
  | [d] => { results := [.lit (.bool true)], args := [d] }
  | _ => none }
def agendaPlaysRow : OpenClaim := { program := "ytlaagbnclkhbjaa", sum := "d473cfedcd17ad34305e0be864c4a5d90cbcb0c31d7c05f94326706a4733d51d", func := "customhouse/customhouselaw18.AgendaPlays", spec := "agendaPlays", unfollowed := true, recurses := true, apart := false }
def AgendaPlaysSaid : Prop := agendaPlaysRow.holds Try.pinned (OpenSpec.ofChange agendaPlaysSpec)

/-- ITS FALSE NEIGHBOUR: 'it returns false'. Refute it at one input. -/
def agendaPlaysWrong : ChangeSpec := { name := "agendaPlays", fn := fun _ => fun
  | [d] => { results := [.lit (.bool false)], args := [d] }
  | _ => none }
def AgendaPlaysWrongFalsely : Prop := agendaPlaysRow.holds Try.pinned (OpenSpec.ofChange agendaPlaysWrong)

/-- 'customhouselaw18.AgendaAll': WHATEVER THE INPUT: true; the input reads as it did. -/
def agendaAllSpec : ChangeSpec := { name := "agendaAll", fn := fun _ => fun
  | [d1, d2] => { results := [.lit (.bool true)], args := [d1, d2] }
  | _ => none }
def agendaAllRow : OpenClaim := { program := "ytlaagbnclkhbjaa", sum := "d473cfedcd17ad34305e0be864c4a5d90cbcb0c31d7c05f94326706a4733d51d", func := "customhouse/customhouselaw18.AgendaAll", spec := "agendaAll", unfollowed := true, recurses := true, apart := false }
def AgendaAllSaid : Prop := agendaAllRow.holds Try.pinned (OpenSpec.ofChange agendaAllSpec)

/-- ITS FALSE NEIGHBOUR: 'it returns false'. Refute it at one input. -/
def agendaAllWrong : ChangeSpec := { name := "agendaAll", fn := fun _ => fun
  | [d1, d2] => { results := [.lit (.bool false)], args := [d1, d2] }
  | _ => none }
def AgendaAllWrongFalsely : Prop := agendaAllRow.holds Try.pinned (OpenSpec.ofChange agendaAllWrong)

/-- 'customhouselaw18.AgendaNone': WHATEVER THE INPUT: true; the input reads as it did. -/
def agendaNoneSpec : ChangeSpec := { name := "agendaNone", fn := fun _ => fun
  | [d1, d2] => { results := [.lit (.bool true)], args := [d1, d2] }
  | _ => none }
def agendaNoneRow : OpenClaim := { program := "ytlaagbnclkhbjaa", sum := "d473cfedcd17ad34305e0be864c4a5d90cbcb0c31d7c05f94326706a4733d51d", func := "customhouse/customhouselaw18.AgendaNone", spec := "agendaNone", unfollowed := true, recurses := true, apart := false }
def AgendaNoneSaid : Prop := agendaNoneRow.holds Try.pinned (OpenSpec.ofChange agendaNoneSpec)

/-- ITS FALSE NEIGHBOUR: 'it returns false'. Refute it at one input. -/
def agendaNoneWrong : ChangeSpec := { name := "agendaNone", fn := fun _ => fun
  | [d1, d2] => { results := [.lit (.bool false)], args := [d1, d2] }
  | _ => none }
def AgendaNoneWrongFalsely : Prop := agendaNoneRow.holds Try.pinned (OpenSpec.ofChange agendaNoneWrong)

/-- 'customhouselaw18.AgendaMoves': WHATEVER THE INPUT: true; the input reads as it did. -/
def agendaMovesSpec : ChangeSpec := { name := "agendaMoves", fn := fun _ => fun
  | [d1, d2, d3, d4] => { results := [.lit (.bool true)], args := [d1, d2, d3, d4] }
  | _ => none }
def agendaMovesRow : OpenClaim := { program := "ytlaagbnclkhbjaa", sum := "d473cfedcd17ad34305e0be864c4a5d90cbcb0c31d7c05f94326706a4733d51d", func := "customhouse/customhouselaw18.AgendaMoves", spec := "agendaMoves", unfollowed := true, recurses := true, apart := false }
def AgendaMovesSaid : Prop := agendaMovesRow.holds Try.pinned (OpenSpec.ofChange agendaMovesSpec)

/-- ITS FALSE NEIGHBOUR: 'it returns false'. Refute it at one input. -/
def agendaMovesWrong : ChangeSpec := { name := "agendaMoves", fn := fun _ => fun
  | [d1, d2, d3, d4] => { results := [.lit (.bool false)], args := [d1, d2, d3, d4] }
  | _ => none }
def AgendaMovesWrongFalsely : Prop := agendaMovesRow.holds Try.pinned (OpenSpec.ofChange agendaMovesWrong)

/- THE SECOND FORM. 'bulk': how many values and letters a reading holds, each counted each time it is reached (what is shared counts as often as it is met; a slice's spare places count too). A statement '..UptoSaid' is the law's where the arguments, and the package variables that the reading takes, are together of bulk at most 1048576: NARROWER than '..Said'. Prove '..Said' where nothing that the law and all that it calls make is longer than what came in: it says more and counts as full. Else prove '..UptoSaid'. A law counts once. -/
mutual
def uptoBulk {H : Type} : DataW H → Nat
  | .lit (.string bytes) => bytes.length + 1
  | .lit _ => 1
  | .nil => 1
  | .ptr d => uptoBulk d + 1
  | .slice elems spare => uptoBulkAll elems + uptoBulkAll spare + 1
  | .agg parts => uptoBulkAll parts + 1
  | .iface _ d => uptoBulk d + 1
  | .map entries => uptoBulkEntries entries + 1
  | .held _ => 1
def uptoBulkAll {H : Type} : List (DataW H) → Nat
  | [] => 0
  | d :: r => uptoBulk d + uptoBulkAll r
def uptoBulkEntries {H : Type} : List (Lit × DataW H) → Nat
  | [] => 0
  | x :: r => uptoBulkEntry x + uptoBulkEntries r
def uptoBulkEntry {H : Type} : Lit × DataW H → Nat
  | (.string bytes, d) => bytes.length + uptoBulk d + 1
  | (_, d) => uptoBulk d + 1
 end
def uptoSmall : (H : Type) → List (DataW H) → Bool := fun _ ds => decide (uptoBulkAll ds ≤ 1048576)
def OpenSpec.upto (s : _root_.Go.ChangeSpec) : _root_.Go.OpenSpec := { _root_.Go.OpenSpec.ofChange s with cond := some uptoSmall }

/-- 'customhouselaw18.AgendaPlays', WHERE WHAT IT READS IS OF BULK AT MOST 1048576: true; the input reads as it did. -/
def agendaPlaysUptoRow : OpenClaim := { program := "ytlaagbnclkhbjaa", sum := "d473cfedcd17ad34305e0be864c4a5d90cbcb0c31d7c05f94326706a4733d51d", func := "customhouse/customhouselaw18.AgendaPlays", spec := "agendaPlays", unfollowed := true, recurses := true, apart := false, narrowed := true }
def AgendaPlaysUptoSaid : Prop := agendaPlaysUptoRow.holds Try.pinned (OpenSpec.upto agendaPlaysSpec)

/-- 'customhouselaw18.AgendaAll', WHERE WHAT IT READS IS OF BULK AT MOST 1048576: true; the input reads as it did. -/
def agendaAllUptoRow : OpenClaim := { program := "ytlaagbnclkhbjaa", sum := "d473cfedcd17ad34305e0be864c4a5d90cbcb0c31d7c05f94326706a4733d51d", func := "customhouse/customhouselaw18.AgendaAll", spec := "agendaAll", unfollowed := true, recurses := true, apart := false, narrowed := true }
def AgendaAllUptoSaid : Prop := agendaAllUptoRow.holds Try.pinned (OpenSpec.upto agendaAllSpec)

/-- 'customhouselaw18.AgendaNone', WHERE WHAT IT READS IS OF BULK AT MOST 1048576: true; the input reads as it did. -/
def agendaNoneUptoRow : OpenClaim := { program := "ytlaagbnclkhbjaa", sum := "d473cfedcd17ad34305e0be864c4a5d90cbcb0c31d7c05f94326706a4733d51d", func := "customhouse/customhouselaw18.AgendaNone", spec := "agendaNone", unfollowed := true, recurses := true, apart := false, narrowed := true }
def AgendaNoneUptoSaid : Prop := agendaNoneUptoRow.holds Try.pinned (OpenSpec.upto agendaNoneSpec)

/-- 'customhouselaw18.AgendaMoves', WHERE WHAT IT READS IS OF BULK AT MOST 1048576: true; the input reads as it did. -/
def agendaMovesUptoRow : OpenClaim := { program := "ytlaagbnclkhbjaa", sum := "d473cfedcd17ad34305e0be864c4a5d90cbcb0c31d7c05f94326706a4733d51d", func := "customhouse/customhouselaw18.AgendaMoves", spec := "agendaMoves", unfollowed := true, recurses := true, apart := false, narrowed := true }
def AgendaMovesUptoSaid : Prop := agendaMovesUptoRow.holds Try.pinned (OpenSpec.upto agendaMovesSpec)

end Rows
end Go.Proofs.Ytlaagbnclkhbjaa
