/-
  No cell of these rows narrows 'for every input' (looked for: loops, veiled, ifaces, maps, wideKeys, modest, calm, conditions, laid).
  DERIVED. THE GIVEN ROWS OF THIS SEAT. 13 by the template 'for every input the law returns true; each argument reads behind the call as it read before'; 0 by the template 'total and deterministic' (their statements: YtnncomhgclffaaaTotals.lean).
  GIVEN WITH THE SEED: the statements are not yours to turn. If you find one false, say at which input.
  Laid BY PROGRAM, IN A SANDBOX (cutbox-rows.mjs): the forced cells as the released guide's own fill.sh prints them over the translation 33f3c58ced7c086b… (all of the seat's roots in one cut). By AI agents, Wed Nov 11 2026. No macro, syntax, notation, axiom, sorry.
-/
import Derived.Test.YtnncomhgclffaaaChecked
import GoSem.Claim
import GoSem.ClaimJoined
import GoSem.ClaimMapViews
import Derived.JoinedTies
import Derived.KernelRfl
namespace Go.Proofs.Ytnncomhgclffaaa
/- THE CELL 'sum', in the pinned program and in every row, IS THE sha256 OF THE DUMP (.gsa) THAT YtnncomhgclffaaaProg.lean LOADS. Nothing in Lean hashes anything: it is a label: what it is worth is what the hold of that sum in a sandbox is worth. -/
noncomputable def Try.pinned : Pinned := { name := "ytnncomhgclffaaa", sum := "33f3c58ced7c086b29e03a2d55d98cec20b6f491ddc47e18b25019e7eaddea29", checked := Try.checked }
namespace Rows
def none {H : Type} : Left H := { results := [], args := [] }

/-- 'retiarylaw18.LinkFits': WHATEVER THE INPUT: true; the input reads as it did. -/
def linkFitsSpec : ChangeSpec := { name := "linkFits", fn := fun _ => fun
  | [d1, d2, d3] => { results := [.lit (.bool true)], args := [d1, d2, d3] }
  | _ => none }
def linkFitsRow : OpenClaim := { program := "ytnncomhgclffaaa", sum := "33f3c58ced7c086b29e03a2d55d98cec20b6f491ddc47e18b25019e7eaddea29", func := "retiary/retiarylaw18.LinkFits", spec := "linkFits", plainKeys := false, apart := false }
def LinkFitsSaid : Prop := linkFitsRow.holds Try.pinned (OpenSpec.ofChange linkFitsSpec)

/-- ITS FALSE NEIGHBOUR: 'it returns false'. Refute it at one input. -/
def linkFitsWrong : ChangeSpec := { name := "linkFits", fn := fun _ => fun
  | [d1, d2, d3] => { results := [.lit (.bool false)], args := [d1, d2, d3] }
  | _ => none }
def LinkFitsWrongFalsely : Prop := linkFitsRow.holds Try.pinned (OpenSpec.ofChange linkFitsWrong)

/-- 'retiarylaw18.LinkBoth': WHATEVER THE INPUT: true; the input reads as it did. -/
def linkBothSpec : ChangeSpec := { name := "linkBoth", fn := fun _ => fun
  | [d1, d2] => { results := [.lit (.bool true)], args := [d1, d2] }
  | _ => none }
def linkBothRow : OpenClaim := { program := "ytnncomhgclffaaa", sum := "33f3c58ced7c086b29e03a2d55d98cec20b6f491ddc47e18b25019e7eaddea29", func := "retiary/retiarylaw18.LinkBoth", spec := "linkBoth", unfollowed := true, recurses := true, plainKeys := false, apart := false }
def LinkBothSaid : Prop := linkBothRow.holds Try.pinned (OpenSpec.ofChange linkBothSpec)

/-- ITS FALSE NEIGHBOUR: 'it returns false'. Refute it at one input. -/
def linkBothWrong : ChangeSpec := { name := "linkBoth", fn := fun _ => fun
  | [d1, d2] => { results := [.lit (.bool false)], args := [d1, d2] }
  | _ => none }
def LinkBothWrongFalsely : Prop := linkBothRow.holds Try.pinned (OpenSpec.ofChange linkBothWrong)

/-- 'retiarylaw18.LinkStays': WHATEVER THE INPUT: true; the input reads as it did. -/
def linkStaysSpec : ChangeSpec := { name := "linkStays", fn := fun _ => fun
  | [d1, d2] => { results := [.lit (.bool true)], args := [d1, d2] }
  | _ => none }
def linkStaysRow : OpenClaim := { program := "ytnncomhgclffaaa", sum := "33f3c58ced7c086b29e03a2d55d98cec20b6f491ddc47e18b25019e7eaddea29", func := "retiary/retiarylaw18.LinkStays", spec := "linkStays", plainKeys := false, apart := false }
def LinkStaysSaid : Prop := linkStaysRow.holds Try.pinned (OpenSpec.ofChange linkStaysSpec)

/-- ITS FALSE NEIGHBOUR: 'it returns false'. Refute it at one input. -/
def linkStaysWrong : ChangeSpec := { name := "linkStays", fn := fun _ => fun
  | [d1, d2] => { results := [.lit (.bool false)], args := [d1, d2] }
  | _ => none }
def LinkStaysWrongFalsely : Prop := linkStaysRow.holds Try.pinned (OpenSpec.ofChange linkStaysWrong)

/-- 'retiarylaw18.LinkTells': WHATEVER THE INPUT: true; the input reads as it did. -/
def linkTellsSpec : ChangeSpec := { name := "linkTells", fn := fun _ => fun
  | [d1, d2] => { results := [.lit (.bool true)], args := [d1, d2] }
  | _ => none }
def linkTellsRow : OpenClaim := { program := "ytnncomhgclffaaa", sum := "33f3c58ced7c086b29e03a2d55d98cec20b6f491ddc47e18b25019e7eaddea29", func := "retiary/retiarylaw18.LinkTells", spec := "linkTells", plainKeys := false, apart := false }
def LinkTellsSaid : Prop := linkTellsRow.holds Try.pinned (OpenSpec.ofChange linkTellsSpec)

/-- ITS FALSE NEIGHBOUR: 'it returns false'. Refute it at one input. -/
def linkTellsWrong : ChangeSpec := { name := "linkTells", fn := fun _ => fun
  | [d1, d2] => { results := [.lit (.bool false)], args := [d1, d2] }
  | _ => none }
def LinkTellsWrongFalsely : Prop := linkTellsRow.holds Try.pinned (OpenSpec.ofChange linkTellsWrong)

/-- 'retiarylaw09.ListTypes': WHATEVER THE INPUT: true; the input reads as it did. -/
def listTypesSpec : ChangeSpec := { name := "listTypes", fn := fun _ => fun
  | [d1, d2] => { results := [.lit (.bool true)], args := [d1, d2] }
  | _ => none }
def listTypesRow : OpenClaim := { program := "ytnncomhgclffaaa", sum := "33f3c58ced7c086b29e03a2d55d98cec20b6f491ddc47e18b25019e7eaddea29", func := "retiary/retiarylaw09.ListTypes", spec := "listTypes", plainKeys := false, apart := false }
def ListTypesSaid : Prop := listTypesRow.holds Try.pinned (OpenSpec.ofChange listTypesSpec)

/-- ITS FALSE NEIGHBOUR: 'it returns false'. Refute it at one input. -/
def listTypesWrong : ChangeSpec := { name := "listTypes", fn := fun _ => fun
  | [d1, d2] => { results := [.lit (.bool false)], args := [d1, d2] }
  | _ => none }
def ListTypesWrongFalsely : Prop := listTypesRow.holds Try.pinned (OpenSpec.ofChange listTypesWrong)

/-- 'retiarylaw24.EventDecodes': WHATEVER THE INPUT: true; the input reads as it did. -/
def eventDecodesSpec : ChangeSpec := { name := "eventDecodes", fn := fun _ => fun
  | [d] => { results := [.lit (.bool true)], args := [d] }
  | _ => none }
def eventDecodesRow : OpenClaim := { program := "ytnncomhgclffaaa", sum := "33f3c58ced7c086b29e03a2d55d98cec20b6f491ddc47e18b25019e7eaddea29", func := "retiary/retiarylaw24.EventDecodes", spec := "eventDecodes", plainKeys := false, apart := false }
def EventDecodesSaid : Prop := eventDecodesRow.holds Try.pinned (OpenSpec.ofChange eventDecodesSpec)

/-- ITS FALSE NEIGHBOUR: 'it returns false'. Refute it at one input. -/
def eventDecodesWrong : ChangeSpec := { name := "eventDecodes", fn := fun _ => fun
  | [d] => { results := [.lit (.bool false)], args := [d] }
  | _ => none }
def EventDecodesWrongFalsely : Prop := eventDecodesRow.holds Try.pinned (OpenSpec.ofChange eventDecodesWrong)

/-- 'retiarylaw09.ListPlays': WHATEVER THE INPUT: true; the input reads as it did. -/
def listPlaysSpec : ChangeSpec := { name := "listPlays", fn := fun _ => fun
  | [d] => { results := [.lit (.bool true)], args := [d] }
  | _ => none }
def listPlaysRow : OpenClaim := { program := "ytnncomhgclffaaa", sum := "33f3c58ced7c086b29e03a2d55d98cec20b6f491ddc47e18b25019e7eaddea29", func := "retiary/retiarylaw09.ListPlays", spec := "listPlays", plainKeys := false, apart := false }
def ListPlaysSaid : Prop := listPlaysRow.holds Try.pinned (OpenSpec.ofChange listPlaysSpec)

/-- ITS FALSE NEIGHBOUR: 'it returns false'. Refute it at one input. -/
def listPlaysWrong : ChangeSpec := { name := "listPlays", fn := fun _ => fun
  | [d] => { results := [.lit (.bool false)], args := [d] }
  | _ => none }
def ListPlaysWrongFalsely : Prop := listPlaysRow.holds Try.pinned (OpenSpec.ofChange listPlaysWrong)

/-- 'retiarylaw09.ListTurns': WHATEVER THE INPUT: true; the input reads as it did. -/
def listTurnsSpec : ChangeSpec := { name := "listTurns", fn := fun _ => fun
  | [d] => { results := [.lit (.bool true)], args := [d] }
  | _ => none }
def listTurnsRow : OpenClaim := { program := "ytnncomhgclffaaa", sum := "33f3c58ced7c086b29e03a2d55d98cec20b6f491ddc47e18b25019e7eaddea29", func := "retiary/retiarylaw09.ListTurns", spec := "listTurns", plainKeys := false, apart := false }
def ListTurnsSaid : Prop := listTurnsRow.holds Try.pinned (OpenSpec.ofChange listTurnsSpec)

/-- ITS FALSE NEIGHBOUR: 'it returns false'. Refute it at one input. -/
def listTurnsWrong : ChangeSpec := { name := "listTurns", fn := fun _ => fun
  | [d] => { results := [.lit (.bool false)], args := [d] }
  | _ => none }
def ListTurnsWrongFalsely : Prop := listTurnsRow.holds Try.pinned (OpenSpec.ofChange listTurnsWrong)

/-- 'retiarylaw09.ListAll': WHATEVER THE INPUT: true; the input reads as it did. -/
def listAllSpec : ChangeSpec := { name := "listAll", fn := fun _ => fun
  | [d] => { results := [.lit (.bool true)], args := [d] }
  | _ => none }
def listAllRow : OpenClaim := { program := "ytnncomhgclffaaa", sum := "33f3c58ced7c086b29e03a2d55d98cec20b6f491ddc47e18b25019e7eaddea29", func := "retiary/retiarylaw09.ListAll", spec := "listAll", unfollowed := true, recurses := true, plainKeys := false, apart := false }
def ListAllSaid : Prop := listAllRow.holds Try.pinned (OpenSpec.ofChange listAllSpec)

/-- ITS FALSE NEIGHBOUR: 'it returns false'. Refute it at one input. -/
def listAllWrong : ChangeSpec := { name := "listAll", fn := fun _ => fun
  | [d] => { results := [.lit (.bool false)], args := [d] }
  | _ => none }
def ListAllWrongFalsely : Prop := listAllRow.holds Try.pinned (OpenSpec.ofChange listAllWrong)

/-- 'retiarylaw27.OrderAll': WHATEVER THE INPUT: true; the input reads as it did. -/
def orderAllSpec : ChangeSpec := { name := "orderAll", fn := fun _ => fun
  | [d1, d2] => { results := [.lit (.bool true)], args := [d1, d2] }
  | _ => none }
def orderAllRow : OpenClaim := { program := "ytnncomhgclffaaa", sum := "33f3c58ced7c086b29e03a2d55d98cec20b6f491ddc47e18b25019e7eaddea29", func := "retiary/retiarylaw27.OrderAll", spec := "orderAll", unfollowed := true, recurses := true, plainKeys := false, apart := false }
def OrderAllSaid : Prop := orderAllRow.holds Try.pinned (OpenSpec.ofChange orderAllSpec)

/-- ITS FALSE NEIGHBOUR: 'it returns false'. Refute it at one input. -/
def orderAllWrong : ChangeSpec := { name := "orderAll", fn := fun _ => fun
  | [d1, d2] => { results := [.lit (.bool false)], args := [d1, d2] }
  | _ => none }
def OrderAllWrongFalsely : Prop := orderAllRow.holds Try.pinned (OpenSpec.ofChange orderAllWrong)

/-- 'retiarylaw17.BlockTypes': WHATEVER THE INPUT: true; the input reads as it did. -/
def blockTypesSpec : ChangeSpec := { name := "blockTypes", fn := fun _ => fun
  | [d1, d2] => { results := [.lit (.bool true)], args := [d1, d2] }
  | _ => none }
def blockTypesRow : OpenClaim := { program := "ytnncomhgclffaaa", sum := "33f3c58ced7c086b29e03a2d55d98cec20b6f491ddc47e18b25019e7eaddea29", func := "retiary/retiarylaw17.BlockTypes", spec := "blockTypes", unfollowed := true, recurses := true, plainKeys := false, apart := false }
def BlockTypesSaid : Prop := blockTypesRow.holds Try.pinned (OpenSpec.ofChange blockTypesSpec)

/-- ITS FALSE NEIGHBOUR: 'it returns false'. Refute it at one input. -/
def blockTypesWrong : ChangeSpec := { name := "blockTypes", fn := fun _ => fun
  | [d1, d2] => { results := [.lit (.bool false)], args := [d1, d2] }
  | _ => none }
def BlockTypesWrongFalsely : Prop := blockTypesRow.holds Try.pinned (OpenSpec.ofChange blockTypesWrong)

/-- 'retiarylaw17.BlockPlays': WHATEVER THE INPUT: true; the input reads as it did. -/
def blockPlaysSpec : ChangeSpec := { name := "blockPlays", fn := fun _ => fun
  | [d] => { results := [.lit (.bool true)], args := [d] }
  | _ => none }
def blockPlaysRow : OpenClaim := { program := "ytnncomhgclffaaa", sum := "33f3c58ced7c086b29e03a2d55d98cec20b6f491ddc47e18b25019e7eaddea29", func := "retiary/retiarylaw17.BlockPlays", spec := "blockPlays", unfollowed := true, recurses := true, plainKeys := false, apart := false }
def BlockPlaysSaid : Prop := blockPlaysRow.holds Try.pinned (OpenSpec.ofChange blockPlaysSpec)

/-- ITS FALSE NEIGHBOUR: 'it returns false'. Refute it at one input. -/
def blockPlaysWrong : ChangeSpec := { name := "blockPlays", fn := fun _ => fun
  | [d] => { results := [.lit (.bool false)], args := [d] }
  | _ => none }
def BlockPlaysWrongFalsely : Prop := blockPlaysRow.holds Try.pinned (OpenSpec.ofChange blockPlaysWrong)

/-- 'retiarylaw17.BlockSums': WHATEVER THE INPUT: true; the input reads as it did. -/
def blockSumsSpec : ChangeSpec := { name := "blockSums", fn := fun _ => fun
  | [d] => { results := [.lit (.bool true)], args := [d] }
  | _ => none }
def blockSumsRow : OpenClaim := { program := "ytnncomhgclffaaa", sum := "33f3c58ced7c086b29e03a2d55d98cec20b6f491ddc47e18b25019e7eaddea29", func := "retiary/retiarylaw17.BlockSums", spec := "blockSums", unfollowed := true, recurses := true, plainKeys := false, apart := false }
def BlockSumsSaid : Prop := blockSumsRow.holds Try.pinned (OpenSpec.ofChange blockSumsSpec)

/-- ITS FALSE NEIGHBOUR: 'it returns false'. Refute it at one input. -/
def blockSumsWrong : ChangeSpec := { name := "blockSums", fn := fun _ => fun
  | [d] => { results := [.lit (.bool false)], args := [d] }
  | _ => none }
def BlockSumsWrongFalsely : Prop := blockSumsRow.holds Try.pinned (OpenSpec.ofChange blockSumsWrong)

/- THE SECOND FORM. 'bulk': how many values and letters a reading holds, each counted each time it is reached (what is shared counts as often as it is met; a slice's spare places count too). A statement '..UptoSaid' is the law's where the arguments, and the package variables that the reading takes, are together of bulk at most 1048576: NARROWER than '..Said'. Prove '..Said' where nothing that the law and all that it calls make is longer than what came in: it says more and counts as full. Else prove '..UptoSaid'. A law counts once. -/
mutual
def uptoBulk {H : Type} : DataW H → Nat
  | .lit (.string bytes) => bytes.length + 1
  | .lit _ => 1
  | .nil => 1
  | .ptr d => uptoBulk d + 1
  | .slice elems spare => uptoBulkAll elems + uptoBulkAll spare + 1
  | .agg parts => uptoBulkAll parts + 1
  | .iface _ d => uptoBulk d + 1
  | .map entries => uptoBulkEntries entries + 1
  | .held _ => 1
def uptoBulkAll {H : Type} : List (DataW H) → Nat
  | [] => 0
  | d :: r => uptoBulk d + uptoBulkAll r
def uptoBulkEntries {H : Type} : List (Lit × DataW H) → Nat
  | [] => 0
  | x :: r => uptoBulkEntry x + uptoBulkEntries r
def uptoBulkEntry {H : Type} : Lit × DataW H → Nat
  | (.string bytes, d) => bytes.length + uptoBulk d + 1
  | (_, d) => uptoBulk d + 1
 end
def uptoSmall : (H : Type) → List (DataW H) → Bool := fun _ ds => decide (uptoBulkAll ds ≤ 1048576)
def OpenSpec.upto (s : _root_.Go.ChangeSpec) : _root_.Go.OpenSpec := { _root_.Go.OpenSpec.ofChange s with cond := some uptoSmall }

/-- 'retiarylaw18.LinkFits', WHERE WHAT IT READS IS OF BULK AT MOST 1048576: true; the input reads as it did. -/
def linkFitsUptoRow : OpenClaim := { program := "ytnncomhgclffaaa", sum := "33f3c58ced7c086b29e03a2d55d98cec20b6f491ddc47e18b25019e7eaddea29", func := "retiary/retiarylaw18.LinkFits", spec := "linkFits", plainKeys := false, apart := false, narrowed := true }
def LinkFitsUptoSaid : Prop := linkFitsUptoRow.holds Try.pinned (OpenSpec.upto linkFitsSpec)

/-- 'retiarylaw18.LinkBoth', WHERE WHAT IT READS IS OF BULK AT MOST 1048576: true; the input reads as it did. -/
def linkBothUptoRow : OpenClaim := { program := "ytnncomhgclffaaa", sum := "33f3c58ced7c086b29e03a2d55d98cec20b6f491ddc47e18b25019e7eaddea29", func := "retiary/retiarylaw18.LinkBoth", spec := "linkBoth", unfollowed := true, recurses := true, plainKeys := false, apart := false, narrowed := true }
def LinkBothUptoSaid : Prop := linkBothUptoRow.holds Try.pinned (OpenSpec.upto linkBothSpec)

/-- 'retiarylaw18.LinkStays', WHERE WHAT IT READS IS OF BULK AT MOST 1048576: true; the input reads as it did. -/
def linkStaysUptoRow : OpenClaim := { program := "ytnncomhgclffaaa", sum := "33f3c58ced7c086b29e03a2d55d98cec20b6f491ddc47e18b25019e7eaddea29", func := "retiary/retiarylaw18.LinkStays", spec := "linkStays", plainKeys := false, apart := false, narrowed := true }
def LinkStaysUptoSaid : Prop := linkStaysUptoRow.holds Try.pinned (OpenSpec.upto linkStaysSpec)

/-- 'retiarylaw18.LinkTells', WHERE WHAT IT READS IS OF BULK AT MOST 1048576: true; the input reads as it did. -/
def linkTellsUptoRow : OpenClaim := { program := "ytnncomhgclffaaa", sum := "33f3c58ced7c086b29e03a2d55d98cec20b6f491ddc47e18b25019e7eaddea29", func := "retiary/retiarylaw18.LinkTells", spec := "linkTells", plainKeys := false, apart := false, narrowed := true }
def LinkTellsUptoSaid : Prop := linkTellsUptoRow.holds Try.pinned (OpenSpec.upto linkTellsSpec)

/-- 'retiarylaw09.ListTypes', WHERE WHAT IT READS IS OF BULK AT MOST 1048576: true; the input reads as it did. -/
def listTypesUptoRow : OpenClaim := { program := "ytnncomhgclffaaa", sum := "33f3c58ced7c086b29e03a2d55d98cec20b6f491ddc47e18b25019e7eaddea29", func := "retiary/retiarylaw09.ListTypes", spec := "listTypes", plainKeys := false, apart := false, narrowed := true }
def ListTypesUptoSaid : Prop := listTypesUptoRow.holds Try.pinned (OpenSpec.upto listTypesSpec)

/-- 'retiarylaw24.EventDecodes', WHERE WHAT IT READS IS OF BULK AT MOST 1048576: true; the input reads as it did. -/
def eventDecodesUptoRow : OpenClaim := { program := "ytnncomhgclffaaa", sum := "33f3c58ced7c086b29e03a2d55d98cec20b6f491ddc47e18b25019e7eaddea29", func := "retiary/retiarylaw24.EventDecodes", spec := "eventDecodes", plainKeys := false, apart := false, narrowed := true }
def EventDecodesUptoSaid : Prop := eventDecodesUptoRow.holds Try.pinned (OpenSpec.upto eventDecodesSpec)

/-- 'retiarylaw09.ListPlays', WHERE WHAT IT READS IS OF BULK AT MOST 1048576: true; the input reads as it did. -/
def listPlaysUptoRow : OpenClaim := { program := "ytnncomhgclffaaa", sum := "33f3c58ced7c086b29e03a2d55d98cec20b6f491ddc47e18b25019e7eaddea29", func := "retiary/retiarylaw09.ListPlays", spec := "listPlays", plainKeys := false, apart := false, narrowed := true }
def ListPlaysUptoSaid : Prop := listPlaysUptoRow.holds Try.pinned (OpenSpec.upto listPlaysSpec)

/-- 'retiarylaw09.ListTurns', WHERE WHAT IT READS IS OF BULK AT MOST 1048576: true; the input reads as it did. -/
def listTurnsUptoRow : OpenClaim := { program := "ytnncomhgclffaaa", sum := "33f3c58ced7c086b29e03a2d55d98cec20b6f491ddc47e18b25019e7eaddea29", func := "retiary/retiarylaw09.ListTurns", spec := "listTurns", plainKeys := false, apart := false, narrowed := true }
def ListTurnsUptoSaid : Prop := listTurnsUptoRow.holds Try.pinned (OpenSpec.upto listTurnsSpec)

/-- 'retiarylaw09.ListAll', WHERE WHAT IT READS IS OF BULK AT MOST 1048576: true; the input reads as it did. -/
def listAllUptoRow : OpenClaim := { program := "ytnncomhgclffaaa", sum := "33f3c58ced7c086b29e03a2d55d98cec20b6f491ddc47e18b25019e7eaddea29", func := "retiary/retiarylaw09.ListAll", spec := "listAll", unfollowed := true, recurses := true, plainKeys := false, apart := false, narrowed := true }
def ListAllUptoSaid : Prop := listAllUptoRow.holds Try.pinned (OpenSpec.upto listAllSpec)

/-- 'retiarylaw27.OrderAll', WHERE WHAT IT READS IS OF BULK AT MOST 1048576: true; the input reads as it did. -/
def orderAllUptoRow : OpenClaim := { program := "ytnncomhgclffaaa", sum := "33f3c58ced7c086b29e03a2d55d98cec20b6f491ddc47e18b25019e7eaddea29", func := "retiary/retiarylaw27.OrderAll", spec := "orderAll", unfollowed := true, recurses := true, plainKeys := false, apart := false, narrowed := true }
def OrderAllUptoSaid : Prop := orderAllUptoRow.holds Try.pinned (OpenSpec.upto orderAllSpec)

/-- 'retiarylaw17.BlockTypes', WHERE WHAT IT READS IS OF BULK AT MOST 1048576: true; the input reads as it did. -/
def blockTypesUptoRow : OpenClaim := { program := "ytnncomhgclffaaa", sum := "33f3c58ced7c086b29e03a2d55d98cec20b6f491ddc47e18b25019e7eaddea29", func := "retiary/retiarylaw17.BlockTypes", spec := "blockTypes", unfollowed := true, recurses := true, plainKeys := false, apart := false, narrowed := true }
def BlockTypesUptoSaid : Prop := blockTypesUptoRow.holds Try.pinned (OpenSpec.upto blockTypesSpec)

/-- 'retiarylaw17.BlockPlays', WHERE WHAT IT READS IS OF BULK AT MOST 1048576: true; the input reads as it did. -/
def blockPlaysUptoRow : OpenClaim := { program := "ytnncomhgclffaaa", sum := "33f3c58ced7c086b29e03a2d55d98cec20b6f491ddc47e18b25019e7eaddea29", func := "retiary/retiarylaw17.BlockPlays", spec := "blockPlays", unfollowed := true, recurses := true, plainKeys := false, apart := false, narrowed := true }
def BlockPlaysUptoSaid : Prop := blockPlaysUptoRow.holds Try.pinned (OpenSpec.upto blockPlaysSpec)

/-- 'retiarylaw17.BlockSums', WHERE WHAT IT READS IS OF BULK AT MOST 1048576: true; the input reads as it did. -/
def blockSumsUptoRow : OpenClaim := { program := "ytnncomhgclffaaa", sum := "33f3c58ced7c086b29e03a2d55d98cec20b6f491ddc47e18b25019e7eaddea29", func := "retiary/retiarylaw17.BlockSums", spec := "blockSums", unfollowed := true, recurses := true, plainKeys := false, apart := false, narrowed := true }
def BlockSumsUptoSaid : Prop := blockSumsUptoRow.holds Try.pinned (OpenSpec.upto blockSumsSpec)

end Rows
end Go.Proofs.Ytnncomhgclffaaa
