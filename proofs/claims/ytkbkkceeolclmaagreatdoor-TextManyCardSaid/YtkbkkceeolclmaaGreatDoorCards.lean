/-
  DERIVED. GIVEN WITH THE SEED: THE CARDS: each row of YtkbkkceeolclmaaGreatDoorRows.lean that lists a variable, with what it lists TIED to the program's text (the seventh form; the later family's looks); each row that meets fmt, with fmt's text TOLD by the authors' own Lean function (tested against real Go, not proved from fmt's source: count such statements apart). THE CARD IS WHAT COUNTS. Prove the row's statement (the work); the ties are given (YtkbkkceeolclmaaGreatDoorTie.lean); close each card by the builder's one call (the guide's Derived/Test/ToyasCard.lean, 'card_holds'). Laid BY PROGRAM, IN A SANDBOX (cutbox-door.mjs). By AI agents, Wed Nov 11 2026. No macro, syntax, notation, axiom, sorry.
-/
import Derived.Test.YtkbkkceeolclmaaGreatDoorRows
import GoSem.ClaimSeven
namespace Go.Proofs.YtkbkkceeolclmaaGreatDoor
namespace Rows

/-- THE TIED CARD OF 'retiarylaw29.TextRules'. -/
def textRulesCard : Claim7 := { stood := { row := textRulesRow, standIns := [], harness := (true, "d3d962082df2a23a59a800f80999fe2bee8562128767f0be9256fdb685cecfa1"), looks := true }, kinds := [], alts := [], laidByText := true, laidKinds := [.data, .data, .data, .data, .sentinel, .sentinel, .pinned], laidTests := true, laidLooks := .later }
def TextRulesCardSaid : Prop := Claim7.holds Tryz.pinned (.plain (OpenSpec.ofChange textRulesSpec)) textRulesCard

/-- THE TIED CARD OF 'retiarylaw29.TextParses'. -/
def textParsesCard : Claim7 := { stood := { row := textParsesRow, standIns := [], harness := (true, "d3d962082df2a23a59a800f80999fe2bee8562128767f0be9256fdb685cecfa1"), looks := true }, kinds := [], alts := [], laidByText := true, laidKinds := [.data, .data, .data, .data, .sentinel, .sentinel, .pinned], laidTests := true, laidLooks := .later }
def TextParsesCardSaid : Prop := Claim7.holds Tryz.pinned (.plain (OpenSpec.ofChange textParsesSpec)) textParsesCard

/-- THE TIED CARD OF 'retiarylaw29.TextTables'. -/
def textTablesCard : Claim7 := { stood := { row := textTablesRow, standIns := [], harness := (true, "d3d962082df2a23a59a800f80999fe2bee8562128767f0be9256fdb685cecfa1"), looks := true }, kinds := [], alts := [], laidByText := true, laidKinds := [.data, .data, .data, .data, .sentinel, .sentinel, .pinned], laidTests := true, laidLooks := .later }
def TextTablesCardSaid : Prop := Claim7.holds Tryz.pinned (.plain (OpenSpec.ofChange textTablesSpec)) textTablesCard

/-- THE TIED CARD OF 'retiarylaw29.TextMany'. -/
def textManyCard : Claim7 := { stood := { row := textManyRow, standIns := [], harness := (true, "d3d962082df2a23a59a800f80999fe2bee8562128767f0be9256fdb685cecfa1"), looks := true }, kinds := [], alts := [], laidByText := true, laidKinds := [.data, .data, .data, .data, .sentinel, .sentinel, .pinned], laidTests := true, laidLooks := .later }
def TextManyCardSaid : Prop := Claim7.holds Tryz.pinned (.plain (OpenSpec.ofChange textManySpec)) textManyCard

/-- THE TIED CARD OF 'retiarylaw29.TextTriples'. -/
def textTriplesCard : Claim7 := { stood := { row := textTriplesRow, standIns := [], harness := (true, "d3d962082df2a23a59a800f80999fe2bee8562128767f0be9256fdb685cecfa1"), looks := true }, kinds := [], alts := [], laidByText := true, laidKinds := [.data, .data, .data, .data, .sentinel, .sentinel, .pinned], laidTests := true, laidLooks := .later }
def TextTriplesCardSaid : Prop := Claim7.holds Tryz.pinned (.plain (OpenSpec.ofChange textTriplesSpec)) textTriplesCard

/-- THE SECOND FORM's CARD OF 'retiarylaw29.TextRules'. -/
def textRulesUptoCard : Claim7 := { stood := { row := textRulesUptoRow, standIns := [], harness := (true, "d3d962082df2a23a59a800f80999fe2bee8562128767f0be9256fdb685cecfa1"), looks := true }, kinds := [], alts := [], laidByText := true, laidKinds := [.data, .data, .data, .data, .sentinel, .sentinel, .pinned], laidTests := true, laidLooks := .later }
def TextRulesUptoCardSaid : Prop := Claim7.holds Tryz.pinned (.plain (OpenSpec.upto textRulesSpec)) textRulesUptoCard

/-- THE SECOND FORM's CARD OF 'retiarylaw29.TextParses'. -/
def textParsesUptoCard : Claim7 := { stood := { row := textParsesUptoRow, standIns := [], harness := (true, "d3d962082df2a23a59a800f80999fe2bee8562128767f0be9256fdb685cecfa1"), looks := true }, kinds := [], alts := [], laidByText := true, laidKinds := [.data, .data, .data, .data, .sentinel, .sentinel, .pinned], laidTests := true, laidLooks := .later }
def TextParsesUptoCardSaid : Prop := Claim7.holds Tryz.pinned (.plain (OpenSpec.upto textParsesSpec)) textParsesUptoCard

/-- THE SECOND FORM's CARD OF 'retiarylaw29.TextTables'. -/
def textTablesUptoCard : Claim7 := { stood := { row := textTablesUptoRow, standIns := [], harness := (true, "d3d962082df2a23a59a800f80999fe2bee8562128767f0be9256fdb685cecfa1"), looks := true }, kinds := [], alts := [], laidByText := true, laidKinds := [.data, .data, .data, .data, .sentinel, .sentinel, .pinned], laidTests := true, laidLooks := .later }
def TextTablesUptoCardSaid : Prop := Claim7.holds Tryz.pinned (.plain (OpenSpec.upto textTablesSpec)) textTablesUptoCard

/-- THE SECOND FORM's CARD OF 'retiarylaw29.TextMany'. -/
def textManyUptoCard : Claim7 := { stood := { row := textManyUptoRow, standIns := [], harness := (true, "d3d962082df2a23a59a800f80999fe2bee8562128767f0be9256fdb685cecfa1"), looks := true }, kinds := [], alts := [], laidByText := true, laidKinds := [.data, .data, .data, .data, .sentinel, .sentinel, .pinned], laidTests := true, laidLooks := .later }
def TextManyUptoCardSaid : Prop := Claim7.holds Tryz.pinned (.plain (OpenSpec.upto textManySpec)) textManyUptoCard

/-- THE SECOND FORM's CARD OF 'retiarylaw29.TextTriples'. -/
def textTriplesUptoCard : Claim7 := { stood := { row := textTriplesUptoRow, standIns := [], harness := (true, "d3d962082df2a23a59a800f80999fe2bee8562128767f0be9256fdb685cecfa1"), looks := true }, kinds := [], alts := [], laidByText := true, laidKinds := [.data, .data, .data, .data, .sentinel, .sentinel, .pinned], laidTests := true, laidLooks := .later }
def TextTriplesUptoCardSaid : Prop := Claim7.holds Tryz.pinned (.plain (OpenSpec.upto textTriplesSpec)) textTriplesUptoCard
end Rows
end Go.Proofs.YtkbkkceeolclmaaGreatDoor
