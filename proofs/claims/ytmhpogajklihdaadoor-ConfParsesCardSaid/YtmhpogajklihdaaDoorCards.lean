/-
  DERIVED. GIVEN WITH THE SEED: THE CARDS: each row of YtmhpogajklihdaaDoorRows.lean that lists a variable, with what it lists TIED to the program's text (the seventh form; the later family's looks); each row that meets fmt, with fmt's text TOLD by the authors' own Lean function (tested against real Go, not proved from fmt's source: count such statements apart). THE CARD IS WHAT COUNTS. Prove the row's statement (the work); the ties are given (YtmhpogajklihdaaDoorTie.lean); close each card by the builder's one call (the guide's Derived/Test/ToyasCard.lean, 'card_holds'). Laid BY PROGRAM, IN A SANDBOX (cutbox-door.mjs). By AI agents, Wed Nov 11 2026. No macro, syntax, notation, axiom, sorry.
-/
import Derived.Test.YtmhpogajklihdaaDoorRows
import GoSem.ClaimSeven
namespace Go.Proofs.YtmhpogajklihdaaDoor
namespace Rows

/-- THE TIED CARD OF 'retiarylaw20.ConfCompares'. -/
def confComparesCard : Claim7 := { stood := { row := confComparesRow, standIns := [], harness := (true, "99fc4e91bb566c90f1526bd17754c3afd5768d4138a7c6d16b46e5d9edae1247"), looks := true }, kinds := [], alts := [], laidByText := true, laidKinds := [.data, .data, .data], laidTests := true, laidLooks := .later }
def ConfComparesCardSaid : Prop := Claim7.holds Tryd.pinned (.plain (OpenSpec.ofChange confComparesSpec)) confComparesCard

/-- THE TIED CARD OF 'retiarylaw20.ConfCopies'. -/
def confCopiesCard : Claim7 := { stood := { row := confCopiesRow, standIns := [], harness := (true, "99fc4e91bb566c90f1526bd17754c3afd5768d4138a7c6d16b46e5d9edae1247"), looks := true }, kinds := [], alts := [], laidByText := true, laidKinds := [.data, .data, .data], laidTests := true, laidLooks := .later }
def ConfCopiesCardSaid : Prop := Claim7.holds Tryd.pinned (.plain (OpenSpec.ofChange confCopiesSpec)) confCopiesCard

/-- THE TIED CARD OF 'retiarylaw20.ConfSorts'. -/
def confSortsCard : Claim7 := { stood := { row := confSortsRow, standIns := [], harness := (true, "99fc4e91bb566c90f1526bd17754c3afd5768d4138a7c6d16b46e5d9edae1247"), looks := true }, kinds := [], alts := [], laidByText := true, laidKinds := [.data, .data, .data], laidTests := true, laidLooks := .later }
def ConfSortsCardSaid : Prop := Claim7.holds Tryd.pinned (.plain (OpenSpec.ofChange confSortsSpec)) confSortsCard

/-- THE TIED CARD OF 'retiarylaw20.ConfSets'. -/
def confSetsCard : Claim7 := { stood := { row := confSetsRow, standIns := [], harness := (true, "99fc4e91bb566c90f1526bd17754c3afd5768d4138a7c6d16b46e5d9edae1247"), looks := true }, kinds := [], alts := [], laidByText := true, laidKinds := [.data, .data, .data], laidTests := true, laidLooks := .later }
def ConfSetsCardSaid : Prop := Claim7.holds Tryd.pinned (.plain (OpenSpec.ofChange confSetsSpec)) confSetsCard

/-- THE TIED CARD OF 'retiarylaw20.ConfTexts'. -/
def confTextsCard : Claim7 := { stood := { row := confTextsRow, standIns := [], harness := (true, "99fc4e91bb566c90f1526bd17754c3afd5768d4138a7c6d16b46e5d9edae1247"), looks := true }, kinds := [], alts := [], laidByText := true, laidKinds := [.data, .data, .data, .data, .sentinel, .sentinel, .pinned], laidTests := true, laidLooks := .later }
def ConfTextsCardSaid : Prop := Claim7.holds Tryd.pinned (.plain (OpenSpec.ofChange confTextsSpec)) confTextsCard

/-- THE TIED CARD OF 'retiarylaw20.ConfParses'. -/
def confParsesCard : Claim7 := { stood := { row := confParsesRow, standIns := [], harness := (true, "99fc4e91bb566c90f1526bd17754c3afd5768d4138a7c6d16b46e5d9edae1247"), looks := true }, kinds := [], alts := [], laidByText := true, laidKinds := [.data, .data, .data, .data, .sentinel, .sentinel, .pinned], laidTests := true, laidLooks := .later }
def ConfParsesCardSaid : Prop := Claim7.holds Tryd.pinned (.plain (OpenSpec.ofChange confParsesSpec)) confParsesCard

/-- THE SECOND FORM's CARD OF 'retiarylaw20.ConfCompares'. -/
def confComparesUptoCard : Claim7 := { stood := { row := confComparesUptoRow, standIns := [], harness := (true, "99fc4e91bb566c90f1526bd17754c3afd5768d4138a7c6d16b46e5d9edae1247"), looks := true }, kinds := [], alts := [], laidByText := true, laidKinds := [.data, .data, .data], laidTests := true, laidLooks := .later }
def ConfComparesUptoCardSaid : Prop := Claim7.holds Tryd.pinned (.plain (OpenSpec.upto confComparesSpec)) confComparesUptoCard

/-- THE SECOND FORM's CARD OF 'retiarylaw20.ConfCopies'. -/
def confCopiesUptoCard : Claim7 := { stood := { row := confCopiesUptoRow, standIns := [], harness := (true, "99fc4e91bb566c90f1526bd17754c3afd5768d4138a7c6d16b46e5d9edae1247"), looks := true }, kinds := [], alts := [], laidByText := true, laidKinds := [.data, .data, .data], laidTests := true, laidLooks := .later }
def ConfCopiesUptoCardSaid : Prop := Claim7.holds Tryd.pinned (.plain (OpenSpec.upto confCopiesSpec)) confCopiesUptoCard

/-- THE SECOND FORM's CARD OF 'retiarylaw20.ConfSorts'. -/
def confSortsUptoCard : Claim7 := { stood := { row := confSortsUptoRow, standIns := [], harness := (true, "99fc4e91bb566c90f1526bd17754c3afd5768d4138a7c6d16b46e5d9edae1247"), looks := true }, kinds := [], alts := [], laidByText := true, laidKinds := [.data, .data, .data], laidTests := true, laidLooks := .later }
def ConfSortsUptoCardSaid : Prop := Claim7.holds Tryd.pinned (.plain (OpenSpec.upto confSortsSpec)) confSortsUptoCard

/-- THE SECOND FORM's CARD OF 'retiarylaw20.ConfSets'. -/
def confSetsUptoCard : Claim7 := { stood := { row := confSetsUptoRow, standIns := [], harness := (true, "99fc4e91bb566c90f1526bd17754c3afd5768d4138a7c6d16b46e5d9edae1247"), looks := true }, kinds := [], alts := [], laidByText := true, laidKinds := [.data, .data, .data], laidTests := true, laidLooks := .later }
def ConfSetsUptoCardSaid : Prop := Claim7.holds Tryd.pinned (.plain (OpenSpec.upto confSetsSpec)) confSetsUptoCard

/-- THE SECOND FORM's CARD OF 'retiarylaw20.ConfTexts'. -/
def confTextsUptoCard : Claim7 := { stood := { row := confTextsUptoRow, standIns := [], harness := (true, "99fc4e91bb566c90f1526bd17754c3afd5768d4138a7c6d16b46e5d9edae1247"), looks := true }, kinds := [], alts := [], laidByText := true, laidKinds := [.data, .data, .data, .data, .sentinel, .sentinel, .pinned], laidTests := true, laidLooks := .later }
def ConfTextsUptoCardSaid : Prop := Claim7.holds Tryd.pinned (.plain (OpenSpec.upto confTextsSpec)) confTextsUptoCard

/-- THE SECOND FORM's CARD OF 'retiarylaw20.ConfParses'. -/
def confParsesUptoCard : Claim7 := { stood := { row := confParsesUptoRow, standIns := [], harness := (true, "99fc4e91bb566c90f1526bd17754c3afd5768d4138a7c6d16b46e5d9edae1247"), looks := true }, kinds := [], alts := [], laidByText := true, laidKinds := [.data, .data, .data, .data, .sentinel, .sentinel, .pinned], laidTests := true, laidLooks := .later }
def ConfParsesUptoCardSaid : Prop := Claim7.holds Tryd.pinned (.plain (OpenSpec.upto confParsesSpec)) confParsesUptoCard
end Rows
end Go.Proofs.YtmhpogajklihdaaDoor
