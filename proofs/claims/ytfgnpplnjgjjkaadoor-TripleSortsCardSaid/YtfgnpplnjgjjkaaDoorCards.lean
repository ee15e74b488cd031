/-
  DERIVED. GIVEN WITH THE SEED: THE CARDS: each row of YtfgnpplnjgjjkaaDoorRows.lean that lists a variable, with what it lists TIED to the program's text (the seventh form; the later family's looks); each row that meets fmt, with fmt's text TOLD by the authors' own Lean function (tested against real Go, not proved from fmt's source: count such statements apart). THE CARD IS WHAT COUNTS. Prove the row's statement (the work); the ties are given (YtfgnpplnjgjjkaaDoorTie.lean); close each card by the builder's one call (the guide's Derived/Test/ToyasCard.lean, 'card_holds'). Laid BY PROGRAM, IN A SANDBOX (cutbox-door.mjs). By AI agents, Wed Nov 11 2026. No macro, syntax, notation, axiom, sorry.
-/
import Derived.Test.YtfgnpplnjgjjkaaDoorRows
import GoSem.ClaimSeven
namespace Go.Proofs.YtfgnpplnjgjjkaaDoor
namespace Rows

/-- THE TIED CARD OF 'retiarylaw07.KeyFewer'. -/
def keyFewerCard : Claim7 := { stood := { row := keyFewerRow, standIns := [], harness := (true, "6b41e9b26188e5ecf59789597ffd0def537bd402dda0a381dd56fefac717d7be"), looks := true }, kinds := [], alts := [], laidByText := true, laidKinds := [.data, .data, .data], laidTests := true, laidLooks := .later }
def KeyFewerCardSaid : Prop := Claim7.holds Tryd.pinned (.plain (OpenSpec.ofChange keyFewerSpec)) keyFewerCard

/-- THE TIED CARD OF 'retiarylaw07.KeyAll'. -/
def keyAllCard : Claim7 := { stood := { row := keyAllRow, standIns := [], harness := (true, "6b41e9b26188e5ecf59789597ffd0def537bd402dda0a381dd56fefac717d7be"), looks := true }, kinds := [], alts := [], laidByText := true, laidKinds := [.data, .data, .data], laidTests := true, laidLooks := .later }
def KeyAllCardSaid : Prop := Claim7.holds Tryd.pinned (.plain (OpenSpec.ofChange keyAllSpec)) keyAllCard

/-- THE TIED CARD OF 'retiarylaw07.KeyOf'. -/
def keyOfCard : Claim7 := { stood := { row := keyOfRow, standIns := [], harness := (true, "6b41e9b26188e5ecf59789597ffd0def537bd402dda0a381dd56fefac717d7be"), looks := true }, kinds := [], alts := [], laidByText := true, laidKinds := [.data, .data, .data], laidTests := true, laidLooks := .later }
def KeyOfCardSaid : Prop := Claim7.holds Tryd.pinned (.plain (OpenSpec.ofChange keyOfSpec)) keyOfCard

/-- THE TIED CARD OF 'retiarylaw02.TripleTexts'. -/
def tripleTextsCard : Claim7 := { stood := { row := tripleTextsRow, standIns := [], harness := (true, "6b41e9b26188e5ecf59789597ffd0def537bd402dda0a381dd56fefac717d7be"), looks := true }, kinds := [], alts := [], laidByText := true, laidKinds := [.data, .data, .data, .data, .sentinel, .sentinel, .pinned], laidTests := true, laidLooks := .later }
def TripleTextsCardSaid : Prop := Claim7.holds Tryd.pinned (.plain (OpenSpec.ofChange tripleTextsSpec)) tripleTextsCard

/-- THE TIED CARD OF 'retiarylaw02.TripleParses'. -/
def tripleParsesCard : Claim7 := { stood := { row := tripleParsesRow, standIns := [], harness := (true, "6b41e9b26188e5ecf59789597ffd0def537bd402dda0a381dd56fefac717d7be"), looks := true }, kinds := [], alts := [], laidByText := true, laidKinds := [.data, .data, .data, .data, .sentinel, .sentinel, .pinned], laidTests := true, laidLooks := .later }
def TripleParsesCardSaid : Prop := Claim7.holds Tryd.pinned (.plain (OpenSpec.ofChange tripleParsesSpec)) tripleParsesCard

/-- THE TIED CARD OF 'retiarylaw07.KeyTexts'. -/
def keyTextsCard : Claim7 := { stood := { row := keyTextsRow, standIns := [], harness := (true, "6b41e9b26188e5ecf59789597ffd0def537bd402dda0a381dd56fefac717d7be"), looks := true }, kinds := [], alts := [], laidByText := true, laidKinds := [.data, .data, .data, .data, .sentinel, .sentinel, .pinned], laidTests := true, laidLooks := .later }
def KeyTextsCardSaid : Prop := Claim7.holds Tryd.pinned (.plain (OpenSpec.ofChange keyTextsSpec)) keyTextsCard

/-- THE TIED CARD OF 'retiarylaw07.KeyParses'. -/
def keyParsesCard : Claim7 := { stood := { row := keyParsesRow, standIns := [], harness := (true, "6b41e9b26188e5ecf59789597ffd0def537bd402dda0a381dd56fefac717d7be"), looks := true }, kinds := [], alts := [], laidByText := true, laidKinds := [.data, .data, .data, .data, .sentinel, .sentinel, .pinned], laidTests := true, laidLooks := .later }
def KeyParsesCardSaid : Prop := Claim7.holds Tryd.pinned (.plain (OpenSpec.ofChange keyParsesSpec)) keyParsesCard

/-- THE TIED CARD OF 'retiarylaw02.TripleOrder'. -/
def tripleOrderCard : Claim7 := { stood := { row := tripleOrderRow, standIns := [], harness := (true, "6b41e9b26188e5ecf59789597ffd0def537bd402dda0a381dd56fefac717d7be"), looks := true }, kinds := [], alts := [], laidByText := true, laidKinds := [.data, .data, .data, .data, .sentinel, .sentinel, .pinned], laidTests := true, laidLooks := .later }
def TripleOrderCardSaid : Prop := Claim7.holds Tryd.pinned (.plain (OpenSpec.ofChange tripleOrderSpec)) tripleOrderCard

/-- THE TIED CARD OF 'retiarylaw02.TripleCompares'. -/
def tripleComparesCard : Claim7 := { stood := { row := tripleComparesRow, standIns := [], harness := (true, "6b41e9b26188e5ecf59789597ffd0def537bd402dda0a381dd56fefac717d7be"), looks := true }, kinds := [], alts := [], laidByText := true, laidKinds := [.data, .data, .data, .data, .sentinel, .sentinel, .pinned], laidTests := true, laidLooks := .later }
def TripleComparesCardSaid : Prop := Claim7.holds Tryd.pinned (.plain (OpenSpec.ofChange tripleComparesSpec)) tripleComparesCard

/-- THE TIED CARD OF 'retiarylaw02.TripleSorts'. -/
def tripleSortsCard : Claim7 := { stood := { row := tripleSortsRow, standIns := [], harness := (true, "6b41e9b26188e5ecf59789597ffd0def537bd402dda0a381dd56fefac717d7be"), looks := true }, kinds := [], alts := [], laidByText := true, laidKinds := [.data, .data, .data, .data, .sentinel, .sentinel, .pinned], laidTests := true, laidLooks := .later }
def TripleSortsCardSaid : Prop := Claim7.holds Tryd.pinned (.plain (OpenSpec.ofChange tripleSortsSpec)) tripleSortsCard

/-- THE SECOND FORM's CARD OF 'retiarylaw07.KeyFewer'. -/
def keyFewerUptoCard : Claim7 := { stood := { row := keyFewerUptoRow, standIns := [], harness := (true, "6b41e9b26188e5ecf59789597ffd0def537bd402dda0a381dd56fefac717d7be"), looks := true }, kinds := [], alts := [], laidByText := true, laidKinds := [.data, .data, .data], laidTests := true, laidLooks := .later }
def KeyFewerUptoCardSaid : Prop := Claim7.holds Tryd.pinned (.plain (OpenSpec.upto keyFewerSpec)) keyFewerUptoCard

/-- THE SECOND FORM's CARD OF 'retiarylaw07.KeyAll'. -/
def keyAllUptoCard : Claim7 := { stood := { row := keyAllUptoRow, standIns := [], harness := (true, "6b41e9b26188e5ecf59789597ffd0def537bd402dda0a381dd56fefac717d7be"), looks := true }, kinds := [], alts := [], laidByText := true, laidKinds := [.data, .data, .data], laidTests := true, laidLooks := .later }
def KeyAllUptoCardSaid : Prop := Claim7.holds Tryd.pinned (.plain (OpenSpec.upto keyAllSpec)) keyAllUptoCard

/-- THE SECOND FORM's CARD OF 'retiarylaw07.KeyOf'. -/
def keyOfUptoCard : Claim7 := { stood := { row := keyOfUptoRow, standIns := [], harness := (true, "6b41e9b26188e5ecf59789597ffd0def537bd402dda0a381dd56fefac717d7be"), looks := true }, kinds := [], alts := [], laidByText := true, laidKinds := [.data, .data, .data], laidTests := true, laidLooks := .later }
def KeyOfUptoCardSaid : Prop := Claim7.holds Tryd.pinned (.plain (OpenSpec.upto keyOfSpec)) keyOfUptoCard

/-- THE SECOND FORM's CARD OF 'retiarylaw02.TripleTexts'. -/
def tripleTextsUptoCard : Claim7 := { stood := { row := tripleTextsUptoRow, standIns := [], harness := (true, "6b41e9b26188e5ecf59789597ffd0def537bd402dda0a381dd56fefac717d7be"), looks := true }, kinds := [], alts := [], laidByText := true, laidKinds := [.data, .data, .data, .data, .sentinel, .sentinel, .pinned], laidTests := true, laidLooks := .later }
def TripleTextsUptoCardSaid : Prop := Claim7.holds Tryd.pinned (.plain (OpenSpec.upto tripleTextsSpec)) tripleTextsUptoCard

/-- THE SECOND FORM's CARD OF 'retiarylaw02.TripleParses'. -/
def tripleParsesUptoCard : Claim7 := { stood := { row := tripleParsesUptoRow, standIns := [], harness := (true, "6b41e9b26188e5ecf59789597ffd0def537bd402dda0a381dd56fefac717d7be"), looks := true }, kinds := [], alts := [], laidByText := true, laidKinds := [.data, .data, .data, .data, .sentinel, .sentinel, .pinned], laidTests := true, laidLooks := .later }
def TripleParsesUptoCardSaid : Prop := Claim7.holds Tryd.pinned (.plain (OpenSpec.upto tripleParsesSpec)) tripleParsesUptoCard

/-- THE SECOND FORM's CARD OF 'retiarylaw07.KeyTexts'. -/
def keyTextsUptoCard : Claim7 := { stood := { row := keyTextsUptoRow, standIns := [], harness := (true, "6b41e9b26188e5ecf59789597ffd0def537bd402dda0a381dd56fefac717d7be"), looks := true }, kinds := [], alts := [], laidByText := true, laidKinds := [.data, .data, .data, .data, .sentinel, .sentinel, .pinned], laidTests := true, laidLooks := .later }
def KeyTextsUptoCardSaid : Prop := Claim7.holds Tryd.pinned (.plain (OpenSpec.upto keyTextsSpec)) keyTextsUptoCard

/-- THE SECOND FORM's CARD OF 'retiarylaw07.KeyParses'. -/
def keyParsesUptoCard : Claim7 := { stood := { row := keyParsesUptoRow, standIns := [], harness := (true, "6b41e9b26188e5ecf59789597ffd0def537bd402dda0a381dd56fefac717d7be"), looks := true }, kinds := [], alts := [], laidByText := true, laidKinds := [.data, .data, .data, .data, .sentinel, .sentinel, .pinned], laidTests := true, laidLooks := .later }
def KeyParsesUptoCardSaid : Prop := Claim7.holds Tryd.pinned (.plain (OpenSpec.upto keyParsesSpec)) keyParsesUptoCard

/-- THE SECOND FORM's CARD OF 'retiarylaw02.TripleOrder'. -/
def tripleOrderUptoCard : Claim7 := { stood := { row := tripleOrderUptoRow, standIns := [], harness := (true, "6b41e9b26188e5ecf59789597ffd0def537bd402dda0a381dd56fefac717d7be"), looks := true }, kinds := [], alts := [], laidByText := true, laidKinds := [.data, .data, .data, .data, .sentinel, .sentinel, .pinned], laidTests := true, laidLooks := .later }
def TripleOrderUptoCardSaid : Prop := Claim7.holds Tryd.pinned (.plain (OpenSpec.upto tripleOrderSpec)) tripleOrderUptoCard

/-- THE SECOND FORM's CARD OF 'retiarylaw02.TripleCompares'. -/
def tripleComparesUptoCard : Claim7 := { stood := { row := tripleComparesUptoRow, standIns := [], harness := (true, "6b41e9b26188e5ecf59789597ffd0def537bd402dda0a381dd56fefac717d7be"), looks := true }, kinds := [], alts := [], laidByText := true, laidKinds := [.data, .data, .data, .data, .sentinel, .sentinel, .pinned], laidTests := true, laidLooks := .later }
def TripleComparesUptoCardSaid : Prop := Claim7.holds Tryd.pinned (.plain (OpenSpec.upto tripleComparesSpec)) tripleComparesUptoCard

/-- THE SECOND FORM's CARD OF 'retiarylaw02.TripleSorts'. -/
def tripleSortsUptoCard : Claim7 := { stood := { row := tripleSortsUptoRow, standIns := [], harness := (true, "6b41e9b26188e5ecf59789597ffd0def537bd402dda0a381dd56fefac717d7be"), looks := true }, kinds := [], alts := [], laidByText := true, laidKinds := [.data, .data, .data, .data, .sentinel, .sentinel, .pinned], laidTests := true, laidLooks := .later }
def TripleSortsUptoCardSaid : Prop := Claim7.holds Tryd.pinned (.plain (OpenSpec.upto tripleSortsSpec)) tripleSortsUptoCard
end Rows
end Go.Proofs.YtfgnpplnjgjjkaaDoor
