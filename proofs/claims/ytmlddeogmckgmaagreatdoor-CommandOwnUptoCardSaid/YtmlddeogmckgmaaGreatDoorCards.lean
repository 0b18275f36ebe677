/-
  DERIVED. GIVEN WITH THE SEED: THE CARDS: each row of YtmlddeogmckgmaaGreatDoorRows.lean that lists a variable, with what it lists TIED to the program's text (the seventh form; the later family's looks); each row that meets fmt, with fmt's text TOLD by the authors' own Lean function (tested against real Go, not proved from fmt's source: count such statements apart). THE CARD IS WHAT COUNTS. Prove the row's statement (the work); the ties are given (YtmlddeogmckgmaaGreatDoorTie.lean); close each card by the builder's one call (the guide's Derived/Test/ToyasCard.lean, 'card_holds'). Laid BY PROGRAM, IN A SANDBOX (cutbox-door.mjs). By AI agents, Wed Nov 11 2026. No macro, syntax, notation, axiom, sorry.
-/
import Derived.Test.YtmlddeogmckgmaaGreatDoorRows
import GoSem.ClaimSeven
namespace Go.Proofs.YtmlddeogmckgmaaGreatDoor
namespace Rows

/-- THE TIED CARD OF 'aumbrylaw22.CommandReads'. -/
def commandReadsCard : Claim7 := { stood := { row := commandReadsRow, standIns := [], harness := (true, "844f35debf31eb306e1da1389df1d8010103e993bda95cd9b825388eaaec75c1"), looks := true }, kinds := [], alts := [], laidByText := true, laidKinds := [.data, .data, .data, .sentinel, .sentinel, .listed, .data, .data], laidTests := true, laidLooks := .later }
def CommandReadsCardSaid : Prop := Claim7.holds Tryz.pinned (.plain (OpenSpec.ofChange commandReadsSpec)) commandReadsCard

/-- THE TIED CARD OF 'aumbrylaw22.CommandPrints'. -/
def commandPrintsCard : Claim7 := { stood := { row := commandPrintsRow, standIns := [], harness := (true, "844f35debf31eb306e1da1389df1d8010103e993bda95cd9b825388eaaec75c1"), looks := true }, kinds := [], alts := [], laidByText := true, laidKinds := [.data, .data, .data, .sentinel, .sentinel, .listed, .data, .data], laidTests := true, laidLooks := .later }
def CommandPrintsCardSaid : Prop := Claim7.holds Tryz.pinned (.plain (OpenSpec.ofChange commandPrintsSpec)) commandPrintsCard

/-- THE TIED CARD OF 'aumbrylaw22.CommandBack'. -/
def commandBackCard : Claim7 := { stood := { row := commandBackRow, standIns := [], harness := (true, "844f35debf31eb306e1da1389df1d8010103e993bda95cd9b825388eaaec75c1"), looks := true }, kinds := [], alts := [], laidByText := true, laidKinds := [.data, .data, .data, .sentinel, .sentinel, .listed, .data, .data], laidTests := true, laidLooks := .later }
def CommandBackCardSaid : Prop := Claim7.holds Tryz.pinned (.plain (OpenSpec.ofChange commandBackSpec)) commandBackCard

/-- THE TIED CARD OF 'aumbrylaw22.CommandBlanks'. -/
def commandBlanksCard : Claim7 := { stood := { row := commandBlanksRow, standIns := [], harness := (true, "844f35debf31eb306e1da1389df1d8010103e993bda95cd9b825388eaaec75c1"), looks := true }, kinds := [], alts := [], laidByText := true, laidKinds := [.data, .data, .data, .sentinel, .sentinel, .listed, .data, .data], laidTests := true, laidLooks := .later }
def CommandBlanksCardSaid : Prop := Claim7.holds Tryz.pinned (.plain (OpenSpec.ofChange commandBlanksSpec)) commandBlanksCard

/-- THE TIED CARD OF 'aumbrylaw22.CommandOwn'. -/
def commandOwnCard : Claim7 := { stood := { row := commandOwnRow, standIns := [], harness := (true, "844f35debf31eb306e1da1389df1d8010103e993bda95cd9b825388eaaec75c1"), looks := true }, kinds := [], alts := [], laidByText := true, laidKinds := [.data, .data, .data, .sentinel, .sentinel, .listed, .data, .data], laidTests := true, laidLooks := .later }
def CommandOwnCardSaid : Prop := Claim7.holds Tryz.pinned (.plain (OpenSpec.ofChange commandOwnSpec)) commandOwnCard

/-- THE SECOND FORM's CARD OF 'aumbrylaw22.CommandReads'. -/
def commandReadsUptoCard : Claim7 := { stood := { row := commandReadsUptoRow, standIns := [], harness := (true, "844f35debf31eb306e1da1389df1d8010103e993bda95cd9b825388eaaec75c1"), looks := true }, kinds := [], alts := [], laidByText := true, laidKinds := [.data, .data, .data, .sentinel, .sentinel, .listed, .data, .data], laidTests := true, laidLooks := .later }
def CommandReadsUptoCardSaid : Prop := Claim7.holds Tryz.pinned (.plain (OpenSpec.upto commandReadsSpec)) commandReadsUptoCard

/-- THE SECOND FORM's CARD OF 'aumbrylaw22.CommandPrints'. -/
def commandPrintsUptoCard : Claim7 := { stood := { row := commandPrintsUptoRow, standIns := [], harness := (true, "844f35debf31eb306e1da1389df1d8010103e993bda95cd9b825388eaaec75c1"), looks := true }, kinds := [], alts := [], laidByText := true, laidKinds := [.data, .data, .data, .sentinel, .sentinel, .listed, .data, .data], laidTests := true, laidLooks := .later }
def CommandPrintsUptoCardSaid : Prop := Claim7.holds Tryz.pinned (.plain (OpenSpec.upto commandPrintsSpec)) commandPrintsUptoCard

/-- THE SECOND FORM's CARD OF 'aumbrylaw22.CommandBack'. -/
def commandBackUptoCard : Claim7 := { stood := { row := commandBackUptoRow, standIns := [], harness := (true, "844f35debf31eb306e1da1389df1d8010103e993bda95cd9b825388eaaec75c1"), looks := true }, kinds := [], alts := [], laidByText := true, laidKinds := [.data, .data, .data, .sentinel, .sentinel, .listed, .data, .data], laidTests := true, laidLooks := .later }
def CommandBackUptoCardSaid : Prop := Claim7.holds Tryz.pinned (.plain (OpenSpec.upto commandBackSpec)) commandBackUptoCard

/-- THE SECOND FORM's CARD OF 'aumbrylaw22.CommandBlanks'. -/
def commandBlanksUptoCard : Claim7 := { stood := { row := commandBlanksUptoRow, standIns := [], harness := (true, "844f35debf31eb306e1da1389df1d8010103e993bda95cd9b825388eaaec75c1"), looks := true }, kinds := [], alts := [], laidByText := true, laidKinds := [.data, .data, .data, .sentinel, .sentinel, .listed, .data, .data], laidTests := true, laidLooks := .later }
def CommandBlanksUptoCardSaid : Prop := Claim7.holds Tryz.pinned (.plain (OpenSpec.upto commandBlanksSpec)) commandBlanksUptoCard

/-- THE SECOND FORM's CARD OF 'aumbrylaw22.CommandOwn'. -/
def commandOwnUptoCard : Claim7 := { stood := { row := commandOwnUptoRow, standIns := [], harness := (true, "844f35debf31eb306e1da1389df1d8010103e993bda95cd9b825388eaaec75c1"), looks := true }, kinds := [], alts := [], laidByText := true, laidKinds := [.data, .data, .data, .sentinel, .sentinel, .listed, .data, .data], laidTests := true, laidLooks := .later }
def CommandOwnUptoCardSaid : Prop := Claim7.holds Tryz.pinned (.plain (OpenSpec.upto commandOwnSpec)) commandOwnUptoCard
end Rows
end Go.Proofs.YtmlddeogmckgmaaGreatDoor
