/-
  DERIVED. GIVEN WITH THE SEED: THE CARDS: each row of YtpnamhplhdaphaaDoorRows.lean that lists a variable, with what it lists TIED to the program's text (the seventh form; the later family's looks); each row that meets fmt, with fmt's text TOLD by the authors' own Lean function (tested against real Go, not proved from fmt's source: count such statements apart). THE CARD IS WHAT COUNTS. Prove the row's statement (the work); the ties are given (YtpnamhplhdaphaaDoorTie.lean); close each card by the builder's one call (the guide's Derived/Test/ToyasCard.lean, 'card_holds'). Laid BY PROGRAM, IN A SANDBOX (cutbox-door.mjs). By AI agents, Wed Nov 11 2026. No macro, syntax, notation, axiom, sorry.
-/
import Derived.Test.YtpnamhplhdaphaaDoorRows
import GoSem.ClaimSeven
namespace Go.Proofs.YtpnamhplhdaphaaDoor
namespace Rows

/-- THE TIED CARD OF 'aumbrylaw06.RuleChecks'. -/
def ruleChecksCard : Claim7 := { stood := { row := ruleChecksRow, standIns := [], harness := (true, "a69cda25599f7c0e54455ab27d1d7ed24930a4185b3cab28e25b474e7cb8564f"), looks := true }, kinds := [], alts := [], laidByText := true, laidKinds := [.data, .data, .data], laidTests := true, laidLooks := .later }
def RuleChecksCardSaid : Prop := Claim7.holds Tryd.pinned (.plain (OpenSpec.ofChange ruleChecksSpec)) ruleChecksCard

/-- THE TIED CARD OF 'aumbrylaw06.RuleReads'. -/
def ruleReadsCard : Claim7 := { stood := { row := ruleReadsRow, standIns := [], harness := (true, "a69cda25599f7c0e54455ab27d1d7ed24930a4185b3cab28e25b474e7cb8564f"), looks := true }, kinds := [], alts := [], laidByText := true, laidKinds := [.data, .data, .data], laidTests := true, laidLooks := .later }
def RuleReadsCardSaid : Prop := Claim7.holds Tryd.pinned (.plain (OpenSpec.ofChange ruleReadsSpec)) ruleReadsCard

/-- THE TIED CARD OF 'aumbrylaw06.RulePrints'. -/
def rulePrintsCard : Claim7 := { stood := { row := rulePrintsRow, standIns := [], harness := (true, "a69cda25599f7c0e54455ab27d1d7ed24930a4185b3cab28e25b474e7cb8564f"), looks := true }, kinds := [], alts := [], laidByText := true, laidKinds := [.data, .data, .data], laidTests := true, laidLooks := .later }
def RulePrintsCardSaid : Prop := Claim7.holds Tryd.pinned (.plain (OpenSpec.ofChange rulePrintsSpec)) rulePrintsCard

/-- THE TIED CARD OF 'aumbrylaw06.RuleBack'. -/
def ruleBackCard : Claim7 := { stood := { row := ruleBackRow, standIns := [], harness := (true, "a69cda25599f7c0e54455ab27d1d7ed24930a4185b3cab28e25b474e7cb8564f"), looks := true }, kinds := [], alts := [], laidByText := true, laidKinds := [.data, .data, .data], laidTests := true, laidLooks := .later }
def RuleBackCardSaid : Prop := Claim7.holds Tryd.pinned (.plain (OpenSpec.ofChange ruleBackSpec)) ruleBackCard

/-- THE TIED CARD OF 'aumbrylaw06.RuleApplies'. -/
def ruleAppliesCard : Claim7 := { stood := { row := ruleAppliesRow, standIns := [], harness := (true, "a69cda25599f7c0e54455ab27d1d7ed24930a4185b3cab28e25b474e7cb8564f"), looks := true }, kinds := [], alts := [], laidByText := true, laidKinds := [.data, .data, .data], laidTests := true, laidLooks := .later }
def RuleAppliesCardSaid : Prop := Claim7.holds Tryd.pinned (.plain (OpenSpec.ofChange ruleAppliesSpec)) ruleAppliesCard

/-- THE TIED CARD OF 'aumbrylaw06.RulePlain'. -/
def rulePlainCard : Claim7 := { stood := { row := rulePlainRow, standIns := [], harness := (true, "a69cda25599f7c0e54455ab27d1d7ed24930a4185b3cab28e25b474e7cb8564f"), looks := true }, kinds := [], alts := [], laidByText := true, laidKinds := [.data, .data, .data], laidTests := true, laidLooks := .later }
def RulePlainCardSaid : Prop := Claim7.holds Tryd.pinned (.plain (OpenSpec.ofChange rulePlainSpec)) rulePlainCard

/-- THE TIED CARD OF 'aumbrylaw06.RuleOwn'. -/
def ruleOwnCard : Claim7 := { stood := { row := ruleOwnRow, standIns := [], harness := (true, "a69cda25599f7c0e54455ab27d1d7ed24930a4185b3cab28e25b474e7cb8564f"), looks := true }, kinds := [], alts := [], laidByText := true, laidKinds := [.data, .data, .data], laidTests := true, laidLooks := .later }
def RuleOwnCardSaid : Prop := Claim7.holds Tryd.pinned (.plain (OpenSpec.ofChange ruleOwnSpec)) ruleOwnCard

/-- THE SECOND FORM's CARD OF 'aumbrylaw06.RuleChecks'. -/
def ruleChecksUptoCard : Claim7 := { stood := { row := ruleChecksUptoRow, standIns := [], harness := (true, "a69cda25599f7c0e54455ab27d1d7ed24930a4185b3cab28e25b474e7cb8564f"), looks := true }, kinds := [], alts := [], laidByText := true, laidKinds := [.data, .data, .data], laidTests := true, laidLooks := .later }
def RuleChecksUptoCardSaid : Prop := Claim7.holds Tryd.pinned (.plain (OpenSpec.upto ruleChecksSpec)) ruleChecksUptoCard

/-- THE SECOND FORM's CARD OF 'aumbrylaw06.RuleReads'. -/
def ruleReadsUptoCard : Claim7 := { stood := { row := ruleReadsUptoRow, standIns := [], harness := (true, "a69cda25599f7c0e54455ab27d1d7ed24930a4185b3cab28e25b474e7cb8564f"), looks := true }, kinds := [], alts := [], laidByText := true, laidKinds := [.data, .data, .data], laidTests := true, laidLooks := .later }
def RuleReadsUptoCardSaid : Prop := Claim7.holds Tryd.pinned (.plain (OpenSpec.upto ruleReadsSpec)) ruleReadsUptoCard

/-- THE SECOND FORM's CARD OF 'aumbrylaw06.RulePrints'. -/
def rulePrintsUptoCard : Claim7 := { stood := { row := rulePrintsUptoRow, standIns := [], harness := (true, "a69cda25599f7c0e54455ab27d1d7ed24930a4185b3cab28e25b474e7cb8564f"), looks := true }, kinds := [], alts := [], laidByText := true, laidKinds := [.data, .data, .data], laidTests := true, laidLooks := .later }
def RulePrintsUptoCardSaid : Prop := Claim7.holds Tryd.pinned (.plain (OpenSpec.upto rulePrintsSpec)) rulePrintsUptoCard

/-- THE SECOND FORM's CARD OF 'aumbrylaw06.RuleBack'. -/
def ruleBackUptoCard : Claim7 := { stood := { row := ruleBackUptoRow, standIns := [], harness := (true, "a69cda25599f7c0e54455ab27d1d7ed24930a4185b3cab28e25b474e7cb8564f"), looks := true }, kinds := [], alts := [], laidByText := true, laidKinds := [.data, .data, .data], laidTests := true, laidLooks := .later }
def RuleBackUptoCardSaid : Prop := Claim7.holds Tryd.pinned (.plain (OpenSpec.upto ruleBackSpec)) ruleBackUptoCard

/-- THE SECOND FORM's CARD OF 'aumbrylaw06.RuleApplies'. -/
def ruleAppliesUptoCard : Claim7 := { stood := { row := ruleAppliesUptoRow, standIns := [], harness := (true, "a69cda25599f7c0e54455ab27d1d7ed24930a4185b3cab28e25b474e7cb8564f"), looks := true }, kinds := [], alts := [], laidByText := true, laidKinds := [.data, .data, .data], laidTests := true, laidLooks := .later }
def RuleAppliesUptoCardSaid : Prop := Claim7.holds Tryd.pinned (.plain (OpenSpec.upto ruleAppliesSpec)) ruleAppliesUptoCard

/-- THE SECOND FORM's CARD OF 'aumbrylaw06.RulePlain'. -/
def rulePlainUptoCard : Claim7 := { stood := { row := rulePlainUptoRow, standIns := [], harness := (true, "a69cda25599f7c0e54455ab27d1d7ed24930a4185b3cab28e25b474e7cb8564f"), looks := true }, kinds := [], alts := [], laidByText := true, laidKinds := [.data, .data, .data], laidTests := true, laidLooks := .later }
def RulePlainUptoCardSaid : Prop := Claim7.holds Tryd.pinned (.plain (OpenSpec.upto rulePlainSpec)) rulePlainUptoCard

/-- THE SECOND FORM's CARD OF 'aumbrylaw06.RuleOwn'. -/
def ruleOwnUptoCard : Claim7 := { stood := { row := ruleOwnUptoRow, standIns := [], harness := (true, "a69cda25599f7c0e54455ab27d1d7ed24930a4185b3cab28e25b474e7cb8564f"), looks := true }, kinds := [], alts := [], laidByText := true, laidKinds := [.data, .data, .data], laidTests := true, laidLooks := .later }
def RuleOwnUptoCardSaid : Prop := Claim7.holds Tryd.pinned (.plain (OpenSpec.upto ruleOwnSpec)) ruleOwnUptoCard
end Rows
end Go.Proofs.YtpnamhplhdaphaaDoor
