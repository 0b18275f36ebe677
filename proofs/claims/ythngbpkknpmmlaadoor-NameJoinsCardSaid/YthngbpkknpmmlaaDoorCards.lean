/-
  DERIVED. GIVEN WITH THE SEED: THE CARDS: each row of YthngbpkknpmmlaaDoorRows.lean that lists a variable, with what it lists TIED to the program's text (the seventh form; the later family's looks); each row that meets fmt, with fmt's text TOLD by the authors' own Lean function (tested against real Go, not proved from fmt's source: count such statements apart). THE CARD IS WHAT COUNTS. Prove the row's statement (the work); the ties are given (YthngbpkknpmmlaaDoorTie.lean); close each card by the builder's one call (the guide's Derived/Test/ToyasCard.lean, 'card_holds'). Laid BY PROGRAM, IN A SANDBOX (cutbox-door.mjs). By AI agents, Wed Nov 11 2026. No macro, syntax, notation, axiom, sorry.
-/
import Derived.Test.YthngbpkknpmmlaaDoorRows
import GoSem.ClaimSeven
namespace Go.Proofs.YthngbpkknpmmlaaDoor
namespace Rows

/-- THE TIED CARD OF 'aumbrylaw03.NameKinds'. -/
def nameKindsCard : Claim7 := { stood := { row := nameKindsRow, standIns := [], harness := (true, "b1e3a09bebe123729a942d1069f7480fe1a4574797382bc780dc392642a9374a"), looks := true }, kinds := [], alts := [], laidByText := true, laidKinds := [.data, .data, .data, .sentinel, .sentinel], laidTests := true, laidLooks := .later }
def NameKindsCardSaid : Prop := Claim7.holds Tryd.pinned (.plain (OpenSpec.ofChange nameKindsSpec)) nameKindsCard

/-- THE TIED CARD OF 'aumbrylaw03.NameWords'. -/
def nameWordsCard : Claim7 := { stood := { row := nameWordsRow, standIns := [], harness := (true, "b1e3a09bebe123729a942d1069f7480fe1a4574797382bc780dc392642a9374a"), looks := true }, kinds := [], alts := [], laidByText := true, laidKinds := [.data, .data, .data, .sentinel, .sentinel], laidTests := true, laidLooks := .later }
def NameWordsCardSaid : Prop := Claim7.holds Tryd.pinned (.plain (OpenSpec.ofChange nameWordsSpec)) nameWordsCard

/-- THE TIED CARD OF 'aumbrylaw03.NameNumbers'. -/
def nameNumbersCard : Claim7 := { stood := { row := nameNumbersRow, standIns := [], harness := (true, "b1e3a09bebe123729a942d1069f7480fe1a4574797382bc780dc392642a9374a"), looks := true }, kinds := [], alts := [], laidByText := true, laidKinds := [.data, .data, .data, .sentinel, .sentinel], laidTests := true, laidLooks := .later }
def NameNumbersCardSaid : Prop := Claim7.holds Tryd.pinned (.plain (OpenSpec.ofChange nameNumbersSpec)) nameNumbersCard

/-- THE TIED CARD OF 'aumbrylaw03.NameBack'. -/
def nameBackCard : Claim7 := { stood := { row := nameBackRow, standIns := [], harness := (true, "b1e3a09bebe123729a942d1069f7480fe1a4574797382bc780dc392642a9374a"), looks := true }, kinds := [], alts := [], laidByText := true, laidKinds := [.data, .data, .data, .sentinel, .sentinel], laidTests := true, laidLooks := .later }
def NameBackCardSaid : Prop := Claim7.holds Tryd.pinned (.plain (OpenSpec.ofChange nameBackSpec)) nameBackCard

/-- THE TIED CARD OF 'aumbrylaw03.NameJoins'. -/
def nameJoinsCard : Claim7 := { stood := { row := nameJoinsRow, standIns := [], harness := (true, "b1e3a09bebe123729a942d1069f7480fe1a4574797382bc780dc392642a9374a"), looks := true }, kinds := [], alts := [], laidByText := true, laidKinds := [.data, .data, .data, .sentinel, .sentinel], laidTests := true, laidLooks := .later }
def NameJoinsCardSaid : Prop := Claim7.holds Tryd.pinned (.plain (OpenSpec.ofChange nameJoinsSpec)) nameJoinsCard

/-- THE TIED CARD OF 'aumbrylaw03.NameApart'. -/
def nameApartCard : Claim7 := { stood := { row := nameApartRow, standIns := [], harness := (true, "b1e3a09bebe123729a942d1069f7480fe1a4574797382bc780dc392642a9374a"), looks := true }, kinds := [], alts := [], laidByText := true, laidKinds := [.data, .data, .data, .sentinel, .sentinel], laidTests := true, laidLooks := .later }
def NameApartCardSaid : Prop := Claim7.holds Tryd.pinned (.plain (OpenSpec.ofChange nameApartSpec)) nameApartCard

/-- THE SECOND FORM's CARD OF 'aumbrylaw03.NameKinds'. -/
def nameKindsUptoCard : Claim7 := { stood := { row := nameKindsUptoRow, standIns := [], harness := (true, "b1e3a09bebe123729a942d1069f7480fe1a4574797382bc780dc392642a9374a"), looks := true }, kinds := [], alts := [], laidByText := true, laidKinds := [.data, .data, .data, .sentinel, .sentinel], laidTests := true, laidLooks := .later }
def NameKindsUptoCardSaid : Prop := Claim7.holds Tryd.pinned (.plain (OpenSpec.upto nameKindsSpec)) nameKindsUptoCard

/-- THE SECOND FORM's CARD OF 'aumbrylaw03.NameWords'. -/
def nameWordsUptoCard : Claim7 := { stood := { row := nameWordsUptoRow, standIns := [], harness := (true, "b1e3a09bebe123729a942d1069f7480fe1a4574797382bc780dc392642a9374a"), looks := true }, kinds := [], alts := [], laidByText := true, laidKinds := [.data, .data, .data, .sentinel, .sentinel], laidTests := true, laidLooks := .later }
def NameWordsUptoCardSaid : Prop := Claim7.holds Tryd.pinned (.plain (OpenSpec.upto nameWordsSpec)) nameWordsUptoCard

/-- THE SECOND FORM's CARD OF 'aumbrylaw03.NameNumbers'. -/
def nameNumbersUptoCard : Claim7 := { stood := { row := nameNumbersUptoRow, standIns := [], harness := (true, "b1e3a09bebe123729a942d1069f7480fe1a4574797382bc780dc392642a9374a"), looks := true }, kinds := [], alts := [], laidByText := true, laidKinds := [.data, .data, .data, .sentinel, .sentinel], laidTests := true, laidLooks := .later }
def NameNumbersUptoCardSaid : Prop := Claim7.holds Tryd.pinned (.plain (OpenSpec.upto nameNumbersSpec)) nameNumbersUptoCard

/-- THE SECOND FORM's CARD OF 'aumbrylaw03.NameBack'. -/
def nameBackUptoCard : Claim7 := { stood := { row := nameBackUptoRow, standIns := [], harness := (true, "b1e3a09bebe123729a942d1069f7480fe1a4574797382bc780dc392642a9374a"), looks := true }, kinds := [], alts := [], laidByText := true, laidKinds := [.data, .data, .data, .sentinel, .sentinel], laidTests := true, laidLooks := .later }
def NameBackUptoCardSaid : Prop := Claim7.holds Tryd.pinned (.plain (OpenSpec.upto nameBackSpec)) nameBackUptoCard

/-- THE SECOND FORM's CARD OF 'aumbrylaw03.NameJoins'. -/
def nameJoinsUptoCard : Claim7 := { stood := { row := nameJoinsUptoRow, standIns := [], harness := (true, "b1e3a09bebe123729a942d1069f7480fe1a4574797382bc780dc392642a9374a"), looks := true }, kinds := [], alts := [], laidByText := true, laidKinds := [.data, .data, .data, .sentinel, .sentinel], laidTests := true, laidLooks := .later }
def NameJoinsUptoCardSaid : Prop := Claim7.holds Tryd.pinned (.plain (OpenSpec.upto nameJoinsSpec)) nameJoinsUptoCard

/-- THE SECOND FORM's CARD OF 'aumbrylaw03.NameApart'. -/
def nameApartUptoCard : Claim7 := { stood := { row := nameApartUptoRow, standIns := [], harness := (true, "b1e3a09bebe123729a942d1069f7480fe1a4574797382bc780dc392642a9374a"), looks := true }, kinds := [], alts := [], laidByText := true, laidKinds := [.data, .data, .data, .sentinel, .sentinel], laidTests := true, laidLooks := .later }
def NameApartUptoCardSaid : Prop := Claim7.holds Tryd.pinned (.plain (OpenSpec.upto nameApartSpec)) nameApartUptoCard
end Rows
end Go.Proofs.YthngbpkknpmmlaaDoor
