/-
  No cell of these rows narrows 'for every input' (looked for: loops, veiled, ifaces, maps, wideKeys, modest, calm, conditions, laid).
  DERIVED. THE GIVEN ROWS OF THIS SEAT. 7 by the template 'for every input the law returns true; each argument reads behind the call as it read before'; 0 by the template 'total and deterministic' (their statements: YtcmnpjgmpgjbdaaTotals.lean).
  GIVEN WITH THE SEED: the statements are not yours to turn. If you find one false, say at which input.
  Laid BY PROGRAM, IN A SANDBOX (cutbox-rows.mjs): the forced cells as the released guide's own fill.sh prints them over the translation e542aaf7fb2f2937… (all of the seat's roots in one cut). By AI agents, Wed Nov 11 2026. No macro, syntax, notation, axiom, sorry.
-/
import Derived.Test.YtcmnpjgmpgjbdaaChecked
import GoSem.Claim
import GoSem.ClaimJoined
import GoSem.ClaimMapViews
import Derived.JoinedTies
import Derived.KernelRfl
namespace Go.Proofs.Ytcmnpjgmpgjbdaa
/- THE CELL 'sum', in the pinned program and in every row, IS THE sha256 OF THE DUMP (.gsa) THAT YtcmnpjgmpgjbdaaProg.lean LOADS. Nothing in Lean hashes anything: it is a label: what it is worth is what the hold of that sum in a sandbox is worth. -/
noncomputable def Try.pinned : Pinned := { name := "ytcmnpjgmpgjbdaa", sum := "e542aaf7fb2f293731e4bb26db92afd0bad8331dcccc40f18d65450c5d37f5f6", checked := Try.checked }
namespace Rows
def none {H : Type} : Left H := { results := [], args := [] }

/-- 'aumbrylaw04.TermChecks': WHATEVER THE INPUT: true; the input reads as it did. -/
def termChecksSpec : ChangeSpec := { name := "termChecks", fn := fun _ => fun
  | [d] => { results := [.lit (.bool true)], args := [d] }
  | _ => none }
def termChecksRow : OpenClaim := { program := "ytcmnpjgmpgjbdaa", sum := "e542aaf7fb2f293731e4bb26db92afd0bad8331dcccc40f18d65450c5d37f5f6", func := "aumbry/aumbrylaw04.TermChecks", spec := "termChecks", inPlace := ["internal/abi.NoEscape"], unfollowed := true, recurses := true, apart := false }
def TermChecksSaid : Prop := termChecksRow.holds Try.pinned (OpenSpec.ofChange termChecksSpec)

/-- ITS FALSE NEIGHBOUR: 'it returns false'. Refute it at one input. -/
def termChecksWrong : ChangeSpec := { name := "termChecks", fn := fun _ => fun
  | [d] => { results := [.lit (.bool false)], args := [d] }
  | _ => none }
def TermChecksWrongFalsely : Prop := termChecksRow.holds Try.pinned (OpenSpec.ofChange termChecksWrong)

/-- 'aumbrylaw04.TermReads': WHATEVER THE INPUT: true; the input reads as it did. -/
def termReadsSpec : ChangeSpec := { name := "termReads", fn := fun _ => fun
  | [d] => { results := [.lit (.bool true)], args := [d] }
  | _ => none }
def termReadsRow : OpenClaim := { program := "ytcmnpjgmpgjbdaa", sum := "e542aaf7fb2f293731e4bb26db92afd0bad8331dcccc40f18d65450c5d37f5f6", func := "aumbry/aumbrylaw04.TermReads", spec := "termReads", inPlace := ["internal/abi.NoEscape"], unfollowed := true, recurses := true, apart := false }
def TermReadsSaid : Prop := termReadsRow.holds Try.pinned (OpenSpec.ofChange termReadsSpec)

/-- ITS FALSE NEIGHBOUR: 'it returns false'. Refute it at one input. -/
def termReadsWrong : ChangeSpec := { name := "termReads", fn := fun _ => fun
  | [d] => { results := [.lit (.bool false)], args := [d] }
  | _ => none }
def TermReadsWrongFalsely : Prop := termReadsRow.holds Try.pinned (OpenSpec.ofChange termReadsWrong)

/-- 'aumbrylaw04.TermBack': WHATEVER THE INPUT: true; the input reads as it did. -/
def termBackSpec : ChangeSpec := { name := "termBack", fn := fun _ => fun
  | [d1, d2] => { results := [.lit (.bool true)], args := [d1, d2] }
  | _ => none }
def termBackRow : OpenClaim := { program := "ytcmnpjgmpgjbdaa", sum := "e542aaf7fb2f293731e4bb26db92afd0bad8331dcccc40f18d65450c5d37f5f6", func := "aumbry/aumbrylaw04.TermBack", spec := "termBack", inPlace := ["internal/abi.NoEscape"], unfollowed := true, recurses := true, apart := false }
def TermBackSaid : Prop := termBackRow.holds Try.pinned (OpenSpec.ofChange termBackSpec)

/-- ITS FALSE NEIGHBOUR: 'it returns false'. Refute it at one input. -/
def termBackWrong : ChangeSpec := { name := "termBack", fn := fun _ => fun
  | [d1, d2] => { results := [.lit (.bool false)], args := [d1, d2] }
  | _ => none }
def TermBackWrongFalsely : Prop := termBackRow.holds Try.pinned (OpenSpec.ofChange termBackWrong)

/-- 'aumbrylaw04.TermEnds': WHATEVER THE INPUT: true; the input reads as it did. -/
def termEndsSpec : ChangeSpec := { name := "termEnds", fn := fun _ => fun
  | [d1, d2] => { results := [.lit (.bool true)], args := [d1, d2] }
  | _ => none }
def termEndsRow : OpenClaim := { program := "ytcmnpjgmpgjbdaa", sum := "e542aaf7fb2f293731e4bb26db92afd0bad8331dcccc40f18d65450c5d37f5f6", func := "aumbry/aumbrylaw04.TermEnds", spec := "termEnds", inPlace := ["internal/abi.NoEscape"], unfollowed := true, recurses := true, apart := false }
def TermEndsSaid : Prop := termEndsRow.holds Try.pinned (OpenSpec.ofChange termEndsSpec)

/-- ITS FALSE NEIGHBOUR: 'it returns false'. Refute it at one input. -/
def termEndsWrong : ChangeSpec := { name := "termEnds", fn := fun _ => fun
  | [d1, d2] => { results := [.lit (.bool false)], args := [d1, d2] }
  | _ => none }
def TermEndsWrongFalsely : Prop := termEndsRow.holds Try.pinned (OpenSpec.ofChange termEndsWrong)

/-- 'aumbrylaw04.TermMakes': WHATEVER THE INPUT: true; the input reads as it did. -/
def termMakesSpec : ChangeSpec := { name := "termMakes", fn := fun _ => fun
  | [d1, d2, d3] => { results := [.lit (.bool true)], args := [d1, d2, d3] }
  | _ => none }
def termMakesRow : OpenClaim := { program := "ytcmnpjgmpgjbdaa", sum := "e542aaf7fb2f293731e4bb26db92afd0bad8331dcccc40f18d65450c5d37f5f6", func := "aumbry/aumbrylaw04.TermMakes", spec := "termMakes", inPlace := ["internal/abi.NoEscape"], unfollowed := true, recurses := true, apart := false }
def TermMakesSaid : Prop := termMakesRow.holds Try.pinned (OpenSpec.ofChange termMakesSpec)

/-- ITS FALSE NEIGHBOUR: 'it returns false'. Refute it at one input. -/
def termMakesWrong : ChangeSpec := { name := "termMakes", fn := fun _ => fun
  | [d1, d2, d3] => { results := [.lit (.bool false)], args := [d1, d2, d3] }
  | _ => none }
def TermMakesWrongFalsely : Prop := termMakesRow.holds Try.pinned (OpenSpec.ofChange termMakesWrong)

/-- 'aumbrylaw04.TermOwn': WHATEVER THE INPUT: true; the input reads as it did. -/
def termOwnSpec : ChangeSpec := { name := "termOwn", fn := fun _ => fun
  | [d1, d2] => { results := [.lit (.bool true)], args := [d1, d2] }
  | _ => none }
def termOwnRow : OpenClaim := { program := "ytcmnpjgmpgjbdaa", sum := "e542aaf7fb2f293731e4bb26db92afd0bad8331dcccc40f18d65450c5d37f5f6", func := "aumbry/aumbrylaw04.TermOwn", spec := "termOwn", inPlace := ["internal/abi.NoEscape"], unfollowed := true, recurses := true, apart := false }
def TermOwnSaid : Prop := termOwnRow.holds Try.pinned (OpenSpec.ofChange termOwnSpec)

/-- ITS FALSE NEIGHBOUR: 'it returns false'. Refute it at one input. -/
def termOwnWrong : ChangeSpec := { name := "termOwn", fn := fun _ => fun
  | [d1, d2] => { results := [.lit (.bool false)], args := [d1, d2] }
  | _ => none }
def TermOwnWrongFalsely : Prop := termOwnRow.holds Try.pinned (OpenSpec.ofChange termOwnWrong)

/-- 'aumbrylaw04.TermPrints': WHATEVER THE INPUT: true; the input reads as it did. -/
def termPrintsSpec : ChangeSpec := { name := "termPrints", fn := fun _ => fun
  | [d] => { results := [.lit (.bool true)], args := [d] }
  | _ => none }
def termPrintsRow : OpenClaim := { program := "ytcmnpjgmpgjbdaa", sum := "e542aaf7fb2f293731e4bb26db92afd0bad8331dcccc40f18d65450c5d37f5f6", func := "aumbry/aumbrylaw04.TermPrints", spec := "termPrints", inPlace := ["internal/abi.NoEscape"], unfollowed := true, recurses := true, apart := false }
def TermPrintsSaid : Prop := termPrintsRow.holds Try.pinned (OpenSpec.ofChange termPrintsSpec)

/-- ITS FALSE NEIGHBOUR: 'it returns false'. Refute it at one input. -/
def termPrintsWrong : ChangeSpec := { name := "termPrints", fn := fun _ => fun
  | [d] => { results := [.lit (.bool false)], args := [d] }
  | _ => none }
def TermPrintsWrongFalsely : Prop := termPrintsRow.holds Try.pinned (OpenSpec.ofChange termPrintsWrong)

/- THE SECOND FORM. 'bulk': how many values and letters a reading holds, each counted each time it is reached (what is shared counts as often as it is met; a slice's spare places count too). A statement '..UptoSaid' is the law's where the arguments, and the package variables that the reading takes, are together of bulk at most 1048576: NARROWER than '..Said'. Prove '..Said' where nothing that the law and all that it calls make is longer than what came in: it says more and counts as full. Else prove '..UptoSaid'. A law counts once. -/
mutual
def uptoBulk {H : Type} : DataW H → Nat
  | .lit (.string bytes) => bytes.length + 1
  | .lit _ => 1
  | .nil => 1
  | .ptr d => uptoBulk d + 1
  | .slice elems spare => uptoBulkAll elems + uptoBulkAll spare + 1
  | .agg parts => uptoBulkAll parts + 1
  | .iface _ d => uptoBulk d + 1
  | .map entries => uptoBulkEntries entries + 1
  | .held _ => 1
def uptoBulkAll {H : Type} : List (DataW H) → Nat
  | [] => 0
  | d :: r => uptoBulk d + uptoBulkAll r
def uptoBulkEntries {H : Type} : List (Lit × DataW H) → Nat
  | [] => 0
  | x :: r => uptoBulkEntry x + uptoBulkEntries r
def uptoBulkEntry {H : Type} : Lit × DataW H → Nat
  | (.string bytes, d) => bytes.length + uptoBulk d + 1
  | (_, d) => uptoBulk d + 1
 end
def uptoSmall : (H : Type) → List (DataW H) → Bool := fun _ ds => decide (uptoBulkAll ds ≤ 1048576)
def OpenSpec.upto (s : _root_.Go.ChangeSpec) : _root_.Go.OpenSpec := { _root_.Go.OpenSpec.ofChange s with cond := some uptoSmall }

/-- 'aumbrylaw04.TermChecks', WHERE WHAT IT READS IS OF BULK AT MOST 1048576: true; the input reads as it did. -/
def termChecksUptoRow : OpenClaim := { program := "ytcmnpjgmpgjbdaa", sum := "e542aaf7fb2f293731e4bb26db92afd0bad8331dcccc40f18d65450c5d37f5f6", func := "aumbry/aumbrylaw04.TermChecks", spec := "termChecks", inPlace := ["internal/abi.NoEscape"], unfollowed := true, recurses := true, apart := false, narrowed := true }
def TermChecksUptoSaid : Prop := termChecksUptoRow.holds Try.pinned (OpenSpec.upto termChecksSpec)

/-- 'aumbrylaw04.TermReads', WHERE WHAT IT READS IS OF BULK AT MOST 1048576: true; the input reads as it did. -/
def termReadsUptoRow : OpenClaim := { program := "ytcmnpjgmpgjbdaa", sum := "e542aaf7fb2f293731e4bb26db92afd0bad8331dcccc40f18d65450c5d37f5f6", func := "aumbry/aumbrylaw04.TermReads", spec := "termReads", inPlace := ["internal/abi.NoEscape"], unfollowed := true, recurses := true, apart := false, narrowed := true }
def TermReadsUptoSaid : Prop := termReadsUptoRow.holds Try.pinned (OpenSpec.upto termReadsSpec)

/-- 'aumbrylaw04.TermBack', WHERE WHAT IT READS IS OF BULK AT MOST 1048576: true; the input reads as it did. -/
def termBackUptoRow : OpenClaim := { program := "ytcmnpjgmpgjbdaa", sum := "e542aaf7fb2f293731e4bb26db92afd0bad8331dcccc40f18d65450c5d37f5f6", func := "aumbry/aumbrylaw04.TermBack", spec := "termBack", inPlace := ["internal/abi.NoEscape"], unfollowed := true, recurses := true, apart := false, narrowed := true }
def TermBackUptoSaid : Prop := termBackUptoRow.holds Try.pinned (OpenSpec.upto termBackSpec)

/-- 'aumbrylaw04.TermEnds', WHERE WHAT IT READS IS OF BULK AT MOST 1048576: true; the input reads as it did. -/
def termEndsUptoRow : OpenClaim := { program := "ytcmnpjgmpgjbdaa", sum := "e542aaf7fb2f293731e4bb26db92afd0bad8331dcccc40f18d65450c5d37f5f6", func := "aumbry/aumbrylaw04.TermEnds", spec := "termEnds", inPlace := ["internal/abi.NoEscape"], unfollowed := true, recurses := true, apart := false, narrowed := true }
def TermEndsUptoSaid : Prop := termEndsUptoRow.holds Try.pinned (OpenSpec.upto termEndsSpec)

/-- 'aumbrylaw04.TermMakes', WHERE WHAT IT READS IS OF BULK AT MOST 1048576: true; the input reads as it did. -/
def termMakesUptoRow : OpenClaim := { program := "ytcmnpjgmpgjbdaa", sum := "e542aaf7fb2f293731e4bb26db92afd0bad8331dcccc40f18d65450c5d37f5f6", func := "aumbry/aumbrylaw04.TermMakes", spec := "termMakes", inPlace := ["internal/abi.NoEscape"], unfollowed := true, recurses := true, apart := false, narrowed := true }
def TermMakesUptoSaid : Prop := termMakesUptoRow.holds Try.pinned (OpenSpec.upto termMakesSpec)

/-- 'aumbrylaw04.TermOwn', WHERE WHAT IT READS IS OF BULK AT MOST 1048576: true; the input reads as it did. -/
def termOwnUptoRow : OpenClaim := { program := "ytcmnpjgmpgjbdaa", sum := "e542aaf7fb2f293731e4bb26db92afd0bad8331dcccc40f18d65450c5d37f5f6", func := "aumbry/aumbrylaw04.TermOwn", spec := "termOwn", inPlace := ["internal/abi.NoEscape"], unfollowed := true, recurses := true, apart := false, narrowed := true }
def TermOwnUptoSaid : Prop := termOwnUptoRow.holds Try.pinned (OpenSpec.upto termOwnSpec)

/-- 'aumbrylaw04.TermPrints', WHERE WHAT IT READS IS OF BULK AT MOST 1048576: true; the input reads as it did. -/
def termPrintsUptoRow : OpenClaim := { program := "ytcmnpjgmpgjbdaa", sum := "e542aaf7fb2f293731e4bb26db92afd0bad8331dcccc40f18d65450c5d37f5f6", func := "aumbry/aumbrylaw04.TermPrints", spec := "termPrints", inPlace := ["internal/abi.NoEscape"], unfollowed := true, recurses := true, apart := false, narrowed := true }
def TermPrintsUptoSaid : Prop := termPrintsUptoRow.holds Try.pinned (OpenSpec.upto termPrintsSpec)

end Rows
end Go.Proofs.Ytcmnpjgmpgjbdaa
