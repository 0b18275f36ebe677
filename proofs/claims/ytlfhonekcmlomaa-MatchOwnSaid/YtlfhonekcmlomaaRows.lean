/-
  No cell of these rows narrows 'for every input' (looked for: loops, veiled, ifaces, maps, wideKeys, modest, calm, conditions, laid).
  DERIVED. THE GIVEN ROWS OF THIS SEAT. 6 by the template 'for every input the law returns true; each argument reads behind the call as it read before'; 0 by the template 'total and deterministic' (their statements: YtlfhonekcmlomaaTotals.lean).
  GIVEN WITH THE SEED: the statements are not yours to turn. If you find one false, say at which input.
  Laid BY PROGRAM, IN A SANDBOX (cutbox-rows.mjs): the forced cells as the released guide's own fill.sh prints them over the translation 8b0fd4d807fba3a9… (all of the seat's roots in one cut). By AI agents, Wed Nov 11 2026. No macro, syntax, notation, axiom, sorry.
-/
import Derived.Test.YtlfhonekcmlomaaChecked
import GoSem.Claim
import GoSem.ClaimJoined
import GoSem.ClaimMapViews
import Derived.JoinedTies
import Derived.KernelRfl
namespace Go.Proofs.Ytlfhonekcmlomaa
/- THE CELL 'sum', in the pinned program and in every row, IS THE sha256 OF THE DUMP (.gsa) THAT YtlfhonekcmlomaaProg.lean LOADS. Nothing in Lean hashes anything: it is a label: what it is worth is what the hold of that sum in a sandbox is worth. -/
noncomputable def Try.pinned : Pinned := { name := "ytlfhonekcmlomaa", sum := "8b0fd4d807fba3a95c4c952ec455ef2e4af8b5d043d83f8a9a6578b825cb097c", checked := Try.checked }
namespace Rows
def none {H : Type} : Left H := { results := [], args := [] }

/-- 'aumbrylaw05.MatchFinds': WHATEVER THE INPUT: true; the input reads as it did. -/
def matchFindsSpec : ChangeSpec := { name := "matchFinds", fn := fun _ => fun
  | [d1, d2] => { results := [.lit (.bool true)], args := [d1, d2] }
  | _ => none }
def matchFindsRow : OpenClaim := { program := "ytlfhonekcmlomaa", sum := "8b0fd4d807fba3a95c4c952ec455ef2e4af8b5d043d83f8a9a6578b825cb097c", func := "aumbry/aumbrylaw05.MatchFinds", spec := "matchFinds", recurses := true, apart := false }
def MatchFindsSaid : Prop := matchFindsRow.holds Try.pinned (OpenSpec.ofChange matchFindsSpec)

/-- ITS FALSE NEIGHBOUR: 'it returns false'. Refute it at one input. -/
def matchFindsWrong : ChangeSpec := { name := "matchFinds", fn := fun _ => fun
  | [d1, d2] => { results := [.lit (.bool false)], args := [d1, d2] }
  | _ => none }
def MatchFindsWrongFalsely : Prop := matchFindsRow.holds Try.pinned (OpenSpec.ofChange matchFindsWrong)

/-- 'aumbrylaw05.MatchFills': WHATEVER THE INPUT: true; the input reads as it did. -/
def matchFillsSpec : ChangeSpec := { name := "matchFills", fn := fun _ => fun
  | [d1, d2] => { results := [.lit (.bool true)], args := [d1, d2] }
  | _ => none }
def matchFillsRow : OpenClaim := { program := "ytlfhonekcmlomaa", sum := "8b0fd4d807fba3a95c4c952ec455ef2e4af8b5d043d83f8a9a6578b825cb097c", func := "aumbry/aumbrylaw05.MatchFills", spec := "matchFills", recurses := true, apart := false }
def MatchFillsSaid : Prop := matchFillsRow.holds Try.pinned (OpenSpec.ofChange matchFillsSpec)

/-- ITS FALSE NEIGHBOUR: 'it returns false'. Refute it at one input. -/
def matchFillsWrong : ChangeSpec := { name := "matchFills", fn := fun _ => fun
  | [d1, d2] => { results := [.lit (.bool false)], args := [d1, d2] }
  | _ => none }
def MatchFillsWrongFalsely : Prop := matchFillsRow.holds Try.pinned (OpenSpec.ofChange matchFillsWrong)

/-- 'aumbrylaw05.MatchBack': WHATEVER THE INPUT: true; the input reads as it did. -/
def matchBackSpec : ChangeSpec := { name := "matchBack", fn := fun _ => fun
  | [d1, d2] => { results := [.lit (.bool true)], args := [d1, d2] }
  | _ => none }
def matchBackRow : OpenClaim := { program := "ytlfhonekcmlomaa", sum := "8b0fd4d807fba3a95c4c952ec455ef2e4af8b5d043d83f8a9a6578b825cb097c", func := "aumbry/aumbrylaw05.MatchBack", spec := "matchBack", apart := false }
def MatchBackSaid : Prop := matchBackRow.holds Try.pinned (OpenSpec.ofChange matchBackSpec)

/-- ITS FALSE NEIGHBOUR: 'it returns false'. Refute it at one input. -/
def matchBackWrong : ChangeSpec := { name := "matchBack", fn := fun _ => fun
  | [d1, d2] => { results := [.lit (.bool false)], args := [d1, d2] }
  | _ => none }
def MatchBackWrongFalsely : Prop := matchBackRow.holds Try.pinned (OpenSpec.ofChange matchBackWrong)

/-- 'aumbrylaw05.MatchFilled': WHATEVER THE INPUT: true; the input reads as it did. -/
def matchFilledSpec : ChangeSpec := { name := "matchFilled", fn := fun _ => fun
  | [d1, d2] => { results := [.lit (.bool true)], args := [d1, d2] }
  | _ => none }
def matchFilledRow : OpenClaim := { program := "ytlfhonekcmlomaa", sum := "8b0fd4d807fba3a95c4c952ec455ef2e4af8b5d043d83f8a9a6578b825cb097c", func := "aumbry/aumbrylaw05.MatchFilled", spec := "matchFilled", apart := false }
def MatchFilledSaid : Prop := matchFilledRow.holds Try.pinned (OpenSpec.ofChange matchFilledSpec)

/-- ITS FALSE NEIGHBOUR: 'it returns false'. Refute it at one input. -/
def matchFilledWrong : ChangeSpec := { name := "matchFilled", fn := fun _ => fun
  | [d1, d2] => { results := [.lit (.bool false)], args := [d1, d2] }
  | _ => none }
def MatchFilledWrongFalsely : Prop := matchFilledRow.holds Try.pinned (OpenSpec.ofChange matchFilledWrong)

/-- 'aumbrylaw05.MatchChain': WHATEVER THE INPUT: true; the input reads as it did. -/
def matchChainSpec : ChangeSpec := { name := "matchChain", fn := fun _ => fun
  | [d1, d2, d3] => { results := [.lit (.bool true)], args := [d1, d2, d3] }
  | _ => none }
def matchChainRow : OpenClaim := { program := "ytlfhonekcmlomaa", sum := "8b0fd4d807fba3a95c4c952ec455ef2e4af8b5d043d83f8a9a6578b825cb097c", func := "aumbry/aumbrylaw05.MatchChain", spec := "matchChain", apart := false }
def MatchChainSaid : Prop := matchChainRow.holds Try.pinned (OpenSpec.ofChange matchChainSpec)

/-- ITS FALSE NEIGHBOUR: 'it returns false'. Refute it at one input. -/
def matchChainWrong : ChangeSpec := { name := "matchChain", fn := fun _ => fun
  | [d1, d2, d3] => { results := [.lit (.bool false)], args := [d1, d2, d3] }
  | _ => none }
def MatchChainWrongFalsely : Prop := matchChainRow.holds Try.pinned (OpenSpec.ofChange matchChainWrong)

/-- 'aumbrylaw05.MatchOwn': WHATEVER THE INPUT: true; the input reads as it did. -/
def matchOwnSpec : ChangeSpec := { name := "matchOwn", fn := fun _ => fun
  | [d1, d2, d3] => { results := [.lit (.bool true)], args := [d1, d2, d3] }
  | _ => none }
def matchOwnRow : OpenClaim := { program := "ytlfhonekcmlomaa", sum := "8b0fd4d807fba3a95c4c952ec455ef2e4af8b5d043d83f8a9a6578b825cb097c", func := "aumbry/aumbrylaw05.MatchOwn", spec := "matchOwn", apart := false }
def MatchOwnSaid : Prop := matchOwnRow.holds Try.pinned (OpenSpec.ofChange matchOwnSpec)

/-- ITS FALSE NEIGHBOUR: 'it returns false'. Refute it at one input. -/
def matchOwnWrong : ChangeSpec := { name := "matchOwn", fn := fun _ => fun
  | [d1, d2, d3] => { results := [.lit (.bool false)], args := [d1, d2, d3] }
  | _ => none }
def MatchOwnWrongFalsely : Prop := matchOwnRow.holds Try.pinned (OpenSpec.ofChange matchOwnWrong)

/- THE SECOND FORM. 'bulk': how many values and letters a reading holds, each counted each time it is reached (what is shared counts as often as it is met; a slice's spare places count too). A statement '..UptoSaid' is the law's where the arguments, and the package variables that the reading takes, are together of bulk at most 1048576: NARROWER than '..Said'. Prove '..Said' where nothing that the law and all that it calls make is longer than what came in: it says more and counts as full. Else prove '..UptoSaid'. A law counts once. -/
mutual
def uptoBulk {H : Type} : DataW H → Nat
  | .lit (.string bytes) => bytes.length + 1
  | .lit _ => 1
  | .nil => 1
  | .ptr d => uptoBulk d + 1
  | .slice elems spare => uptoBulkAll elems + uptoBulkAll spare + 1
  | .agg parts => uptoBulkAll parts + 1
  | .iface _ d => uptoBulk d + 1
  | .map entries => uptoBulkEntries entries + 1
  | .held _ => 1
def uptoBulkAll {H : Type} : List (DataW H) → Nat
  | [] => 0
  | d :: r => uptoBulk d + uptoBulkAll r
def uptoBulkEntries {H : Type} : List (Lit × DataW H) → Nat
  | [] => 0
  | x :: r => uptoBulkEntry x + uptoBulkEntries r
def uptoBulkEntry {H : Type} : Lit × DataW H → Nat
  | (.string bytes, d) => bytes.length + uptoBulk d + 1
  | (_, d) => uptoBulk d + 1
 end
def uptoSmall : (H : Type) → List (DataW H) → Bool := fun _ ds => decide (uptoBulkAll ds ≤ 1048576)
def OpenSpec.upto (s : _root_.Go.ChangeSpec) : _root_.Go.OpenSpec := { _root_.Go.OpenSpec.ofChange s with cond := some uptoSmall }

/-- 'aumbrylaw05.MatchFinds', WHERE WHAT IT READS IS OF BULK AT MOST 1048576: true; the input reads as it did. -/
def matchFindsUptoRow : OpenClaim := { program := "ytlfhonekcmlomaa", sum := "8b0fd4d807fba3a95c4c952ec455ef2e4af8b5d043d83f8a9a6578b825cb097c", func := "aumbry/aumbrylaw05.MatchFinds", spec := "matchFinds", recurses := true, apart := false, narrowed := true }
def MatchFindsUptoSaid : Prop := matchFindsUptoRow.holds Try.pinned (OpenSpec.upto matchFindsSpec)

/-- 'aumbrylaw05.MatchFills', WHERE WHAT IT READS IS OF BULK AT MOST 1048576: true; the input reads as it did. -/
def matchFillsUptoRow : OpenClaim := { program := "ytlfhonekcmlomaa", sum := "8b0fd4d807fba3a95c4c952ec455ef2e4af8b5d043d83f8a9a6578b825cb097c", func := "aumbry/aumbrylaw05.MatchFills", spec := "matchFills", recurses := true, apart := false, narrowed := true }
def MatchFillsUptoSaid : Prop := matchFillsUptoRow.holds Try.pinned (OpenSpec.upto matchFillsSpec)

/-- 'aumbrylaw05.MatchBack', WHERE WHAT IT READS IS OF BULK AT MOST 1048576: true; the input reads as it did. -/
def matchBackUptoRow : OpenClaim := { program := "ytlfhonekcmlomaa", sum := "8b0fd4d807fba3a95c4c952ec455ef2e4af8b5d043d83f8a9a6578b825cb097c", func := "aumbry/aumbrylaw05.MatchBack", spec := "matchBack", apart := false, narrowed := true }
def MatchBackUptoSaid : Prop := matchBackUptoRow.holds Try.pinned (OpenSpec.upto matchBackSpec)

/-- 'aumbrylaw05.MatchFilled', WHERE WHAT IT READS IS OF BULK AT MOST 1048576: true; the input reads as it did. -/
def matchFilledUptoRow : OpenClaim := { program := "ytlfhonekcmlomaa", sum := "8b0fd4d807fba3a95c4c952ec455ef2e4af8b5d043d83f8a9a6578b825cb097c", func := "aumbry/aumbrylaw05.MatchFilled", spec := "matchFilled", apart := false, narrowed := true }
def MatchFilledUptoSaid : Prop := matchFilledUptoRow.holds Try.pinned (OpenSpec.upto matchFilledSpec)

/-- 'aumbrylaw05.MatchChain', WHERE WHAT IT READS IS OF BULK AT MOST 1048576: true; the input reads as it did. -/
def matchChainUptoRow : OpenClaim := { program := "ytlfhonekcmlomaa", sum := "8b0fd4d807fba3a95c4c952ec455ef2e4af8b5d043d83f8a9a6578b825cb097c", func := "aumbry/aumbrylaw05.MatchChain", spec := "matchChain", apart := false, narrowed := true }
def MatchChainUptoSaid : Prop := matchChainUptoRow.holds Try.pinned (OpenSpec.upto matchChainSpec)

/-- 'aumbrylaw05.MatchOwn', WHERE WHAT IT READS IS OF BULK AT MOST 1048576: true; the input reads as it did. -/
def matchOwnUptoRow : OpenClaim := { program := "ytlfhonekcmlomaa", sum := "8b0fd4d807fba3a95c4c952ec455ef2e4af8b5d043d83f8a9a6578b825cb097c", func := "aumbry/aumbrylaw05.MatchOwn", spec := "matchOwn", apart := false, narrowed := true }
def MatchOwnUptoSaid : Prop := matchOwnUptoRow.holds Try.pinned (OpenSpec.upto matchOwnSpec)

end Rows
end Go.Proofs.Ytlfhonekcmlomaa
