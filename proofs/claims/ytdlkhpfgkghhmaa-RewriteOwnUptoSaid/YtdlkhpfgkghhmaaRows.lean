/-
  No cell of these rows narrows 'for every input' (looked for: loops, veiled, ifaces, maps, wideKeys, modest, calm, conditions, laid).
  DERIVED. THE GIVEN ROWS OF THIS SEAT. 8 by the template 'for every input the law returns true; each argument reads behind the call as it read before'; 0 by the template 'total and deterministic' (their statements: YtdlkhpfgkghhmaaTotals.lean).
  GIVEN WITH THE SEED: the statements are not yours to turn. If you find one false, say at which input.
  Laid BY PROGRAM, IN A SANDBOX (cutbox-rows.mjs): the forced cells as the released guide's own fill.sh prints them over the translation 9b9396bf4414d63c… (all of the seat's roots in one cut). By AI agents, Wed Nov 11 2026. No macro, syntax, notation, axiom, sorry.
-/
import Derived.Test.YtdlkhpfgkghhmaaChecked
import GoSem.Claim
import GoSem.ClaimJoined
import GoSem.ClaimMapViews
import Derived.JoinedTies
import Derived.KernelRfl
namespace Go.Proofs.Ytdlkhpfgkghhmaa
/- THE CELL 'sum', in the pinned program and in every row, IS THE sha256 OF THE DUMP (.gsa) THAT YtdlkhpfgkghhmaaProg.lean LOADS. Nothing in Lean hashes anything: it is a label: what it is worth is what the hold of that sum in a sandbox is worth. -/
noncomputable def Try.pinned : Pinned := { name := "ytdlkhpfgkghhmaa", sum := "9b9396bf4414d63c92301a4cbb3d2e70d53340f62e626a70e61958b60770b284", checked := Try.checked }
namespace Rows
def none {H : Type} : Left H := { results := [], args := [] }

/-- 'aumbrylaw07.RewriteStarts': WHATEVER THE INPUT: true; the input reads as it did. -/
def rewriteStartsSpec : ChangeSpec := { name := "rewriteStarts", fn := fun _ => fun
  | [d1, d2] => { results := [.lit (.bool true)], args := [d1, d2] }
  | _ => none }
def rewriteStartsRow : OpenClaim := { program := "ytdlkhpfgkghhmaa", sum := "9b9396bf4414d63c92301a4cbb3d2e70d53340f62e626a70e61958b60770b284", func := "aumbry/aumbrylaw07.RewriteStarts", spec := "rewriteStarts", inPlace := ["slices.overlaps[string]"], unfollowed := true, recurses := true, apart := false }
def RewriteStartsSaid : Prop := rewriteStartsRow.holds Try.pinned (OpenSpec.ofChange rewriteStartsSpec)

/-- ITS FALSE NEIGHBOUR: 'it returns false'. Refute it at one input. -/
def rewriteStartsWrong : ChangeSpec := { name := "rewriteStarts", fn := fun _ => fun
  | [d1, d2] => { results := [.lit (.bool false)], args := [d1, d2] }
  | _ => none }
def RewriteStartsWrongFalsely : Prop := rewriteStartsRow.holds Try.pinned (OpenSpec.ofChange rewriteStartsWrong)

/-- 'aumbrylaw07.RewriteRuns': WHATEVER THE INPUT: true; the input reads as it did. -/
def rewriteRunsSpec : ChangeSpec := { name := "rewriteRuns", fn := fun _ => fun
  | [d1, d2, d3] => { results := [.lit (.bool true)], args := [d1, d2, d3] }
  | _ => none }
def rewriteRunsRow : OpenClaim := { program := "ytdlkhpfgkghhmaa", sum := "9b9396bf4414d63c92301a4cbb3d2e70d53340f62e626a70e61958b60770b284", func := "aumbry/aumbrylaw07.RewriteRuns", spec := "rewriteRuns", inPlace := ["slices.overlaps[string]"], unfollowed := true, recurses := true, apart := false }
def RewriteRunsSaid : Prop := rewriteRunsRow.holds Try.pinned (OpenSpec.ofChange rewriteRunsSpec)

/-- ITS FALSE NEIGHBOUR: 'it returns false'. Refute it at one input. -/
def rewriteRunsWrong : ChangeSpec := { name := "rewriteRuns", fn := fun _ => fun
  | [d1, d2, d3] => { results := [.lit (.bool false)], args := [d1, d2, d3] }
  | _ => none }
def RewriteRunsWrongFalsely : Prop := rewriteRunsRow.holds Try.pinned (OpenSpec.ofChange rewriteRunsWrong)

/-- 'aumbrylaw07.RewriteTables': WHATEVER THE INPUT: true; the input reads as it did. -/
def rewriteTablesSpec : ChangeSpec := { name := "rewriteTables", fn := fun _ => fun
  | [d1, d2, d3] => { results := [.lit (.bool true)], args := [d1, d2, d3] }
  | _ => none }
def rewriteTablesRow : OpenClaim := { program := "ytdlkhpfgkghhmaa", sum := "9b9396bf4414d63c92301a4cbb3d2e70d53340f62e626a70e61958b60770b284", func := "aumbry/aumbrylaw07.RewriteTables", spec := "rewriteTables", inPlace := ["slices.overlaps[string]"], unfollowed := true, recurses := true, apart := false }
def RewriteTablesSaid : Prop := rewriteTablesRow.holds Try.pinned (OpenSpec.ofChange rewriteTablesSpec)

/-- ITS FALSE NEIGHBOUR: 'it returns false'. Refute it at one input. -/
def rewriteTablesWrong : ChangeSpec := { name := "rewriteTables", fn := fun _ => fun
  | [d1, d2, d3] => { results := [.lit (.bool false)], args := [d1, d2, d3] }
  | _ => none }
def RewriteTablesWrongFalsely : Prop := rewriteTablesRow.holds Try.pinned (OpenSpec.ofChange rewriteTablesWrong)

/-- 'aumbrylaw07.RewriteInner': WHATEVER THE INPUT: true; the input reads as it did. -/
def rewriteInnerSpec : ChangeSpec := { name := "rewriteInner", fn := fun _ => fun
  | [d1, d2, d3] => { results := [.lit (.bool true)], args := [d1, d2, d3] }
  | _ => none }
def rewriteInnerRow : OpenClaim := { program := "ytdlkhpfgkghhmaa", sum := "9b9396bf4414d63c92301a4cbb3d2e70d53340f62e626a70e61958b60770b284", func := "aumbry/aumbrylaw07.RewriteInner", spec := "rewriteInner", inPlace := ["slices.overlaps[string]"], unfollowed := true, recurses := true, apart := false }
def RewriteInnerSaid : Prop := rewriteInnerRow.holds Try.pinned (OpenSpec.ofChange rewriteInnerSpec)

/-- ITS FALSE NEIGHBOUR: 'it returns false'. Refute it at one input. -/
def rewriteInnerWrong : ChangeSpec := { name := "rewriteInner", fn := fun _ => fun
  | [d1, d2, d3] => { results := [.lit (.bool false)], args := [d1, d2, d3] }
  | _ => none }
def RewriteInnerWrongFalsely : Prop := rewriteInnerRow.holds Try.pinned (OpenSpec.ofChange rewriteInnerWrong)

/-- 'aumbrylaw07.RewriteDone': WHATEVER THE INPUT: true; the input reads as it did. -/
def rewriteDoneSpec : ChangeSpec := { name := "rewriteDone", fn := fun _ => fun
  | [d1, d2, d3] => { results := [.lit (.bool true)], args := [d1, d2, d3] }
  | _ => none }
def rewriteDoneRow : OpenClaim := { program := "ytdlkhpfgkghhmaa", sum := "9b9396bf4414d63c92301a4cbb3d2e70d53340f62e626a70e61958b60770b284", func := "aumbry/aumbrylaw07.RewriteDone", spec := "rewriteDone", inPlace := ["slices.overlaps[string]"], unfollowed := true, recurses := true, apart := false }
def RewriteDoneSaid : Prop := rewriteDoneRow.holds Try.pinned (OpenSpec.ofChange rewriteDoneSpec)

/-- ITS FALSE NEIGHBOUR: 'it returns false'. Refute it at one input. -/
def rewriteDoneWrong : ChangeSpec := { name := "rewriteDone", fn := fun _ => fun
  | [d1, d2, d3] => { results := [.lit (.bool false)], args := [d1, d2, d3] }
  | _ => none }
def RewriteDoneWrongFalsely : Prop := rewriteDoneRow.holds Try.pinned (OpenSpec.ofChange rewriteDoneWrong)

/-- 'aumbrylaw07.RewriteSlices': WHATEVER THE INPUT: true; the input reads as it did. -/
def rewriteSlicesSpec : ChangeSpec := { name := "rewriteSlices", fn := fun _ => fun
  | [d1, d2, d3] => { results := [.lit (.bool true)], args := [d1, d2, d3] }
  | _ => none }
def rewriteSlicesRow : OpenClaim := { program := "ytdlkhpfgkghhmaa", sum := "9b9396bf4414d63c92301a4cbb3d2e70d53340f62e626a70e61958b60770b284", func := "aumbry/aumbrylaw07.RewriteSlices", spec := "rewriteSlices", inPlace := ["slices.overlaps[string]"], unfollowed := true, recurses := true, apart := false }
def RewriteSlicesSaid : Prop := rewriteSlicesRow.holds Try.pinned (OpenSpec.ofChange rewriteSlicesSpec)

/-- ITS FALSE NEIGHBOUR: 'it returns false'. Refute it at one input. -/
def rewriteSlicesWrong : ChangeSpec := { name := "rewriteSlices", fn := fun _ => fun
  | [d1, d2, d3] => { results := [.lit (.bool false)], args := [d1, d2, d3] }
  | _ => none }
def RewriteSlicesWrongFalsely : Prop := rewriteSlicesRow.holds Try.pinned (OpenSpec.ofChange rewriteSlicesWrong)

/-- 'aumbrylaw07.RewriteKnown': WHATEVER THE INPUT: true; the input reads as it did. -/
def rewriteKnownSpec : ChangeSpec := { name := "rewriteKnown", fn := fun _ => fun
  | [d1, d2, d3] => { results := [.lit (.bool true)], args := [d1, d2, d3] }
  | _ => none }
def rewriteKnownRow : OpenClaim := { program := "ytdlkhpfgkghhmaa", sum := "9b9396bf4414d63c92301a4cbb3d2e70d53340f62e626a70e61958b60770b284", func := "aumbry/aumbrylaw07.RewriteKnown", spec := "rewriteKnown", inPlace := ["slices.overlaps[string]"], unfollowed := true, recurses := true, apart := false }
def RewriteKnownSaid : Prop := rewriteKnownRow.holds Try.pinned (OpenSpec.ofChange rewriteKnownSpec)

/-- ITS FALSE NEIGHBOUR: 'it returns false'. Refute it at one input. -/
def rewriteKnownWrong : ChangeSpec := { name := "rewriteKnown", fn := fun _ => fun
  | [d1, d2, d3] => { results := [.lit (.bool false)], args := [d1, d2, d3] }
  | _ => none }
def RewriteKnownWrongFalsely : Prop := rewriteKnownRow.holds Try.pinned (OpenSpec.ofChange rewriteKnownWrong)

/-- 'aumbrylaw07.RewriteOwn': WHATEVER THE INPUT: true; the input reads as it did. -/
def rewriteOwnSpec : ChangeSpec := { name := "rewriteOwn", fn := fun _ => fun
  | [d1, d2, d3] => { results := [.lit (.bool true)], args := [d1, d2, d3] }
  | _ => none }
def rewriteOwnRow : OpenClaim := { program := "ytdlkhpfgkghhmaa", sum := "9b9396bf4414d63c92301a4cbb3d2e70d53340f62e626a70e61958b60770b284", func := "aumbry/aumbrylaw07.RewriteOwn", spec := "rewriteOwn", inPlace := ["slices.overlaps[string]"], unfollowed := true, recurses := true, apart := false }
def RewriteOwnSaid : Prop := rewriteOwnRow.holds Try.pinned (OpenSpec.ofChange rewriteOwnSpec)

/-- ITS FALSE NEIGHBOUR: 'it returns false'. Refute it at one input. -/
def rewriteOwnWrong : ChangeSpec := { name := "rewriteOwn", fn := fun _ => fun
  | [d1, d2, d3] => { results := [.lit (.bool false)], args := [d1, d2, d3] }
  | _ => none }
def RewriteOwnWrongFalsely : Prop := rewriteOwnRow.holds Try.pinned (OpenSpec.ofChange rewriteOwnWrong)

/- THE SECOND FORM. 'bulk': how many values and letters a reading holds, each counted each time it is reached (what is shared counts as often as it is met; a slice's spare places count too). A statement '..UptoSaid' is the law's where the arguments, and the package variables that the reading takes, are together of bulk at most 1048576: NARROWER than '..Said'. Prove '..Said' where nothing that the law and all that it calls make is longer than what came in: it says more and counts as full. Else prove '..UptoSaid'. A law counts once. -/
mutual
def uptoBulk {H : Type} : DataW H → Nat
  | .lit (.string bytes) => bytes.length + 1
  | .lit _ => 1
  | .nil => 1
  | .ptr d => uptoBulk d + 1
  | .slice elems spare => uptoBulkAll elems + uptoBulkAll spare + 1
  | .agg parts => uptoBulkAll parts + 1
  | .iface _ d => uptoBulk d + 1
  | .map entries => uptoBulkEntries entries + 1
  | .held _ => 1
def uptoBulkAll {H : Type} : List (DataW H) → Nat
  | [] => 0
  | d :: r => uptoBulk d + uptoBulkAll r
def uptoBulkEntries {H : Type} : List (Lit × DataW H) → Nat
  | [] => 0
  | x :: r => uptoBulkEntry x + uptoBulkEntries r
def uptoBulkEntry {H : Type} : Lit × DataW H → Nat
  | (.string bytes, d) => bytes.length + uptoBulk d + 1
  | (_, d) => uptoBulk d + 1
 end
def uptoSmall : (H : Type) → List (DataW H) → Bool := fun _ ds => decide (uptoBulkAll ds ≤ 1048576)
def OpenSpec.upto (s : _root_.Go.ChangeSpec) : _root_.Go.OpenSpec := { _root_.Go.OpenSpec.ofChange s with cond := some uptoSmall }

/-- 'aumbrylaw07.RewriteStarts', WHERE WHAT IT READS IS OF BULK AT MOST 1048576: true; the input reads as it did. -/
def rewriteStartsUptoRow : OpenClaim := { program := "ytdlkhpfgkghhmaa", sum := "9b9396bf4414d63c92301a4cbb3d2e70d53340f62e626a70e61958b60770b284", func := "aumbry/aumbrylaw07.RewriteStarts", spec := "rewriteStarts", inPlace := ["slices.overlaps[string]"], unfollowed := true, recurses := true, apart := false, narrowed := true }
def RewriteStartsUptoSaid : Prop := rewriteStartsUptoRow.holds Try.pinned (OpenSpec.upto rewriteStartsSpec)

/-- 'aumbrylaw07.RewriteRuns', WHERE WHAT IT READS IS OF BULK AT MOST 1048576: true; the input reads as it did. -/
def rewriteRunsUptoRow : OpenClaim := { program := "ytdlkhpfgkghhmaa", sum := "9b9396bf4414d63c92301a4cbb3d2e70d53340f62e626a70e61958b60770b284", func := "aumbry/aumbrylaw07.RewriteRuns", spec := "rewriteRuns", inPlace := ["slices.overlaps[string]"], unfollowed := true, recurses := true, apart := false, narrowed := true }
def RewriteRunsUptoSaid : Prop := rewriteRunsUptoRow.holds Try.pinned (OpenSpec.upto rewriteRunsSpec)

/-- 'aumbrylaw07.RewriteTables', WHERE WHAT IT READS IS OF BULK AT MOST 1048576: true; the input reads as it did. -/
def rewriteTablesUptoRow : OpenClaim := { program := "ytdlkhpfgkghhmaa", sum := "9b9396bf4414d63c92301a4cbb3d2e70d53340f62e626a70e61958b60770b284", func := "aumbry/aumbrylaw07.RewriteTables", spec := "rewriteTables", inPlace := ["slices.overlaps[string]"], unfollowed := true, recurses := true, apart := false, narrowed := true }
def RewriteTablesUptoSaid : Prop := rewriteTablesUptoRow.holds Try.pinned (OpenSpec.upto rewriteTablesSpec)

/-- 'aumbrylaw07.RewriteInner', WHERE WHAT IT READS IS OF BULK AT MOST 1048576: true; the input reads as it did. -/
def rewriteInnerUptoRow : OpenClaim := { program := "ytdlkhpfgkghhmaa", sum := "9b9396bf4414d63c92301a4cbb3d2e70d53340f62e626a70e61958b60770b284", func := "aumbry/aumbrylaw07.RewriteInner", spec := "rewriteInner", inPlace := ["slices.overlaps[string]"], unfollowed := true, recurses := true, apart := false, narrowed := true }
def RewriteInnerUptoSaid : Prop := rewriteInnerUptoRow.holds Try.pinned (OpenSpec.upto rewriteInnerSpec)

/-- 'aumbrylaw07.RewriteDone', WHERE WHAT IT READS IS OF BULK AT MOST 1048576: true; the input reads as it did. -/
def rewriteDoneUptoRow : OpenClaim := { program := "ytdlkhpfgkghhmaa", sum := "9b9396bf4414d63c92301a4cbb3d2e70d53340f62e626a70e61958b60770b284", func := "aumbry/aumbrylaw07.RewriteDone", spec := "rewriteDone", inPlace := ["slices.overlaps[string]"], unfollowed := true, recurses := true, apart := false, narrowed := true }
def RewriteDoneUptoSaid : Prop := rewriteDoneUptoRow.holds Try.pinned (OpenSpec.upto rewriteDoneSpec)

/-- 'aumbrylaw07.RewriteSlices', WHERE WHAT IT READS IS OF BULK AT MOST 1048576: true; the input reads as it did. -/
def rewriteSlicesUptoRow : OpenClaim := { program := "ytdlkhpfgkghhmaa", sum := "9b9396bf4414d63c92301a4cbb3d2e70d53340f62e626a70e61958b60770b284", func := "aumbry/aumbrylaw07.RewriteSlices", spec := "rewriteSlices", inPlace := ["slices.overlaps[string]"], unfollowed := true, recurses := true, apart := false, narrowed := true }
def RewriteSlicesUptoSaid : Prop := rewriteSlicesUptoRow.holds Try.pinned (OpenSpec.upto rewriteSlicesSpec)

/-- 'aumbrylaw07.RewriteKnown', WHERE WHAT IT READS IS OF BULK AT MOST 1048576: true; the input reads as it did. -/
def rewriteKnownUptoRow : OpenClaim := { program := "ytdlkhpfgkghhmaa", sum := "9b9396bf4414d63c92301a4cbb3d2e70d53340f62e626a70e61958b60770b284", func := "aumbry/aumbrylaw07.RewriteKnown", spec := "rewriteKnown", inPlace := ["slices.overlaps[string]"], unfollowed := true, recurses := true, apart := false, narrowed := true }
def RewriteKnownUptoSaid : Prop := rewriteKnownUptoRow.holds Try.pinned (OpenSpec.upto rewriteKnownSpec)

/-- 'aumbrylaw07.RewriteOwn', WHERE WHAT IT READS IS OF BULK AT MOST 1048576: true; the input reads as it did. -/
def rewriteOwnUptoRow : OpenClaim := { program := "ytdlkhpfgkghhmaa", sum := "9b9396bf4414d63c92301a4cbb3d2e70d53340f62e626a70e61958b60770b284", func := "aumbry/aumbrylaw07.RewriteOwn", spec := "rewriteOwn", inPlace := ["slices.overlaps[string]"], unfollowed := true, recurses := true, apart := false, narrowed := true }
def RewriteOwnUptoSaid : Prop := rewriteOwnUptoRow.holds Try.pinned (OpenSpec.upto rewriteOwnSpec)

end Rows
end Go.Proofs.Ytdlkhpfgkghhmaa
