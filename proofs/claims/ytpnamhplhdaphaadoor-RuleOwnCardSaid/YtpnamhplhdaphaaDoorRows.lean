/-
  NARROWER THAN 'FOR EVERY INPUT', by the rows' own cells (each row's printed sentence says how): RuleChecks: laid · RuleReads: laid · RulePrints: laid · RuleBack: laid · RuleApplies: laid · RulePlain: laid · RuleOwn: laid.
  DERIVED. THE GIVEN ROWS OF THIS SEAT. 7 by the template 'for every input the law returns true; each argument reads behind the call as it read before'; 0 by the template 'total and deterministic' (their statements: YtpnamhplhdaphaaDoorTotals.lean).
  GIVEN WITH THE SEED: the statements are not yours to turn. If you find one false, say at which input.
  Laid BY PROGRAM, IN A SANDBOX (cutbox-rows.mjs): the forced cells as the released guide's own fill.sh prints them over the translation b9b0e74f1171371c… (all of the seat's roots in one cut). By AI agents, Wed Nov 11 2026. No macro, syntax, notation, axiom, sorry.
-/
import Derived.Test.YtpnamhplhdaphaaDoorChecked
import GoSem.Claim
import GoSem.ClaimJoined
import GoSem.ClaimMapViews
import Derived.JoinedTies
import Derived.KernelRfl
namespace Go.Proofs.YtpnamhplhdaphaaDoor
/- THE CELL 'sum', in the pinned program and in every row, IS THE sha256 OF THE DUMP (.gsa) THAT YtpnamhplhdaphaaDoorProg.lean LOADS. Nothing in Lean hashes anything: it is a label: what it is worth is what the hold of that sum in a sandbox is worth. -/
noncomputable def Tryd.pinned : Pinned := { name := "ytpnamhplhdaphaadoor", sum := "b9b0e74f1171371c73d8adb77eaab487b891cced06c019f5ffc820dfe9b84365", checked := Tryd.checked }
namespace Rows
def none {H : Type} : Left H := { results := [], args := [] }

/- WHAT THE LISTED PACKAGE-LEVEL VARIABLES READ AS WHEN THE CALL BEGINS. Each datum BY PROGRAM (the guide's laid-datum.mjs) off the statement by which the dump's own 'gosem.cut.vars' lays the variable. In a bare row this is a premise. The card (YtpnamhplhdaphaaDoorCards.lean) ties it to the program's text. -/
def laid_math_bits_deBruijn32tab {H : Type} : DataW H := .agg [.lit (.int .u8 0), .lit (.int .u8 1), .lit (.int .u8 28), .lit (.int .u8 2), .lit (.int .u8 29), .lit (.int .u8 14), .lit (.int .u8 24), .lit (.int .u8 3), .lit (.int .u8 30), .lit (.int .u8 22), .lit (.int .u8 20), .lit (.int .u8 15), .lit (.int .u8 25), .lit (.int .u8 17), .lit (.int .u8 4), .lit (.int .u8 8), .lit (.int .u8 31), .lit (.int .u8 27), .lit (.int .u8 13), .lit (.int .u8 23), .lit (.int .u8 21), .lit (.int .u8 19), .lit (.int .u8 16), .lit (.int .u8 7), .lit (.int .u8 26), .lit (.int .u8 12), .lit (.int .u8 18), .lit (.int .u8 6), .lit (.int .u8 11), .lit (.int .u8 5), .lit (.int .u8 10), .lit (.int .u8 9)]
def laid_math_bits_deBruijn64tab {H : Type} : DataW H := .agg [.lit (.int .u8 0), .lit (.int .u8 1), .lit (.int .u8 56), .lit (.int .u8 2), .lit (.int .u8 57), .lit (.int .u8 49), .lit (.int .u8 28), .lit (.int .u8 3), .lit (.int .u8 61), .lit (.int .u8 58), .lit (.int .u8 42), .lit (.int .u8 50), .lit (.int .u8 38), .lit (.int .u8 29), .lit (.int .u8 17), .lit (.int .u8 4), .lit (.int .u8 62), .lit (.int .u8 47), .lit (.int .u8 59), .lit (.int .u8 36), .lit (.int .u8 45), .lit (.int .u8 43), .lit (.int .u8 51), .lit (.int .u8 22), .lit (.int .u8 53), .lit (.int .u8 39), .lit (.int .u8 33), .lit (.int .u8 30), .lit (.int .u8 24), .lit (.int .u8 18), .lit (.int .u8 12), .lit (.int .u8 5), .lit (.int .u8 63), .lit (.int .u8 55), .lit (.int .u8 48), .lit (.int .u8 27), .lit (.int .u8 60), .lit (.int .u8 41), .lit (.int .u8 37), .lit (.int .u8 16), .lit (.int .u8 46), .lit (.int .u8 35), .lit (.int .u8 44), .lit (.int .u8 21), .lit (.int .u8 52), .lit (.int .u8 32), .lit (.int .u8 23), .lit (.int .u8 11), .lit (.int .u8 54), .lit (.int .u8 26), .lit (.int .u8 40), .lit (.int .u8 15), .lit (.int .u8 34), .lit (.int .u8 20), .lit (.int .u8 31), .lit (.int .u8 10), .lit (.int .u8 25), .lit (.int .u8 14), .lit (.int .u8 19), .lit (.int .u8 9), .lit (.int .u8 13), .lit (.int .u8 8), .lit (.int .u8 7), .lit (.int .u8 6)]
def laid_internal_strconv_uint64pow10 {H : Type} : DataW H := .agg [.lit (.int .u64 1), .lit (.int .u64 10), .lit (.int .u64 100), .lit (.int .u64 1000), .lit (.int .u64 10000), .lit (.int .u64 100000), .lit (.int .u64 1000000), .lit (.int .u64 10000000), .lit (.int .u64 100000000), .lit (.int .u64 1000000000), .lit (.int .u64 10000000000), .lit (.int .u64 100000000000), .lit (.int .u64 1000000000000), .lit (.int .u64 10000000000000), .lit (.int .u64 100000000000000), .lit (.int .u64 1000000000000000), .lit (.int .u64 10000000000000000), .lit (.int .u64 100000000000000000), .lit (.int .u64 1000000000000000000), .lit (.int .u64 10000000000000000000)]

/-- 'aumbrylaw06.RuleChecks': WHATEVER THE INPUT: true; the input reads as it did. -/
def ruleChecksSpec : ChangeSpec := { name := "ruleChecks", fn := fun _ => fun
  | [d] => { results := [.lit (.bool true)], args := [d] }
  | _ => none }
def ruleChecksRow : OpenClaim := { program := "ytpnamhplhdaphaadoor", sum := "b9b0e74f1171371c73d8adb77eaab487b891cced06c019f5ffc820dfe9b84365", func := "aumbry/aumbrylaw06.RuleChecks", spec := "ruleChecks", inPlace := ["internal/abi.NoEscape"], unfollowed := true, recurses := true, named := ["internal/strconv.uint64pow10", "math/bits.deBruijn32tab", "math/bits.deBruijn64tab"], apart := false, laid := [("math/bits.deBruijn32tab", laid_math_bits_deBruijn32tab), ("math/bits.deBruijn64tab", laid_math_bits_deBruijn64tab), ("internal/strconv.uint64pow10", laid_internal_strconv_uint64pow10)] }
def RuleChecksSaid : Prop := ruleChecksRow.holds Tryd.pinned (OpenSpec.ofChange ruleChecksSpec)

/-- ITS FALSE NEIGHBOUR: 'it returns false'. Refute it at one input. -/
def ruleChecksWrong : ChangeSpec := { name := "ruleChecks", fn := fun _ => fun
  | [d] => { results := [.lit (.bool false)], args := [d] }
  | _ => none }
def RuleChecksWrongFalsely : Prop := ruleChecksRow.holds Tryd.pinned (OpenSpec.ofChange ruleChecksWrong)

/-- 'aumbrylaw06.RuleReads': WHATEVER THE INPUT: true; the input reads as it did. -/
def ruleReadsSpec : ChangeSpec := { name := "ruleReads", fn := fun _ => fun
  | [d1, d2] => { results := [.lit (.bool true)], args := [d1, d2] }
  | _ => none }
def ruleReadsRow : OpenClaim := { program := "ytpnamhplhdaphaadoor", sum := "b9b0e74f1171371c73d8adb77eaab487b891cced06c019f5ffc820dfe9b84365", func := "aumbry/aumbrylaw06.RuleReads", spec := "ruleReads", inPlace := ["internal/abi.NoEscape"], unfollowed := true, recurses := true, named := ["internal/strconv.uint64pow10", "math/bits.deBruijn32tab", "math/bits.deBruijn64tab"], apart := false, laid := [("math/bits.deBruijn32tab", laid_math_bits_deBruijn32tab), ("math/bits.deBruijn64tab", laid_math_bits_deBruijn64tab), ("internal/strconv.uint64pow10", laid_internal_strconv_uint64pow10)] }
def RuleReadsSaid : Prop := ruleReadsRow.holds Tryd.pinned (OpenSpec.ofChange ruleReadsSpec)

/-- ITS FALSE NEIGHBOUR: 'it returns false'. Refute it at one input. -/
def ruleReadsWrong : ChangeSpec := { name := "ruleReads", fn := fun _ => fun
  | [d1, d2] => { results := [.lit (.bool false)], args := [d1, d2] }
  | _ => none }
def RuleReadsWrongFalsely : Prop := ruleReadsRow.holds Tryd.pinned (OpenSpec.ofChange ruleReadsWrong)

/-- 'aumbrylaw06.RulePrints': WHATEVER THE INPUT: true; the input reads as it did. -/
def rulePrintsSpec : ChangeSpec := { name := "rulePrints", fn := fun _ => fun
  | [d] => { results := [.lit (.bool true)], args := [d] }
  | _ => none }
def rulePrintsRow : OpenClaim := { program := "ytpnamhplhdaphaadoor", sum := "b9b0e74f1171371c73d8adb77eaab487b891cced06c019f5ffc820dfe9b84365", func := "aumbry/aumbrylaw06.RulePrints", spec := "rulePrints", inPlace := ["internal/abi.NoEscape"], unfollowed := true, recurses := true, named := ["internal/strconv.uint64pow10", "math/bits.deBruijn32tab", "math/bits.deBruijn64tab"], apart := false, laid := [("math/bits.deBruijn32tab", laid_math_bits_deBruijn32tab), ("math/bits.deBruijn64tab", laid_math_bits_deBruijn64tab), ("internal/strconv.uint64pow10", laid_internal_strconv_uint64pow10)] }
def RulePrintsSaid : Prop := rulePrintsRow.holds Tryd.pinned (OpenSpec.ofChange rulePrintsSpec)

/-- ITS FALSE NEIGHBOUR: 'it returns false'. Refute it at one input. -/
def rulePrintsWrong : ChangeSpec := { name := "rulePrints", fn := fun _ => fun
  | [d] => { results := [.lit (.bool false)], args := [d] }
  | _ => none }
def RulePrintsWrongFalsely : Prop := rulePrintsRow.holds Tryd.pinned (OpenSpec.ofChange rulePrintsWrong)

/-- 'aumbrylaw06.RuleBack': WHATEVER THE INPUT: true; the input reads as it did. -/
def ruleBackSpec : ChangeSpec := { name := "ruleBack", fn := fun _ => fun
  | [d1, d2] => { results := [.lit (.bool true)], args := [d1, d2] }
  | _ => none }
def ruleBackRow : OpenClaim := { program := "ytpnamhplhdaphaadoor", sum := "b9b0e74f1171371c73d8adb77eaab487b891cced06c019f5ffc820dfe9b84365", func := "aumbry/aumbrylaw06.RuleBack", spec := "ruleBack", inPlace := ["internal/abi.NoEscape"], unfollowed := true, recurses := true, named := ["internal/strconv.uint64pow10", "math/bits.deBruijn32tab", "math/bits.deBruijn64tab"], apart := false, laid := [("math/bits.deBruijn32tab", laid_math_bits_deBruijn32tab), ("math/bits.deBruijn64tab", laid_math_bits_deBruijn64tab), ("internal/strconv.uint64pow10", laid_internal_strconv_uint64pow10)] }
def RuleBackSaid : Prop := ruleBackRow.holds Tryd.pinned (OpenSpec.ofChange ruleBackSpec)

/-- ITS FALSE NEIGHBOUR: 'it returns false'. Refute it at one input. -/
def ruleBackWrong : ChangeSpec := { name := "ruleBack", fn := fun _ => fun
  | [d1, d2] => { results := [.lit (.bool false)], args := [d1, d2] }
  | _ => none }
def RuleBackWrongFalsely : Prop := ruleBackRow.holds Tryd.pinned (OpenSpec.ofChange ruleBackWrong)

/-- 'aumbrylaw06.RuleApplies': WHATEVER THE INPUT: true; the input reads as it did. -/
def ruleAppliesSpec : ChangeSpec := { name := "ruleApplies", fn := fun _ => fun
  | [d1, d2] => { results := [.lit (.bool true)], args := [d1, d2] }
  | _ => none }
def ruleAppliesRow : OpenClaim := { program := "ytpnamhplhdaphaadoor", sum := "b9b0e74f1171371c73d8adb77eaab487b891cced06c019f5ffc820dfe9b84365", func := "aumbry/aumbrylaw06.RuleApplies", spec := "ruleApplies", inPlace := ["internal/abi.NoEscape"], unfollowed := true, recurses := true, named := ["internal/strconv.uint64pow10", "math/bits.deBruijn32tab", "math/bits.deBruijn64tab"], apart := false, laid := [("math/bits.deBruijn32tab", laid_math_bits_deBruijn32tab), ("math/bits.deBruijn64tab", laid_math_bits_deBruijn64tab), ("internal/strconv.uint64pow10", laid_internal_strconv_uint64pow10)] }
def RuleAppliesSaid : Prop := ruleAppliesRow.holds Tryd.pinned (OpenSpec.ofChange ruleAppliesSpec)

/-- ITS FALSE NEIGHBOUR: 'it returns false'. Refute it at one input. -/
def ruleAppliesWrong : ChangeSpec := { name := "ruleApplies", fn := fun _ => fun
  | [d1, d2] => { results := [.lit (.bool false)], args := [d1, d2] }
  | _ => none }
def RuleAppliesWrongFalsely : Prop := ruleAppliesRow.holds Tryd.pinned (OpenSpec.ofChange ruleAppliesWrong)

/-- 'aumbrylaw06.RulePlain': WHATEVER THE INPUT: true; the input reads as it did. -/
def rulePlainSpec : ChangeSpec := { name := "rulePlain", fn := fun _ => fun
  | [d1, d2] => { results := [.lit (.bool true)], args := [d1, d2] }
  | _ => none }
def rulePlainRow : OpenClaim := { program := "ytpnamhplhdaphaadoor", sum := "b9b0e74f1171371c73d8adb77eaab487b891cced06c019f5ffc820dfe9b84365", func := "aumbry/aumbrylaw06.RulePlain", spec := "rulePlain", inPlace := ["internal/abi.NoEscape"], unfollowed := true, recurses := true, named := ["internal/strconv.uint64pow10", "math/bits.deBruijn32tab", "math/bits.deBruijn64tab"], apart := false, laid := [("math/bits.deBruijn32tab", laid_math_bits_deBruijn32tab), ("math/bits.deBruijn64tab", laid_math_bits_deBruijn64tab), ("internal/strconv.uint64pow10", laid_internal_strconv_uint64pow10)] }
def RulePlainSaid : Prop := rulePlainRow.holds Tryd.pinned (OpenSpec.ofChange rulePlainSpec)

/-- ITS FALSE NEIGHBOUR: 'it returns false'. Refute it at one input. -/
def rulePlainWrong : ChangeSpec := { name := "rulePlain", fn := fun _ => fun
  | [d1, d2] => { results := [.lit (.bool false)], args := [d1, d2] }
  | _ => none }
def RulePlainWrongFalsely : Prop := rulePlainRow.holds Tryd.pinned (OpenSpec.ofChange rulePlainWrong)

/-- 'aumbrylaw06.RuleOwn': WHATEVER THE INPUT: true; the input reads as it did. -/
def ruleOwnSpec : ChangeSpec := { name := "ruleOwn", fn := fun _ => fun
  | [d1, d2] => { results := [.lit (.bool true)], args := [d1, d2] }
  | _ => none }
def ruleOwnRow : OpenClaim := { program := "ytpnamhplhdaphaadoor", sum := "b9b0e74f1171371c73d8adb77eaab487b891cced06c019f5ffc820dfe9b84365", func := "aumbry/aumbrylaw06.RuleOwn", spec := "ruleOwn", inPlace := ["internal/abi.NoEscape"], unfollowed := true, recurses := true, named := ["internal/strconv.uint64pow10", "math/bits.deBruijn32tab", "math/bits.deBruijn64tab"], apart := false, laid := [("math/bits.deBruijn32tab", laid_math_bits_deBruijn32tab), ("math/bits.deBruijn64tab", laid_math_bits_deBruijn64tab), ("internal/strconv.uint64pow10", laid_internal_strconv_uint64pow10)] }
def RuleOwnSaid : Prop := ruleOwnRow.holds Tryd.pinned (OpenSpec.ofChange ruleOwnSpec)

/-- ITS FALSE NEIGHBOUR: 'it returns false'. Refute it at one input. -/
def ruleOwnWrong : ChangeSpec := { name := "ruleOwn", fn := fun _ => fun
  | [d1, d2] => { results := [.lit (.bool false)], args := [d1, d2] }
  | _ => none }
def RuleOwnWrongFalsely : Prop := ruleOwnRow.holds Tryd.pinned (OpenSpec.ofChange ruleOwnWrong)

/- THE SECOND FORM. 'bulk': how many values and letters a reading holds, each counted each time it is reached (what is shared counts as often as it is met; a slice's spare places count too). A statement '..UptoSaid' is the law's where the arguments, and the package variables that the reading takes, are together of bulk at most 1048576: NARROWER than '..Said'. Prove '..Said' where nothing that the law and all that it calls make is longer than what came in: it says more and counts as full. Else prove '..UptoSaid'. A law counts once. -/
mutual
def uptoBulk {H : Type} : DataW H → Nat
  | .lit (.string bytes) => bytes.length + 1
  | .lit _ => 1
  | .nil => 1
  | .ptr d => uptoBulk d + 1
  | .slice elems spare => uptoBulkAll elems + uptoBulkAll spare + 1
  | .agg parts => uptoBulkAll parts + 1
  | .iface _ d => uptoBulk d + 1
  | .map entries => uptoBulkEntries entries + 1
  | .held _ => 1
def uptoBulkAll {H : Type} : List (DataW H) → Nat
  | [] => 0
  | d :: r => uptoBulk d + uptoBulkAll r
def uptoBulkEntries {H : Type} : List (Lit × DataW H) → Nat
  | [] => 0
  | x :: r => uptoBulkEntry x + uptoBulkEntries r
def uptoBulkEntry {H : Type} : Lit × DataW H → Nat
  | (.string bytes, d) => bytes.length + uptoBulk d + 1
  | (_, d) => uptoBulk d + 1
 end
def uptoSmall : (H : Type) → List (DataW H) → Bool := fun _ ds => decide (uptoBulkAll ds ≤ 1048576)
def OpenSpec.upto (s : _root_.Go.ChangeSpec) : _root_.Go.OpenSpec := { _root_.Go.OpenSpec.ofChange s with cond := some uptoSmall }

/-- 'aumbrylaw06.RuleChecks', WHERE WHAT IT READS IS OF BULK AT MOST 1048576: true; the input reads as it did. -/
def ruleChecksUptoRow : OpenClaim := { program := "ytpnamhplhdaphaadoor", sum := "b9b0e74f1171371c73d8adb77eaab487b891cced06c019f5ffc820dfe9b84365", func := "aumbry/aumbrylaw06.RuleChecks", spec := "ruleChecks", inPlace := ["internal/abi.NoEscape"], unfollowed := true, recurses := true, named := ["internal/strconv.uint64pow10", "math/bits.deBruijn32tab", "math/bits.deBruijn64tab"], apart := false, laid := [("math/bits.deBruijn32tab", laid_math_bits_deBruijn32tab), ("math/bits.deBruijn64tab", laid_math_bits_deBruijn64tab), ("internal/strconv.uint64pow10", laid_internal_strconv_uint64pow10)], narrowed := true }
def RuleChecksUptoSaid : Prop := ruleChecksUptoRow.holds Tryd.pinned (OpenSpec.upto ruleChecksSpec)

/-- 'aumbrylaw06.RuleReads', WHERE WHAT IT READS IS OF BULK AT MOST 1048576: true; the input reads as it did. -/
def ruleReadsUptoRow : OpenClaim := { program := "ytpnamhplhdaphaadoor", sum := "b9b0e74f1171371c73d8adb77eaab487b891cced06c019f5ffc820dfe9b84365", func := "aumbry/aumbrylaw06.RuleReads", spec := "ruleReads", inPlace := ["internal/abi.NoEscape"], unfollowed := true, recurses := true, named := ["internal/strconv.uint64pow10", "math/bits.deBruijn32tab", "math/bits.deBruijn64tab"], apart := false, laid := [("math/bits.deBruijn32tab", laid_math_bits_deBruijn32tab), ("math/bits.deBruijn64tab", laid_math_bits_deBruijn64tab), ("internal/strconv.uint64pow10", laid_internal_strconv_uint64pow10)], narrowed := true }
def RuleReadsUptoSaid : Prop := ruleReadsUptoRow.holds Tryd.pinned (OpenSpec.upto ruleReadsSpec)

/-- 'aumbrylaw06.RulePrints', WHERE WHAT IT READS IS OF BULK AT MOST 1048576: true; the input reads as it did. -/
def rulePrintsUptoRow : OpenClaim := { program := "ytpnamhplhdaphaadoor", sum := "b9b0e74f1171371c73d8adb77eaab487b891cced06c019f5ffc820dfe9b84365", func := "aumbry/aumbrylaw06.RulePrints", spec := "rulePrints", inPlace := ["internal/abi.NoEscape"], unfollowed := true, recurses := true, named := ["internal/strconv.uint64pow10", "math/bits.deBruijn32tab", "math/bits.deBruijn64tab"], apart := false, laid := [("math/bits.deBruijn32tab", laid_math_bits_deBruijn32tab), ("math/bits.deBruijn64tab", laid_math_bits_deBruijn64tab), ("internal/strconv.uint64pow10", laid_internal_strconv_uint64pow10)], narrowed := true }
def RulePrintsUptoSaid : Prop := rulePrintsUptoRow.holds Tryd.pinned (OpenSpec.upto rulePrintsSpec)

/-- 'aumbrylaw06.RuleBack', WHERE WHAT IT READS IS OF BULK AT MOST 1048576: true; the input reads as it did. -/
def ruleBackUptoRow : OpenClaim := { program := "ytpnamhplhdaphaadoor", sum := "b9b0e74f1171371c73d8adb77eaab487b891cced06c019f5ffc820dfe9b84365", func := "aumbry/aumbrylaw06.RuleBack", spec := "ruleBack", inPlace := ["internal/abi.NoEscape"], unfollowed := true, recurses := true, named := ["internal/strconv.uint64pow10", "math/bits.deBruijn32tab", "math/bits.deBruijn64tab"], apart := false, laid := [("math/bits.deBruijn32tab", laid_math_bits_deBruijn32tab), ("math/bits.deBruijn64tab", laid_math_bits_deBruijn64tab), ("internal/strconv.uint64pow10", laid_internal_strconv_uint64pow10)], narrowed := true }
def RuleBackUptoSaid : Prop := ruleBackUptoRow.holds Tryd.pinned (OpenSpec.upto ruleBackSpec)

/-- 'aumbrylaw06.RuleApplies', WHERE WHAT IT READS IS OF BULK AT MOST 1048576: true; the input reads as it did. -/
def ruleAppliesUptoRow : OpenClaim := { program := "ytpnamhplhdaphaadoor", sum := "b9b0e74f1171371c73d8adb77eaab487b891cced06c019f5ffc820dfe9b84365", func := "aumbry/aumbrylaw06.RuleApplies", spec := "ruleApplies", inPlace := ["internal/abi.NoEscape"], unfollowed := true, recurses := true, named := ["internal/strconv.uint64pow10", "math/bits.deBruijn32tab", "math/bits.deBruijn64tab"], apart := false, laid := [("math/bits.deBruijn32tab", laid_math_bits_deBruijn32tab), ("math/bits.deBruijn64tab", laid_math_bits_deBruijn64tab), ("internal/strconv.uint64pow10", laid_internal_strconv_uint64pow10)], narrowed := true }
def RuleAppliesUptoSaid : Prop := ruleAppliesUptoRow.holds Tryd.pinned (OpenSpec.upto ruleAppliesSpec)

/-- 'aumbrylaw06.RulePlain', WHERE WHAT IT READS IS OF BULK AT MOST 1048576: true; the input reads as it did. -/
def rulePlainUptoRow : OpenClaim := { program := "ytpnamhplhdaphaadoor", sum := "b9b0e74f1171371c73d8adb77eaab487b891cced06c019f5ffc820dfe9b84365", func := "aumbry/aumbrylaw06.RulePlain", spec := "rulePlain", inPlace := ["internal/abi.NoEscape"], unfollowed := true, recurses := true, named := ["internal/strconv.uint64pow10", "math/bits.deBruijn32tab", "math/bits.deBruijn64tab"], apart := false, laid := [("math/bits.deBruijn32tab", laid_math_bits_deBruijn32tab), ("math/bits.deBruijn64tab", laid_math_bits_deBruijn64tab), ("internal/strconv.uint64pow10", laid_internal_strconv_uint64pow10)], narrowed := true }
def RulePlainUptoSaid : Prop := rulePlainUptoRow.holds Tryd.pinned (OpenSpec.upto rulePlainSpec)

/-- 'aumbrylaw06.RuleOwn', WHERE WHAT IT READS IS OF BULK AT MOST 1048576: true; the input reads as it did. -/
def ruleOwnUptoRow : OpenClaim := { program := "ytpnamhplhdaphaadoor", sum := "b9b0e74f1171371c73d8adb77eaab487b891cced06c019f5ffc820dfe9b84365", func := "aumbry/aumbrylaw06.RuleOwn", spec := "ruleOwn", inPlace := ["internal/abi.NoEscape"], unfollowed := true, recurses := true, named := ["internal/strconv.uint64pow10", "math/bits.deBruijn32tab", "math/bits.deBruijn64tab"], apart := false, laid := [("math/bits.deBruijn32tab", laid_math_bits_deBruijn32tab), ("math/bits.deBruijn64tab", laid_math_bits_deBruijn64tab), ("internal/strconv.uint64pow10", laid_internal_strconv_uint64pow10)], narrowed := true }
def RuleOwnUptoSaid : Prop := ruleOwnUptoRow.holds Tryd.pinned (OpenSpec.upto ruleOwnSpec)

end Rows
end Go.Proofs.YtpnamhplhdaphaaDoor
