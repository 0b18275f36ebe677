/- CommandOwn: the law answers true at every input that the given row speaks of. Conditions: those of the given row, none besides. (Part 1 of 5; written by programs of this session, which drive the kit's print, and by hand.) -/
import Derived.Shelf.Strings.Builder1
import Derived.Shelf.Strings.Builder2
import Derived.Shelf.Strings.OnBuilder
import Derived.Shelf.Strings.BuilderF
import Derived.Shelf.Strings.BuilderK
import Derived.Shelf.Strings.Builder2Cap
import Derived.Shelf.Strconv.Itoa0
import Derived.Shelf.Strconv.Itoa1
import Derived.Shelf.LaysM
import Derived.Shelf.Strconv.Itoa2
import Derived.Shelf.Strconv.Itoa3
import Derived.Shelf.Strconv.Itoa4
import Derived.Shelf.Strconv.ParseIntEmpty
import Derived.Shelf.Strconv.Clone
import Derived.Shelf.Strconv.SyntaxError
import Derived.Shelf.LaysC
import Derived.Shelf.Strconv.ToError
import Derived.Shelf.Strconv.Lower
import Derived.Shelf.Strconv.ParseUint10
import Derived.Shelf.Strconv.ParseUint10Empty
import Derived.Shelf.Strconv.ParseUint10Any
import Derived.Shelf.Strconv.ParseInt10
import Derived.Shelf.Strconv.RangeError
import Derived.Shelf.Strconv.ToErrorRange
import Derived.Shelf.Strconv.ParseUintEmpty
import Derived.Shelf.Strconv.ParseUint10b64
import Derived.Shelf.Strconv.ParseUint10b32
import Derived.Shelf.Strconv.ParseUint10b16
import Derived.Shelf.Strconv.ParseUint10b8
import Derived.Shelf.Strconv.ParseUint10At
import Derived.Shelf.Strconv.ParseInt10At64
import Derived.Shelf.Strconv.ParseInt10At32
import Derived.Shelf.Strconv.ParseInt10At16
import Derived.Shelf.Strconv.ParseInt10At8
import Derived.Shelf.Strconv.ParseInt10All
import Derived.Shelf.Strconv.ParseIntPublic10
import Derived.Shelf.Strconv.ErrVarParseInt
import Derived.Shelf.Strings.Fields
import Derived.Shelf.Strings.SplitShaped
import Derived.Shelf.Unicode.Latin
import Derived.Shelf.Unicode.Is16White
import Derived.Shelf.Unicode.IsSpaceAny
import Derived.Shelf.Unicode.Is16WhiteD
import Derived.Shelf.Unicode.IsSpaceAnyD
import Derived.Shelf.Strings.FieldsAny
import Derived.Shelf.Strings.FieldsFuncAny
import Derived.Shelf.Unicode.Is16Any
import Derived.Shelf.Unicode.Is32Any
import Derived.Shelf.Unicode.ExclAny
import Derived.Shelf.Strings.FieldsFuncGrows
import Derived.Shelf.Strings.BuilderCap
import Derived.Shelf.Slices.Turned
import Derived.Test.YtmlddeogmckgmaaGreatDoorProg
import Derived.Below
import Derived.Deep.Draws
import Derived.Deep.AppendLies
import Derived.Maps.AppendAt
import Derived.OwnWalk
import Derived.Laws.BytesArg
import Derived.Laws.MakeOwn
import Derived.Laws.OwnMore
import Derived.Deep.OwnRows
import Derived.Tactics
import Derived.Lib.ConvBytes
import Derived.Laws.Slices
import Derived.WalkKit
import Derived.KernelRfl
import Derived.RowKit3
import Derived.Deep.LoopGhost
import Derived.Deep.QuietTactic
import Derived.BigQuiet
import Derived.WideLaws
import Derived.Deep.DeepCutAuto
import Derived.Deep.CutBlock
import Derived.Deep.RegionHeld3
import Derived.Laws.Rows
import Derived.Lib.AppendStr
import Derived.ArgAppend
import Derived.Laws.IdiomCopy
import Derived.OrdersHeld
import Derived.Laws.BitsLemmas
import Derived.RowKit
import Derived.Test.YtmlddeogmckgmaaGreatDoorZCommandOwnUWWords
import Derived.Test.YtmlddeogmckgmaaGreatDoorZCommandOwnUWLast
import Derived.Test.YtmlddeogmckgmaaGreatDoorZCommandOwnUWTab
import Derived.Test.YtmlddeogmckgmaaGreatDoorZCommandOwnUWApart
import Derived.Test.YtmlddeogmckgmaaGreatDoorZCommandOwnUWFoot
import Derived.Test.YtmlddeogmckgmaaGreatDoorZCommandOwnUWKept
import Derived.Test.YtmlddeogmckgmaaGreatDoorZCommandOwnUWShare
import Derived.Test.YtmlddeogmckgmaaGreatDoorZCommandOwnUWN
import Derived.Test.YtmlddeogmckgmaaGreatDoorZCommandOwnUWEqStruct
import Derived.Test.YtmlddeogmckgmaaGreatDoorZCommandOwnUWRepsOne
import Derived.Test.YtmlddeogmckgmaaGreatDoorZCommandOwnUWInv
import Derived.Test.YtmlddeogmckgmaaGreatDoorZCommandOwnUWGuard
import Derived.Test.YtmlddeogmckgmaaGreatDoorZCommandOwnUWMore
import Derived.WalkSpells
import Derived.WalkLawsBesides
import Derived.Defers
import Derived.Recover
import Derived.Laws.Pointers
import Derived.RegionTactic
import Derived.ChangeAlike
set_option maxHeartbeats 8000000
set_option maxRecDepth 100000
set_option linter.unusedVariables false
set_option linter.unusedSimpArgs false
-- ==== Shelf
/-
 DERIVED: THE SHELF's CONTRACTS AT THIS DUMP, IN PLAIN WORDS (tools/lay-plain.mjs out of 'TryzShelf.lean', which tools/lay-shelf.mjs wrote): THE SAME DECLARATIONS UNDER THE SAME NAMES: 'import', 'namespace', 'open', 'def', 'theorem' AND NOTHING ELSE: no command of the shelf's: FOR A HAND-IN. Each laying: the table of numbers ('.._ren') and one theorem, a field a fact of the dump's own or the kernel's comparison; each contract: ONE APPLICATION.
-/
namespace Go.Proofs
open Go.Shelf
def Tryz.lays156_ren : Go.Shelf.Ren := ⟨fun | 156 => 26 | 165 => 56 | 166 => 57 | 169 => 58 | 240 => 84 | 241 => 85 | 276 => 108 | 277 => 109 | n => n, fun | 31 => 42 | 9 => 9 | 3 => 3 | 4 => 4 | 0 => 0 | 20 => 20 | 72 => 102 | 76 => 106 | 70 => 100 | 37 => 45 | 75 => 105 | 127 => 140 | 164 => 165 | 5 => 5 | 80 => 108 | n => n, fun | n => n⟩
theorem Tryz.lays156 : Go.Proofs.Lays.n156 Tryz.prog Tryz.lays156_ren := {
 mixed := by kernel_rfl
 f156 := Tryz.func26.trans (congrArg some (by kernel_rfl))
 f165 := Tryz.func56.trans (congrArg some (by kernel_rfl))
 f166 := Tryz.func57.trans (congrArg some (by kernel_rfl))
 f169 := Tryz.func58.trans (congrArg some (by kernel_rfl))
 f240 := Tryz.func84.trans (congrArg some (by kernel_rfl))
 f241 := Tryz.func85.trans (congrArg some (by kernel_rfl))
 f276 := Tryz.func108.trans (congrArg some (by kernel_rfl))
 f277 := Tryz.func109.trans (congrArg some (by kernel_rfl))
 t0 := Tryz.underlying0
 a0 := Tryz.isAgg0
 z0 := Tryz.sizeOf0
 v0 := Tryz.zeroValue0
 t3 := Tryz.underlying3
 a3 := Tryz.isAgg3
 z3 := Tryz.sizeOf3
 v3 := Tryz.zeroValue3
 t4 := Tryz.underlying4
 a4 := Tryz.isAgg4
 z4 := Tryz.sizeOf4
 v4 := Tryz.zeroValue4
 t9 := Tryz.underlying9
 a9 := Tryz.isAgg9
 z9 := Tryz.sizeOf9
 v9 := Tryz.zeroValue9
 t20 := Tryz.underlying20
 a20 := Tryz.isAgg20
 z20 := Tryz.sizeOf20
 v20 := Tryz.zeroValue20
 t31 := Tryz.underlying42
 a31 := Tryz.isAgg42
 z31 := Tryz.sizeOf42
 v31 := Tryz.zeroValue42
 t37 := Tryz.underlying45
 a37 := Tryz.isAgg45
 z37 := Tryz.sizeOf45
 v37 := Tryz.zeroValue45
 t70 := Tryz.underlying100
 a70 := Tryz.isAgg100
 z70 := Tryz.sizeOf100
 v70 := Tryz.zeroValue100
 t72 := Tryz.underlying102
 a72 := Tryz.isAgg102
 z72 := Tryz.sizeOf102
 v72 := Tryz.zeroValue102
 t75 := Tryz.underlying105
 a75 := Tryz.isAgg105
 z75 := Tryz.sizeOf105
 v75 := Tryz.zeroValue105
 t76 := Tryz.underlying106
 a76 := Tryz.isAgg106
 z76 := Tryz.sizeOf106
 v76 := Tryz.zeroValue106
 t127 := Tryz.underlying140
 a127 := Tryz.isAgg140
 z127 := Tryz.sizeOf140
 v127 := Tryz.zeroValue140
 t164 := Tryz.underlying165
 a164 := Tryz.isAgg165
 z164 := Tryz.sizeOf165
 v164 := Tryz.zeroValue165 }
theorem Tryz.Builder_Extra_156 : Builder.Extra Tryz.prog Tryz.lays156_ren := {
 sizeBuilder := by kernel_rfl
 liesBuilder := by kernel_rfl
 t5 := Tryz.underlying5
 a5 := Tryz.isAgg5
 z5 := Tryz.sizeOf5
 v5 := Tryz.zeroValue5
 infoByte := by kernel_rfl
 cellsByte := by kernel_rfl
 sizeByte := by kernel_rfl
 neB5 := by decide }
open Go.RowKit in
theorem Tryz.strings_Join_none (a : Option Addr) (c : Nat) (sep : ByteArray) (w : World) :
 Calls Tryz.prog 26 #[.slice a 0 c, .string sep] w fun e w' => e = .returned (.string ⟨#[]⟩) ∧ w' = w := Any.strings_Join_none Tryz.lays156 Tryz.Builder_Extra_156 a c sep w
open Go.RowKit in
theorem Tryz.strings_Join (bk o c : Nat) (xs : List ByteArray) (sep : ByteArray) (w : World) (hcells : ∀ (j : Nat) x, xs[j]? = some x → w.cell? ⟨bk, o + j, none⟩ = some (.string x)) (hbk : bk < w.heap.size) (hN : xs.length ≤ 140737488355328) (hcap : xs.length ≤ c) (hlen : (Lib.join (xs.map (·.data.toList)) sep.data.toList).length ≤ 140737488355328) :
 Calls Tryz.prog 26 #[.slice (some ⟨bk, o, none⟩) xs.length c, .string sep] w fun e w' => e = .returned (.string ⟨(Lib.join (xs.map (·.data.toList)) sep.data.toList).toArray⟩) ∧ Below w.heap.size w w' := Any.strings_Join Tryz.lays156 Tryz.Builder_Extra_156 bk o c xs sep w hcells hbk hN hcap hlen
def Tryz.laysM173_ren : Go.Shelf.Ren := ⟨fun | 173 => 83 | 246 => 107 | 283 => 114 | 284 => 115 | 285 => 116 | 286 => 117 | 129 => 125 | 317 => 124 | 318 => 126 | 319 => 127 | 320 => 128 | 337 => 134 | 338 => 135 | n => n, fun | 2 => 2 | 3 => 3 | 9 => 9 | 4 => 4 | 171 => 175 | 0 => 0 | 53 => 162 | 37 => 45 | 5 => 5 | 173 => 178 | 212 => 189 | 51 => 130 | 20 => 20 | 213 => 190 | 46 => 172 | 232 => 202 | 233 => 203 | n => n, fun | 17 => 4 | 18 => 7 | 19 => 8 | n => n⟩
theorem Tryz.laysM173 : Go.Proofs.LaysM.n173 Tryz.prog Tryz.laysM173_ren := {
 mixed := by kernel_rfl
 f129 := Tryz.func125.trans (congrArg some (by kernel_rfl))
 f173 := Tryz.func83.trans (congrArg some (by kernel_rfl))
 f246 := Tryz.func107.trans (congrArg some (by kernel_rfl))
 f283 := Tryz.func114.trans (congrArg some (by kernel_rfl))
 f284 := Tryz.func115.trans (congrArg some (by kernel_rfl))
 f285 := Tryz.func116.trans (congrArg some (by kernel_rfl))
 f286 := Tryz.func117.trans (congrArg some (by kernel_rfl))
 f317 := Tryz.func124.trans (congrArg some (by kernel_rfl))
 f318 := Tryz.func126.trans (congrArg some (by kernel_rfl))
 f319 := Tryz.func127.trans (congrArg some (by kernel_rfl))
 f320 := Tryz.func128.trans (congrArg some (by kernel_rfl))
 f337 := Tryz.func134.trans (congrArg some (by kernel_rfl))
 f338 := Tryz.func135.trans (congrArg some (by kernel_rfl))
 t0 := Tryz.underlying0
 a0 := Tryz.isAgg0
 z0 := Tryz.sizeOf0
 v0 := Tryz.zeroValue0
 t2 := Tryz.underlying2
 a2 := Tryz.isAgg2
 z2 := Tryz.sizeOf2
 v2 := Tryz.zeroValue2
 t3 := Tryz.underlying3
 a3 := Tryz.isAgg3
 z3 := Tryz.sizeOf3
 v3 := Tryz.zeroValue3
 t4 := Tryz.underlying4
 a4 := Tryz.isAgg4
 z4 := Tryz.sizeOf4
 v4 := Tryz.zeroValue4
 t5 := Tryz.underlying5
 a5 := Tryz.isAgg5
 z5 := Tryz.sizeOf5
 v5 := Tryz.zeroValue5
 t9 := Tryz.underlying9
 a9 := Tryz.isAgg9
 z9 := Tryz.sizeOf9
 v9 := Tryz.zeroValue9
 t20 := Tryz.underlying20
 a20 := Tryz.isAgg20
 z20 := Tryz.sizeOf20
 v20 := Tryz.zeroValue20
 t37 := Tryz.underlying45
 a37 := Tryz.isAgg45
 z37 := Tryz.sizeOf45
 v37 := Tryz.zeroValue45
 t46 := Tryz.underlying172
 a46 := Tryz.isAgg172
 z46 := Tryz.sizeOf172
 v46 := Tryz.zeroValue172
 t51 := Tryz.underlying130
 a51 := Tryz.isAgg130
 z51 := Tryz.sizeOf130
 v51 := Tryz.zeroValue130
 t53 := Tryz.underlying162
 a53 := Tryz.isAgg162
 z53 := Tryz.sizeOf162
 v53 := Tryz.zeroValue162
 t171 := Tryz.underlying175
 a171 := Tryz.isAgg175
 z171 := Tryz.sizeOf175
 v171 := Tryz.zeroValue175
 t173 := Tryz.underlying178
 a173 := Tryz.isAgg178
 z173 := Tryz.sizeOf178
 v173 := Tryz.zeroValue178
 t212 := Tryz.underlying189
 a212 := Tryz.isAgg189
 z212 := Tryz.sizeOf189
 v212 := Tryz.zeroValue189
 t213 := Tryz.underlying190
 a213 := Tryz.isAgg190
 z213 := Tryz.sizeOf190
 t232 := Tryz.underlying202
 a232 := Tryz.isAgg202
 z232 := Tryz.sizeOf202
 v232 := Tryz.zeroValue202
 t233 := Tryz.underlying203
 a233 := Tryz.isAgg203
 z233 := Tryz.sizeOf203
 v233 := Tryz.zeroValue203
 g17 := by kernel_rfl
 g18 := by kernel_rfl
 g19 := by kernel_rfl
 i0 := by kernel_rfl
 i2 := by kernel_rfl
 i3 := by kernel_rfl
 i4 := by kernel_rfl
 i5 := by kernel_rfl
 i9 := by kernel_rfl
 i20 := by kernel_rfl
 i37 := by kernel_rfl
 i46 := by kernel_rfl
 i51 := by kernel_rfl
 i53 := by kernel_rfl
 i171 := by kernel_rfl
 i173 := by kernel_rfl
 i212 := by kernel_rfl
 i232 := by kernel_rfl
 i233 := by kernel_rfl
 m17 := by kernel_rfl
 m18 := by kernel_rfl
 m19 := by kernel_rfl }
open Go.RowKit Go.Sort Go.Lib in
theorem Tryz.strconv_FormatInt_10 (n : Int) (h0 : -9223372036854775808 ≤ n) (h1 : n ≤ 9223372036854775807) (w : World) (htab : Lib.TabIs Tryz.prog w "internal/strconv.uint64pow10" .u64 Lib.pow10Tab) :
 Calls Tryz.prog 83 #[.int .i64 n, .int .i64 10] w fun e w' => e = .returned (.string ⟨(Lib.itoa n).toArray⟩) ∧ ∃ k os, w' = grow (w.drewN k) os := Any.strconv_FormatInt_10 Tryz.laysM173 n h0 h1 w htab
def Tryz.laysC174_ren : Go.Shelf.Ren := ⟨fun | 174 => 87 | 247 => 110 | 245 => 111 | 287 => 118 | 279 => 119 | 280 => 120 | 281 => 121 | 282 => 122 | 321 => 129 | 322 => 130 | 316 => 131 | 171 => 133 | 205 => 132 | 243 => 136 | 246 => 107 | 283 => 114 | 284 => 115 | 285 => 116 | 286 => 117 | 129 => 125 | 317 => 124 | 318 => 126 | 319 => 127 | 320 => 128 | 337 => 134 | 338 => 135 | n => n, fun | 9 => 9 | 3 => 3 | 2 => 2 | 75 => 105 | 85 => 142 | 4 => 4 | 167 => 180 | 5 => 5 | 53 => 162 | 175 => 181 | 46 => 172 | 168 => 183 | 37 => 45 | 0 => 0 | 210 => 196 | 21 => 21 | 127 => 140 | 145 => 201 | 143 => 199 | 171 => 175 | 173 => 178 | 212 => 189 | 51 => 130 | 20 => 20 | 213 => 190 | 232 => 202 | 233 => 203 | 80 => 108 | n => n, fun | 15 => 5 | 16 => 6 | 17 => 4 | 18 => 7 | 19 => 8 | n => n⟩
theorem Tryz.laysC174 : Go.Proofs.LaysC.n174 Tryz.prog Tryz.laysC174_ren := {
 mixed := by kernel_rfl
 f129 := Tryz.func125.trans (congrArg some (by kernel_rfl))
 f171 := Tryz.func133.trans (congrArg some (by kernel_rfl))
 f174 := Tryz.func87.trans (congrArg some (by kernel_rfl))
 f205 := Tryz.func132.trans (congrArg some (by kernel_rfl))
 f243 := Tryz.func136.trans (congrArg some (by kernel_rfl))
 f245 := Tryz.func111.trans (congrArg some (by kernel_rfl))
 f246 := Tryz.func107.trans (congrArg some (by kernel_rfl))
 f247 := Tryz.func110.trans (congrArg some (by kernel_rfl))
 f279 := Tryz.func119.trans (congrArg some (by kernel_rfl))
 f280 := Tryz.func120.trans (congrArg some (by kernel_rfl))
 f281 := Tryz.func121.trans (congrArg some (by kernel_rfl))
 f282 := Tryz.func122.trans (congrArg some (by kernel_rfl))
 f283 := Tryz.func114.trans (congrArg some (by kernel_rfl))
 f284 := Tryz.func115.trans (congrArg some (by kernel_rfl))
 f285 := Tryz.func116.trans (congrArg some (by kernel_rfl))
 f286 := Tryz.func117.trans (congrArg some (by kernel_rfl))
 f287 := Tryz.func118.trans (congrArg some (by kernel_rfl))
 f316 := Tryz.func131.trans (congrArg some (by kernel_rfl))
 f317 := Tryz.func124.trans (congrArg some (by kernel_rfl))
 f318 := Tryz.func126.trans (congrArg some (by kernel_rfl))
 f319 := Tryz.func127.trans (congrArg some (by kernel_rfl))
 f320 := Tryz.func128.trans (congrArg some (by kernel_rfl))
 f321 := Tryz.func129.trans (congrArg some (by kernel_rfl))
 f322 := Tryz.func130.trans (congrArg some (by kernel_rfl))
 f337 := Tryz.func134.trans (congrArg some (by kernel_rfl))
 f338 := Tryz.func135.trans (congrArg some (by kernel_rfl))
 t0 := Tryz.underlying0
 a0 := Tryz.isAgg0
 z0 := Tryz.sizeOf0
 v0 := Tryz.zeroValue0
 t2 := Tryz.underlying2
 a2 := Tryz.isAgg2
 z2 := Tryz.sizeOf2
 v2 := Tryz.zeroValue2
 t3 := Tryz.underlying3
 a3 := Tryz.isAgg3
 z3 := Tryz.sizeOf3
 v3 := Tryz.zeroValue3
 t4 := Tryz.underlying4
 a4 := Tryz.isAgg4
 z4 := Tryz.sizeOf4
 v4 := Tryz.zeroValue4
 t5 := Tryz.underlying5
 a5 := Tryz.isAgg5
 z5 := Tryz.sizeOf5
 v5 := Tryz.zeroValue5
 t9 := Tryz.underlying9
 a9 := Tryz.isAgg9
 z9 := Tryz.sizeOf9
 v9 := Tryz.zeroValue9
 t20 := Tryz.underlying20
 a20 := Tryz.isAgg20
 z20 := Tryz.sizeOf20
 v20 := Tryz.zeroValue20
 t21 := Tryz.underlying21
 a21 := Tryz.isAgg21
 z21 := Tryz.sizeOf21
 v21 := Tryz.zeroValue21
 t37 := Tryz.underlying45
 a37 := Tryz.isAgg45
 z37 := Tryz.sizeOf45
 v37 := Tryz.zeroValue45
 t46 := Tryz.underlying172
 a46 := Tryz.isAgg172
 z46 := Tryz.sizeOf172
 v46 := Tryz.zeroValue172
 t51 := Tryz.underlying130
 a51 := Tryz.isAgg130
 z51 := Tryz.sizeOf130
 v51 := Tryz.zeroValue130
 t53 := Tryz.underlying162
 a53 := Tryz.isAgg162
 z53 := Tryz.sizeOf162
 v53 := Tryz.zeroValue162
 t75 := Tryz.underlying105
 a75 := Tryz.isAgg105
 z75 := Tryz.sizeOf105
 v75 := Tryz.zeroValue105
 t85 := Tryz.underlying142
 a85 := Tryz.isAgg142
 z85 := Tryz.sizeOf142
 v85 := Tryz.zeroValue142
 t127 := Tryz.underlying140
 a127 := Tryz.isAgg140
 z127 := Tryz.sizeOf140
 v127 := Tryz.zeroValue140
 t143 := Tryz.underlying199
 a143 := Tryz.isAgg199
 z143 := Tryz.sizeOf199
 v143 := Tryz.zeroValue199
 t145 := Tryz.underlying201
 a145 := Tryz.isAgg201
 z145 := Tryz.sizeOf201
 v145 := Tryz.zeroValue201
 t167 := Tryz.underlying180
 a167 := Tryz.isAgg180
 z167 := Tryz.sizeOf180
 v167 := Tryz.zeroValue180
 t168 := Tryz.underlying183
 a168 := Tryz.isAgg183
 z168 := Tryz.sizeOf183
 v168 := Tryz.zeroValue183
 t171 := Tryz.underlying175
 a171 := Tryz.isAgg175
 z171 := Tryz.sizeOf175
 v171 := Tryz.zeroValue175
 t173 := Tryz.underlying178
 a173 := Tryz.isAgg178
 z173 := Tryz.sizeOf178
 v173 := Tryz.zeroValue178
 t175 := Tryz.underlying181
 a175 := Tryz.isAgg181
 z175 := Tryz.sizeOf181
 v175 := Tryz.zeroValue181
 t210 := Tryz.underlying196
 a210 := Tryz.isAgg196
 z210 := Tryz.sizeOf196
 v210 := Tryz.zeroValue196
 t212 := Tryz.underlying189
 a212 := Tryz.isAgg189
 z212 := Tryz.sizeOf189
 v212 := Tryz.zeroValue189
 t213 := Tryz.underlying190
 a213 := Tryz.isAgg190
 z213 := Tryz.sizeOf190
 t232 := Tryz.underlying202
 a232 := Tryz.isAgg202
 z232 := Tryz.sizeOf202
 v232 := Tryz.zeroValue202
 t233 := Tryz.underlying203
 a233 := Tryz.isAgg203
 z233 := Tryz.sizeOf203
 v233 := Tryz.zeroValue203
 g15 := by kernel_rfl
 g16 := by kernel_rfl
 g17 := by kernel_rfl
 g18 := by kernel_rfl
 g19 := by kernel_rfl
 t80 := Tryz.underlying108
 a80 := Tryz.isAgg108
 z80 := Tryz.sizeOf108
 v80 := Tryz.zeroValue108
 i0 := by kernel_rfl
 i2 := by kernel_rfl
 i3 := by kernel_rfl
 i4 := by kernel_rfl
 i5 := by kernel_rfl
 i9 := by kernel_rfl
 i20 := by kernel_rfl
 i21 := by kernel_rfl
 i37 := by kernel_rfl
 i46 := by kernel_rfl
 i51 := by kernel_rfl
 i53 := by kernel_rfl
 i75 := by kernel_rfl
 i80 := by kernel_rfl
 i85 := by kernel_rfl
 i127 := by kernel_rfl
 i143 := by kernel_rfl
 i145 := by kernel_rfl
 i167 := by kernel_rfl
 i168 := by kernel_rfl
 i171 := by kernel_rfl
 i173 := by kernel_rfl
 i175 := by kernel_rfl
 i210 := by kernel_rfl
 i212 := by kernel_rfl
 i232 := by kernel_rfl
 i233 := by kernel_rfl
 m15 := by kernel_rfl
 m16 := by kernel_rfl
 m17 := by kernel_rfl
 m18 := by kernel_rfl
 m19 := by kernel_rfl
 c0 := by kernel_rfl
 c2 := by kernel_rfl
 c3 := by kernel_rfl
 c4 := by kernel_rfl
 c5 := by kernel_rfl
 c9 := by kernel_rfl
 c20 := by kernel_rfl
 c21 := by kernel_rfl
 c37 := by kernel_rfl
 c46 := by kernel_rfl
 c51 := by kernel_rfl
 c53 := by kernel_rfl
 c75 := by kernel_rfl
 c80 := by kernel_rfl
 c85 := by kernel_rfl
 c127 := by kernel_rfl
 c143 := by kernel_rfl
 c145 := by kernel_rfl
 c167 := by kernel_rfl
 c168 := by kernel_rfl
 c171 := by kernel_rfl
 c173 := by kernel_rfl
 c175 := by kernel_rfl
 c210 := by kernel_rfl
 c212 := by kernel_rfl
 c213 := by kernel_rfl
 c232 := by kernel_rfl
 c233 := by kernel_rfl }
open Go.RowKit in
theorem Tryz.strconv_ParseInt_10_at64_ok (s : ByteArray) (hmax : s.size ≤ 9223372036854775806) (v : Int) (h : Lib.parseIntB 64 s.data.toList = .ok v) (w : World) :
 Calls Tryz.prog 87 #[.string s, .int .i64 10, .int .i64 64] w fun e w' => e = .returned (.tuple #[.int .i64 v, .nilIface]) ∧ (w' = w ∨ ∃ t, w' = Lib.bytesWorld w 5 t) := Any.strconv_ParseInt_10_at64_ok Tryz.laysC174 s hmax v h w
open Go.RowKit in
theorem Tryz.strconv_ParseInt_10_at64_syntax_var (s : ByteArray) (hlim : s.size ≤ 281474976710656) (h : Lib.parseIntB 64 s.data.toList = .«syntax») (tp : TypeId) (p : Value) (w : World) (hvar : w.var? Tryz.prog "strconv.ErrSyntax" = some #[.iface tp p]) :
 Calls Tryz.prog 87 #[.string s, .int .i64 10, .int .i64 64] w fun e w' => ∃ N, e = .returned (.tuple #[.int .i64 (0), .iface 183 (.pointer (some ⟨N, 0, none⟩))]) ∧ w.heap.size ≤ N ∧ w'.heap[N]? = some (.cells #[.string ⟨#[80, 97, 114, 115, 101, 73, 110, 116]⟩, .string s, .iface tp p] 196 (0, 0)) ∧ Below w.heap.size w w' := Any.strconv_ParseInt_10_at64_syntax_var Tryz.laysC174 s hlim h tp p w hvar
open Go.RowKit in
theorem Tryz.strconv_ParseInt_10_at64_range_var (s : ByteArray) (hlim : s.size ≤ 281474976710656) (h : Lib.parseIntB 64 s.data.toList = .range) (tp : TypeId) (p : Value) (w : World) (hvar : w.var? Tryz.prog "strconv.ErrRange" = some #[.iface tp p]) :
 Calls Tryz.prog 87 #[.string s, .int .i64 10, .int .i64 64] w fun e w' => ∃ N, e = .returned (.tuple #[.int .i64 (Lib.intSat 64 s.data.toList), .iface 183 (.pointer (some ⟨N, 0, none⟩))]) ∧ w.heap.size ≤ N ∧ w'.heap[N]? = some (.cells #[.string ⟨#[80, 97, 114, 115, 101, 73, 110, 116]⟩, .string s, .iface tp p] 196 (0, 0)) ∧ Below w.heap.size w w' := Any.strconv_ParseInt_10_at64_range_var Tryz.laysC174 s hlim h tp p w hvar
def Tryz.lays157_ren : Go.Shelf.Ren := ⟨fun | 157 => 19 | 229 => 46 | 199 => 47 | 261 => 76 | 311 => 103 | 312 => 104 | n => n, fun | 9 => 9 | 31 => 42 | 3 => 3 | 5 => 5 | 4 => 4 | 119 => 87 | 0 => 0 | 40 => 89 | 152 => 127 | 21 => 21 | 154 => 129 | 51 => 130 | 141 => 132 | 196 => 154 | 193 => 151 | 198 => 157 | 49 => 155 | 194 => 152 | 201 => 160 | 226 => 171 | 46 => 172 | 227 => 173 | n => n, fun | 0 => 1 | 6 => 2 | n => n⟩
theorem Tryz.lays157 : Go.Proofs.Lays.n157 Tryz.prog Tryz.lays157_ren := {
 mixed := by kernel_rfl
 f157 := Tryz.func19.trans (congrArg some (by kernel_rfl))
 f199 := Tryz.func47.trans (congrArg some (by kernel_rfl))
 f229 := Tryz.func46.trans (congrArg some (by kernel_rfl))
 f261 := Tryz.func76.trans (congrArg some (by kernel_rfl))
 f311 := Tryz.func103.trans (congrArg some (by kernel_rfl))
 f312 := Tryz.func104.trans (congrArg some (by kernel_rfl))
 t0 := Tryz.underlying0
 a0 := Tryz.isAgg0
 z0 := Tryz.sizeOf0
 v0 := Tryz.zeroValue0
 t3 := Tryz.underlying3
 a3 := Tryz.isAgg3
 z3 := Tryz.sizeOf3
 v3 := Tryz.zeroValue3
 t4 := Tryz.underlying4
 a4 := Tryz.isAgg4
 z4 := Tryz.sizeOf4
 v4 := Tryz.zeroValue4
 t5 := Tryz.underlying5
 a5 := Tryz.isAgg5
 z5 := Tryz.sizeOf5
 v5 := Tryz.zeroValue5
 t9 := Tryz.underlying9
 a9 := Tryz.isAgg9
 z9 := Tryz.sizeOf9
 v9 := Tryz.zeroValue9
 t21 := Tryz.underlying21
 a21 := Tryz.isAgg21
 z21 := Tryz.sizeOf21
 v21 := Tryz.zeroValue21
 t31 := Tryz.underlying42
 a31 := Tryz.isAgg42
 z31 := Tryz.sizeOf42
 v31 := Tryz.zeroValue42
 t40 := Tryz.underlying89
 a40 := Tryz.isAgg89
 z40 := Tryz.sizeOf89
 v40 := Tryz.zeroValue89
 t46 := Tryz.underlying172
 a46 := Tryz.isAgg172
 z46 := Tryz.sizeOf172
 v46 := Tryz.zeroValue172
 t49 := Tryz.underlying155
 a49 := Tryz.isAgg155
 z49 := Tryz.sizeOf155
 v49 := Tryz.zeroValue155
 t51 := Tryz.underlying130
 a51 := Tryz.isAgg130
 z51 := Tryz.sizeOf130
 v51 := Tryz.zeroValue130
 t119 := Tryz.underlying87
 a119 := Tryz.isAgg87
 z119 := Tryz.sizeOf87
 t141 := Tryz.underlying132
 a141 := Tryz.isAgg132
 z141 := Tryz.sizeOf132
 v141 := Tryz.zeroValue132
 t152 := Tryz.underlying127
 a152 := Tryz.isAgg127
 z152 := Tryz.sizeOf127
 v152 := Tryz.zeroValue127
 t154 := Tryz.underlying129
 a154 := Tryz.isAgg129
 z154 := Tryz.sizeOf129
 v154 := Tryz.zeroValue129
 t193 := Tryz.underlying151
 a193 := Tryz.isAgg151
 z193 := Tryz.sizeOf151
 v193 := Tryz.zeroValue151
 t194 := Tryz.underlying152
 a194 := Tryz.isAgg152
 z194 := Tryz.sizeOf152
 v194 := Tryz.zeroValue152
 t196 := Tryz.underlying154
 a196 := Tryz.isAgg154
 z196 := Tryz.sizeOf154
 v196 := Tryz.zeroValue154
 t198 := Tryz.underlying157
 a198 := Tryz.isAgg157
 z198 := Tryz.sizeOf157
 v198 := Tryz.zeroValue157
 t201 := Tryz.underlying160
 a201 := Tryz.isAgg160
 z201 := Tryz.sizeOf160
 v201 := Tryz.zeroValue160
 t226 := Tryz.underlying171
 a226 := Tryz.isAgg171
 z226 := Tryz.sizeOf171
 v226 := Tryz.zeroValue171
 t227 := Tryz.underlying173
 a227 := Tryz.isAgg173
 z227 := Tryz.sizeOf173
 v227 := Tryz.zeroValue173
 g0 := by kernel_rfl
 g6 := by kernel_rfl }
open Go.RowKit Go.Lib in
theorem Tryz.strings_Fields (s : ByteArray) (w : World) (hs : s.size < 4294967281) (hascii : ∀ (j : Nat) b, s.data.toList[j]? = some b → b.toNat < 128) (htab : Lib.TabIs Tryz.prog w "strings.asciiSpace" .u8 Lib.asciiSpaceTab) :
 Calls Tryz.prog 19 #[.string s] w fun e w' =>
  e = .returned (.slice (some ⟨w.heap.size, 0, none⟩) (Lib.fields s.data.toList).length (Lib.fields s.data.toList).length) ∧ w' = w.alloc (.cells ((Lib.fields s.data.toList).map fun l => Value.string ⟨l.toArray⟩).toArray 9) := Any.strings_Fields Tryz.lays157 (by kernel_rfl) (by kernel_rfl) s w hs hascii htab
end Go.Proofs

-- ==== P0
namespace Go.Proofs.YtmlddeogmckgmaaGreatDoor.P
open Go.RowKit Go.Proofs.YtmlddeogmckgmaaGreatDoorW.PrintWords Go.Proofs.YtmlddeogmckgmaaGreatDoorW.PrintLast Go.Proofs.YtmlddeogmckgmaaGreatDoorW.PrintMore
attribute [local go_sem] max2_int min2_int max_two min_two max_three min_three max_four min_four



def errW : Option Int → Value
 | none => .nilIface
 | some c => .iface 180 (.int .i64 c)
theorem errW_none : errW none = .nilIface := rfl
theorem errW_some (c : Int) : errW (some c) = .iface 180 (.int .i64 c) := rfl

theorem info9 : (Tryz.prog.info? 9).map (fun i => (i.zero, i.size, i.bytes)) = some (some (.string ⟨#[]⟩), 1, 16) := by kernel_rfl
theorem info24 : (Tryz.prog.info? 24).map (fun i => (i.zero, i.size, i.bytes)) = some (some (.slice none 0 0), 1, 24) := by kernel_rfl
theorem info48 : (Tryz.prog.info? 48).map (fun i => (i.zero, i.size, i.bytes)) = some (some (.agg #[(.string ⟨#[]⟩), (.int .i64 0)]), 2, 24) := by kernel_rfl
structure S157 where
 f0 : Int
 f1 : Int
 f2 : Int
structure S160 where
 f0 : Int
 f1 : Int
 f2 : Int
structure S48 where
 f0 : ByteArray
 f1 : Int
def z48 : S48 := ⟨(⟨#[]⟩ : ByteArray), (0 : Int)⟩
def k48 : Kd S48 := Kd.iso (Kd.pair Kd.string (Kd.int .i64)) (fun x : S48 => (x.f0, x.f1))
theorem k48_open {w : World} {x : S48} {cs : List Value} (h : k48.K w x cs) : cs = [.string x.f0, .int .i64 x.f1] := by
 obtain ⟨_, _, rfl, rfl, rfl⟩ := h
 exact rfl
theorem k48_openM {w : World} {base : Nat} {ok : Nat → Prop} {x : S48} {cs : List Value} (h : k48.M w base ok x cs) : cs = [.string x.f0, .int .i64 x.f1] := by
 obtain ⟨_, _, rfl, rfl, rfl⟩ := h
 exact rfl
theorem k48_mkM (w : World) (base : Nat) (ok : Nat → Prop) (x : S48)  : k48.M w base ok x [.string x.f0, .int .i64 x.f1] := ⟨[.string x.f0], [.int .i64 x.f1], rfl, rfl, rfl⟩
def rd_T48 (xs : List S48) (i : Int) : S48 := xs.getD i.toNat z48
theorem at_T48 {w : World} {A : Option Addr} {n : Nat} {xs : List S48} (h : Kd.C k48 w A n xs) (i : Int) (h0 : 0 ≤ i) (h1 : i < n) : ∃ ad , A = some ad ∧ w.cell? (ad.add (i.toNat * 2)) = some (.string (rd_T48 xs i).f0) ∧ w.cell? ⟨(ad.add (i.toNat * 2)).block, (ad.add (i.toNat * 2)).off + 1, none⟩ = some (.int .i64 (rd_T48 xs i).f1) := by
 obtain ⟨ad, c, e, _, hK, hc0⟩ := Kd.C_get h z48 i h0 h1
 have hc : ∀ j u, c[j]? = some u → w.cell? (ad.add (i.toNat * 2 + j)) = some u := hc0
 obtain rfl := k48_open hK
 exact ⟨ad, e, hc 0 _ rfl, by rw [← add_field _ _ 1 (by omega)]; exact hc 1 _ rfl⟩

def rd_L9 (xs : List (List S48)) (i : Int) : (List S48) := xs.getD i.toNat ([] : List S48)
theorem at_L9 {w : World} {A : Option Addr} {n : Nat} {xs : List (List S48)} (h : Kd.C (Kd.slice 48 k48) w A n xs) (i : Int) (h0 : 0 ≤ i) (h1 : i < n) : ∃ ad A0 c0, A = some ad ∧ w.cell? (ad.add i.toNat) = some (.slice A0 (rd_L9 xs i).length c0) ∧ (rd_L9 xs i).length ≤ c0 ∧ k48.C w A0 (rd_L9 xs i).length (rd_L9 xs i) := by
 obtain ⟨ad, c, e, _, hK, hc0⟩ := Kd.C_get h ([] : List S48) i h0 h1
 have hc : ∀ j u, c[j]? = some u → w.cell? (ad.add (i.toNat * 1 + j)) = some u := hc0
 obtain ⟨A0, c0, rfl, l0, g0⟩ := hK
 exact ⟨ad, A0, c0, e, by have hq := hc 0 _ rfl; rwa [Nat.mul_one, Nat.add_zero] at hq, l0, g0⟩

structure S26 where
 f0 : Int
 f1 : (List S48)
 f2 : (List S48)
def k26 : Kd S26 := Kd.iso (Kd.pair (Kd.int .i64) (Kd.pair (Kd.slice 48 k48) (Kd.slice 48 k48))) (fun x : S26 => (x.f0, x.f1, x.f2))
theorem k26_open {w : World} {x : S26} {cs : List Value} (h : k26.K w x cs) : ∃ A1 c1 A2 c2, cs = [.int .i64 x.f0, .slice A1 x.f1.length c1, .slice A2 x.f2.length c2] ∧ x.f1.length ≤ c1 ∧ k48.C w A1 x.f1.length x.f1 ∧ x.f2.length ≤ c2 ∧ k48.C w A2 x.f2.length x.f2 := by
 obtain ⟨_, _, rfl, rfl, ⟨_, _, rfl, ⟨A1, c1, rfl, l1, g1⟩, ⟨A2, c2, rfl, l2, g2⟩⟩⟩ := h
 exact ⟨A1, c1, A2, c2, rfl, l1, g1, l2, g2⟩
structure S28 where
 f0 : Int
 f1 : ByteArray
 f2 : Int
 f3 : Int
 f4 : Bool
 f5 : (List S48)
 f6 : S26
def k28 : Kd S28 := Kd.iso (Kd.pair (Kd.int .i64) (Kd.pair Kd.string (Kd.pair (Kd.int .i64) (Kd.pair (Kd.int .i64) (Kd.pair Kd.bool (Kd.pair (Kd.slice 48 k48) k26)))))) (fun x : S28 => (x.f0, x.f1, x.f2, x.f3, x.f4, x.f5, x.f6))
theorem k28_open {w : World} {x : S28} {cs : List Value} (h : k28.K w x cs) : ∃ A5 c5 A7 c7 A8 c8, cs = [.int .i64 x.f0, .string x.f1, .int .i64 x.f2, .int .i64 x.f3, .bool x.f4, .slice A5 x.f5.length c5, .int .i64 x.f6.f0, .slice A7 x.f6.f1.length c7, .slice A8 x.f6.f2.length c8] ∧ x.f5.length ≤ c5 ∧ k48.C w A5 x.f5.length x.f5 ∧ x.f6.f1.length ≤ c7 ∧ k48.C w A7 x.f6.f1.length x.f6.f1 ∧ x.f6.f2.length ≤ c8 ∧ k48.C w A8 x.f6.f2.length x.f6.f2 := by
 obtain ⟨_, _, rfl, rfl, ⟨_, _, rfl, rfl, ⟨_, _, rfl, rfl, ⟨_, _, rfl, rfl, ⟨_, _, rfl, rfl, ⟨_, _, rfl, ⟨A5, c5, rfl, l5, g5⟩, s6⟩⟩⟩⟩⟩⟩ := h
 obtain ⟨A7, c7, A8, c8, rfl, l7, g7, l8, g8⟩ := k26_open s6
 exact ⟨A5, c5, A7, c7, A8, c8, rfl, l5, g5, l7, g7, l8, g8⟩
end Go.Proofs.YtmlddeogmckgmaaGreatDoor.P

-- ==== A0
namespace Go.Proofs.YtmlddeogmckgmaaGreatDoor.P
open Go.RowKit Go.Proofs.YtmlddeogmckgmaaGreatDoorW.PrintWords
theorem zA {w W : World} (h : Below w.heap.size w W) (o : Obj) : Below w.heap.size w (W.alloc o) := below_alloc h o
theorem zN {B : Nat} {w W : World} (h : Below B w W) (n : Nat) : Below B w (W.drewN n) := pw_below_drewN h n
theorem zD {base : Nat} {w W : World} (h : Below base w W) : Below base w W.drew := below_drew1 h
theorem zM {p : Prop} (h : p) : Aside0 p := ⟨h⟩
theorem zT {p : Prop} [Decidable p] (h : decide p = true) : p := of_decide_eq_true h
theorem zB {α β : Type} {x : Option α} {f : α → Option β} {b : β} (h : x.bind f = some b) : ∃ a, x = some a ∧ f a = some b := Option.bind_eq_some_iff.mp h
theorem zE {α : Type} [BEq α] [LawfulBEq α] {a b : α} (h : a ≠ b) : (a == b) = false := beq_eq_false_iff_ne.mpr h
theorem zF {α : Type} [BEq α] [LawfulBEq α] {a b : α} (h : a ≠ b) : (a != b) = true := bne_iff_ne.mpr h
theorem zG {α : Type} [BEq α] [LawfulBEq α] {a b : α} (h : a = b) : (a == b) = true := beq_iff_eq.mpr h
theorem zH {α : Type} [BEq α] [LawfulBEq α] {a b : α} (h : a = b) : (a != b) = false := bne_eq_false_iff_eq.mpr h
theorem zQ {p : Prop} [Decidable p] (h : p) : decide p = true := decide_eq_true h
theorem zR {p : Prop} [Decidable p] (h : ¬ p) : decide p = false := decide_eq_false h
theorem zS {α : Type} {a b : α} (h : some a = some b) : a = b := Option.some.inj h
theorem zX {w : World} {g : Nat} {t : TypeId} {cs : Array Value} (h : w.heap[g]? = some (.cells cs t (0, 0))) (i : Nat) : w.cell? ⟨g, i, none⟩ = cs[i]? := blk_cell h i
theorem zY {w : World} {g : Nat} {t : TypeId} {cs : Array Value} (h : w.heap[g]? = some (.cells cs t (0, 0))) (i : Nat) : w.frozen? ⟨g, i, none⟩ = false := blk_frozen h i
theorem zc4 {w : World} {g : Nat} {t : TypeId} {cs : Array Value} (h : w.heap[g]? = some (.cells cs t (0, 0))) : w.cell? ⟨g, 0, none⟩ = cs[0]? ∧ w.cell? ⟨g, 1, none⟩ = cs[1]? ∧ w.cell? ⟨g, 2, none⟩ = cs[2]? ∧ w.cell? ⟨g, 3, none⟩ = cs[3]? := ⟨blk_cell h 0, blk_cell h 1, blk_cell h 2, blk_cell h 3⟩
theorem zf4 {w : World} {g : Nat} {t : TypeId} {cs : Array Value} (h : w.heap[g]? = some (.cells cs t (0, 0))) : w.frozen? ⟨g, 0, none⟩ = false ∧ w.frozen? ⟨g, 1, none⟩ = false ∧ w.frozen? ⟨g, 2, none⟩ = false ∧ w.frozen? ⟨g, 3, none⟩ = false := ⟨blk_frozen h 0, blk_frozen h 1, blk_frozen h 2, blk_frozen h 3⟩
theorem zcf {w : World} {g : Nat} {t : TypeId} {cs : Array Value} (h : w.heap[g]? = some (.cells cs t (0, 0))) : w.cell? ⟨g, 0, none⟩ = cs[0]? ∧ w.cell? ⟨g, 1, none⟩ = cs[1]? ∧ w.cell? ⟨g, 2, none⟩ = cs[2]? ∧ w.cell? ⟨g, 3, none⟩ = cs[3]? ∧ w.frozen? ⟨g, 0, none⟩ = false ∧ w.frozen? ⟨g, 1, none⟩ = false ∧ w.frozen? ⟨g, 2, none⟩ = false ∧ w.frozen? ⟨g, 3, none⟩ = false := ⟨blk_cell h 0, blk_cell h 1, blk_cell h 2, blk_cell h 3, blk_frozen h 0, blk_frozen h 1, blk_frozen h 2, blk_frozen h 3⟩
theorem zg {w W : World} (h : Below w.heap.size w W := by with_reducible (repeat (first | apply zA | apply zN | apply zD)); exact Below.refl _ _) : Below w.heap.size w W := h
theorem zk {w W : World} {g : Nat} {o : Obj} (h : w.heap[g]? = some o) (s : Below w.heap.size w W := by exact zg) : W.heap[g]? = some o := blk_below h s
theorem zr {α : Type} {d : Kd α} {e base : Nat} {w W : World} {ok : Nat → Prop} {v : Value} {xs : List α} (h : d.R e w base ok v xs) (s : Below w.heap.size w W := by exact zg) : d.R e W base ok v xs := Kd.R_below h s
theorem zb {w W : World} (h : Below w.heap.size w W := by repeat (first | (with_reducible first | exact HB.out | apply zA | apply zN | apply zD | refine below_set ?_ (Aside0.out (by assumption)) | refine below_set ?_ (IsS93.ge HI0.out)) | exact HB.out)) : Below w.heap.size w W := h
theorem zv {p : Prop} (h : p := by first | (with_reducible assumption) | assumption) : p := h
theorem zl {p : Prop} (h : p := by (try simp only [List.map_toArray, List.map_cons, List.map_nil]); first | done | rfl) : p := h
theorem zy {p : Prop} (h : p := by first | rfl | (simp; done) | (simp [*]; done)) : p := h
theorem zd {w W : World} (h : Drawn0 w W := by repeat (first | exact Drawn0.refl _ | apply Drawn0.step)) : Drawn0 w W := h
theorem zh {w W : World} {g : Nat} (hg : g = W.heap.size) (h : Below w.heap.size w W := by exact zb) : w.heap.size ≤ g := by rw [hg]; exact h.size
theorem ze {w W : World} {g : Nat} {row : Option Nat} (h : KeepBut w W g row := by repeat (first | (with_reducible first | exact HK.out | apply KeepBut.set_ | apply keep_drewN | apply keep_drew | apply keep_alloc) | exact HK.out)) : KeepBut w W g row := h
theorem zf {w W : World} {S : Nat → Prop} (h : Kept w W S := by repeat (first | (with_reducible first | exact HK.out | apply Kept.alloc | apply Kept.drewN | apply Kept.drew) | exact HK.out)) : Kept w W S := h
theorem zw {p : Prop} (h : p := by first | rfl | (simp [errW_none, errW_some] <;> rfl) | (simp [*, errW_none, errW_some] <;> rfl)) : p := h
theorem zi {p : Prop} (h : p := by repeat (first | (with_reducible first | exact HI0.out | apply IsS93.alloc | apply IsS93.drewN | apply IsS93.drew | apply IsS93.set_0 | apply IsS93.set_1) | exact HI0.out)) : p := h
theorem zI {b : Bool} (h : b ≠ true) : b = false := Bool.eq_false_iff.mpr h
theorem zq {n : Nat} {w0 w W : World} (h : Below n w0 w) (s : Below n w0 w → Below n w0 W := by intro h_; repeat (first | exact h_ | apply pw_below_drewN | apply below_drew1 | apply below_alloc)) : Below n w0 W := s h
theorem zp1 {α : Type} (l : List α) (i : Nat) (a : α) : l.toArray.setIfInBounds i a = (l.set i a).toArray := List.setIfInBounds_toArray ..
theorem zp2 {α : Type} (a b : α) (l : List α) : (a :: l).set 0 b = b :: l := List.set_cons_zero
theorem zp3 {α : Type} (a b : α) (l : List α) (n : Nat) : (a :: l).set (n + 1) b = a :: l.set n b := List.set_cons_succ
end Go.Proofs.YtmlddeogmckgmaaGreatDoor.P

-- ==== PF67
namespace Go.Proofs.YtmlddeogmckgmaaGreatDoor.P
open Go.RowKit Go.Proofs.YtmlddeogmckgmaaGreatDoorW.PrintWords Go.Proofs.YtmlddeogmckgmaaGreatDoorW.PrintLast Go.Proofs.YtmlddeogmckgmaaGreatDoorW.PrintMore
attribute [local go_sem] max2_int min2_int max_two min_two max_three min_three max_four min_four

mutual
def name_sign.j0 : Nat → Int → Bool → Option (Int × Int)
 | 0, _, _ => none
 | k + 1, x0, x4 => if x4 = true then (some (1, 1)) else (if x0 ≥ 65 then (name_sign.j1 k x0 (decide (x0 ≤ 90))) else (name_sign.j1 k x0 false))
def name_sign.j1 : Nat → Int → Bool → Option (Int × Int)
 | 0, _, _ => none
 | k + 1, x0, x11 => if x11 = true then (some (2, 2)) else (if x0 ≥ 48 then (if x0 ≤ 57 then (some (0, 3)) else (some (0, 0))) else (some (0, 0)))
end
def name_sign.f (k : Nat) (a0 : Int) : Option (Int × Int) := if a0 ≥ 97 then (name_sign.j0 k a0 (decide (a0 ≤ 122))) else (name_sign.j0 k a0 false)
theorem name_sign.mono_l : ∀ k, (∀ y0 y1, LeO (name_sign.j0 k y0 y1) (name_sign.j0 (k + 1) y0 y1)) ∧ (∀ y0 y1, LeO (name_sign.j1 k y0 y1) (name_sign.j1 (k + 1) y0 y1))
 | 0 => ⟨fun _ _ r h => by simp [name_sign.j0] at h, fun _ _ r h => by simp [name_sign.j1] at h⟩
 | k + 1 => by
  obtain ⟨ih0, ih1⟩ := name_sign.mono_l k
  refine ⟨?_, ?_⟩
  ·
   intro y0 y1
   unfold name_sign.j0
   repeat' first
   | (with_reducible exact ih0 _ _)
   | (with_reducible exact ih1 _ _)
   | (with_reducible exact LeO.refl _)
   | (with_reducible exact LeO.none _)
   | (with_reducible refine LeO.ite ?_ ?_)
   | (with_reducible refine LeO.bind ?_ (fun _ => ?_))
  ·
   intro y0 y1
   unfold name_sign.j1
   repeat' first
   | (with_reducible exact ih0 _ _)
   | (with_reducible exact ih1 _ _)
   | (with_reducible exact LeO.refl _)
   | (with_reducible exact LeO.none _)
   | (with_reducible refine LeO.ite ?_ ?_)
   | (with_reducible refine LeO.bind ?_ (fun _ => ?_))
theorem name_sign.mono : ∀ a0 k, LeO (name_sign.f k a0) (name_sign.f (k + 1) a0) := by
 intro a0 k
 obtain ⟨ih0, ih1⟩ := name_sign.mono_l k
 unfold name_sign.f
 repeat' first
  | (with_reducible exact ih0 _ _)
  | (with_reducible exact ih1 _ _)
  | (with_reducible exact LeO.refl _)
  | (with_reducible exact LeO.none _)
  | (with_reducible refine LeO.ite ?_ ?_)
  | (with_reducible refine LeO.bind ?_ (fun _ => ?_))
theorem name_sign.calls (k : Nat) (a0 : Int) (r1 : Int) (r2 : Int) (w : World) (h : name_sign.f k a0 = some (r1, r2)) :
 Calls Tryz.prog 67 #[.int .u8 a0] w fun e w' => e = .returned (.tuple #[.int .i64 r1, .int .i64 r2]) ∧ Drawn0 w w' := by
 have H : (if a0 ≥ 97 then (name_sign.j0 k a0 (decide (a0 ≤ 122))) else (name_sign.j0 k a0 false)) = some (r1, r2) := h
 clear h
 have HC2 := zM H
 clear H
 go_enter Tryz.func67, Tryz.ntmps67
 go_upto_region 1 with (fail)
 go_cut [4] (fun v4 wc => ∃ (kq : Nat) (x4_1 : Bool), v4 = .bool x4_1 ∧ Aside0 (name_sign.j0 kq a0 x4_1 = some (r1, r2)) ∧ Aside0 (kq ≤ k) ∧ Drawn0 w wc)
 case first =>
  have H := HC2.out
  clear HC2
  by_cases c3 : a0 ≥ 97
  ·
   rw [if_pos c3] at H
   have c3b0 : decide (97 ≤ a0) = true := zQ c3
   clear c3
   (first | rw [c3b0] | (simp only [i64_w, i32_w]; rw [c3b0]) | skip)
   have H' := zM H
   clear H
   go_wp2
   go_meet
   case rel => exact ⟨_, (decide (a0 ≤ 122)), zy, H', ⟨by first | omega | exact Nat.le_refl _⟩, zd⟩
  ·
   rw [if_neg c3] at H
   have c3b0 : decide (97 ≤ a0) = false := zR c3
   clear c3
   (first | rw [c3b0] | (simp only [i64_w, i32_w]; rw [c3b0]) | skip)
   have H' := zM H
   clear H
   go_wp2
   go_meet
   case rel => exact ⟨_, (false), zy, H', ⟨by first | omega | exact Nat.le_refl _⟩, zd⟩
 case rest =>
  clear HC2
  try clear p2
  try clear c3
  try clear c3b0
  obtain ⟨kq, x4_1, rfl, HA, HJ1, ⟨mc1, rfl⟩⟩ := hcut
  cases kq with
  | zero => exact absurd HA.out (by simp [name_sign.j0])
  | succ kj1 =>
   have H := HA.out
   clear HA
   simp only [name_sign.j0] at H
   by_cases c4 : x4_1 = true
   ·
    subst c4
    rw [if_pos rfl] at H
    simp only [Option.some.injEq, Prod.mk.injEq] at H
    obtain ⟨rfl, rfl⟩ := H
    go_wp2
    go_ret2
    exact ⟨zy, zd⟩
   ·
    replace c4 := zI c4
    subst c4
    rw [if_neg (show ¬ (false = true) by decide)] at H
    have HC5 := zM H
    clear H
    go_upto_region 3 with (fail)
    go_cut [11] (fun v11 wc => ∃ (kq : Nat) (x11_4 : Bool), v11 = .bool x11_4 ∧ Aside0 (name_sign.j1 kq a0 x11_4 = some (r1, r2)) ∧ Aside0 (kq ≤ kj1) ∧ Drawn0 w wc)
    case first =>
     have H := HC5.out
     clear HC5
     by_cases c6 : a0 ≥ 65
     ·
      rw [if_pos c6] at H
      have c6b0 : decide (65 ≤ a0) = true := zQ c6
      clear c6
      (first | rw [c6b0] | (simp only [i64_w, i32_w]; rw [c6b0]) | skip)
      have H' := zM H
      clear H
      go_wp2
      go_meet
      case rel => exact ⟨_, (decide (a0 ≤ 90)), zy, H', ⟨by have := HJ1.out; first | omega | exact Nat.le_refl _⟩, zd⟩
     ·
      rw [if_neg c6] at H
      have c6b0 : decide (65 ≤ a0) = false := zR c6
      clear c6
      (first | rw [c6b0] | (simp only [i64_w, i32_w]; rw [c6b0]) | skip)
      have H' := zM H
      clear H
      go_wp2
      go_meet
      case rel => exact ⟨_, (false), zy, H', ⟨by have := HJ1.out; first | omega | exact Nat.le_refl _⟩, zd⟩
    case rest =>
     clear HC5
     try clear c1
     try clear p2
     try clear c3
     try clear c3b0
     try clear c4
     try clear c6
     try clear c6b0
     try clear p2
     obtain ⟨kq, x11_4, rfl, HA, HJ4, ⟨mc4, rfl⟩⟩ := hcut
     cases kq with
     | zero => exact absurd HA.out (by simp [name_sign.j1])
     | succ kj4 =>
      have H := HA.out
      clear HA
      simp only [name_sign.j1] at H
      by_cases c7 : x11_4 = true
      ·
       subst c7
       rw [if_pos rfl] at H
       simp only [Option.some.injEq, Prod.mk.injEq] at H
       obtain ⟨rfl, rfl⟩ := H
       go_wp2
       go_ret2
       exact ⟨zy, zd⟩
      ·
       replace c7 := zI c7
       subst c7
       rw [if_neg (show ¬ (false = true) by decide)] at H
       by_cases c8 : a0 ≥ 48
       ·
        rw [if_pos c8] at H
        have c8b0 : decide (48 ≤ a0) = true := zQ c8
        clear c8
        by_cases c9 : a0 ≤ 57
        ·
         rw [if_pos c9] at H
         have c9b0 : decide (a0 ≤ 57) = true := zQ c9
         clear c9
         simp only [Option.some.injEq, Prod.mk.injEq] at H
         obtain ⟨rfl, rfl⟩ := H
         go_wp2
         go_ret2
         exact ⟨zy, zd⟩
        ·
         rw [if_neg c9] at H
         have c9b0 : decide (a0 ≤ 57) = false := zR c9
         clear c9
         simp only [Option.some.injEq, Prod.mk.injEq] at H
         obtain ⟨rfl, rfl⟩ := H
         go_wp2
         go_ret2
         exact ⟨zy, zd⟩
       ·
        rw [if_neg c8] at H
        have c8b0 : decide (48 ≤ a0) = false := zR c8
        clear c8
        simp only [Option.some.injEq, Prod.mk.injEq] at H
        obtain ⟨rfl, rfl⟩ := H
        go_wp2
        go_ret2
        exact ⟨zy, zd⟩


-- ==== PF35

mutual
def name_Kind.j0 : Nat → ByteArray → Bool → Option (Int)
 | 0, _, _ => none
 | k + 1, x0, x14 => if x14 = true then (some 0) else (if 0 < (x0.size : Int) then ((name_sign.f k (bt x0 0)).bind fun bt101 => (name_Kind.l0 k x0 bt101.1 (x0.size : Int) 0)) else (none))
def name_Kind.l0 : Nat → ByteArray → Int → Int → Int → Option (Int)
 | 0, _, _, _, _ => none
 | k + 1, x0, x3, x22, x23 => if x23 < x22 then (if 0 ≤ x23 then (if x23 < (x0.size : Int) then ((name_sign.f k (bt x0 x23)).bind fun bt103 => (if (Go.bits .and .i64 bt103.2 x3) = 0 then (some 0) else (name_Kind.l0 k x0 x3 x22 (wrap64 (x23 + 1))))) else (none)) else (none)) else (some x3)
end
def name_Kind.f (k : Nat) (a0 : ByteArray) : Option (Int) := if a0.toList = ([] : List UInt8) then (name_Kind.j0 k a0 true) else (name_Kind.j0 k a0 (decide ((a0.size : Int) > 8)))
theorem name_Kind.mono_l : ∀ k, (∀ y0 y1, LeO (name_Kind.j0 k y0 y1) (name_Kind.j0 (k + 1) y0 y1)) ∧ (∀ y0 y1 y2 y3, LeO (name_Kind.l0 k y0 y1 y2 y3) (name_Kind.l0 (k + 1) y0 y1 y2 y3))
 | 0 => ⟨fun _ _ r h => by simp [name_Kind.j0] at h, fun _ _ _ _ r h => by simp [name_Kind.l0] at h⟩
 | k + 1 => by
  obtain ⟨ih0, ih1⟩ := name_Kind.mono_l k
  refine ⟨?_, ?_⟩
  ·
   intro y0 y1
   unfold name_Kind.j0
   repeat' first
   | (with_reducible exact ih0 _ _)
   | (with_reducible exact ih1 _ _ _ _)
   | (with_reducible exact name_sign.mono _ _)
   | (with_reducible exact LeO.refl _)
   | (with_reducible exact LeO.none _)
   | (with_reducible refine LeO.ite ?_ ?_)
   | (with_reducible refine LeO.bind ?_ (fun _ => ?_))
  ·
   intro y0 y1 y2 y3
   unfold name_Kind.l0
   repeat' first
   | (with_reducible exact ih0 _ _)
   | (with_reducible exact ih1 _ _ _ _)
   | (with_reducible exact name_sign.mono _ _)
   | (with_reducible exact LeO.refl _)
   | (with_reducible exact LeO.none _)
   | (with_reducible refine LeO.ite ?_ ?_)
   | (with_reducible refine LeO.bind ?_ (fun _ => ?_))
theorem name_Kind.mono : ∀ a0 k, LeO (name_Kind.f k a0) (name_Kind.f (k + 1) a0) := by
 intro a0 k
 obtain ⟨ih0, ih1⟩ := name_Kind.mono_l k
 unfold name_Kind.f
 repeat' first
  | (with_reducible exact ih0 _ _)
  | (with_reducible exact ih1 _ _ _ _)
  | (with_reducible exact name_sign.mono _ _)
  | (with_reducible exact LeO.refl _)
  | (with_reducible exact LeO.none _)
  | (with_reducible refine LeO.ite ?_ ?_)
  | (with_reducible refine LeO.bind ?_ (fun _ => ?_))
theorem name_Kind.calls (k : Nat) (a0 : ByteArray) (r : Int) (w : World) (h : name_Kind.f k a0 = some r) :
 Calls Tryz.prog 35 #[.string a0] w fun e w' => e = .returned (.int .i64 r) ∧ Drawn0 w w' := by
 have H : (if a0.toList = ([] : List UInt8) then (name_Kind.j0 k a0 true) else (name_Kind.j0 k a0 (decide ((a0.size : Int) > 8)))) = some r := h
 clear h
 have HC2 := zM H
 clear H
 go_enter Tryz.func35, Tryz.ntmps35
 go_upto_region 1 with (fail)
 go_cut [14] (fun v14 wc => ∃ (kq : Nat) (x14_1 : Bool), v14 = .bool x14_1 ∧ Aside0 (name_Kind.j0 kq a0 x14_1 = some r) ∧ Aside0 (kq ≤ k) ∧ Drawn0 w wc)
 case first =>
  have H := HC2.out
  clear HC2
  by_cases c3 : a0.toList = ([] : List UInt8)
  ·
   rw [if_pos c3] at H
   have c3b0 : (a0.toList == ([] : List UInt8)) = true := zG c3
   have c3b1 : (a0.toList != ([] : List UInt8)) = false := zH c3
   clear c3
   (first | rw [c3b0] | (simp only [i64_w, i32_w]; rw [c3b0]) | skip)
   have H' := zM H
   clear H
   go_wp2
   go_meet
   case rel => exact ⟨_, (true), zy, H', ⟨by first | omega | exact Nat.le_refl _⟩, zd⟩
  ·
   rw [if_neg c3] at H
   have c3b0 : (a0.toList == ([] : List UInt8)) = false := zE c3
   have c3b1 : (a0.toList != ([] : List UInt8)) = true := zF c3
   (first | rw [c3b0] | (simp only [i64_w, i32_w]; rw [c3b0]) | skip)
   have H' := zM H
   clear H
   go_wp2
   go_meet
   case rel => exact ⟨_, (decide ((a0.size : Int) > 8)), zy, H', ⟨by first | omega | exact Nat.le_refl _⟩, zd⟩
 case rest =>
  clear HC2
  try clear p2
  try clear c3
  try clear c3b0
  try clear c3b1
  obtain ⟨kq, x14_1, rfl, HA, HJ1, ⟨mc1, rfl⟩⟩ := hcut
  cases kq with
  | zero => exact absurd HA.out (by simp [name_Kind.j0])
  | succ kj1 =>
   have H := HA.out
   clear HA
   simp only [name_Kind.j0] at H
   by_cases c4 : x14_1 = true
   ·
    subst c4
    rw [if_pos rfl] at H
    obtain rfl := zS H
    go_wp2
    go_ret
    exact ⟨zy, zd⟩
   ·
    replace c4 := zI c4
    subst c4
    rw [if_neg (show ¬ (false = true) by decide)] at H
    by_cases c5 : 0 < (a0.size : Int)
    ·
     rw [if_pos c5] at H
     have c5b0 : decide (0 < (a0.size : Int)) = true := zQ c5
     have c5b1 : decide (0 < a0.size) = true := zQ (by omega)
     clear c5
     replace H := zB H
     obtain ⟨⟨t101, t102⟩, A70, H⟩ := H
     try dsimp only at H
     have A7 := zM A70
     clear A70
     have H' := zM H
     clear H
     have p6 : 0 ≤ (0 : Int) := (by omega)
     have q6 : 0 < a0.size := (by have : (0 : Int) < (a0.size : Int) := zT zv; omega)
     have hx6 : ∀ h : 0 < a0.size, ((a0[0]'h).toNat : Int) = bt a0 0 := bt_at a0 0
     clear p6
     have qi6 : (0 < (a0.size : Int)) = True := eq_true (zT zv)
     replace q6 := eq_true q6
     go_wp2_with (first | ((with_reducible refine gate_callee (f := 67) rfl ?_); refine goesL_ (some 18) rfl rfl Tryz.func67 (by kernel_rfl) rfl #[.int .u8 (bt a0 0)] rfl zl ?_; (with_reducible refine (name_sign.calls kj1 (bt a0 0) t101 t102 _ A7.out).mono ?_); rintro e w' ⟨rfl, ⟨nd, rfl⟩⟩; refine ⟨_, rfl, ?_⟩))
     go_loopg [23] kj1 (fun kq v23 w' => ∃ (x23_2 : Int), v23 = .int .i64 x23_2 ∧ Aside0 (name_Kind.l0 kq a0 t101 (a0.size : Int) x23_2 = some r) ∧ Aside0 (kq ≤ kj1) ∧ Drawn0 w w')
     case atStart => exact ⟨(0), zy, H', ⟨Nat.le_refl _⟩, zd⟩
     case round =>
      clear H'
      try clear c1
      try clear p2
      try clear c3
      try clear c3b0
      try clear c3b1
      try clear c4
      try clear c5
      try clear c5b0
      try clear c5b1
      try clear c6
      try clear p6
      try clear q6
      try clear hx6
      try clear qi6
      try clear p2
      try clear p6
      try clear q6
      obtain ⟨x23_2, rfl, HA, HK2, ⟨m2, rfl⟩⟩ := hrel
      cases gk with
      | zero => exact absurd HA.out (by simp [name_Kind.l0])
      | succ k2 =>
       have H := HA.out
       clear HA
       simp only [name_Kind.l0] at H
       by_cases c8 : x23_2 < (a0.size : Int)
       ·
        rw [if_pos c8] at H
        have c8b0 : decide (x23_2 < (a0.size : Int)) = true := zQ c8
        clear c8
        by_cases c9 : 0 ≤ x23_2
        ·
         rw [if_pos c9] at H
         have c9b0 : decide (0 ≤ x23_2) = true := zQ c9
         clear c9
         by_cases c10 : x23_2 < (a0.size : Int)
         ·
          rw [if_pos c10] at H
          have c10b0 : decide (x23_2 < (a0.size : Int)) = true := zQ c10
          clear c10
          replace H := zB H
          obtain ⟨⟨t103, t104⟩, A120, H⟩ := H
          try dsimp only at H
          have A12 := zM A120
          clear A120
          by_cases c13 : (Go.bits .and .i64 t104 t101) = 0
          ·
           rw [if_pos c13] at H
           have c13b0 : ((Go.bits .and .i64 t104 t101) == 0) = true := zG c13
           have c13b1 : ((Go.bits .and .i64 t104 t101) != 0) = false := zH c13
           clear c13
           obtain rfl := zS H
           have p11 : 0 ≤ (x23_2 : Int) := zT zv
           have q11 : x23_2 < (a0.size : Int) := zT zv
           have hx11 := bt_at a0 x23_2
           replace p11 := eq_true p11
           replace q11 := eq_true q11
           go_wp2_with (first | ((with_reducible refine gate_callee (f := 67) rfl ?_); refine goesL_ (some 30) rfl rfl Tryz.func67 (by kernel_rfl) rfl #[.int .u8 (bt a0 x23_2)] rfl zl ?_; (with_reducible refine (name_sign.calls k2 (bt a0 x23_2) t103 t104 _ A12.out).mono ?_); rintro e w' ⟨rfl, ⟨nd, rfl⟩⟩; refine ⟨_, rfl, ?_⟩))
           go_ret
           exact ⟨zy, zd⟩
          ·
           rw [if_neg c13] at H
           have c13b0 : ((Go.bits .and .i64 t104 t101) == 0) = false := zE c13
           have c13b1 : ((Go.bits .and .i64 t104 t101) != 0) = true := zF c13
           have H' := zM H
           clear H
           have p11 : 0 ≤ (x23_2 : Int) := zT zv
           have q11 : x23_2 < (a0.size : Int) := zT zv
           have hx11 := bt_at a0 x23_2
           replace p11 := eq_true p11
           replace q11 := eq_true q11
           go_wp2_with (first | ((with_reducible refine gate_callee (f := 67) rfl ?_); refine goesL_ (some 30) rfl rfl Tryz.func67 (by kernel_rfl) rfl #[.int .u8 (bt a0 x23_2)] rfl zl ?_; (with_reducible refine (name_sign.calls k2 (bt a0 x23_2) t103 t104 _ A12.out).mono ?_); rintro e w' ⟨rfl, ⟨nd, rfl⟩⟩; refine ⟨_, rfl, ?_⟩))
           go_roundg k2
           case measure => have := HJ1.out; have := HK2.out; omega
           case rel => exact ⟨(wrap64 (x23_2 + 1)), zy, H', ⟨by have := HJ1.out; have := HK2.out; omega⟩, zd⟩
         ·
          rw [if_neg c10] at H
          exact absurd H (by simp)
        ·
         rw [if_neg c9] at H
         exact absurd H (by simp)
       ·
        rw [if_neg c8] at H
        have c8b0 : decide (x23_2 < (a0.size : Int)) = false := zR c8
        clear c8
        obtain rfl := zS H
        go_wp2
        go_ret
        exact ⟨zy, zd⟩
    ·
     rw [if_neg c5] at H
     exact absurd H (by simp)


-- ==== PF72

def api_Cell.f (l0 : List (S48)) : Option ((List (S48))) := if ([] : List (S48)).length + l0.length < 5864062014805 then some (([] : List (S48)) ++ l0) else none
theorem api_Cell.calls (A0 : Option Addr) (c0 : Nat) (l0 : List (S48)) (r : List (S48)) (w : World) (hr0 : Kd.C k48 w A0 l0.length l0) (hc0 : l0.length ≤ c0) (h : api_Cell.f l0 = some r) :
 Calls Tryz.prog 72 #[.slice A0 l0.length c0] w fun e w' => ∃ v0_ : Value, e = .returned (v0_) ∧ Kd.R k48 48 w' w.heap.size (fun _ => True) v0_ r ∧ Below w.heap.size w w' := by
 have HR0 := zM hr0
 have HC0 := zM hc0
 have HB := zM (Below.refl w.heap.size w)
 unfold api_Cell.f at h
 by_cases c2 : ([] : List (S48)).length + l0.length < 5864062014805
 ·
  rw [if_pos c2] at h
  have LMc2 := zM c2
  obtain rfl := zS h
  clear c2 h hc0
  have hnil := fun (W : World) (n c : Nat) => Lib.run_eql_slice_nil (P := Tryz.prog) W 24 48 A0 n c 0 0 Tryz.underlying24
  cases A0 with
  | none =>
   have hnil' : ∀ (W : World) (n c : Nat), Sem.run Tryz.prog (binOp BinOp.eql 24 (.slice none n c) (.slice none 0 0)) W = Result.ok (Value.bool true) W := hnil
   clear hnil
   have h0 : l0 = [] := by
    rcases Nat.eq_zero_or_pos l0.length with h0 | h0
    ·
     exact List.eq_nil_of_length_eq_zero h0
    ·
     obtain ⟨ad, h1, _⟩ := hr0.2.2 h0
     cases h1
   subst h0
   clear hr0 HR0 HC0 LMc2
   go_enter Tryz.func72, Tryz.ntmps72
   go_wp2
   go_ret
   exact ⟨_, rfl, Kd.R_nil _ _ _ _ _, Below.refl _ _⟩
  | some ad =>
   have hnil' : ∀ (W : World) (n c : Nat), Sem.run Tryz.prog (binOp BinOp.eql 24 (.slice (some ad) n c) (.slice none 0 0)) W = Result.ok (Value.bool false) W := hnil
   clear hnil
   clear hr0
   obtain ⟨y129, hy129⟩ : ∃ y_ : List (S48), y_ = (([] : List (S48)) ++ l0) := ⟨_, rfl⟩
   have Ny129 := zM hy129
   rw [← hy129]
   clear hy129
   have HE : ∀ W : World, Kd.R k48 48 (W.alloc (.cells #[] 48)) W.heap.size (fun _ => True) (.slice (some ⟨W.heap.size, 0, none⟩) 0 0) [] := fun W =>
    ⟨fun _ _ => trivial, [], World.ownsRow_lit (base := W.heap.size) (e := 48) (size := 2) W #[] 0 (Nat.le_refl _) (Nat.zero_le _) rfl, Reps.none _ _⟩
   have HE' := zM HE
   clear HE
   go_enter Tryz.func72, Tryz.ntmps72
   go_wp2_with (first | ((with_reducible refine gate_builtin (b := .append) (xs := #[.tmp 5, .tmp 6]) rfl ?_); at_builtin; refine Kd.R_append_rows k48 (w0 := w) w.heap.size rfl (.tmp 5) (.tmp 6) 24 48 (.agg #[(.string ⟨#[]⟩), (.int .i64 0)]) 24 rfl Tryz.underlying24 info48 rfl (by decide) (by omega) (.slice (some ⟨w.heap.size, 0, none⟩) 0 0) ([] : List (S48)) l0 _ _ _ (fun _ => True) (fun _ => False) rfl rfl ?aO ?aR (fun _ _ h => h) (fun _ h => h.elim) ?aF ?aB ?aS ?aL ?_; (case aR => exact Kd.C_alloc HR0.out _); (case aB => exact zb); (case aF => exact (fun _ _ => trivial)); (case aO => exact HE'.out w); (case aS => exact (below_size zb)); (case aL => have := LMc2.out; omega); intro v130 w3 ho hb hg hat; rw [← Ny129.out] at ho; replace HB := zM (hb); have HO131 := zM (ho); clear ho hb hg hat))
   go_ret
   exact ⟨_, zw, zr HO131.out, zb⟩
 ·
  rw [if_neg c2] at h
  cases h



-- ==== PF89

def IsS122 (w0 W : World) (g : Nat) (f0 : ByteArray) (f1 : Int) (f2 : Value) : Prop := ∃ (A2 : Option Addr) (c2 : Nat), W.heap[g]? = some (.cells #[.string f0, .int .i64 f1, f2] 122 (0, 0)) ∧ w0.heap.size ≤ g ∧ True
theorem IsS122.grown {w0 W : World} {g : Nat} {f0 : ByteArray} {f1 : Int} {f2 : Value} {W1 : World} {row : Option Nat} (h : IsS122 w0 W g f0 f1 f2) (hw : W.grownBy W1 row) (hne : some g ≠ row) : IsS122 w0 W1 g f0 f1 f2 := by
 obtain ⟨A2, c2, hb, hg, hr2⟩ := h
 exact ⟨A2, c2, blk_grown hb hw hne, hg, hr2⟩
theorem IsS122.kept {w0 W : World} {g : Nat} {f0 : ByteArray} {f1 : Int} {f2 : Value} {W1 : World} {S : Nat → Prop} (h : IsS122 w0 W g f0 f1 f2) (hk : Kept W W1 S) (hne : ¬ S g) : IsS122 w0 W1 g f0 f1 f2 := by
 obtain ⟨A2, c2, hb, hg, hr2⟩ := h
 exact ⟨A2, c2, blk_kept hb hk hne, hg, hr2⟩
theorem IsS122.below {w0 W : World} {g : Nat} {f0 : ByteArray} {f1 : Int} {f2 : Value} {W1 : World} (h : IsS122 w0 W g f0 f1 f2) (hw : Below W.heap.size W W1) : IsS122 w0 W1 g f0 f1 f2 := h.grown (grown_of_below hw none) (by simp)
theorem IsS122.alloc {w0 W : World} {g : Nat} {f0 : ByteArray} {f1 : Int} {f2 : Value} (h : IsS122 w0 W g f0 f1 f2) (o : Obj) : IsS122 w0 (W.alloc o) g f0 f1 f2 := h.below (zA (Below.refl _ _) o)
theorem IsS122.drewN {w0 W : World} {g : Nat} {f0 : ByteArray} {f1 : Int} {f2 : Value} (h : IsS122 w0 W g f0 f1 f2) (m : Nat) : IsS122 w0 (W.drewN m) g f0 f1 f2 := h
theorem IsS122.drew {w0 W : World} {g : Nat} {f0 : ByteArray} {f1 : Int} {f2 : Value} (h : IsS122 w0 W g f0 f1 f2) : IsS122 w0 W.drew g f0 f1 f2 := h
theorem IsS122.apart {w0 W : World} {g : Nat} {f0 : ByteArray} {f1 : Int} {f2 : Value} {α : Type} {d : Kd α} {e : Nat} {base : Nat} {ok : Nat → Prop} {v : Value} {xs : List α} (h : IsS122 w0 W g f0 f1 f2) (ho : d.R e W base ok v xs) (ht : ∀ q, q ∈ e :: d.E → q ≠ 122) : d.R e W base (fun k => ok k ∧ k ≠ g) v xs := by
 obtain ⟨A2, c2, hb, hg, hr2⟩ := h
 exact Kd.R_types ho hb ht
theorem IsS122.ge {w0 W : World} {g : Nat} {f0 : ByteArray} {f1 : Int} {f2 : Value} (h : IsS122 w0 W g f0 f1 f2) : w0.heap.size ≤ g := by
 obtain ⟨A2, c2, hb, hg, hr2⟩ := h
 exact hg
theorem cellS122_0 {W : World} {g : Nat} {f0 : ByteArray} {f1 : Int} {f2 : Value} (h : W.heap[g]? = some (.cells #[.string f0, .int .i64 f1, f2] 122 (0, 0))) : W.cell? ⟨g, 0, none⟩ = some (.string f0) := (zX h 0).trans rfl
theorem cellS122_1 {W : World} {g : Nat} {f0 : ByteArray} {f1 : Int} {f2 : Value} (h : W.heap[g]? = some (.cells #[.string f0, .int .i64 f1, f2] 122 (0, 0))) : W.cell? ⟨g, 1, none⟩ = some (.int .i64 f1) := (zX h 1).trans rfl
theorem IsS122.set_1 {w0 W : World} {g : Nat} {f0 : ByteArray} {f1 : Int} {f2 : Value} (h : IsS122 w0 W g f0 f1 f2) (x : Int) : IsS122 w0 (W.setCell ⟨g, 1, none⟩ (.int .i64 x)) g f0 x f2 := by
 obtain ⟨A2, c2, hb, hg, hr2⟩ := h
 exact ⟨A2, c2, by simpa using blk_set hb 1 (.int .i64 x), hg, hr2⟩
theorem cellS122_2 {W : World} {g : Nat} {f0 : ByteArray} {f1 : Int} {f2 : Value} (h : W.heap[g]? = some (.cells #[.string f0, .int .i64 f1, f2] 122 (0, 0))) : W.cell? ⟨g, 2, none⟩ = some (f2) := (zX h 2).trans rfl
def term_reader_next.f (s0_0 : ByteArray) (s0_1 : Int) (s0_2 : Value) : Option (Int × ByteArray × Int) := if s0_1 < (s0_0.size : Int) then (if 0 ≤ s0_1 then (some (bt s0_0 s0_1, s0_0, s0_1)) else (none)) else (some (0, s0_0, s0_1))
theorem term_reader_next.calls (g : Nat) (s0_0 : ByteArray) (s0_1 : Int) (s0_2 : Value) (r1 : Int) (r2 : ByteArray) (r3 : Int) (w0 w : World) (hI : IsS122 w0 w g s0_0 s0_1 s0_2) (hB : Below w0.heap.size w0 w) (h : term_reader_next.f s0_0 s0_1 s0_2 = some (r1, r2, r3)) :
 Calls Tryz.prog 89 #[.pointer (some ⟨g, 0, none⟩)] w fun e w' => e = .returned (.int .u8 r1) ∧ IsS122 w0 w' g r2 r3 s0_2 ∧ Below w0.heap.size w0 w' ∧ KeepBut w w' g none := by
 have HI0 := zM hI
 have HK := zM (KeepBut.refl w g none)
 have HL := zM hB.size
 clear hI
 have HW0 := zM hB.size
 have HB := zM hB
 clear hB
 have H : (if s0_1 < (s0_0.size : Int) then (if 0 ≤ s0_1 then (some (bt s0_0 s0_1, s0_0, s0_1)) else (none)) else (some (0, s0_0, s0_1))) = some (r1, r2, r3) := h
 clear h
 by_cases c2 : s0_1 < (s0_0.size : Int)
 ·
  rw [if_pos c2] at H
  have c2b0 : decide (s0_1 < (s0_0.size : Int)) = true := zQ c2
  clear c2
  by_cases c3 : 0 ≤ s0_1
  ·
   rw [if_pos c3] at H
   have c3b0 : decide (0 ≤ s0_1) = true := zQ c3
   clear c3
   simp only [Option.some.injEq, Prod.mk.injEq] at H
   obtain ⟨rfl, rfl, rfl⟩ := H
   obtain ⟨ASz5_2, cSz5_2, HGz5, hgz5, HSz5_2⟩ := HI0.out
   have hcz5_0 := cellS122_0 HGz5
   have hcz5_1 := cellS122_1 HGz5
   have hcz5_2 := cellS122_2 HGz5
   have hfz5_0 := zY HGz5 0
   have hfz5_1 := zY HGz5 1
   clear HGz5 hgz5
   have p4 : 0 ≤ (s0_1 : Int) := zT zv
   have q4 : s0_1 < (s0_0.size : Int) := zT zv
   have hx4 := bt_at s0_0 s0_1
   replace p4 := eq_true p4
   replace q4 := eq_true q4
   go_enter Tryz.func89, Tryz.ntmps89
   go_wp2
   repeat (go_quiet (fail); try go_wp2)
   go_ret
   exact ⟨zw, by repeat (first | (with_reducible first | exact HI0.out | apply IsS122.alloc | apply IsS122.drewN | apply IsS122.drew | apply IsS122.set_0 | apply IsS122.set_1) | exact HI0.out), by repeat (first | (with_reducible first | exact HB.out | apply zA | apply zN | apply zD | refine below_set ?_ (IsS122.ge HI0.out)) | exact HB.out), ze⟩
  ·
   rw [if_neg c3] at H
   exact absurd H (by simp)
 ·
  rw [if_neg c2] at H
  have c2b0 : decide (s0_1 < (s0_0.size : Int)) = false := zR c2
  clear c2
  simp only [Option.some.injEq, Prod.mk.injEq] at H
  obtain ⟨rfl, rfl, rfl⟩ := H
  obtain ⟨ASz6_2, cSz6_2, HGz6, hgz6, HSz6_2⟩ := HI0.out
  have hcz6_0 := cellS122_0 HGz6
  have hcz6_1 := cellS122_1 HGz6
  have hcz6_2 := cellS122_2 HGz6
  have hfz6_0 := zY HGz6 0
  have hfz6_1 := zY HGz6 1
  clear HGz6 hgz6
  go_enter Tryz.func89, Tryz.ntmps89
  go_wp2
  repeat (go_quiet (fail); try go_wp2)
  go_ret
  exact ⟨zw, by repeat (first | (with_reducible first | exact HI0.out | apply IsS122.alloc | apply IsS122.drewN | apply IsS122.drew | apply IsS122.set_0 | apply IsS122.set_1) | exact HI0.out), by repeat (first | (with_reducible first | exact HB.out | apply zA | apply zN | apply zD | refine below_set ?_ (IsS122.ge HI0.out)) | exact HB.out), ze⟩


-- ==== PF88

def term_reader_word.l0 : Nat → Int → Int → ByteArray → Int → Value → Option (ByteArray × ByteArray × Int)
 | 0, _, _, _, _, _ => none
 | k + 1, x3, x4, x1000, x1001, x1002 => if x4 ≥ 97 then (if x4 ≤ 122 then ((term_reader_next.f x1000 (wrap64 (x1001 + 1)) x1002).bind fun bt104 => (term_reader_word.l0 k x3 bt104.1 bt104.2.1 bt104.2.2 x1002)) else (if x4 ≥ 65 then (if x4 ≤ 90 then ((term_reader_next.f x1000 (wrap64 (x1001 + 1)) x1002).bind fun bt107 => (term_reader_word.l0 k x3 bt107.1 bt107.2.1 bt107.2.2 x1002)) else (if x4 ≥ 48 then (if x4 ≤ 57 then ((term_reader_next.f x1000 (wrap64 (x1001 + 1)) x1002).bind fun bt110 => (term_reader_word.l0 k x3 bt110.1 bt110.2.1 bt110.2.2 x1002)) else (if 0 ≤ x3 then (if x3 ≤ x1001 then (if x1001 ≤ (x1000.size : Int) then (some (x1000.extract (x3 : Int).toNat (x1001 : Int).toNat, x1000, x1001)) else (none)) else (none)) else (none))) else (if 0 ≤ x3 then (if x3 ≤ x1001 then (if x1001 ≤ (x1000.size : Int) then (some (x1000.extract (x3 : Int).toNat (x1001 : Int).toNat, x1000, x1001)) else (none)) else (none)) else (none)))) else (if x4 ≥ 48 then (if x4 ≤ 57 then ((term_reader_next.f x1000 (wrap64 (x1001 + 1)) x1002).bind fun bt113 => (term_reader_word.l0 k x3 bt113.1 bt113.2.1 bt113.2.2 x1002)) else (if 0 ≤ x3 then (if x3 ≤ x1001 then (if x1001 ≤ (x1000.size : Int) then (some (x1000.extract (x3 : Int).toNat (x1001 : Int).toNat, x1000, x1001)) else (none)) else (none)) else (none))) else (if 0 ≤ x3 then (if x3 ≤ x1001 then (if x1001 ≤ (x1000.size : Int) then (some (x1000.extract (x3 : Int).toNat (x1001 : Int).toNat, x1000, x1001)) else (none)) else (none)) else (none))))) else (if x4 ≥ 65 then (if x4 ≤ 90 then ((term_reader_next.f x1000 (wrap64 (x1001 + 1)) x1002).bind fun bt116 => (term_reader_word.l0 k x3 bt116.1 bt116.2.1 bt116.2.2 x1002)) else (if x4 ≥ 48 then (if x4 ≤ 57 then ((term_reader_next.f x1000 (wrap64 (x1001 + 1)) x1002).bind fun bt119 => (term_reader_word.l0 k x3 bt119.1 bt119.2.1 bt119.2.2 x1002)) else (if 0 ≤ x3 then (if x3 ≤ x1001 then (if x1001 ≤ (x1000.size : Int) then (some (x1000.extract (x3 : Int).toNat (x1001 : Int).toNat, x1000, x1001)) else (none)) else (none)) else (none))) else (if 0 ≤ x3 then (if x3 ≤ x1001 then (if x1001 ≤ (x1000.size : Int) then (some (x1000.extract (x3 : Int).toNat (x1001 : Int).toNat, x1000, x1001)) else (none)) else (none)) else (none)))) else (if x4 ≥ 48 then (if x4 ≤ 57 then ((term_reader_next.f x1000 (wrap64 (x1001 + 1)) x1002).bind fun bt122 => (term_reader_word.l0 k x3 bt122.1 bt122.2.1 bt122.2.2 x1002)) else (if 0 ≤ x3 then (if x3 ≤ x1001 then (if x1001 ≤ (x1000.size : Int) then (some (x1000.extract (x3 : Int).toNat (x1001 : Int).toNat, x1000, x1001)) else (none)) else (none)) else (none))) else (if 0 ≤ x3 then (if x3 ≤ x1001 then (if x1001 ≤ (x1000.size : Int) then (some (x1000.extract (x3 : Int).toNat (x1001 : Int).toNat, x1000, x1001)) else (none)) else (none)) else (none))))
def term_reader_word.f (k : Nat) (s0_0 : ByteArray) (s0_1 : Int) (s0_2 : Value) : Option (ByteArray × ByteArray × Int) := (term_reader_next.f s0_0 s0_1 s0_2).bind fun bt101 => (term_reader_word.l0 k s0_1 bt101.1 bt101.2.1 bt101.2.2 s0_2)
theorem term_reader_word.mono_l : ∀ k, (∀ y0 y1 y2 y3 y4, LeO (term_reader_word.l0 k y0 y1 y2 y3 y4) (term_reader_word.l0 (k + 1) y0 y1 y2 y3 y4))
 | 0 => fun _ _ _ _ _ r h => by simp [term_reader_word.l0] at h
 | k + 1 => by
  have ih0 := term_reader_word.mono_l k
  ·
   intro y0 y1 y2 y3 y4
   unfold term_reader_word.l0
   repeat' first
   | (with_reducible exact ih0 _ _ _ _ _)
   | (with_reducible exact LeO.refl _)
   | (with_reducible exact LeO.none _)
   | (with_reducible refine LeO.ite ?_ ?_)
   | (with_reducible refine LeO.bind ?_ (fun _ => ?_))
theorem term_reader_word.mono : ∀ a0 a1 a2 k, LeO (term_reader_word.f k a0 a1 a2) (term_reader_word.f (k + 1) a0 a1 a2) := by
 intro a0 a1 a2 k
 have ih0 := term_reader_word.mono_l k
 unfold term_reader_word.f
 repeat' first
  | (with_reducible exact ih0 _ _ _ _ _)
  | (with_reducible exact LeO.refl _)
  | (with_reducible exact LeO.none _)
  | (with_reducible refine LeO.ite ?_ ?_)
  | (with_reducible refine LeO.bind ?_ (fun _ => ?_))
theorem term_reader_word.calls (k : Nat) (g : Nat) (s0_0 : ByteArray) (s0_1 : Int) (s0_2 : Value) (r1 : ByteArray) (r2 : ByteArray) (r3 : Int) (w0 w : World) (hI : IsS122 w0 w g s0_0 s0_1 s0_2) (hB : Below w0.heap.size w0 w) (h : term_reader_word.f k s0_0 s0_1 s0_2 = some (r1, r2, r3)) :
 Calls Tryz.prog 88 #[.pointer (some ⟨g, 0, none⟩)] w fun e w' => e = .returned (.string r1) ∧ IsS122 w0 w' g r2 r3 s0_2 ∧ Below w0.heap.size w0 w' ∧ KeepBut w w' g none := by
 have HI0 := zM hI
 have HK := zM (KeepBut.refl w g none)
 have HL := zM hB.size
 clear hI
 have HW0 := zM hB.size
 have HB := zM hB
 clear hB
 have H : ((term_reader_next.f s0_0 s0_1 s0_2).bind fun bt101 => (term_reader_word.l0 k s0_1 bt101.1 bt101.2.1 bt101.2.2 s0_2)) = some (r1, r2, r3) := h
 clear h
 replace H := zB H
 obtain ⟨⟨t101, t102, t103⟩, A20, H⟩ := H
 try dsimp only at H
 have A2 := zM A20
 clear A20
 have H' := zM H
 clear H
 obtain ⟨ASz3_2, cSz3_2, HGz3, hgz3, HSz3_2⟩ := HI0.out
 have hcz3_0 := cellS122_0 HGz3
 have hcz3_1 := cellS122_1 HGz3
 have hcz3_2 := cellS122_2 HGz3
 have hfz3_0 := zY HGz3 0
 have hfz3_1 := zY HGz3 1
 clear HGz3 hgz3
 go_enter Tryz.func88, Tryz.ntmps88
 go_wp2_with (first | (go_at_call 89; (with_reducible refine (term_reader_next.calls g s0_0 s0_1 s0_2 t101 t102 t103 w0 _ ?side1 ?side2 A2.out).mono ?_); (case side1 => repeat (first | (with_reducible first | exact HI0.out | apply IsS122.alloc | apply IsS122.drewN | apply IsS122.drew | apply IsS122.set_0 | apply IsS122.set_1) | exact HI0.out)); (case side2 => repeat (first | (with_reducible first | exact HB.out | apply zA | apply zN | apply zD | refine below_set ?_ (IsS122.ge HI0.out)) | exact HB.out)); rintro e w4 ⟨rfl, hi, hb, hk⟩; replace HK := zM (KeepBut.trans (ze) hk (.inl rfl)); replace HB := zM (hb); replace HI0 := zM (hi); (try clear hb); (try clear hk); (try clear hi)))
 repeat (go_quiet (first | (go_at_call 89; (with_reducible refine (term_reader_next.calls g s0_0 s0_1 s0_2 t101 t102 t103 w0 _ ?side1 ?side2 A2.out).mono ?_); (case side1 => repeat (first | (with_reducible first | exact HI0.out | apply IsS122.alloc | apply IsS122.drewN | apply IsS122.drew | apply IsS122.set_0 | apply IsS122.set_1) | exact HI0.out)); (case side2 => repeat (first | (with_reducible first | exact HB.out | apply zA | apply zN | apply zD | refine below_set ?_ (IsS122.ge HI0.out)) | exact HB.out)); rintro e w4 ⟨rfl, hi, hb, hk⟩; replace HK := zM (KeepBut.trans (ze) hk (.inl rfl)); replace HB := zM (hb); replace HI0 := zM (hi); (try clear hb); (try clear hk); (try clear hi))); try go_wp2_with (first | (go_at_call 89; (with_reducible refine (term_reader_next.calls g s0_0 s0_1 s0_2 t101 t102 t103 w0 _ ?side1 ?side2 A2.out).mono ?_); (case side1 => repeat (first | (with_reducible first | exact HI0.out | apply IsS122.alloc | apply IsS122.drewN | apply IsS122.drew | apply IsS122.set_0 | apply IsS122.set_1) | exact HI0.out)); (case side2 => repeat (first | (with_reducible first | exact HB.out | apply zA | apply zN | apply zD | refine below_set ?_ (IsS122.ge HI0.out)) | exact HB.out)); rintro e w4 ⟨rfl, hi, hb, hk⟩; replace HK := zM (KeepBut.trans (ze) hk (.inl rfl)); replace HB := zM (hb); replace HI0 := zM (hi); (try clear hb); (try clear hk); (try clear hi))))
 go_loopg [4] k (fun kq v4 w' => ∃ (x4_1 : Int) (x1000_1 : ByteArray) (x1001_1 : Int), v4 = .int .u8 x4_1 ∧ Aside0 (term_reader_word.l0 kq s0_1 x4_1 x1000_1 x1001_1 s0_2 = some (r1, r2, r3)) ∧ Aside0 (kq ≤ k) ∧ Aside0 (IsS122 w0 w' g x1000_1 x1001_1 s0_2) ∧ Aside0 (KeepBut w w' g none) ∧ Aside0 (Below w0.heap.size w0 w'))
 case atStart => exact ⟨(t101), (t102), (t103), zy, H', ⟨Nat.le_refl _⟩, ⟨by repeat (first | (with_reducible first | exact HI0.out | apply IsS122.alloc | apply IsS122.drewN | apply IsS122.drew | apply IsS122.set_0 | apply IsS122.set_1) | exact HI0.out)⟩, ⟨ze⟩, ⟨by repeat (first | (with_reducible first | exact HB.out | apply zA | apply zN | apply zD | refine below_set ?_ (IsS122.ge HI0.out)) | exact HB.out)⟩⟩
 case round =>
  clear H'
  try clear p2
  try clear hcz3_0
  try clear hcz3_1
  try clear hcz3_2
  try clear hfz3_0
  try clear hfz3_1
  obtain ⟨x4_1, x1000_1, x1001_1, rfl, HA, HK1, HI0, HK, HB⟩ := hrel
  cases gk with
  | zero => exact absurd HA.out (by simp [term_reader_word.l0])
  | succ k1 =>
   have H := HA.out
   clear HA
   simp only [term_reader_word.l0] at H
   by_cases c5 : x4_1 ≥ 97
   ·
    rw [if_pos c5] at H
    have c5b0 : decide (97 ≤ x4_1) = true := zQ c5
    clear c5
    by_cases c6 : x4_1 ≤ 122
    ·
     rw [if_pos c6] at H
     have c6b0 : decide (x4_1 ≤ 122) = true := zQ c6
     clear c6
     replace H := zB H
     obtain ⟨⟨t104, t105, t106⟩, A70, H⟩ := H
     try dsimp only at H
     have A7 := zM A70
     clear A70
     have H' := zM H
     clear H
     obtain ⟨ASz8_2, cSz8_2, HGz8, hgz8, HSz8_2⟩ := HI0.out
     have hcz8_0 := cellS122_0 HGz8
     have hcz8_1 := cellS122_1 HGz8
     have hcz8_2 := cellS122_2 HGz8
     have hfz8_0 := zY HGz8 0
     have hfz8_1 := zY HGz8 1
     clear HGz8 hgz8
     go_wp2_with (first | (go_at_call 89; (with_reducible refine (term_reader_next.calls g x1000_1 (wrap64 (x1001_1 + 1)) s0_2 t104 t105 t106 w0 _ ?side1 ?side2 A7.out).mono ?_); (case side1 => repeat (first | (with_reducible first | exact HI0.out | apply IsS122.alloc | apply IsS122.drewN | apply IsS122.drew | apply IsS122.set_0 | apply IsS122.set_1) | exact HI0.out)); (case side2 => repeat (first | (with_reducible first | exact HB.out | apply zA | apply zN | apply zD | refine below_set ?_ (IsS122.ge HI0.out)) | exact HB.out)); rintro e w9 ⟨rfl, hi, hb, hk⟩; replace HK := zM (KeepBut.trans (ze) hk (.inl rfl)); replace HB := zM (hb); replace HI0 := zM (hi); (try clear hb); (try clear hk); (try clear hi)))
     repeat (go_quiet (first | (go_at_call 89; (with_reducible refine (term_reader_next.calls g x1000_1 (wrap64 (x1001_1 + 1)) s0_2 t104 t105 t106 w0 _ ?side1 ?side2 A7.out).mono ?_); (case side1 => repeat (first | (with_reducible first | exact HI0.out | apply IsS122.alloc | apply IsS122.drewN | apply IsS122.drew | apply IsS122.set_0 | apply IsS122.set_1) | exact HI0.out)); (case side2 => repeat (first | (with_reducible first | exact HB.out | apply zA | apply zN | apply zD | refine below_set ?_ (IsS122.ge HI0.out)) | exact HB.out)); rintro e w9 ⟨rfl, hi, hb, hk⟩; replace HK := zM (KeepBut.trans (ze) hk (.inl rfl)); replace HB := zM (hb); replace HI0 := zM (hi); (try clear hb); (try clear hk); (try clear hi))); try go_wp2_with (first | (go_at_call 89; (with_reducible refine (term_reader_next.calls g x1000_1 (wrap64 (x1001_1 + 1)) s0_2 t104 t105 t106 w0 _ ?side1 ?side2 A7.out).mono ?_); (case side1 => repeat (first | (with_reducible first | exact HI0.out | apply IsS122.alloc | apply IsS122.drewN | apply IsS122.drew | apply IsS122.set_0 | apply IsS122.set_1) | exact HI0.out)); (case side2 => repeat (first | (with_reducible first | exact HB.out | apply zA | apply zN | apply zD | refine below_set ?_ (IsS122.ge HI0.out)) | exact HB.out)); rintro e w9 ⟨rfl, hi, hb, hk⟩; replace HK := zM (KeepBut.trans (ze) hk (.inl rfl)); replace HB := zM (hb); replace HI0 := zM (hi); (try clear hb); (try clear hk); (try clear hi))))
     go_roundg k1
     case measure => have := HK1.out; omega
     case rel => exact ⟨(t104), (t105), (t106), zy, H', ⟨by have := HK1.out; omega⟩, ⟨by repeat (first | (with_reducible first | exact HI0.out | apply IsS122.alloc | apply IsS122.drewN | apply IsS122.drew | apply IsS122.set_0 | apply IsS122.set_1) | exact HI0.out)⟩, ⟨ze⟩, ⟨by repeat (first | (with_reducible first | exact HB.out | apply zA | apply zN | apply zD | refine below_set ?_ (IsS122.ge HI0.out)) | exact HB.out)⟩⟩
    ·
     rw [if_neg c6] at H
     have c6b0 : decide (x4_1 ≤ 122) = false := zR c6
     clear c6
     by_cases c10 : x4_1 ≥ 65
     ·
      rw [if_pos c10] at H
      have c10b0 : decide (65 ≤ x4_1) = true := zQ c10
      clear c10
      by_cases c11 : x4_1 ≤ 90
      ·
       rw [if_pos c11] at H
       have c11b0 : decide (x4_1 ≤ 90) = true := zQ c11
       clear c11
       replace H := zB H
       obtain ⟨⟨t107, t108, t109⟩, A120, H⟩ := H
       try dsimp only at H
       have A12 := zM A120
       clear A120
       have H' := zM H
       clear H
       obtain ⟨ASz13_2, cSz13_2, HGz13, hgz13, HSz13_2⟩ := HI0.out
       have hcz13_0 := cellS122_0 HGz13
       have hcz13_1 := cellS122_1 HGz13
       have hcz13_2 := cellS122_2 HGz13
       have hfz13_0 := zY HGz13 0
       have hfz13_1 := zY HGz13 1
       clear HGz13 hgz13
       go_wp2_with (first | (go_at_call 89; (with_reducible refine (term_reader_next.calls g x1000_1 (wrap64 (x1001_1 + 1)) s0_2 t107 t108 t109 w0 _ ?side1 ?side2 A12.out).mono ?_); (case side1 => repeat (first | (with_reducible first | exact HI0.out | apply IsS122.alloc | apply IsS122.drewN | apply IsS122.drew | apply IsS122.set_0 | apply IsS122.set_1) | exact HI0.out)); (case side2 => repeat (first | (with_reducible first | exact HB.out | apply zA | apply zN | apply zD | refine below_set ?_ (IsS122.ge HI0.out)) | exact HB.out)); rintro e w14 ⟨rfl, hi, hb, hk⟩; replace HK := zM (KeepBut.trans (ze) hk (.inl rfl)); replace HB := zM (hb); replace HI0 := zM (hi); (try clear hb); (try clear hk); (try clear hi)))
       repeat (go_quiet (first | (go_at_call 89; (with_reducible refine (term_reader_next.calls g x1000_1 (wrap64 (x1001_1 + 1)) s0_2 t107 t108 t109 w0 _ ?side1 ?side2 A12.out).mono ?_); (case side1 => repeat (first | (with_reducible first | exact HI0.out | apply IsS122.alloc | apply IsS122.drewN | apply IsS122.drew | apply IsS122.set_0 | apply IsS122.set_1) | exact HI0.out)); (case side2 => repeat (first | (with_reducible first | exact HB.out | apply zA | apply zN | apply zD | refine below_set ?_ (IsS122.ge HI0.out)) | exact HB.out)); rintro e w14 ⟨rfl, hi, hb, hk⟩; replace HK := zM (KeepBut.trans (ze) hk (.inl rfl)); replace HB := zM (hb); replace HI0 := zM (hi); (try clear hb); (try clear hk); (try clear hi))); try go_wp2_with (first | (go_at_call 89; (with_reducible refine (term_reader_next.calls g x1000_1 (wrap64 (x1001_1 + 1)) s0_2 t107 t108 t109 w0 _ ?side1 ?side2 A12.out).mono ?_); (case side1 => repeat (first | (with_reducible first | exact HI0.out | apply IsS122.alloc | apply IsS122.drewN | apply IsS122.drew | apply IsS122.set_0 | apply IsS122.set_1) | exact HI0.out)); (case side2 => repeat (first | (with_reducible first | exact HB.out | apply zA | apply zN | apply zD | refine below_set ?_ (IsS122.ge HI0.out)) | exact HB.out)); rintro e w14 ⟨rfl, hi, hb, hk⟩; replace HK := zM (KeepBut.trans (ze) hk (.inl rfl)); replace HB := zM (hb); replace HI0 := zM (hi); (try clear hb); (try clear hk); (try clear hi))))
       go_roundg k1
       case measure => have := HK1.out; omega
       case rel => exact ⟨(t107), (t108), (t109), zy, H', ⟨by have := HK1.out; omega⟩, ⟨by repeat (first | (with_reducible first | exact HI0.out | apply IsS122.alloc | apply IsS122.drewN | apply IsS122.drew | apply IsS122.set_0 | apply IsS122.set_1) | exact HI0.out)⟩, ⟨ze⟩, ⟨by repeat (first | (with_reducible first | exact HB.out | apply zA | apply zN | apply zD | refine below_set ?_ (IsS122.ge HI0.out)) | exact HB.out)⟩⟩
      ·
       rw [if_neg c11] at H
       have c11b0 : decide (x4_1 ≤ 90) = false := zR c11
       clear c11
       by_cases c15 : x4_1 ≥ 48
       ·
        rw [if_pos c15] at H
        have c15b0 : decide (48 ≤ x4_1) = true := zQ c15
        clear c15
        by_cases c16 : x4_1 ≤ 57
        ·
         rw [if_pos c16] at H
         have c16b0 : decide (x4_1 ≤ 57) = true := zQ c16
         clear c16
         replace H := zB H
         obtain ⟨⟨t110, t111, t112⟩, A170, H⟩ := H
         try dsimp only at H
         have A17 := zM A170
         clear A170
         have H' := zM H
         clear H
         obtain ⟨ASz18_2, cSz18_2, HGz18, hgz18, HSz18_2⟩ := HI0.out
         have hcz18_0 := cellS122_0 HGz18
         have hcz18_1 := cellS122_1 HGz18
         have hcz18_2 := cellS122_2 HGz18
         have hfz18_0 := zY HGz18 0
         have hfz18_1 := zY HGz18 1
         clear HGz18 hgz18
         go_wp2_with (first | (go_at_call 89; (with_reducible refine (term_reader_next.calls g x1000_1 (wrap64 (x1001_1 + 1)) s0_2 t110 t111 t112 w0 _ ?side1 ?side2 A17.out).mono ?_); (case side1 => repeat (first | (with_reducible first | exact HI0.out | apply IsS122.alloc | apply IsS122.drewN | apply IsS122.drew | apply IsS122.set_0 | apply IsS122.set_1) | exact HI0.out)); (case side2 => repeat (first | (with_reducible first | exact HB.out | apply zA | apply zN | apply zD | refine below_set ?_ (IsS122.ge HI0.out)) | exact HB.out)); rintro e w19 ⟨rfl, hi, hb, hk⟩; replace HK := zM (KeepBut.trans (ze) hk (.inl rfl)); replace HB := zM (hb); replace HI0 := zM (hi); (try clear hb); (try clear hk); (try clear hi)))
         repeat (go_quiet (first | (go_at_call 89; (with_reducible refine (term_reader_next.calls g x1000_1 (wrap64 (x1001_1 + 1)) s0_2 t110 t111 t112 w0 _ ?side1 ?side2 A17.out).mono ?_); (case side1 => repeat (first | (with_reducible first | exact HI0.out | apply IsS122.alloc | apply IsS122.drewN | apply IsS122.drew | apply IsS122.set_0 | apply IsS122.set_1) | exact HI0.out)); (case side2 => repeat (first | (with_reducible first | exact HB.out | apply zA | apply zN | apply zD | refine below_set ?_ (IsS122.ge HI0.out)) | exact HB.out)); rintro e w19 ⟨rfl, hi, hb, hk⟩; replace HK := zM (KeepBut.trans (ze) hk (.inl rfl)); replace HB := zM (hb); replace HI0 := zM (hi); (try clear hb); (try clear hk); (try clear hi))); try go_wp2_with (first | (go_at_call 89; (with_reducible refine (term_reader_next.calls g x1000_1 (wrap64 (x1001_1 + 1)) s0_2 t110 t111 t112 w0 _ ?side1 ?side2 A17.out).mono ?_); (case side1 => repeat (first | (with_reducible first | exact HI0.out | apply IsS122.alloc | apply IsS122.drewN | apply IsS122.drew | apply IsS122.set_0 | apply IsS122.set_1) | exact HI0.out)); (case side2 => repeat (first | (with_reducible first | exact HB.out | apply zA | apply zN | apply zD | refine below_set ?_ (IsS122.ge HI0.out)) | exact HB.out)); rintro e w19 ⟨rfl, hi, hb, hk⟩; replace HK := zM (KeepBut.trans (ze) hk (.inl rfl)); replace HB := zM (hb); replace HI0 := zM (hi); (try clear hb); (try clear hk); (try clear hi))))
         go_roundg k1
         case measure => have := HK1.out; omega
         case rel => exact ⟨(t110), (t111), (t112), zy, H', ⟨by have := HK1.out; omega⟩, ⟨by repeat (first | (with_reducible first | exact HI0.out | apply IsS122.alloc | apply IsS122.drewN | apply IsS122.drew | apply IsS122.set_0 | apply IsS122.set_1) | exact HI0.out)⟩, ⟨ze⟩, ⟨by repeat (first | (with_reducible first | exact HB.out | apply zA | apply zN | apply zD | refine below_set ?_ (IsS122.ge HI0.out)) | exact HB.out)⟩⟩
        ·
         rw [if_neg c16] at H
         have c16b0 : decide (x4_1 ≤ 57) = false := zR c16
         clear c16
         by_cases c20 : 0 ≤ s0_1
         ·
          rw [if_pos c20] at H
          have c20b0 := eq_true c20
          have c20b1 : decide (0 ≤ s0_1) = true := zQ c20
          clear c20
          by_cases c21 : s0_1 ≤ x1001_1
          ·
           rw [if_pos c21] at H
           have c21b0 := eq_true c21
           have c21b1 : decide (s0_1 ≤ x1001_1) = true := zQ c21
           clear c21
           by_cases c22 : x1001_1 ≤ (x1000_1.size : Int)
           ·
            rw [if_pos c22] at H
            have c22b0 := eq_true c22
            have c22b1 : decide (x1001_1 ≤ (x1000_1.size : Int)) = true := zQ c22
            clear c22
            simp only [Option.some.injEq, Prod.mk.injEq] at H
            obtain ⟨rfl, rfl, rfl⟩ := H
            obtain ⟨ASz23_2, cSz23_2, HGz23, hgz23, HSz23_2⟩ := HI0.out
            have hcz23_0 := cellS122_0 HGz23
            have hcz23_1 := cellS122_1 HGz23
            have hcz23_2 := cellS122_2 HGz23
            have hfz23_0 := zY HGz23 0
            have hfz23_1 := zY HGz23 1
            clear HGz23 hgz23
            go_wp2
            repeat (go_quiet (fail); try go_wp2)
            go_ret
            exact ⟨zw, by repeat (first | (with_reducible first | exact HI0.out | apply IsS122.alloc | apply IsS122.drewN | apply IsS122.drew | apply IsS122.set_0 | apply IsS122.set_1) | exact HI0.out), by repeat (first | (with_reducible first | exact HB.out | apply zA | apply zN | apply zD | refine below_set ?_ (IsS122.ge HI0.out)) | exact HB.out), ze⟩
           ·
            rw [if_neg c22] at H
            exact absurd H (by simp)
          ·
           rw [if_neg c21] at H
           exact absurd H (by simp)
         ·
          rw [if_neg c20] at H
          exact absurd H (by simp)
       ·
        rw [if_neg c15] at H
        have c15b0 : decide (48 ≤ x4_1) = false := zR c15
        clear c15
        by_cases c24 : 0 ≤ s0_1
        ·
         rw [if_pos c24] at H
         have c24b0 := eq_true c24
         have c24b1 : decide (0 ≤ s0_1) = true := zQ c24
         clear c24
         by_cases c25 : s0_1 ≤ x1001_1
         ·
          rw [if_pos c25] at H
          have c25b0 := eq_true c25
          have c25b1 : decide (s0_1 ≤ x1001_1) = true := zQ c25
          clear c25
          by_cases c26 : x1001_1 ≤ (x1000_1.size : Int)
          ·
           rw [if_pos c26] at H
           have c26b0 := eq_true c26
           have c26b1 : decide (x1001_1 ≤ (x1000_1.size : Int)) = true := zQ c26
           clear c26
           simp only [Option.some.injEq, Prod.mk.injEq] at H
           obtain ⟨rfl, rfl, rfl⟩ := H
           obtain ⟨ASz27_2, cSz27_2, HGz27, hgz27, HSz27_2⟩ := HI0.out
           have hcz27_0 := cellS122_0 HGz27
           have hcz27_1 := cellS122_1 HGz27
           have hcz27_2 := cellS122_2 HGz27
           have hfz27_0 := zY HGz27 0
           have hfz27_1 := zY HGz27 1
           clear HGz27 hgz27
           go_wp2
           repeat (go_quiet (fail); try go_wp2)
           go_ret
           exact ⟨zw, by repeat (first | (with_reducible first | exact HI0.out | apply IsS122.alloc | apply IsS122.drewN | apply IsS122.drew | apply IsS122.set_0 | apply IsS122.set_1) | exact HI0.out), by repeat (first | (with_reducible first | exact HB.out | apply zA | apply zN | apply zD | refine below_set ?_ (IsS122.ge HI0.out)) | exact HB.out), ze⟩
          ·
           rw [if_neg c26] at H
           exact absurd H (by simp)
         ·
          rw [if_neg c25] at H
          exact absurd H (by simp)
        ·
         rw [if_neg c24] at H
         exact absurd H (by simp)
     ·
      rw [if_neg c10] at H
      have c10b0 : decide (65 ≤ x4_1) = false := zR c10
      clear c10
      by_cases c28 : x4_1 ≥ 48
      ·
       rw [if_pos c28] at H
       have c28b0 : decide (48 ≤ x4_1) = true := zQ c28
       clear c28
       by_cases c29 : x4_1 ≤ 57
       ·
        rw [if_pos c29] at H
        have c29b0 : decide (x4_1 ≤ 57) = true := zQ c29
        clear c29
        replace H := zB H
        obtain ⟨⟨t113, t114, t115⟩, A300, H⟩ := H
        try dsimp only at H
        have A30 := zM A300
        clear A300
        have H' := zM H
        clear H
        obtain ⟨ASz31_2, cSz31_2, HGz31, hgz31, HSz31_2⟩ := HI0.out
        have hcz31_0 := cellS122_0 HGz31
        have hcz31_1 := cellS122_1 HGz31
        have hcz31_2 := cellS122_2 HGz31
        have hfz31_0 := zY HGz31 0
        have hfz31_1 := zY HGz31 1
        clear HGz31 hgz31
        go_wp2_with (first | (go_at_call 89; (with_reducible refine (term_reader_next.calls g x1000_1 (wrap64 (x1001_1 + 1)) s0_2 t113 t114 t115 w0 _ ?side1 ?side2 A30.out).mono ?_); (case side1 => repeat (first | (with_reducible first | exact HI0.out | apply IsS122.alloc | apply IsS122.drewN | apply IsS122.drew | apply IsS122.set_0 | apply IsS122.set_1) | exact HI0.out)); (case side2 => repeat (first | (with_reducible first | exact HB.out | apply zA | apply zN | apply zD | refine below_set ?_ (IsS122.ge HI0.out)) | exact HB.out)); rintro e w32 ⟨rfl, hi, hb, hk⟩; replace HK := zM (KeepBut.trans (ze) hk (.inl rfl)); replace HB := zM (hb); replace HI0 := zM (hi); (try clear hb); (try clear hk); (try clear hi)))
        repeat (go_quiet (first | (go_at_call 89; (with_reducible refine (term_reader_next.calls g x1000_1 (wrap64 (x1001_1 + 1)) s0_2 t113 t114 t115 w0 _ ?side1 ?side2 A30.out).mono ?_); (case side1 => repeat (first | (with_reducible first | exact HI0.out | apply IsS122.alloc | apply IsS122.drewN | apply IsS122.drew | apply IsS122.set_0 | apply IsS122.set_1) | exact HI0.out)); (case side2 => repeat (first | (with_reducible first | exact HB.out | apply zA | apply zN | apply zD | refine below_set ?_ (IsS122.ge HI0.out)) | exact HB.out)); rintro e w32 ⟨rfl, hi, hb, hk⟩; replace HK := zM (KeepBut.trans (ze) hk (.inl rfl)); replace HB := zM (hb); replace HI0 := zM (hi); (try clear hb); (try clear hk); (try clear hi))); try go_wp2_with (first | (go_at_call 89; (with_reducible refine (term_reader_next.calls g x1000_1 (wrap64 (x1001_1 + 1)) s0_2 t113 t114 t115 w0 _ ?side1 ?side2 A30.out).mono ?_); (case side1 => repeat (first | (with_reducible first | exact HI0.out | apply IsS122.alloc | apply IsS122.drewN | apply IsS122.drew | apply IsS122.set_0 | apply IsS122.set_1) | exact HI0.out)); (case side2 => repeat (first | (with_reducible first | exact HB.out | apply zA | apply zN | apply zD | refine below_set ?_ (IsS122.ge HI0.out)) | exact HB.out)); rintro e w32 ⟨rfl, hi, hb, hk⟩; replace HK := zM (KeepBut.trans (ze) hk (.inl rfl)); replace HB := zM (hb); replace HI0 := zM (hi); (try clear hb); (try clear hk); (try clear hi))))
        go_roundg k1
        case measure => have := HK1.out; omega
        case rel => exact ⟨(t113), (t114), (t115), zy, H', ⟨by have := HK1.out; omega⟩, ⟨by repeat (first | (with_reducible first | exact HI0.out | apply IsS122.alloc | apply IsS122.drewN | apply IsS122.drew | apply IsS122.set_0 | apply IsS122.set_1) | exact HI0.out)⟩, ⟨ze⟩, ⟨by repeat (first | (with_reducible first | exact HB.out | apply zA | apply zN | apply zD | refine below_set ?_ (IsS122.ge HI0.out)) | exact HB.out)⟩⟩
       ·
        rw [if_neg c29] at H
        have c29b0 : decide (x4_1 ≤ 57) = false := zR c29
        clear c29
        by_cases c33 : 0 ≤ s0_1
        ·
         rw [if_pos c33] at H
         have c33b0 := eq_true c33
         have c33b1 : decide (0 ≤ s0_1) = true := zQ c33
         clear c33
         by_cases c34 : s0_1 ≤ x1001_1
         ·
          rw [if_pos c34] at H
          have c34b0 := eq_true c34
          have c34b1 : decide (s0_1 ≤ x1001_1) = true := zQ c34
          clear c34
          by_cases c35 : x1001_1 ≤ (x1000_1.size : Int)
          ·
           rw [if_pos c35] at H
           have c35b0 := eq_true c35
           have c35b1 : decide (x1001_1 ≤ (x1000_1.size : Int)) = true := zQ c35
           clear c35
           simp only [Option.some.injEq, Prod.mk.injEq] at H
           obtain ⟨rfl, rfl, rfl⟩ := H
           obtain ⟨ASz36_2, cSz36_2, HGz36, hgz36, HSz36_2⟩ := HI0.out
           have hcz36_0 := cellS122_0 HGz36
           have hcz36_1 := cellS122_1 HGz36
           have hcz36_2 := cellS122_2 HGz36
           have hfz36_0 := zY HGz36 0
           have hfz36_1 := zY HGz36 1
           clear HGz36 hgz36
           go_wp2
           repeat (go_quiet (fail); try go_wp2)
           go_ret
           exact ⟨zw, by repeat (first | (with_reducible first | exact HI0.out | apply IsS122.alloc | apply IsS122.drewN | apply IsS122.drew | apply IsS122.set_0 | apply IsS122.set_1) | exact HI0.out), by repeat (first | (with_reducible first | exact HB.out | apply zA | apply zN | apply zD | refine below_set ?_ (IsS122.ge HI0.out)) | exact HB.out), ze⟩
          ·
           rw [if_neg c35] at H
           exact absurd H (by simp)
         ·
          rw [if_neg c34] at H
          exact absurd H (by simp)
        ·
         rw [if_neg c33] at H
         exact absurd H (by simp)
      ·
       rw [if_neg c28] at H
       have c28b0 : decide (48 ≤ x4_1) = false := zR c28
       clear c28
       by_cases c37 : 0 ≤ s0_1
       ·
        rw [if_pos c37] at H
        have c37b0 := eq_true c37
        have c37b1 : decide (0 ≤ s0_1) = true := zQ c37
        clear c37
        by_cases c38 : s0_1 ≤ x1001_1
        ·
         rw [if_pos c38] at H
         have c38b0 := eq_true c38
         have c38b1 : decide (s0_1 ≤ x1001_1) = true := zQ c38
         clear c38
         by_cases c39 : x1001_1 ≤ (x1000_1.size : Int)
         ·
          rw [if_pos c39] at H
          have c39b0 := eq_true c39
          have c39b1 : decide (x1001_1 ≤ (x1000_1.size : Int)) = true := zQ c39
          clear c39
          simp only [Option.some.injEq, Prod.mk.injEq] at H
          obtain ⟨rfl, rfl, rfl⟩ := H
          obtain ⟨ASz40_2, cSz40_2, HGz40, hgz40, HSz40_2⟩ := HI0.out
          have hcz40_0 := cellS122_0 HGz40
          have hcz40_1 := cellS122_1 HGz40
          have hcz40_2 := cellS122_2 HGz40
          have hfz40_0 := zY HGz40 0
          have hfz40_1 := zY HGz40 1
          clear HGz40 hgz40
          go_wp2
          repeat (go_quiet (fail); try go_wp2)
          go_ret
          exact ⟨zw, by repeat (first | (with_reducible first | exact HI0.out | apply IsS122.alloc | apply IsS122.drewN | apply IsS122.drew | apply IsS122.set_0 | apply IsS122.set_1) | exact HI0.out), by repeat (first | (with_reducible first | exact HB.out | apply zA | apply zN | apply zD | refine below_set ?_ (IsS122.ge HI0.out)) | exact HB.out), ze⟩
         ·
          rw [if_neg c39] at H
          exact absurd H (by simp)
        ·
         rw [if_neg c38] at H
         exact absurd H (by simp)
       ·
        rw [if_neg c37] at H
        exact absurd H (by simp)
   ·
    rw [if_neg c5] at H
    have c5b0 : decide (97 ≤ x4_1) = false := zR c5
    clear c5
    by_cases c41 : x4_1 ≥ 65
    ·
     rw [if_pos c41] at H
     have c41b0 : decide (65 ≤ x4_1) = true := zQ c41
     clear c41
     by_cases c42 : x4_1 ≤ 90
     ·
      rw [if_pos c42] at H
      have c42b0 : decide (x4_1 ≤ 90) = true := zQ c42
      clear c42
      replace H := zB H
      obtain ⟨⟨t116, t117, t118⟩, A430, H⟩ := H
      try dsimp only at H
      have A43 := zM A430
      clear A430
      have H' := zM H
      clear H
      obtain ⟨ASz44_2, cSz44_2, HGz44, hgz44, HSz44_2⟩ := HI0.out
      have hcz44_0 := cellS122_0 HGz44
      have hcz44_1 := cellS122_1 HGz44
      have hcz44_2 := cellS122_2 HGz44
      have hfz44_0 := zY HGz44 0
      have hfz44_1 := zY HGz44 1
      clear HGz44 hgz44
      go_wp2_with (first | (go_at_call 89; (with_reducible refine (term_reader_next.calls g x1000_1 (wrap64 (x1001_1 + 1)) s0_2 t116 t117 t118 w0 _ ?side1 ?side2 A43.out).mono ?_); (case side1 => repeat (first | (with_reducible first | exact HI0.out | apply IsS122.alloc | apply IsS122.drewN | apply IsS122.drew | apply IsS122.set_0 | apply IsS122.set_1) | exact HI0.out)); (case side2 => repeat (first | (with_reducible first | exact HB.out | apply zA | apply zN | apply zD | refine below_set ?_ (IsS122.ge HI0.out)) | exact HB.out)); rintro e w45 ⟨rfl, hi, hb, hk⟩; replace HK := zM (KeepBut.trans (ze) hk (.inl rfl)); replace HB := zM (hb); replace HI0 := zM (hi); (try clear hb); (try clear hk); (try clear hi)))
      repeat (go_quiet (first | (go_at_call 89; (with_reducible refine (term_reader_next.calls g x1000_1 (wrap64 (x1001_1 + 1)) s0_2 t116 t117 t118 w0 _ ?side1 ?side2 A43.out).mono ?_); (case side1 => repeat (first | (with_reducible first | exact HI0.out | apply IsS122.alloc | apply IsS122.drewN | apply IsS122.drew | apply IsS122.set_0 | apply IsS122.set_1) | exact HI0.out)); (case side2 => repeat (first | (with_reducible first | exact HB.out | apply zA | apply zN | apply zD | refine below_set ?_ (IsS122.ge HI0.out)) | exact HB.out)); rintro e w45 ⟨rfl, hi, hb, hk⟩; replace HK := zM (KeepBut.trans (ze) hk (.inl rfl)); replace HB := zM (hb); replace HI0 := zM (hi); (try clear hb); (try clear hk); (try clear hi))); try go_wp2_with (first | (go_at_call 89; (with_reducible refine (term_reader_next.calls g x1000_1 (wrap64 (x1001_1 + 1)) s0_2 t116 t117 t118 w0 _ ?side1 ?side2 A43.out).mono ?_); (case side1 => repeat (first | (with_reducible first | exact HI0.out | apply IsS122.alloc | apply IsS122.drewN | apply IsS122.drew | apply IsS122.set_0 | apply IsS122.set_1) | exact HI0.out)); (case side2 => repeat (first | (with_reducible first | exact HB.out | apply zA | apply zN | apply zD | refine below_set ?_ (IsS122.ge HI0.out)) | exact HB.out)); rintro e w45 ⟨rfl, hi, hb, hk⟩; replace HK := zM (KeepBut.trans (ze) hk (.inl rfl)); replace HB := zM (hb); replace HI0 := zM (hi); (try clear hb); (try clear hk); (try clear hi))))
      go_roundg k1
      case measure => have := HK1.out; omega
      case rel => exact ⟨(t116), (t117), (t118), zy, H', ⟨by have := HK1.out; omega⟩, ⟨by repeat (first | (with_reducible first | exact HI0.out | apply IsS122.alloc | apply IsS122.drewN | apply IsS122.drew | apply IsS122.set_0 | apply IsS122.set_1) | exact HI0.out)⟩, ⟨ze⟩, ⟨by repeat (first | (with_reducible first | exact HB.out | apply zA | apply zN | apply zD | refine below_set ?_ (IsS122.ge HI0.out)) | exact HB.out)⟩⟩
     ·
      rw [if_neg c42] at H
      have c42b0 : decide (x4_1 ≤ 90) = false := zR c42
      clear c42
      by_cases c46 : x4_1 ≥ 48
      ·
       rw [if_pos c46] at H
       have c46b0 : decide (48 ≤ x4_1) = true := zQ c46
       clear c46
       by_cases c47 : x4_1 ≤ 57
       ·
        rw [if_pos c47] at H
        have c47b0 : decide (x4_1 ≤ 57) = true := zQ c47
        clear c47
        replace H := zB H
        obtain ⟨⟨t119, t120, t121⟩, A480, H⟩ := H
        try dsimp only at H
        have A48 := zM A480
        clear A480
        have H' := zM H
        clear H
        obtain ⟨ASz49_2, cSz49_2, HGz49, hgz49, HSz49_2⟩ := HI0.out
        have hcz49_0 := cellS122_0 HGz49
        have hcz49_1 := cellS122_1 HGz49
        have hcz49_2 := cellS122_2 HGz49
        have hfz49_0 := zY HGz49 0
        have hfz49_1 := zY HGz49 1
        clear HGz49 hgz49
        go_wp2_with (first | (go_at_call 89; (with_reducible refine (term_reader_next.calls g x1000_1 (wrap64 (x1001_1 + 1)) s0_2 t119 t120 t121 w0 _ ?side1 ?side2 A48.out).mono ?_); (case side1 => repeat (first | (with_reducible first | exact HI0.out | apply IsS122.alloc | apply IsS122.drewN | apply IsS122.drew | apply IsS122.set_0 | apply IsS122.set_1) | exact HI0.out)); (case side2 => repeat (first | (with_reducible first | exact HB.out | apply zA | apply zN | apply zD | refine below_set ?_ (IsS122.ge HI0.out)) | exact HB.out)); rintro e w50 ⟨rfl, hi, hb, hk⟩; replace HK := zM (KeepBut.trans (ze) hk (.inl rfl)); replace HB := zM (hb); replace HI0 := zM (hi); (try clear hb); (try clear hk); (try clear hi)))
        repeat (go_quiet (first | (go_at_call 89; (with_reducible refine (term_reader_next.calls g x1000_1 (wrap64 (x1001_1 + 1)) s0_2 t119 t120 t121 w0 _ ?side1 ?side2 A48.out).mono ?_); (case side1 => repeat (first | (with_reducible first | exact HI0.out | apply IsS122.alloc | apply IsS122.drewN | apply IsS122.drew | apply IsS122.set_0 | apply IsS122.set_1) | exact HI0.out)); (case side2 => repeat (first | (with_reducible first | exact HB.out | apply zA | apply zN | apply zD | refine below_set ?_ (IsS122.ge HI0.out)) | exact HB.out)); rintro e w50 ⟨rfl, hi, hb, hk⟩; replace HK := zM (KeepBut.trans (ze) hk (.inl rfl)); replace HB := zM (hb); replace HI0 := zM (hi); (try clear hb); (try clear hk); (try clear hi))); try go_wp2_with (first | (go_at_call 89; (with_reducible refine (term_reader_next.calls g x1000_1 (wrap64 (x1001_1 + 1)) s0_2 t119 t120 t121 w0 _ ?side1 ?side2 A48.out).mono ?_); (case side1 => repeat (first | (with_reducible first | exact HI0.out | apply IsS122.alloc | apply IsS122.drewN | apply IsS122.drew | apply IsS122.set_0 | apply IsS122.set_1) | exact HI0.out)); (case side2 => repeat (first | (with_reducible first | exact HB.out | apply zA | apply zN | apply zD | refine below_set ?_ (IsS122.ge HI0.out)) | exact HB.out)); rintro e w50 ⟨rfl, hi, hb, hk⟩; replace HK := zM (KeepBut.trans (ze) hk (.inl rfl)); replace HB := zM (hb); replace HI0 := zM (hi); (try clear hb); (try clear hk); (try clear hi))))
        go_roundg k1
        case measure => have := HK1.out; omega
        case rel => exact ⟨(t119), (t120), (t121), zy, H', ⟨by have := HK1.out; omega⟩, ⟨by repeat (first | (with_reducible first | exact HI0.out | apply IsS122.alloc | apply IsS122.drewN | apply IsS122.drew | apply IsS122.set_0 | apply IsS122.set_1) | exact HI0.out)⟩, ⟨ze⟩, ⟨by repeat (first | (with_reducible first | exact HB.out | apply zA | apply zN | apply zD | refine below_set ?_ (IsS122.ge HI0.out)) | exact HB.out)⟩⟩
       ·
        rw [if_neg c47] at H
        have c47b0 : decide (x4_1 ≤ 57) = false := zR c47
        clear c47
        by_cases c51 : 0 ≤ s0_1
        ·
         rw [if_pos c51] at H
         have c51b0 := eq_true c51
         have c51b1 : decide (0 ≤ s0_1) = true := zQ c51
         clear c51
         by_cases c52 : s0_1 ≤ x1001_1
         ·
          rw [if_pos c52] at H
          have c52b0 := eq_true c52
          have c52b1 : decide (s0_1 ≤ x1001_1) = true := zQ c52
          clear c52
          by_cases c53 : x1001_1 ≤ (x1000_1.size : Int)
          ·
           rw [if_pos c53] at H
           have c53b0 := eq_true c53
           have c53b1 : decide (x1001_1 ≤ (x1000_1.size : Int)) = true := zQ c53
           clear c53
           simp only [Option.some.injEq, Prod.mk.injEq] at H
           obtain ⟨rfl, rfl, rfl⟩ := H
           obtain ⟨ASz54_2, cSz54_2, HGz54, hgz54, HSz54_2⟩ := HI0.out
           have hcz54_0 := cellS122_0 HGz54
           have hcz54_1 := cellS122_1 HGz54
           have hcz54_2 := cellS122_2 HGz54
           have hfz54_0 := zY HGz54 0
           have hfz54_1 := zY HGz54 1
           clear HGz54 hgz54
           go_wp2
           repeat (go_quiet (fail); try go_wp2)
           go_ret
           exact ⟨zw, by repeat (first | (with_reducible first | exact HI0.out | apply IsS122.alloc | apply IsS122.drewN | apply IsS122.drew | apply IsS122.set_0 | apply IsS122.set_1) | exact HI0.out), by repeat (first | (with_reducible first | exact HB.out | apply zA | apply zN | apply zD | refine below_set ?_ (IsS122.ge HI0.out)) | exact HB.out), ze⟩
          ·
           rw [if_neg c53] at H
           exact absurd H (by simp)
         ·
          rw [if_neg c52] at H
          exact absurd H (by simp)
        ·
         rw [if_neg c51] at H
         exact absurd H (by simp)
      ·
       rw [if_neg c46] at H
       have c46b0 : decide (48 ≤ x4_1) = false := zR c46
       clear c46
       by_cases c55 : 0 ≤ s0_1
       ·
        rw [if_pos c55] at H
        have c55b0 := eq_true c55
        have c55b1 : decide (0 ≤ s0_1) = true := zQ c55
        clear c55
        by_cases c56 : s0_1 ≤ x1001_1
        ·
         rw [if_pos c56] at H
         have c56b0 := eq_true c56
         have c56b1 : decide (s0_1 ≤ x1001_1) = true := zQ c56
         clear c56
         by_cases c57 : x1001_1 ≤ (x1000_1.size : Int)
         ·
          rw [if_pos c57] at H
          have c57b0 := eq_true c57
          have c57b1 : decide (x1001_1 ≤ (x1000_1.size : Int)) = true := zQ c57
          clear c57
          simp only [Option.some.injEq, Prod.mk.injEq] at H
          obtain ⟨rfl, rfl, rfl⟩ := H
          obtain ⟨ASz58_2, cSz58_2, HGz58, hgz58, HSz58_2⟩ := HI0.out
          have hcz58_0 := cellS122_0 HGz58
          have hcz58_1 := cellS122_1 HGz58
          have hcz58_2 := cellS122_2 HGz58
          have hfz58_0 := zY HGz58 0
          have hfz58_1 := zY HGz58 1
          clear HGz58 hgz58
          go_wp2
          repeat (go_quiet (fail); try go_wp2)
          go_ret
          exact ⟨zw, by repeat (first | (with_reducible first | exact HI0.out | apply IsS122.alloc | apply IsS122.drewN | apply IsS122.drew | apply IsS122.set_0 | apply IsS122.set_1) | exact HI0.out), by repeat (first | (with_reducible first | exact HB.out | apply zA | apply zN | apply zD | refine below_set ?_ (IsS122.ge HI0.out)) | exact HB.out), ze⟩
         ·
          rw [if_neg c57] at H
          exact absurd H (by simp)
        ·
         rw [if_neg c56] at H
         exact absurd H (by simp)
       ·
        rw [if_neg c55] at H
        exact absurd H (by simp)
    ·
     rw [if_neg c41] at H
     have c41b0 : decide (65 ≤ x4_1) = false := zR c41
     clear c41
     by_cases c59 : x4_1 ≥ 48
     ·
      rw [if_pos c59] at H
      have c59b0 : decide (48 ≤ x4_1) = true := zQ c59
      clear c59
      by_cases c60 : x4_1 ≤ 57
      ·
       rw [if_pos c60] at H
       have c60b0 : decide (x4_1 ≤ 57) = true := zQ c60
       clear c60
       replace H := zB H
       obtain ⟨⟨t122, t123, t124⟩, A610, H⟩ := H
       try dsimp only at H
       have A61 := zM A610
       clear A610
       have H' := zM H
       clear H
       obtain ⟨ASz62_2, cSz62_2, HGz62, hgz62, HSz62_2⟩ := HI0.out
       have hcz62_0 := cellS122_0 HGz62
       have hcz62_1 := cellS122_1 HGz62
       have hcz62_2 := cellS122_2 HGz62
       have hfz62_0 := zY HGz62 0
       have hfz62_1 := zY HGz62 1
       clear HGz62 hgz62
       go_wp2_with (first | (go_at_call 89; (with_reducible refine (term_reader_next.calls g x1000_1 (wrap64 (x1001_1 + 1)) s0_2 t122 t123 t124 w0 _ ?side1 ?side2 A61.out).mono ?_); (case side1 => repeat (first | (with_reducible first | exact HI0.out | apply IsS122.alloc | apply IsS122.drewN | apply IsS122.drew | apply IsS122.set_0 | apply IsS122.set_1) | exact HI0.out)); (case side2 => repeat (first | (with_reducible first | exact HB.out | apply zA | apply zN | apply zD | refine below_set ?_ (IsS122.ge HI0.out)) | exact HB.out)); rintro e w63 ⟨rfl, hi, hb, hk⟩; replace HK := zM (KeepBut.trans (ze) hk (.inl rfl)); replace HB := zM (hb); replace HI0 := zM (hi); (try clear hb); (try clear hk); (try clear hi)))
       repeat (go_quiet (first | (go_at_call 89; (with_reducible refine (term_reader_next.calls g x1000_1 (wrap64 (x1001_1 + 1)) s0_2 t122 t123 t124 w0 _ ?side1 ?side2 A61.out).mono ?_); (case side1 => repeat (first | (with_reducible first | exact HI0.out | apply IsS122.alloc | apply IsS122.drewN | apply IsS122.drew | apply IsS122.set_0 | apply IsS122.set_1) | exact HI0.out)); (case side2 => repeat (first | (with_reducible first | exact HB.out | apply zA | apply zN | apply zD | refine below_set ?_ (IsS122.ge HI0.out)) | exact HB.out)); rintro e w63 ⟨rfl, hi, hb, hk⟩; replace HK := zM (KeepBut.trans (ze) hk (.inl rfl)); replace HB := zM (hb); replace HI0 := zM (hi); (try clear hb); (try clear hk); (try clear hi))); try go_wp2_with (first | (go_at_call 89; (with_reducible refine (term_reader_next.calls g x1000_1 (wrap64 (x1001_1 + 1)) s0_2 t122 t123 t124 w0 _ ?side1 ?side2 A61.out).mono ?_); (case side1 => repeat (first | (with_reducible first | exact HI0.out | apply IsS122.alloc | apply IsS122.drewN | apply IsS122.drew | apply IsS122.set_0 | apply IsS122.set_1) | exact HI0.out)); (case side2 => repeat (first | (with_reducible first | exact HB.out | apply zA | apply zN | apply zD | refine below_set ?_ (IsS122.ge HI0.out)) | exact HB.out)); rintro e w63 ⟨rfl, hi, hb, hk⟩; replace HK := zM (KeepBut.trans (ze) hk (.inl rfl)); replace HB := zM (hb); replace HI0 := zM (hi); (try clear hb); (try clear hk); (try clear hi))))
       go_roundg k1
       case measure => have := HK1.out; omega
       case rel => exact ⟨(t122), (t123), (t124), zy, H', ⟨by have := HK1.out; omega⟩, ⟨by repeat (first | (with_reducible first | exact HI0.out | apply IsS122.alloc | apply IsS122.drewN | apply IsS122.drew | apply IsS122.set_0 | apply IsS122.set_1) | exact HI0.out)⟩, ⟨ze⟩, ⟨by repeat (first | (with_reducible first | exact HB.out | apply zA | apply zN | apply zD | refine below_set ?_ (IsS122.ge HI0.out)) | exact HB.out)⟩⟩
      ·
       rw [if_neg c60] at H
       have c60b0 : decide (x4_1 ≤ 57) = false := zR c60
       clear c60
       by_cases c64 : 0 ≤ s0_1
       ·
        rw [if_pos c64] at H
        have c64b0 := eq_true c64
        have c64b1 : decide (0 ≤ s0_1) = true := zQ c64
        clear c64
        by_cases c65 : s0_1 ≤ x1001_1
        ·
         rw [if_pos c65] at H
         have c65b0 := eq_true c65
         have c65b1 : decide (s0_1 ≤ x1001_1) = true := zQ c65
         clear c65
         by_cases c66 : x1001_1 ≤ (x1000_1.size : Int)
         ·
          rw [if_pos c66] at H
          have c66b0 := eq_true c66
          have c66b1 : decide (x1001_1 ≤ (x1000_1.size : Int)) = true := zQ c66
          clear c66
          simp only [Option.some.injEq, Prod.mk.injEq] at H
          obtain ⟨rfl, rfl, rfl⟩ := H
          obtain ⟨ASz67_2, cSz67_2, HGz67, hgz67, HSz67_2⟩ := HI0.out
          have hcz67_0 := cellS122_0 HGz67
          have hcz67_1 := cellS122_1 HGz67
          have hcz67_2 := cellS122_2 HGz67
          have hfz67_0 := zY HGz67 0
          have hfz67_1 := zY HGz67 1
          clear HGz67 hgz67
          go_wp2
          repeat (go_quiet (fail); try go_wp2)
          go_ret
          exact ⟨zw, by repeat (first | (with_reducible first | exact HI0.out | apply IsS122.alloc | apply IsS122.drewN | apply IsS122.drew | apply IsS122.set_0 | apply IsS122.set_1) | exact HI0.out), by repeat (first | (with_reducible first | exact HB.out | apply zA | apply zN | apply zD | refine below_set ?_ (IsS122.ge HI0.out)) | exact HB.out), ze⟩
         ·
          rw [if_neg c66] at H
          exact absurd H (by simp)
        ·
         rw [if_neg c65] at H
         exact absurd H (by simp)
       ·
        rw [if_neg c64] at H
        exact absurd H (by simp)
     ·
      rw [if_neg c59] at H
      have c59b0 : decide (48 ≤ x4_1) = false := zR c59
      clear c59
      by_cases c68 : 0 ≤ s0_1
      ·
       rw [if_pos c68] at H
       have c68b0 := eq_true c68
       have c68b1 : decide (0 ≤ s0_1) = true := zQ c68
       clear c68
       by_cases c69 : s0_1 ≤ x1001_1
       ·
        rw [if_pos c69] at H
        have c69b0 := eq_true c69
        have c69b1 : decide (s0_1 ≤ x1001_1) = true := zQ c69
        clear c69
        by_cases c70 : x1001_1 ≤ (x1000_1.size : Int)
        ·
         rw [if_pos c70] at H
         have c70b0 := eq_true c70
         have c70b1 : decide (x1001_1 ≤ (x1000_1.size : Int)) = true := zQ c70
         clear c70
         simp only [Option.some.injEq, Prod.mk.injEq] at H
         obtain ⟨rfl, rfl, rfl⟩ := H
         obtain ⟨ASz71_2, cSz71_2, HGz71, hgz71, HSz71_2⟩ := HI0.out
         have hcz71_0 := cellS122_0 HGz71
         have hcz71_1 := cellS122_1 HGz71
         have hcz71_2 := cellS122_2 HGz71
         have hfz71_0 := zY HGz71 0
         have hfz71_1 := zY HGz71 1
         clear HGz71 hgz71
         go_wp2
         repeat (go_quiet (fail); try go_wp2)
         go_ret
         exact ⟨zw, by repeat (first | (with_reducible first | exact HI0.out | apply IsS122.alloc | apply IsS122.drewN | apply IsS122.drew | apply IsS122.set_0 | apply IsS122.set_1) | exact HI0.out), by repeat (first | (with_reducible first | exact HB.out | apply zA | apply zN | apply zD | refine below_set ?_ (IsS122.ge HI0.out)) | exact HB.out), ze⟩
        ·
         rw [if_neg c70] at H
         exact absurd H (by simp)
       ·
        rw [if_neg c69] at H
        exact absurd H (by simp)
      ·
       rw [if_neg c68] at H
       exact absurd H (by simp)


-- ==== PF40

abbrev RdCell := S48
def IsRd (B : Nat) (W : World) (g : Nat) (s : ByteArray) (i : Int) (l : List RdCell) : Prop :=
 ∃ v, W.heap[g]? = some (.cells #[.string s, .int .i64 i, v] 122 (0, 0)) ∧ B ≤ g ∧ Kd.R k48 48 W B (fun _ => True) v l
def bareW (w : World) : World := { w with heap := #[] }
theorem bare_below (w : World) : Below (bareW w).heap.size (bareW w) w := ⟨rfl, rfl, rfl, Nat.zero_le _, fun k h => absurd h (Nat.not_lt_zero k)⟩
theorem below_of_bare {w w' : World} {g B : Nat} (hb : Below (bareW w).heap.size (bareW w) w') (hk : KeepBut w w' g none) (hg : B ≤ g) (hB : B ≤ w.heap.size) : Below B w w' :=
 ⟨hb.os, hb.tape, hb.output, hk.1, fun k h => hk.2 k (Nat.lt_of_lt_of_le h hB) (by omega) (by simp)⟩
theorem next_any (s : ByteArray) (i : Int) (v v' : Value) : term_reader_next.f s i v = term_reader_next.f s i v' := rfl
theorem word_any_l (v v' : Value) : ∀ (k : Nat) (a b : Int) (s : ByteArray) (i : Int), term_reader_word.l0 k a b s i v = term_reader_word.l0 k a b s i v'
 | 0, _, _, _, _ => rfl
 | k + 1, a, b, s, i => by
  have ih := word_any_l v v' k
  simp only [term_reader_word.l0, next_any _ _ v v', ih]
theorem word_any (k : Nat) (s : ByteArray) (i : Int) (v v' : Value) : term_reader_word.f k s i v = term_reader_word.f k s i v' := by
 unfold term_reader_word.f
 simp only [next_any _ _ v v', word_any_l v v']
def nxS (s : ByteArray) (i : Int) : Int := if i < (s.size : Int) then bt s i else 0
theorem next_at (s : ByteArray) (i : Int) (v : Value) (h : 0 ≤ i) : term_reader_next.f s i v = some (nxS s i, s, i) := by
 unfold term_reader_next.f nxS
 by_cases h1 : i < (s.size : Int)
 ·
  rw [if_pos h1, if_pos h, if_pos h1]
 ·
  rw [if_neg h1, if_neg h1]
theorem isRd_keep {B : Nat} {w w' : World} {g : Nat} {s s' : ByteArray} {i i' : Int} {l : List RdCell} {v : Value} (hg : B ≤ g) (hr : Kd.R k48 48 w B (fun _ => True) v l) (hb0 : w.heap[g]? = some (.cells #[.string s, .int .i64 i, v] 122 (0, 0)))
 (hb : w'.heap[g]? = some (.cells #[.string s', .int .i64 i', v] 122 (0, 0))) (hk : KeepBut w w' g none) : IsRd B w' g s' i' l :=
 ⟨v, hb, hg, Kd.R_mono (Kd.R_keep (Kd.R_types hr hb0 (by decide)) hk (fun _ h => h.2)) (fun _ _ => trivial)⟩

theorem isRd_put {B : Nat} {W : World} {g : Nat} {s : ByteArray} {i : Int} {l : List RdCell} {v v' : Value} (hb : W.heap[g]? = some (.cells #[.string s, .int .i64 i, v] 122 (0, 0))) (hg : B ≤ g) (hr : Kd.R k48 48 W B (fun _ => True) v' l) : IsRd B (W.setCell ⟨g, 2, none⟩ v') g s i l :=
 ⟨v', by simpa using blk_set hb 2 v', hg, Kd.R_set hr hb (by decide) 2 v'⟩
theorem below_tr {B : Nat} {w w1 w2 : World} (h : Below B w w1) (k : Below B w1 w2) : Below B w w2 :=
 ⟨k.os.trans h.os, k.tape.trans h.tape, k.output.trans h.output, Nat.le_trans h.size k.size, fun i hi => (k.block i hi).trans (h.block i hi)⟩
theorem rd_next {B : Nat} {w : World} {g : Nat} {s : ByteArray} {i : Int} {l : List RdCell} (h : IsRd B w g s i l) (hi : 0 ≤ i) :
 Calls Tryz.prog 89 #[.pointer (some ⟨g, 0, none⟩)] w fun e w' => e = .returned (.int .u8 (nxS s i)) ∧ IsRd B w' g s i l ∧ Below B w w' := by
 obtain ⟨v, hb, hg, hr⟩ := h
 have hlt : B ≤ w.heap.size := by have := blk_lt hb; omega
 refine (term_reader_next.calls g s i v _ s i (bareW w) w ⟨none, 0, hb, Nat.zero_le _, trivial⟩ (bare_below w) (next_at s i v hi)).mono ?_
 rintro e w' ⟨rfl, ⟨_, _, hb', _, _⟩, hbw, hk⟩
 exact ⟨rfl, isRd_keep hg hr hb hb' hk, below_of_bare hbw hk hg hlt⟩
theorem rd_word {B k : Nat} {w : World} {g : Nat} {s : ByteArray} {i : Int} {l : List RdCell} {x s' : ByteArray} {j : Int} (h : IsRd B w g s i l) (hw : term_reader_word.f k s i .nilIface = some (x, s', j)) :
 Calls Tryz.prog 88 #[.pointer (some ⟨g, 0, none⟩)] w fun e w' => e = .returned (.string x) ∧ IsRd B w' g s' j l ∧ Below B w w' := by
 obtain ⟨v, hb, hg, hr⟩ := h
 have hlt : B ≤ w.heap.size := by have := blk_lt hb; omega
 refine (term_reader_word.calls k g s i v x s' j (bareW w) w ⟨none, 0, hb, Nat.zero_le _, trivial⟩ (bare_below w) (by rw [word_any k s i v .nilIface]; exact hw)).mono ?_
 rintro e w' ⟨rfl, ⟨_, _, hb', _, _⟩, hbw, hk⟩
 exact ⟨rfl, isRd_keep hg hr hb hb' hk, below_of_bare hbw hk hg hlt⟩
def faultV (p e : Int) : List PanicEntry := [{ v := .iface 118 (.agg #[.int .i64 p, .int .i64 e]), recovered := false }]
theorem rd_give (p : Value) (i x : Int) (w : World) : Calls Tryz.prog 71 #[p, .int .i64 i, .int .i64 x] w fun e w' => e = .panicked (faultV i x) ∧ w' = w := by
 go_enter Tryz.func71, Tryz.ntmps71
 go_wp2
 exact ⟨rfl, rfl, rfl⟩
mutual
def rdTerm : Nat → ByteArray → Int → List RdCell → Option (Sum (Int × Int) (Int × List RdCell))
 | 0, _, _, _ => none
 | k + 1, s, i, l => (term_reader_word.f k s i .nilIface).bind fun b => (name_Kind.f k b.1).bind fun kd =>
  if b.1.toList = [] then some (.inl (i, 3)) else if kd = 0 then some (.inl (i, 4)) else if (l.length : Int) = 64 then some (.inl (i, 6))
  else if nxS s b.2.2 = 40 then (if kd = 2 then some (.inl (b.2.2, 5)) else rdArgs k s b.2.2 (l ++ [⟨b.1, 0⟩]) l.length 1) else some (.inr (b.2.2, l ++ [⟨b.1, 0⟩]))
def rdArgs : Nat → ByteArray → Int → List RdCell → Nat → Int → Option (Sum (Int × Int) (Int × List RdCell))
 | 0, _, _, _, _, _ => none
 | k + 1, s, i, l, c, n => (rdTerm k s (wrap64 (i + 1)) l).bind fun
  | .inl x => some (.inl x)
  | .inr (j, m) => if c < m.length then (
   if nxS s j = 41 then some (.inr (wrap64 (j + 1), m.set c ⟨(rd_T48 m (c : Int)).f0, n⟩))
   else if nxS s j = 44 then (if n = 4 then some (.inl (j, 5)) else rdArgs k s j (m.set c ⟨(rd_T48 m (c : Int)).f0, n⟩) c (wrap64 (n + 1))) else some (.inl (j, 3))) else none
end
def RdEnd (B g : Nat) (s : ByteArray) (w : World) (r : Sum (Int × Int) (Int × List RdCell)) (e : Ending) (w' : World) : Prop :=
 match r with
 | .inl x => e = .panicked (faultV x.1 x.2) ∧ Below B w w'
 | .inr y => e = .returned (.tuple #[]) ∧ IsRd B w' g s y.1 y.2 ∧ Below B w w' ∧ y.2.length ≤ 64 ∧ 0 ≤ y.1 ∧ y.1 ≤ (s.size : Int)
theorem next_same {s s2 : ByteArray} {i i2 c : Int} {v : Value} (h1 : term_reader_next.f s i v = some (c, s2, i2)) : s2 = s := by
 unfold term_reader_next.f at h1
 split at h1
 ·
  split at h1
  ·
   injection h1 with h1; injection h1 with _ h1; injection h1 with h1 _; exact h1.symm
  ·
   cases h1
 ·
  injection h1 with h1; injection h1 with _ h1; injection h1 with h1 _; exact h1.symm
theorem word_same_l {v : Value} {x s' : ByteArray} {j : Int} : ∀ {k : Nat} {s : ByteArray} {a b i : Int}, term_reader_word.l0 k a b s i v = some (x, s', j) → s' = s ∧ 0 ≤ j ∧ j ≤ (s.size : Int)
 | 0, s, a, b, i, h => by simp [term_reader_word.l0] at h
 | k + 1, s, a, b, i, h => by
  have rec_ : ∀ {q : Int}, ((term_reader_next.f s q v).bind fun bt => term_reader_word.l0 k a bt.1 bt.2.1 bt.2.2 v) = some (x, s', j) → s' = s ∧ 0 ≤ j ∧ j ≤ (s.size : Int) := fun {q} hq => by
   obtain ⟨⟨c, s2, i2⟩, h1, h2⟩ := zB hq
   have := next_same h1
   subst this
   exact word_same_l h2
  have fin_ : (if 0 ≤ a then (if a ≤ i then (if i ≤ (s.size : Int) then (some (s.extract (a : Int).toNat (i : Int).toNat, s, i)) else none) else none) else none) = some (x, s', j) → s' = s ∧ 0 ≤ j ∧ j ≤ (s.size : Int) := fun hq => by
   split at hq
   ·
    split at hq
    ·
     split at hq
     ·
      injection hq with hq; injection hq with _ hq; injection hq with q1 q2
      subst q1 q2
      exact ⟨rfl, by omega, by omega⟩
     ·
      cases hq
    ·
     cases hq
   ·
    cases hq
  simp only [term_reader_word.l0] at h
  repeat' (first | exact rec_ h | exact fin_ h | split at h)
theorem word_same {k : Nat} {v : Value} {s x s' : ByteArray} {i j : Int} (h : term_reader_word.f k s i v = some (x, s', j)) : s' = s ∧ 0 ≤ j ∧ j ≤ (s.size : Int) := by
 unfold term_reader_word.f at h
 obtain ⟨⟨c, s2, i2⟩, h1, h2⟩ := zB h
 have := next_same h1
 subst this
 exact word_same_l h2
theorem nx_lt {s : ByteArray} {i c : Int} (h : nxS s i = c) (hc : c ≠ 0) : i < (s.size : Int) := by
 unfold nxS at h
 split at h
 ·
  assumption
 ·
  exact absurd h.symm hc
def TermC (k : Nat) : Prop := ∀ (B g : Nat) (s : ByteArray) (i : Int) (l : List RdCell) (r : Sum (Int × Int) (Int × List RdCell)) (w : World), IsRd B w g s i l → l.length ≤ 64 → 0 ≤ i → s.size ≤ 4096 → rdTerm k s i l = some r →
 Calls Tryz.prog 70 #[.pointer (some ⟨g, 0, none⟩)] w (RdEnd B g s w r)
def ArgsC (k : Nat) : Prop := ∀ (B g : Nat) (s : ByteArray) (i : Int) (l : List RdCell) (c : Nat) (r : Sum (Int × Int) (Int × List RdCell)) (w : World), IsRd B w g s i l → l.length ≤ 64 → 0 ≤ i → i < (s.size : Int) → s.size ≤ 4096 → c < l.length → rdArgs k s i l c 1 = some r →
 Calls Tryz.prog 90 #[.pointer (some ⟨g, 0, none⟩), .int .i64 (c : Int)] w (RdEnd B g s w r)
theorem rdTerm_step (k : Nat) (ih : ArgsC k) : TermC (k + 1) := by
 intro B g s i l r w hI hl hi hsz h
 have HI0 := zM hI
 obtain ⟨v, hb, hg, hr⟩ := hI
 have hc1 : w.cell? ⟨g, 1, none⟩ = some (.int .i64 i) := (zX hb 1).trans rfl
 simp only [rdTerm] at h
 obtain ⟨⟨x, s', j⟩, hw, h⟩ := zB h
 obtain ⟨kd, hk, h⟩ := zB h
 simp only at h hk
 have Hw := zM hw
 have Hk := zM hk
 clear hw hk hr hb
 have HB := zM (Below.refl B w)
 obtain ⟨hs', hj, hj2⟩ := word_same Hw.out
 subst hs'
 have W1 := fun (W : World) (h : IsRd B W g s' i l) => rd_word (k := k) h Hw.out
 have K1 := fun (W : World) => name_Kind.calls k x kd W Hk.out
 obtain ⟨y, hy⟩ : ∃ y : List RdCell, y = l ++ [⟨x, 0⟩] := ⟨_, rfl⟩
 have hyl : Aside0 (y.length = l.length + 1) := ⟨by rw [hy]; simp⟩
 rw [← hy] at h
 have Hy := zM hy
 clear hy
 have N1 := fun (W : World) (h : IsRd B W g s' j y) => rd_next h hj
 by_cases c1 : x.toList = []
 ·
  rw [if_pos c1] at h
  obtain rfl := zS h
  clear h
  have c1b : decide (x.toList = []) = true := zQ c1
  have c1d : x.toList.isEmpty = true := by simp [c1]
  go_enter Tryz.func70, Tryz.ntmps70
  go_wp2_with (first | (go_at_call 88; (refine (W1 _ ?side1).mono ?_); (case side1 => repeat (first | exact HI0.out | apply isRd_drewN | apply isRd_drew)); rintro e w1 ⟨rfl, ⟨v1, hb1, hg1, hr1⟩, hB1⟩; obtain ⟨A1, c1_, rfl⟩ := Kd.R_slice hr1; have hz1 := (zX hb1 1).trans rfl; have hz2 := (zX hb1 2).trans rfl; have HBL := zM hb1; have HR1 := zM hr1; have HB1 := zM hB1; clear hb1 hr1 hB1) | (go_at_call 35; (refine (K1 _).mono ?_); rintro e w2 ⟨rfl, ⟨nd2, rfl⟩⟩) | (go_at_call 71; (refine (rd_give _ _ _ _).mono ?_); rintro e w3 ⟨rfl, rfl⟩))
  repeat (go_quiet (first | (go_at_call 88; (refine (W1 _ ?side1).mono ?_); (case side1 => repeat (first | exact HI0.out | apply isRd_drewN | apply isRd_drew)); rintro e w1 ⟨rfl, ⟨v1, hb1, hg1, hr1⟩, hB1⟩; obtain ⟨A1, c1_, rfl⟩ := Kd.R_slice hr1; have hz1 := (zX hb1 1).trans rfl; have hz2 := (zX hb1 2).trans rfl; have HBL := zM hb1; have HR1 := zM hr1; have HB1 := zM hB1; clear hb1 hr1 hB1) | (go_at_call 35; (refine (K1 _).mono ?_); rintro e w2 ⟨rfl, ⟨nd2, rfl⟩⟩) | (go_at_call 71; (refine (rd_give _ _ _ _).mono ?_); rintro e w3 ⟨rfl, rfl⟩)); try go_wp2_with (first | (go_at_call 88; (refine (W1 _ ?side1).mono ?_); (case side1 => repeat (first | exact HI0.out | apply isRd_drewN | apply isRd_drew)); rintro e w1 ⟨rfl, ⟨v1, hb1, hg1, hr1⟩, hB1⟩; obtain ⟨A1, c1_, rfl⟩ := Kd.R_slice hr1; have hz1 := (zX hb1 1).trans rfl; have hz2 := (zX hb1 2).trans rfl; have HBL := zM hb1; have HR1 := zM hr1; have HB1 := zM hB1; clear hb1 hr1 hB1) | (go_at_call 35; (refine (K1 _).mono ?_); rintro e w2 ⟨rfl, ⟨nd2, rfl⟩⟩) | (go_at_call 71; (refine (rd_give _ _ _ _).mono ?_); rintro e w3 ⟨rfl, rfl⟩)))
  exact ⟨rfl, rfl, (by repeat (first | exact HB1.out | apply zN | apply zD | apply zA))⟩
 ·
  rw [if_neg c1] at h
  have c1b : decide (x.toList = []) = false := zR c1
  have c1d : x.toList.isEmpty = false := by simpa using c1
  by_cases c2 : kd = 0
  ·
   rw [if_pos c2] at h
   obtain rfl := zS h
   clear h
   have c2b : (kd == 0) = true := zG c2
   clear c1 c2
   go_enter Tryz.func70, Tryz.ntmps70
   go_wp2_with (first | (go_at_call 88; (refine (W1 _ ?side1).mono ?_); (case side1 => repeat (first | exact HI0.out | apply isRd_drewN | apply isRd_drew)); rintro e w1 ⟨rfl, ⟨v1, hb1, hg1, hr1⟩, hB1⟩; obtain ⟨A1, c1_, rfl⟩ := Kd.R_slice hr1; have hz1 := (zX hb1 1).trans rfl; have hz2 := (zX hb1 2).trans rfl; have HBL := zM hb1; have HR1 := zM hr1; have HB1 := zM hB1; clear hb1 hr1 hB1) | (go_at_call 35; (refine (K1 _).mono ?_); rintro e w2 ⟨rfl, ⟨nd2, rfl⟩⟩) | (go_at_call 71; (refine (rd_give _ _ _ _).mono ?_); rintro e w3 ⟨rfl, rfl⟩))
   repeat (go_quiet (first | (go_at_call 88; (refine (W1 _ ?side1).mono ?_); (case side1 => repeat (first | exact HI0.out | apply isRd_drewN | apply isRd_drew)); rintro e w1 ⟨rfl, ⟨v1, hb1, hg1, hr1⟩, hB1⟩; obtain ⟨A1, c1_, rfl⟩ := Kd.R_slice hr1; have hz1 := (zX hb1 1).trans rfl; have hz2 := (zX hb1 2).trans rfl; have HBL := zM hb1; have HR1 := zM hr1; have HB1 := zM hB1; clear hb1 hr1 hB1) | (go_at_call 35; (refine (K1 _).mono ?_); rintro e w2 ⟨rfl, ⟨nd2, rfl⟩⟩) | (go_at_call 71; (refine (rd_give _ _ _ _).mono ?_); rintro e w3 ⟨rfl, rfl⟩)); try go_wp2_with (first | (go_at_call 88; (refine (W1 _ ?side1).mono ?_); (case side1 => repeat (first | exact HI0.out | apply isRd_drewN | apply isRd_drew)); rintro e w1 ⟨rfl, ⟨v1, hb1, hg1, hr1⟩, hB1⟩; obtain ⟨A1, c1_, rfl⟩ := Kd.R_slice hr1; have hz1 := (zX hb1 1).trans rfl; have hz2 := (zX hb1 2).trans rfl; have HBL := zM hb1; have HR1 := zM hr1; have HB1 := zM hB1; clear hb1 hr1 hB1) | (go_at_call 35; (refine (K1 _).mono ?_); rintro e w2 ⟨rfl, ⟨nd2, rfl⟩⟩) | (go_at_call 71; (refine (rd_give _ _ _ _).mono ?_); rintro e w3 ⟨rfl, rfl⟩)))
   exact ⟨rfl, rfl, (by repeat (first | exact HB1.out | apply zN | apply zD | apply zA))⟩
  ·
   rw [if_neg c2] at h
   have c2b : (kd == 0) = false := zE c2
   by_cases c3 : (l.length : Int) = 64
   ·
    rw [if_pos c3] at h
    obtain rfl := zS h
    clear h
    have c3b : ((l.length : Int) == 64) = true := zG c3
    clear c1 c2 c3
    go_enter Tryz.func70, Tryz.ntmps70
    go_wp2_with (first | (go_at_call 88; (refine (W1 _ ?side1).mono ?_); (case side1 => repeat (first | exact HI0.out | apply isRd_drewN | apply isRd_drew)); rintro e w1 ⟨rfl, ⟨v1, hb1, hg1, hr1⟩, hB1⟩; obtain ⟨A1, c1_, rfl⟩ := Kd.R_slice hr1; have hz1 := (zX hb1 1).trans rfl; have hz2 := (zX hb1 2).trans rfl; have HBL := zM hb1; have HR1 := zM hr1; have HB1 := zM hB1; clear hb1 hr1 hB1) | (go_at_call 35; (refine (K1 _).mono ?_); rintro e w2 ⟨rfl, ⟨nd2, rfl⟩⟩) | (go_at_call 71; (refine (rd_give _ _ _ _).mono ?_); rintro e w3 ⟨rfl, rfl⟩))
    repeat (go_quiet (first | (go_at_call 88; (refine (W1 _ ?side1).mono ?_); (case side1 => repeat (first | exact HI0.out | apply isRd_drewN | apply isRd_drew)); rintro e w1 ⟨rfl, ⟨v1, hb1, hg1, hr1⟩, hB1⟩; obtain ⟨A1, c1_, rfl⟩ := Kd.R_slice hr1; have hz1 := (zX hb1 1).trans rfl; have hz2 := (zX hb1 2).trans rfl; have HBL := zM hb1; have HR1 := zM hr1; have HB1 := zM hB1; clear hb1 hr1 hB1) | (go_at_call 35; (refine (K1 _).mono ?_); rintro e w2 ⟨rfl, ⟨nd2, rfl⟩⟩) | (go_at_call 71; (refine (rd_give _ _ _ _).mono ?_); rintro e w3 ⟨rfl, rfl⟩)); try go_wp2_with (first | (go_at_call 88; (refine (W1 _ ?side1).mono ?_); (case side1 => repeat (first | exact HI0.out | apply isRd_drewN | apply isRd_drew)); rintro e w1 ⟨rfl, ⟨v1, hb1, hg1, hr1⟩, hB1⟩; obtain ⟨A1, c1_, rfl⟩ := Kd.R_slice hr1; have hz1 := (zX hb1 1).trans rfl; have hz2 := (zX hb1 2).trans rfl; have HBL := zM hb1; have HR1 := zM hr1; have HB1 := zM hB1; clear hb1 hr1 hB1) | (go_at_call 35; (refine (K1 _).mono ?_); rintro e w2 ⟨rfl, ⟨nd2, rfl⟩⟩) | (go_at_call 71; (refine (rd_give _ _ _ _).mono ?_); rintro e w3 ⟨rfl, rfl⟩)))
    exact ⟨rfl, rfl, (by repeat (first | exact HB1.out | apply zN | apply zD | apply zA))⟩
   ·
    rw [if_neg c3] at h
    have c3b : ((l.length : Int) == 64) = false := zE c3
    have hl2 : l.length + 1 ≤ 64 := by omega
    clear c1 c2 c3
    by_cases c4 : nxS s' j = 40
    ·
     rw [if_pos c4] at h
     have c4b : (nxS s' j == 40) = true := zG c4
     have c4c : (nxS s' j != 40) = false := zH c4
     by_cases c5 : kd = 2
     ·
      rw [if_pos c5] at h
      obtain rfl := zS h
      clear h
      have c5b : (kd == 2) = true := zG c5
      clear c5 c4
      go_enter Tryz.func70, Tryz.ntmps70
      go_wp2_with (first | (go_at_call 88; (refine (W1 _ ?side1).mono ?_); (case side1 => repeat (first | exact HI0.out | apply isRd_drewN | apply isRd_drew)); rintro e w1 ⟨rfl, ⟨v1, hb1, hg1, hr1⟩, hB1⟩; obtain ⟨A1, c1_, rfl⟩ := Kd.R_slice hr1; have hz1 := (zX hb1 1).trans rfl; have hz2 := (zX hb1 2).trans rfl; have HBL := zM hb1; have HR1 := zM hr1; have HB1 := zM hB1; clear hb1 hr1 hB1) | (go_at_call 35; (refine (K1 _).mono ?_); rintro e w2 ⟨rfl, ⟨nd2, rfl⟩⟩) | (at_builtin; go_loud (with_reducible refine gate_builtin (b := .append) (xs := #[.tmp 45, .tmp 48]) rfl ?_); go_loud (refine Kd.R_append k48 (w0 := w) B rfl (.tmp 45) (.tmp 48) 24 48 (.agg #[(.string ⟨#[]⟩), (.int .i64 0)]) 24 rfl Tryz.underlying24 info48 rfl (by decide) (by omega) (.slice A1 l.length c1_) l (⟨x, 0⟩ : RdCell) [.string x, .int .i64 0] (fun _ => True) (fun _ => False) rfl rfl ?aP (fun _ hk => hk.elim) ?aF ?aO ?aB ?aS ?aL ?_); (case aP => exact k48_mkM _ _ _ (⟨x, 0⟩ : RdCell)); (case aF => exact fun _ _ => trivial); (case aO => exact (by repeat (first | exact HR1.out | apply Kd.R_drewN | apply Kd.R_drew))); (case aB => exact (by repeat (first | exact HB1.out | apply zN | apply zD | apply zA))); (case aS => exact Nat.le_trans hg1 (Nat.le_of_lt (blk_lt HBL.out))); (case aL => omega); intro v2 w5 ho hb hg5 hat; rw [← Hy.out] at ho; obtain ⟨A5, c5_, rfl⟩ := Kd.R_slice ho; have hb5 := (hg5.block g (show g < _ from blk_lt HBL.out) (Kd.R_ne HR1.out HBL.out (by decide))).trans HBL.out; have hz5 := (zX hb5 2).trans rfl; have hf5 := zY hb5 2; have HI5 := zM (isRd_put hb5 hg1 ho); have HB5 := zM (hb.setCell (p := ⟨g, 2, none⟩) hg1 (.slice A5 y.length c5_)); clear hat hg5) | (go_at_call 89; (refine (N1 _ ?side1).mono ?_); (case side1 => repeat (first | exact HI5.out | apply isRd_drewN | apply isRd_drew)); rintro e w6 ⟨rfl, hI6, hB6⟩; have HI6 := zM hI6; have HB6 := zM (below_tr (by repeat (first | exact HB5.out | apply zN | apply zD | apply zA)) hB6); obtain ⟨v6, hb6, _, _⟩ := hI6; have hz6 := (zX hb6 1).trans rfl; clear hb6 hB6) | (go_at_call 71; (refine (rd_give _ _ _ _).mono ?_); rintro e w3 ⟨rfl, rfl⟩))
      repeat (go_quiet (first | (go_at_call 88; (refine (W1 _ ?side1).mono ?_); (case side1 => repeat (first | exact HI0.out | apply isRd_drewN | apply isRd_drew)); rintro e w1 ⟨rfl, ⟨v1, hb1, hg1, hr1⟩, hB1⟩; obtain ⟨A1, c1_, rfl⟩ := Kd.R_slice hr1; have hz1 := (zX hb1 1).trans rfl; have hz2 := (zX hb1 2).trans rfl; have HBL := zM hb1; have HR1 := zM hr1; have HB1 := zM hB1; clear hb1 hr1 hB1) | (go_at_call 35; (refine (K1 _).mono ?_); rintro e w2 ⟨rfl, ⟨nd2, rfl⟩⟩) | (at_builtin; go_loud (with_reducible refine gate_builtin (b := .append) (xs := #[.tmp 45, .tmp 48]) rfl ?_); go_loud (refine Kd.R_append k48 (w0 := w) B rfl (.tmp 45) (.tmp 48) 24 48 (.agg #[(.string ⟨#[]⟩), (.int .i64 0)]) 24 rfl Tryz.underlying24 info48 rfl (by decide) (by omega) (.slice A1 l.length c1_) l (⟨x, 0⟩ : RdCell) [.string x, .int .i64 0] (fun _ => True) (fun _ => False) rfl rfl ?aP (fun _ hk => hk.elim) ?aF ?aO ?aB ?aS ?aL ?_); (case aP => exact k48_mkM _ _ _ (⟨x, 0⟩ : RdCell)); (case aF => exact fun _ _ => trivial); (case aO => exact (by repeat (first | exact HR1.out | apply Kd.R_drewN | apply Kd.R_drew))); (case aB => exact (by repeat (first | exact HB1.out | apply zN | apply zD | apply zA))); (case aS => exact Nat.le_trans hg1 (Nat.le_of_lt (blk_lt HBL.out))); (case aL => omega); intro v2 w5 ho hb hg5 hat; rw [← Hy.out] at ho; obtain ⟨A5, c5_, rfl⟩ := Kd.R_slice ho; have hb5 := (hg5.block g (show g < _ from blk_lt HBL.out) (Kd.R_ne HR1.out HBL.out (by decide))).trans HBL.out; have hz5 := (zX hb5 2).trans rfl; have hf5 := zY hb5 2; have HI5 := zM (isRd_put hb5 hg1 ho); have HB5 := zM (hb.setCell (p := ⟨g, 2, none⟩) hg1 (.slice A5 y.length c5_)); clear hat hg5) | (go_at_call 89; (refine (N1 _ ?side1).mono ?_); (case side1 => repeat (first | exact HI5.out | apply isRd_drewN | apply isRd_drew)); rintro e w6 ⟨rfl, hI6, hB6⟩; have HI6 := zM hI6; have HB6 := zM (below_tr (by repeat (first | exact HB5.out | apply zN | apply zD | apply zA)) hB6); obtain ⟨v6, hb6, _, _⟩ := hI6; have hz6 := (zX hb6 1).trans rfl; clear hb6 hB6) | (go_at_call 71; (refine (rd_give _ _ _ _).mono ?_); rintro e w3 ⟨rfl, rfl⟩)); try go_wp2_with (first | (go_at_call 88; (refine (W1 _ ?side1).mono ?_); (case side1 => repeat (first | exact HI0.out | apply isRd_drewN | apply isRd_drew)); rintro e w1 ⟨rfl, ⟨v1, hb1, hg1, hr1⟩, hB1⟩; obtain ⟨A1, c1_, rfl⟩ := Kd.R_slice hr1; have hz1 := (zX hb1 1).trans rfl; have hz2 := (zX hb1 2).trans rfl; have HBL := zM hb1; have HR1 := zM hr1; have HB1 := zM hB1; clear hb1 hr1 hB1) | (go_at_call 35; (refine (K1 _).mono ?_); rintro e w2 ⟨rfl, ⟨nd2, rfl⟩⟩) | (at_builtin; go_loud (with_reducible refine gate_builtin (b := .append) (xs := #[.tmp 45, .tmp 48]) rfl ?_); go_loud (refine Kd.R_append k48 (w0 := w) B rfl (.tmp 45) (.tmp 48) 24 48 (.agg #[(.string ⟨#[]⟩), (.int .i64 0)]) 24 rfl Tryz.underlying24 info48 rfl (by decide) (by omega) (.slice A1 l.length c1_) l (⟨x, 0⟩ : RdCell) [.string x, .int .i64 0] (fun _ => True) (fun _ => False) rfl rfl ?aP (fun _ hk => hk.elim) ?aF ?aO ?aB ?aS ?aL ?_); (case aP => exact k48_mkM _ _ _ (⟨x, 0⟩ : RdCell)); (case aF => exact fun _ _ => trivial); (case aO => exact (by repeat (first | exact HR1.out | apply Kd.R_drewN | apply Kd.R_drew))); (case aB => exact (by repeat (first | exact HB1.out | apply zN | apply zD | apply zA))); (case aS => exact Nat.le_trans hg1 (Nat.le_of_lt (blk_lt HBL.out))); (case aL => omega); intro v2 w5 ho hb hg5 hat; rw [← Hy.out] at ho; obtain ⟨A5, c5_, rfl⟩ := Kd.R_slice ho; have hb5 := (hg5.block g (show g < _ from blk_lt HBL.out) (Kd.R_ne HR1.out HBL.out (by decide))).trans HBL.out; have hz5 := (zX hb5 2).trans rfl; have hf5 := zY hb5 2; have HI5 := zM (isRd_put hb5 hg1 ho); have HB5 := zM (hb.setCell (p := ⟨g, 2, none⟩) hg1 (.slice A5 y.length c5_)); clear hat hg5) | (go_at_call 89; (refine (N1 _ ?side1).mono ?_); (case side1 => repeat (first | exact HI5.out | apply isRd_drewN | apply isRd_drew)); rintro e w6 ⟨rfl, hI6, hB6⟩; have HI6 := zM hI6; have HB6 := zM (below_tr (by repeat (first | exact HB5.out | apply zN | apply zD | apply zA)) hB6); obtain ⟨v6, hb6, _, _⟩ := hI6; have hz6 := (zX hb6 1).trans rfl; clear hb6 hB6) | (go_at_call 71; (refine (rd_give _ _ _ _).mono ?_); rintro e w3 ⟨rfl, rfl⟩)))
      exact ⟨rfl, rfl, (by repeat (first | exact HB6.out | apply zN | apply zD | apply zA))⟩
     ·
      rw [if_neg c5] at h
      have c5b : (kd == 2) = false := zE c5
      clear c5
      have R1 := fun (W : World) (hq : IsRd B W g s' j y) => ih B g s' j y l.length r W hq (by have := hyl.out; omega) hj (nx_lt c4 (by decide)) hsz (by have := hyl.out; omega) h
      clear h c4
      cases r with
      | inl z =>
       go_enter Tryz.func70, Tryz.ntmps70
       go_wp2_with (first | (go_at_call 88; (refine (W1 _ ?side1).mono ?_); (case side1 => repeat (first | exact HI0.out | apply isRd_drewN | apply isRd_drew)); rintro e w1 ⟨rfl, ⟨v1, hb1, hg1, hr1⟩, hB1⟩; obtain ⟨A1, c1_, rfl⟩ := Kd.R_slice hr1; have hz1 := (zX hb1 1).trans rfl; have hz2 := (zX hb1 2).trans rfl; have HBL := zM hb1; have HR1 := zM hr1; have HB1 := zM hB1; clear hb1 hr1 hB1) | (go_at_call 35; (refine (K1 _).mono ?_); rintro e w2 ⟨rfl, ⟨nd2, rfl⟩⟩) | (at_builtin; go_loud (with_reducible refine gate_builtin (b := .append) (xs := #[.tmp 45, .tmp 48]) rfl ?_); go_loud (refine Kd.R_append k48 (w0 := w) B rfl (.tmp 45) (.tmp 48) 24 48 (.agg #[(.string ⟨#[]⟩), (.int .i64 0)]) 24 rfl Tryz.underlying24 info48 rfl (by decide) (by omega) (.slice A1 l.length c1_) l (⟨x, 0⟩ : RdCell) [.string x, .int .i64 0] (fun _ => True) (fun _ => False) rfl rfl ?aP (fun _ hk => hk.elim) ?aF ?aO ?aB ?aS ?aL ?_); (case aP => exact k48_mkM _ _ _ (⟨x, 0⟩ : RdCell)); (case aF => exact fun _ _ => trivial); (case aO => exact (by repeat (first | exact HR1.out | apply Kd.R_drewN | apply Kd.R_drew))); (case aB => exact (by repeat (first | exact HB1.out | apply zN | apply zD | apply zA))); (case aS => exact Nat.le_trans hg1 (Nat.le_of_lt (blk_lt HBL.out))); (case aL => omega); intro v2 w5 ho hb hg5 hat; rw [← Hy.out] at ho; obtain ⟨A5, c5_, rfl⟩ := Kd.R_slice ho; have hb5 := (hg5.block g (show g < _ from blk_lt HBL.out) (Kd.R_ne HR1.out HBL.out (by decide))).trans HBL.out; have hz5 := (zX hb5 2).trans rfl; have hf5 := zY hb5 2; have HI5 := zM (isRd_put hb5 hg1 ho); have HB5 := zM (hb.setCell (p := ⟨g, 2, none⟩) hg1 (.slice A5 y.length c5_)); clear hat hg5) | (go_at_call 89; (refine (N1 _ ?side1).mono ?_); (case side1 => repeat (first | exact HI5.out | apply isRd_drewN | apply isRd_drew)); rintro e w6 ⟨rfl, hI6, hB6⟩; have HI6 := zM hI6; have HB6 := zM (below_tr (by repeat (first | exact HB5.out | apply zN | apply zD | apply zA)) hB6); obtain ⟨v6, hb6, _, _⟩ := hI6; have hz6 := (zX hb6 1).trans rfl; clear hb6 hB6) | (go_at_call 90; (refine (R1 _ ?side1).mono ?_); (case side1 => repeat (first | exact HI6.out | apply isRd_drewN | apply isRd_drew)); rintro e w7 ⟨rfl, hB7⟩; have HB7 := zM (below_tr (by repeat (first | exact HB6.out | apply zN | apply zD | apply zA)) hB7); clear hB7))
       repeat (go_quiet (first | (go_at_call 88; (refine (W1 _ ?side1).mono ?_); (case side1 => repeat (first | exact HI0.out | apply isRd_drewN | apply isRd_drew)); rintro e w1 ⟨rfl, ⟨v1, hb1, hg1, hr1⟩, hB1⟩; obtain ⟨A1, c1_, rfl⟩ := Kd.R_slice hr1; have hz1 := (zX hb1 1).trans rfl; have hz2 := (zX hb1 2).trans rfl; have HBL := zM hb1; have HR1 := zM hr1; have HB1 := zM hB1; clear hb1 hr1 hB1) | (go_at_call 35; (refine (K1 _).mono ?_); rintro e w2 ⟨rfl, ⟨nd2, rfl⟩⟩) | (at_builtin; go_loud (with_reducible refine gate_builtin (b := .append) (xs := #[.tmp 45, .tmp 48]) rfl ?_); go_loud (refine Kd.R_append k48 (w0 := w) B rfl (.tmp 45) (.tmp 48) 24 48 (.agg #[(.string ⟨#[]⟩), (.int .i64 0)]) 24 rfl Tryz.underlying24 info48 rfl (by decide) (by omega) (.slice A1 l.length c1_) l (⟨x, 0⟩ : RdCell) [.string x, .int .i64 0] (fun _ => True) (fun _ => False) rfl rfl ?aP (fun _ hk => hk.elim) ?aF ?aO ?aB ?aS ?aL ?_); (case aP => exact k48_mkM _ _ _ (⟨x, 0⟩ : RdCell)); (case aF => exact fun _ _ => trivial); (case aO => exact (by repeat (first | exact HR1.out | apply Kd.R_drewN | apply Kd.R_drew))); (case aB => exact (by repeat (first | exact HB1.out | apply zN | apply zD | apply zA))); (case aS => exact Nat.le_trans hg1 (Nat.le_of_lt (blk_lt HBL.out))); (case aL => omega); intro v2 w5 ho hb hg5 hat; rw [← Hy.out] at ho; obtain ⟨A5, c5_, rfl⟩ := Kd.R_slice ho; have hb5 := (hg5.block g (show g < _ from blk_lt HBL.out) (Kd.R_ne HR1.out HBL.out (by decide))).trans HBL.out; have hz5 := (zX hb5 2).trans rfl; have hf5 := zY hb5 2; have HI5 := zM (isRd_put hb5 hg1 ho); have HB5 := zM (hb.setCell (p := ⟨g, 2, none⟩) hg1 (.slice A5 y.length c5_)); clear hat hg5) | (go_at_call 89; (refine (N1 _ ?side1).mono ?_); (case side1 => repeat (first | exact HI5.out | apply isRd_drewN | apply isRd_drew)); rintro e w6 ⟨rfl, hI6, hB6⟩; have HI6 := zM hI6; have HB6 := zM (below_tr (by repeat (first | exact HB5.out | apply zN | apply zD | apply zA)) hB6); obtain ⟨v6, hb6, _, _⟩ := hI6; have hz6 := (zX hb6 1).trans rfl; clear hb6 hB6) | (go_at_call 90; (refine (R1 _ ?side1).mono ?_); (case side1 => repeat (first | exact HI6.out | apply isRd_drewN | apply isRd_drew)); rintro e w7 ⟨rfl, hB7⟩; have HB7 := zM (below_tr (by repeat (first | exact HB6.out | apply zN | apply zD | apply zA)) hB7); clear hB7)); try go_wp2_with (first | (go_at_call 88; (refine (W1 _ ?side1).mono ?_); (case side1 => repeat (first | exact HI0.out | apply isRd_drewN | apply isRd_drew)); rintro e w1 ⟨rfl, ⟨v1, hb1, hg1, hr1⟩, hB1⟩; obtain ⟨A1, c1_, rfl⟩ := Kd.R_slice hr1; have hz1 := (zX hb1 1).trans rfl; have hz2 := (zX hb1 2).trans rfl; have HBL := zM hb1; have HR1 := zM hr1; have HB1 := zM hB1; clear hb1 hr1 hB1) | (go_at_call 35; (refine (K1 _).mono ?_); rintro e w2 ⟨rfl, ⟨nd2, rfl⟩⟩) | (at_builtin; go_loud (with_reducible refine gate_builtin (b := .append) (xs := #[.tmp 45, .tmp 48]) rfl ?_); go_loud (refine Kd.R_append k48 (w0 := w) B rfl (.tmp 45) (.tmp 48) 24 48 (.agg #[(.string ⟨#[]⟩), (.int .i64 0)]) 24 rfl Tryz.underlying24 info48 rfl (by decide) (by omega) (.slice A1 l.length c1_) l (⟨x, 0⟩ : RdCell) [.string x, .int .i64 0] (fun _ => True) (fun _ => False) rfl rfl ?aP (fun _ hk => hk.elim) ?aF ?aO ?aB ?aS ?aL ?_); (case aP => exact k48_mkM _ _ _ (⟨x, 0⟩ : RdCell)); (case aF => exact fun _ _ => trivial); (case aO => exact (by repeat (first | exact HR1.out | apply Kd.R_drewN | apply Kd.R_drew))); (case aB => exact (by repeat (first | exact HB1.out | apply zN | apply zD | apply zA))); (case aS => exact Nat.le_trans hg1 (Nat.le_of_lt (blk_lt HBL.out))); (case aL => omega); intro v2 w5 ho hb hg5 hat; rw [← Hy.out] at ho; obtain ⟨A5, c5_, rfl⟩ := Kd.R_slice ho; have hb5 := (hg5.block g (show g < _ from blk_lt HBL.out) (Kd.R_ne HR1.out HBL.out (by decide))).trans HBL.out; have hz5 := (zX hb5 2).trans rfl; have hf5 := zY hb5 2; have HI5 := zM (isRd_put hb5 hg1 ho); have HB5 := zM (hb.setCell (p := ⟨g, 2, none⟩) hg1 (.slice A5 y.length c5_)); clear hat hg5) | (go_at_call 89; (refine (N1 _ ?side1).mono ?_); (case side1 => repeat (first | exact HI5.out | apply isRd_drewN | apply isRd_drew)); rintro e w6 ⟨rfl, hI6, hB6⟩; have HI6 := zM hI6; have HB6 := zM (below_tr (by repeat (first | exact HB5.out | apply zN | apply zD | apply zA)) hB6); obtain ⟨v6, hb6, _, _⟩ := hI6; have hz6 := (zX hb6 1).trans rfl; clear hb6 hB6) | (go_at_call 90; (refine (R1 _ ?side1).mono ?_); (case side1 => repeat (first | exact HI6.out | apply isRd_drewN | apply isRd_drew)); rintro e w7 ⟨rfl, hB7⟩; have HB7 := zM (below_tr (by repeat (first | exact HB6.out | apply zN | apply zD | apply zA)) hB7); clear hB7)))
       exact ⟨rfl, rfl, (by repeat (first | exact HB7.out | apply zN | apply zD | apply zA))⟩
      | inr z =>
       go_enter Tryz.func70, Tryz.ntmps70
       go_wp2_with (first | (go_at_call 88; (refine (W1 _ ?side1).mono ?_); (case side1 => repeat (first | exact HI0.out | apply isRd_drewN | apply isRd_drew)); rintro e w1 ⟨rfl, ⟨v1, hb1, hg1, hr1⟩, hB1⟩; obtain ⟨A1, c1_, rfl⟩ := Kd.R_slice hr1; have hz1 := (zX hb1 1).trans rfl; have hz2 := (zX hb1 2).trans rfl; have HBL := zM hb1; have HR1 := zM hr1; have HB1 := zM hB1; clear hb1 hr1 hB1) | (go_at_call 35; (refine (K1 _).mono ?_); rintro e w2 ⟨rfl, ⟨nd2, rfl⟩⟩) | (at_builtin; go_loud (with_reducible refine gate_builtin (b := .append) (xs := #[.tmp 45, .tmp 48]) rfl ?_); go_loud (refine Kd.R_append k48 (w0 := w) B rfl (.tmp 45) (.tmp 48) 24 48 (.agg #[(.string ⟨#[]⟩), (.int .i64 0)]) 24 rfl Tryz.underlying24 info48 rfl (by decide) (by omega) (.slice A1 l.length c1_) l (⟨x, 0⟩ : RdCell) [.string x, .int .i64 0] (fun _ => True) (fun _ => False) rfl rfl ?aP (fun _ hk => hk.elim) ?aF ?aO ?aB ?aS ?aL ?_); (case aP => exact k48_mkM _ _ _ (⟨x, 0⟩ : RdCell)); (case aF => exact fun _ _ => trivial); (case aO => exact (by repeat (first | exact HR1.out | apply Kd.R_drewN | apply Kd.R_drew))); (case aB => exact (by repeat (first | exact HB1.out | apply zN | apply zD | apply zA))); (case aS => exact Nat.le_trans hg1 (Nat.le_of_lt (blk_lt HBL.out))); (case aL => omega); intro v2 w5 ho hb hg5 hat; rw [← Hy.out] at ho; obtain ⟨A5, c5_, rfl⟩ := Kd.R_slice ho; have hb5 := (hg5.block g (show g < _ from blk_lt HBL.out) (Kd.R_ne HR1.out HBL.out (by decide))).trans HBL.out; have hz5 := (zX hb5 2).trans rfl; have hf5 := zY hb5 2; have HI5 := zM (isRd_put hb5 hg1 ho); have HB5 := zM (hb.setCell (p := ⟨g, 2, none⟩) hg1 (.slice A5 y.length c5_)); clear hat hg5) | (go_at_call 89; (refine (N1 _ ?side1).mono ?_); (case side1 => repeat (first | exact HI5.out | apply isRd_drewN | apply isRd_drew)); rintro e w6 ⟨rfl, hI6, hB6⟩; have HI6 := zM hI6; have HB6 := zM (below_tr (by repeat (first | exact HB5.out | apply zN | apply zD | apply zA)) hB6); obtain ⟨v6, hb6, _, _⟩ := hI6; have hz6 := (zX hb6 1).trans rfl; clear hb6 hB6) | (go_at_call 90; (refine (R1 _ ?side1).mono ?_); (case side1 => repeat (first | exact HI6.out | apply isRd_drewN | apply isRd_drew)); rintro e w7 ⟨rfl, hI7, hB7, hl7, hj7, hk7⟩; have HI7 := zM hI7; have HB7 := zM (below_tr (by repeat (first | exact HB6.out | apply zN | apply zD | apply zA)) hB7); clear hI7 hB7))
       repeat (go_quiet (first | (go_at_call 88; (refine (W1 _ ?side1).mono ?_); (case side1 => repeat (first | exact HI0.out | apply isRd_drewN | apply isRd_drew)); rintro e w1 ⟨rfl, ⟨v1, hb1, hg1, hr1⟩, hB1⟩; obtain ⟨A1, c1_, rfl⟩ := Kd.R_slice hr1; have hz1 := (zX hb1 1).trans rfl; have hz2 := (zX hb1 2).trans rfl; have HBL := zM hb1; have HR1 := zM hr1; have HB1 := zM hB1; clear hb1 hr1 hB1) | (go_at_call 35; (refine (K1 _).mono ?_); rintro e w2 ⟨rfl, ⟨nd2, rfl⟩⟩) | (at_builtin; go_loud (with_reducible refine gate_builtin (b := .append) (xs := #[.tmp 45, .tmp 48]) rfl ?_); go_loud (refine Kd.R_append k48 (w0 := w) B rfl (.tmp 45) (.tmp 48) 24 48 (.agg #[(.string ⟨#[]⟩), (.int .i64 0)]) 24 rfl Tryz.underlying24 info48 rfl (by decide) (by omega) (.slice A1 l.length c1_) l (⟨x, 0⟩ : RdCell) [.string x, .int .i64 0] (fun _ => True) (fun _ => False) rfl rfl ?aP (fun _ hk => hk.elim) ?aF ?aO ?aB ?aS ?aL ?_); (case aP => exact k48_mkM _ _ _ (⟨x, 0⟩ : RdCell)); (case aF => exact fun _ _ => trivial); (case aO => exact (by repeat (first | exact HR1.out | apply Kd.R_drewN | apply Kd.R_drew))); (case aB => exact (by repeat (first | exact HB1.out | apply zN | apply zD | apply zA))); (case aS => exact Nat.le_trans hg1 (Nat.le_of_lt (blk_lt HBL.out))); (case aL => omega); intro v2 w5 ho hb hg5 hat; rw [← Hy.out] at ho; obtain ⟨A5, c5_, rfl⟩ := Kd.R_slice ho; have hb5 := (hg5.block g (show g < _ from blk_lt HBL.out) (Kd.R_ne HR1.out HBL.out (by decide))).trans HBL.out; have hz5 := (zX hb5 2).trans rfl; have hf5 := zY hb5 2; have HI5 := zM (isRd_put hb5 hg1 ho); have HB5 := zM (hb.setCell (p := ⟨g, 2, none⟩) hg1 (.slice A5 y.length c5_)); clear hat hg5) | (go_at_call 89; (refine (N1 _ ?side1).mono ?_); (case side1 => repeat (first | exact HI5.out | apply isRd_drewN | apply isRd_drew)); rintro e w6 ⟨rfl, hI6, hB6⟩; have HI6 := zM hI6; have HB6 := zM (below_tr (by repeat (first | exact HB5.out | apply zN | apply zD | apply zA)) hB6); obtain ⟨v6, hb6, _, _⟩ := hI6; have hz6 := (zX hb6 1).trans rfl; clear hb6 hB6) | (go_at_call 90; (refine (R1 _ ?side1).mono ?_); (case side1 => repeat (first | exact HI6.out | apply isRd_drewN | apply isRd_drew)); rintro e w7 ⟨rfl, hI7, hB7, hl7, hj7, hk7⟩; have HI7 := zM hI7; have HB7 := zM (below_tr (by repeat (first | exact HB6.out | apply zN | apply zD | apply zA)) hB7); clear hI7 hB7)); try go_wp2_with (first | (go_at_call 88; (refine (W1 _ ?side1).mono ?_); (case side1 => repeat (first | exact HI0.out | apply isRd_drewN | apply isRd_drew)); rintro e w1 ⟨rfl, ⟨v1, hb1, hg1, hr1⟩, hB1⟩; obtain ⟨A1, c1_, rfl⟩ := Kd.R_slice hr1; have hz1 := (zX hb1 1).trans rfl; have hz2 := (zX hb1 2).trans rfl; have HBL := zM hb1; have HR1 := zM hr1; have HB1 := zM hB1; clear hb1 hr1 hB1) | (go_at_call 35; (refine (K1 _).mono ?_); rintro e w2 ⟨rfl, ⟨nd2, rfl⟩⟩) | (at_builtin; go_loud (with_reducible refine gate_builtin (b := .append) (xs := #[.tmp 45, .tmp 48]) rfl ?_); go_loud (refine Kd.R_append k48 (w0 := w) B rfl (.tmp 45) (.tmp 48) 24 48 (.agg #[(.string ⟨#[]⟩), (.int .i64 0)]) 24 rfl Tryz.underlying24 info48 rfl (by decide) (by omega) (.slice A1 l.length c1_) l (⟨x, 0⟩ : RdCell) [.string x, .int .i64 0] (fun _ => True) (fun _ => False) rfl rfl ?aP (fun _ hk => hk.elim) ?aF ?aO ?aB ?aS ?aL ?_); (case aP => exact k48_mkM _ _ _ (⟨x, 0⟩ : RdCell)); (case aF => exact fun _ _ => trivial); (case aO => exact (by repeat (first | exact HR1.out | apply Kd.R_drewN | apply Kd.R_drew))); (case aB => exact (by repeat (first | exact HB1.out | apply zN | apply zD | apply zA))); (case aS => exact Nat.le_trans hg1 (Nat.le_of_lt (blk_lt HBL.out))); (case aL => omega); intro v2 w5 ho hb hg5 hat; rw [← Hy.out] at ho; obtain ⟨A5, c5_, rfl⟩ := Kd.R_slice ho; have hb5 := (hg5.block g (show g < _ from blk_lt HBL.out) (Kd.R_ne HR1.out HBL.out (by decide))).trans HBL.out; have hz5 := (zX hb5 2).trans rfl; have hf5 := zY hb5 2; have HI5 := zM (isRd_put hb5 hg1 ho); have HB5 := zM (hb.setCell (p := ⟨g, 2, none⟩) hg1 (.slice A5 y.length c5_)); clear hat hg5) | (go_at_call 89; (refine (N1 _ ?side1).mono ?_); (case side1 => repeat (first | exact HI5.out | apply isRd_drewN | apply isRd_drew)); rintro e w6 ⟨rfl, hI6, hB6⟩; have HI6 := zM hI6; have HB6 := zM (below_tr (by repeat (first | exact HB5.out | apply zN | apply zD | apply zA)) hB6); obtain ⟨v6, hb6, _, _⟩ := hI6; have hz6 := (zX hb6 1).trans rfl; clear hb6 hB6) | (go_at_call 90; (refine (R1 _ ?side1).mono ?_); (case side1 => repeat (first | exact HI6.out | apply isRd_drewN | apply isRd_drew)); rintro e w7 ⟨rfl, hI7, hB7, hl7, hj7, hk7⟩; have HI7 := zM hI7; have HB7 := zM (below_tr (by repeat (first | exact HB6.out | apply zN | apply zD | apply zA)) hB7); clear hI7 hB7)))
       (first | refine bodyPost_ret (results_none rfl _ _ _) rfl ?_ | refine bodyPost_end (results_none rfl _ _ _) rfl ?_); exact ⟨rfl, by repeat (first | exact HI7.out | apply isRd_drewN | apply isRd_drew), (by repeat (first | exact HB7.out | apply zN | apply zD | apply zA)), hl7, hj7, hk7⟩
    ·
     rw [if_neg c4] at h
     have c4b : (nxS s' j == 40) = false := zE c4
     have c4c : (nxS s' j != 40) = true := zF c4
     clear c4
     obtain rfl := zS h
     clear h
     go_enter Tryz.func70, Tryz.ntmps70
     go_wp2_with (first | (go_at_call 88; (refine (W1 _ ?side1).mono ?_); (case side1 => repeat (first | exact HI0.out | apply isRd_drewN | apply isRd_drew)); rintro e w1 ⟨rfl, ⟨v1, hb1, hg1, hr1⟩, hB1⟩; obtain ⟨A1, c1_, rfl⟩ := Kd.R_slice hr1; have hz1 := (zX hb1 1).trans rfl; have hz2 := (zX hb1 2).trans rfl; have HBL := zM hb1; have HR1 := zM hr1; have HB1 := zM hB1; clear hb1 hr1 hB1) | (go_at_call 35; (refine (K1 _).mono ?_); rintro e w2 ⟨rfl, ⟨nd2, rfl⟩⟩) | (at_builtin; go_loud (with_reducible refine gate_builtin (b := .append) (xs := #[.tmp 45, .tmp 48]) rfl ?_); go_loud (refine Kd.R_append k48 (w0 := w) B rfl (.tmp 45) (.tmp 48) 24 48 (.agg #[(.string ⟨#[]⟩), (.int .i64 0)]) 24 rfl Tryz.underlying24 info48 rfl (by decide) (by omega) (.slice A1 l.length c1_) l (⟨x, 0⟩ : RdCell) [.string x, .int .i64 0] (fun _ => True) (fun _ => False) rfl rfl ?aP (fun _ hk => hk.elim) ?aF ?aO ?aB ?aS ?aL ?_); (case aP => exact k48_mkM _ _ _ (⟨x, 0⟩ : RdCell)); (case aF => exact fun _ _ => trivial); (case aO => exact (by repeat (first | exact HR1.out | apply Kd.R_drewN | apply Kd.R_drew))); (case aB => exact (by repeat (first | exact HB1.out | apply zN | apply zD | apply zA))); (case aS => exact Nat.le_trans hg1 (Nat.le_of_lt (blk_lt HBL.out))); (case aL => omega); intro v2 w5 ho hb hg5 hat; rw [← Hy.out] at ho; obtain ⟨A5, c5_, rfl⟩ := Kd.R_slice ho; have hb5 := (hg5.block g (show g < _ from blk_lt HBL.out) (Kd.R_ne HR1.out HBL.out (by decide))).trans HBL.out; have hz5 := (zX hb5 2).trans rfl; have hf5 := zY hb5 2; have HI5 := zM (isRd_put hb5 hg1 ho); have HB5 := zM (hb.setCell (p := ⟨g, 2, none⟩) hg1 (.slice A5 y.length c5_)); clear hat hg5) | (go_at_call 89; (refine (N1 _ ?side1).mono ?_); (case side1 => repeat (first | exact HI5.out | apply isRd_drewN | apply isRd_drew)); rintro e w6 ⟨rfl, hI6, hB6⟩; have HI6 := zM hI6; have HB6 := zM (below_tr (by repeat (first | exact HB5.out | apply zN | apply zD | apply zA)) hB6); obtain ⟨v6, hb6, _, _⟩ := hI6; have hz6 := (zX hb6 1).trans rfl; clear hb6 hB6))
     repeat (go_quiet (first | (go_at_call 88; (refine (W1 _ ?side1).mono ?_); (case side1 => repeat (first | exact HI0.out | apply isRd_drewN | apply isRd_drew)); rintro e w1 ⟨rfl, ⟨v1, hb1, hg1, hr1⟩, hB1⟩; obtain ⟨A1, c1_, rfl⟩ := Kd.R_slice hr1; have hz1 := (zX hb1 1).trans rfl; have hz2 := (zX hb1 2).trans rfl; have HBL := zM hb1; have HR1 := zM hr1; have HB1 := zM hB1; clear hb1 hr1 hB1) | (go_at_call 35; (refine (K1 _).mono ?_); rintro e w2 ⟨rfl, ⟨nd2, rfl⟩⟩) | (at_builtin; go_loud (with_reducible refine gate_builtin (b := .append) (xs := #[.tmp 45, .tmp 48]) rfl ?_); go_loud (refine Kd.R_append k48 (w0 := w) B rfl (.tmp 45) (.tmp 48) 24 48 (.agg #[(.string ⟨#[]⟩), (.int .i64 0)]) 24 rfl Tryz.underlying24 info48 rfl (by decide) (by omega) (.slice A1 l.length c1_) l (⟨x, 0⟩ : RdCell) [.string x, .int .i64 0] (fun _ => True) (fun _ => False) rfl rfl ?aP (fun _ hk => hk.elim) ?aF ?aO ?aB ?aS ?aL ?_); (case aP => exact k48_mkM _ _ _ (⟨x, 0⟩ : RdCell)); (case aF => exact fun _ _ => trivial); (case aO => exact (by repeat (first | exact HR1.out | apply Kd.R_drewN | apply Kd.R_drew))); (case aB => exact (by repeat (first | exact HB1.out | apply zN | apply zD | apply zA))); (case aS => exact Nat.le_trans hg1 (Nat.le_of_lt (blk_lt HBL.out))); (case aL => omega); intro v2 w5 ho hb hg5 hat; rw [← Hy.out] at ho; obtain ⟨A5, c5_, rfl⟩ := Kd.R_slice ho; have hb5 := (hg5.block g (show g < _ from blk_lt HBL.out) (Kd.R_ne HR1.out HBL.out (by decide))).trans HBL.out; have hz5 := (zX hb5 2).trans rfl; have hf5 := zY hb5 2; have HI5 := zM (isRd_put hb5 hg1 ho); have HB5 := zM (hb.setCell (p := ⟨g, 2, none⟩) hg1 (.slice A5 y.length c5_)); clear hat hg5) | (go_at_call 89; (refine (N1 _ ?side1).mono ?_); (case side1 => repeat (first | exact HI5.out | apply isRd_drewN | apply isRd_drew)); rintro e w6 ⟨rfl, hI6, hB6⟩; have HI6 := zM hI6; have HB6 := zM (below_tr (by repeat (first | exact HB5.out | apply zN | apply zD | apply zA)) hB6); obtain ⟨v6, hb6, _, _⟩ := hI6; have hz6 := (zX hb6 1).trans rfl; clear hb6 hB6)); try go_wp2_with (first | (go_at_call 88; (refine (W1 _ ?side1).mono ?_); (case side1 => repeat (first | exact HI0.out | apply isRd_drewN | apply isRd_drew)); rintro e w1 ⟨rfl, ⟨v1, hb1, hg1, hr1⟩, hB1⟩; obtain ⟨A1, c1_, rfl⟩ := Kd.R_slice hr1; have hz1 := (zX hb1 1).trans rfl; have hz2 := (zX hb1 2).trans rfl; have HBL := zM hb1; have HR1 := zM hr1; have HB1 := zM hB1; clear hb1 hr1 hB1) | (go_at_call 35; (refine (K1 _).mono ?_); rintro e w2 ⟨rfl, ⟨nd2, rfl⟩⟩) | (at_builtin; go_loud (with_reducible refine gate_builtin (b := .append) (xs := #[.tmp 45, .tmp 48]) rfl ?_); go_loud (refine Kd.R_append k48 (w0 := w) B rfl (.tmp 45) (.tmp 48) 24 48 (.agg #[(.string ⟨#[]⟩), (.int .i64 0)]) 24 rfl Tryz.underlying24 info48 rfl (by decide) (by omega) (.slice A1 l.length c1_) l (⟨x, 0⟩ : RdCell) [.string x, .int .i64 0] (fun _ => True) (fun _ => False) rfl rfl ?aP (fun _ hk => hk.elim) ?aF ?aO ?aB ?aS ?aL ?_); (case aP => exact k48_mkM _ _ _ (⟨x, 0⟩ : RdCell)); (case aF => exact fun _ _ => trivial); (case aO => exact (by repeat (first | exact HR1.out | apply Kd.R_drewN | apply Kd.R_drew))); (case aB => exact (by repeat (first | exact HB1.out | apply zN | apply zD | apply zA))); (case aS => exact Nat.le_trans hg1 (Nat.le_of_lt (blk_lt HBL.out))); (case aL => omega); intro v2 w5 ho hb hg5 hat; rw [← Hy.out] at ho; obtain ⟨A5, c5_, rfl⟩ := Kd.R_slice ho; have hb5 := (hg5.block g (show g < _ from blk_lt HBL.out) (Kd.R_ne HR1.out HBL.out (by decide))).trans HBL.out; have hz5 := (zX hb5 2).trans rfl; have hf5 := zY hb5 2; have HI5 := zM (isRd_put hb5 hg1 ho); have HB5 := zM (hb.setCell (p := ⟨g, 2, none⟩) hg1 (.slice A5 y.length c5_)); clear hat hg5) | (go_at_call 89; (refine (N1 _ ?side1).mono ?_); (case side1 => repeat (first | exact HI5.out | apply isRd_drewN | apply isRd_drew)); rintro e w6 ⟨rfl, hI6, hB6⟩; have HI6 := zM hI6; have HB6 := zM (below_tr (by repeat (first | exact HB5.out | apply zN | apply zD | apply zA)) hB6); obtain ⟨v6, hb6, _, _⟩ := hI6; have hz6 := (zX hb6 1).trans rfl; clear hb6 hB6)))
     (first | refine bodyPost_ret (results_none rfl _ _ _) rfl ?_ | refine bodyPost_end (results_none rfl _ _ _) rfl ?_); exact ⟨rfl, by repeat (first | exact HI6.out | apply isRd_drewN | apply isRd_drew), (by repeat (first | exact HB6.out | apply zN | apply zD | apply zA)), (show y.length ≤ 64 by have := hyl.out; omega), hj, hj2⟩
theorem wrap_id' {i : Int} (h0 : -9223372036854775808 ≤ i) (h : i ≤ 9223372036854775807) : wrap64 i = i := by
 unfold wrap64
 omega
theorem isRd_at {B : Nat} {W : World} {g : Nat} {s : ByteArray} {i : Int} {l : List RdCell} {v : Value} (hb : W.heap[g]? = some (.cells #[.string s, .int .i64 i, v] 122 (0, 0))) (hg : B ≤ g) (hr : Kd.R k48 48 W B (fun _ => True) v l) (j : Int) : IsRd B (W.setCell ⟨g, 1, none⟩ (.int .i64 j)) g s j l :=
 ⟨v, by simpa using blk_set hb 1 (.int .i64 j), hg, Kd.R_set hr hb (by decide) 1 _⟩
theorem R_some {B : Nat} {W : World} {v : Value} {m : List RdCell} {c : Nat} (hr : Kd.R k48 48 W B (fun _ => True) v m) (hc : c < m.length) : ∃ g5 cap5, v = .slice (some ⟨g5, 0, none⟩) m.length cap5 := by
 obtain ⟨_, inner, ho, h2⟩ := hr
 rcases ho.2 with ⟨rfl, h3⟩ | ⟨g', cap', cur, rfl, _⟩
 ·
  have : inner.length = m.length * 2 := h2.1
  have h4 := ho.1
  simp_all
 ·
  exact ⟨g', cap', rfl⟩
theorem isRd_back {B : Nat} {W : World} {g : Nat} {s : ByteArray} {i : Int} {m y z : List RdCell} {v : Value} (hb : W.heap[g]? = some (.cells #[.string s, .int .i64 i, v] 122 (0, 0))) (hg : B ≤ g) (hy : y.length = m.length ∧ z = y) (hr : Kd.R k48 48 W B (fun _ => True) v z) : IsRd B W g s i y :=
 ⟨v, hb, hg, hy.2 ▸ hr⟩
theorem cell_arity {W : World} {B : Nat} {ok : Nat → Prop} {m : List RdCell} {c : Nat} {ce : List Value} {n : Int} (h : Kd.M k48 W B ok (m.getD (c : Int).toNat z48) ce) : Kd.M k48 W B (fun _ => False) (⟨(rd_T48 m (c : Int)).f0, n⟩ : RdCell) (ce.take 1 ++ [.int .i64 n] ++ ce.drop (1 + 1)) := by
 have e := k48_openM h
 subst e
 exact k48_mkM W B _ (⟨(rd_T48 m (c : Int)).f0, n⟩ : RdCell)
section
variable {P : Program} {ops : Array Oper} {rest : List Oper} {o : Oper} {a : Act} {Q : Exit → Act → World → Prop}
theorem rd_store {w0 W : World} {B g5 cap5 c : Nat} {n : Int} {m : List RdCell} {ce : List Value} {p x : Operand} (hN : o.dst = none) (hgd : o.guard = none) (ho : o.op = .store 3 p x)
 (hp : a.eval p = .pointer (some ⟨g5, c * 2 + 1, none⟩)) (hx : a.eval x = .int .i64 n) (HO : Kd.R k48 48 W B (fun _ => True) (.slice (some ⟨g5, 0, none⟩) m.length cap5) m) (hc : c < m.length)
 (hcl : ce.length = (k48).sz) (hcc : ∀ j u, ce[j]? = some u → W.cell? ⟨g5, (c : Int).toNat * (k48).sz + j, none⟩ = some u) {ok : Nat → Prop} (hM : Kd.M k48 W B ok (m.getD (c : Int).toNat z48) ce) (HB : Below B w0 W)
 (ht : (P.info? 3).map (·.size) = some 1)
 (h : ∀ w1, Kd.R k48 48 w1 B (fun _ => True) (.slice (some ⟨g5, 0, none⟩) m.length cap5) (m.set (c : Int).toNat ⟨(rd_T48 m (c : Int)).f0, n⟩) → Below B w0 w1 → W.grownBy w1 (some g5) → wpList P ops Q rest a w1) : wpList P ops Q (o :: rest) a W :=
 Kd.R_store k48 B hN hgd 3 p x ho 48 (c : Int) 1 m (⟨(rd_T48 m (c : Int)).f0, n⟩ : RdCell) (.int .i64 n) [.int .i64 n] ce (fun _ => True) (fun _ => False) hp rfl hx rfl ht (by simp [Value.oneCell']) HO (by omega) (by omega) hcl hcc (Nat.le_refl _) (cell_arity hM) (fun _ hk => hk.elim) HB h
end
theorem rdArgs_step (k : Nat) (ih : ∀ k', k' < k → TermC k') : ArgsC k := by
 intro B g s i0 l0 c r w hI hl hi hi2 hsz hcl h
 have HI0 := zM hI
 have HB0 := zM (Below.refl B w)
 have H' := zM h
 clear h hI
 have HL0 := zM (show l0.length ≤ 64 ∧ c < l0.length ∧ 0 ≤ i0 ∧ i0 < (s.size : Int) from ⟨hl, hcl, hi, hi2⟩)
 clear hl hcl hi hi2
 go_enter Tryz.func90, Tryz.ntmps90
 go_wp2
 go_loopg [4] k (fun kq v4 w' => ∃ (n i : Int) (l : List RdCell), v4 = .int .i64 n ∧ Aside0 (rdArgs kq s i l c n = some r) ∧ Aside0 (kq ≤ k) ∧ Aside0 (IsRd B w' g s i l) ∧ Aside0 (Below B w w') ∧ Aside0 (l.length ≤ 64 ∧ c < l.length ∧ 0 ≤ i ∧ i < (s.size : Int)))
 case atStart => exact ⟨1, i0, l0, rfl, H', ⟨Nat.le_refl _⟩, ⟨(by repeat (first | exact HI0.out | apply isRd_drewN | apply isRd_drew))⟩, ⟨(by repeat (first | exact HB0.out | apply zN | apply zD | apply zA))⟩, HL0⟩
 case round =>
  clear HI0 HB0 H' HL0
  obtain ⟨n, i, l, rfl, HA, HK1, HI0, HB0, HL0⟩ := hrel
  cases gk with
  | zero => exact absurd HA.out (by simp [rdArgs])
  | succ k1 =>
   have H := HA.out
   clear HA
   simp only [rdArgs] at H
   obtain ⟨x, hx, H⟩ := zB H
   have hw : wrap64 (i + 1) = i + 1 := wrap_id' (by have := HL0.out; omega) (by have := HL0.out; omega)
   rw [hw] at hx
   have Hw := zM hw
   clear hw
   obtain ⟨v0, hb0, hg0, hr0⟩ := HI0.out
   have hz0 := (zX hb0 1).trans rfl
   have hf0 := zY hb0 1
   have HI0s := zM (isRd_at hb0 hg0 hr0 (wrap64 (i + 1)))
   clear hb0 hr0
   have T1 := fun (W : World) (h : IsRd B W g s (wrap64 (i + 1)) l) => ih k1 (by have := HK1.out; omega) B g s (wrap64 (i + 1)) l x W h HL0.out.1 (by rw [Hw.out]; have := HL0.out; omega) hsz (by rw [Hw.out]; exact hx)
   clear hx
   cases x with
   | inl z =>
    obtain rfl := zS H
    clear H
    go_wp2_with (first | (go_at_call 70; (refine (T1 _ ?side1).mono ?_); (case side1 => exact HI0s.out); rintro e w1 ⟨rfl, hB1⟩; have HB1 := zM (below_tr (HB0.out.setCell (p := ⟨g, 1, none⟩) hg0 _) hB1); clear hB1))
    repeat (go_quiet (first | (go_at_call 70; (refine (T1 _ ?side1).mono ?_); (case side1 => exact HI0s.out); rintro e w1 ⟨rfl, hB1⟩; have HB1 := zM (below_tr (HB0.out.setCell (p := ⟨g, 1, none⟩) hg0 _) hB1); clear hB1)); try go_wp2_with (first | (go_at_call 70; (refine (T1 _ ?side1).mono ?_); (case side1 => exact HI0s.out); rintro e w1 ⟨rfl, hB1⟩; have HB1 := zM (below_tr (HB0.out.setCell (p := ⟨g, 1, none⟩) hg0 _) hB1); clear hB1)))
    exact ⟨rfl, rfl, (by repeat (first | exact HB1.out | apply zN | apply zD | apply zA))⟩
   | inr z =>
    obtain ⟨j, m⟩ := z
    simp only at H
    by_cases hcm : c < m.length
    ·
     rw [if_pos hcm] at H
     obtain ⟨y, hy⟩ : ∃ y : List RdCell, y = m.set c ⟨(rd_T48 m (c : Int)).f0, n⟩ := ⟨_, rfl⟩
     have hml : y.length = m.length ∧ m.set ((c : Int).toNat) ⟨(rd_T48 m (c : Int)).f0, n⟩ = y := ⟨by rw [hy]; simp, by rw [hy]; rfl⟩
     rw [← hy] at H
     clear hy
     have N1 := fun (W : World) (hj : 0 ≤ j) (h : IsRd B W g s j y) => rd_next h hj
     by_cases c4 : nxS s j = 41
     ·
      rw [if_pos c4] at H
      obtain rfl := zS H
      clear H
      have c4b : (nxS s j == 41) = true := zG c4
      have hjs : j < (s.size : Int) := nx_lt c4 (by decide)
      clear c4
      go_wp2_with (first | (go_at_call 70; (refine (T1 _ ?side1).mono ?_); (case side1 => exact HI0s.out); rintro e w1 ⟨rfl, hI1, hB1, hl1, hj1, hk1⟩; replace hI1 : IsRd B w1 g s j m := hI1; have HL1 := zM (show m.length ≤ 64 from hl1); replace hj1 : 0 ≤ j := hj1; replace hk1 : j ≤ (s.size : Int) := hk1; have HI1 := zM hI1; have HB1 := zM (below_tr (HB0.out.setCell (p := ⟨g, 1, none⟩) hg0 _) hB1); obtain ⟨v1, hb1, hg1, hr1⟩ := hI1; obtain ⟨g5, cap5, rfl⟩ := R_some hr1 hcm; have hz1 := (zX hb1 2).trans rfl; have hz1b := (zX hb1 1).trans rfl; have HBL := zM hb1; have HR1 := zM hr1; obtain ⟨ce, hce1, hce2, hce3, hce4⟩ := Kd.R_elem hr1 z48 (c : Int) (by omega) (by omega); have HCE := zM hce3; have HCL := zM hce1; have HCM := zM hce2; clear hb1 hB1 hr1 hce1 hce2 hce3 hce4) | ((with_reducible refine gate_store (t := 3) (p := 23) rfl ?_); refine rd_store (w0 := w) (B := B) (g5 := g5) (cap5 := cap5) (c := c) (n := n) (m := m) (ce := ce) rfl rfl (p := .tmp 23) (x := .tmp 21) rfl rfl rfl ?sR hcm HCL.out HCE.out HCM.out ?sB ?sT ?_; (case sT => kernel_rfl); (case sR => exact (by repeat (first | exact HR1.out | apply Kd.R_drewN | apply Kd.R_drew))); (case sB => exact (by repeat (first | exact HB1.out | apply zN | apply zD | apply zA))); intro w5 ho hb hg5; have hb5 := (hg5.block g (show g < _ from blk_lt HBL.out) (Kd.R_ne HR1.out HBL.out (by decide))).trans HBL.out; have HI5 := zM (isRd_back hb5 hg1 hml ho); have HB5 := zM hb; clear hg5 hb ho hb5) | (go_at_call 89; (refine (N1 _ hj1 ?side1).mono ?_); (case side1 => exact (by repeat (first | exact HI5.out | apply isRd_drewN | apply isRd_drew))); rintro e w6 ⟨rfl, hI6, hB6⟩; have HI6 := zM hI6; have HB6 := zM (below_tr (by repeat (first | exact HB5.out | apply zN | apply zD | apply zA)) hB6); obtain ⟨v6, hb6, hg6, hr6⟩ := hI6; have hz6 := (zX hb6 1).trans rfl; have hf6 := zY hb6 1; have HBL6 := zM hb6; have HR6 := zM hr6; clear hb6 hB6 hr6))
      repeat (go_quiet (first | (go_at_call 70; (refine (T1 _ ?side1).mono ?_); (case side1 => exact HI0s.out); rintro e w1 ⟨rfl, hI1, hB1, hl1, hj1, hk1⟩; replace hI1 : IsRd B w1 g s j m := hI1; have HL1 := zM (show m.length ≤ 64 from hl1); replace hj1 : 0 ≤ j := hj1; replace hk1 : j ≤ (s.size : Int) := hk1; have HI1 := zM hI1; have HB1 := zM (below_tr (HB0.out.setCell (p := ⟨g, 1, none⟩) hg0 _) hB1); obtain ⟨v1, hb1, hg1, hr1⟩ := hI1; obtain ⟨g5, cap5, rfl⟩ := R_some hr1 hcm; have hz1 := (zX hb1 2).trans rfl; have hz1b := (zX hb1 1).trans rfl; have HBL := zM hb1; have HR1 := zM hr1; obtain ⟨ce, hce1, hce2, hce3, hce4⟩ := Kd.R_elem hr1 z48 (c : Int) (by omega) (by omega); have HCE := zM hce3; have HCL := zM hce1; have HCM := zM hce2; clear hb1 hB1 hr1 hce1 hce2 hce3 hce4) | ((with_reducible refine gate_store (t := 3) (p := 23) rfl ?_); refine rd_store (w0 := w) (B := B) (g5 := g5) (cap5 := cap5) (c := c) (n := n) (m := m) (ce := ce) rfl rfl (p := .tmp 23) (x := .tmp 21) rfl rfl rfl ?sR hcm HCL.out HCE.out HCM.out ?sB ?sT ?_; (case sT => kernel_rfl); (case sR => exact (by repeat (first | exact HR1.out | apply Kd.R_drewN | apply Kd.R_drew))); (case sB => exact (by repeat (first | exact HB1.out | apply zN | apply zD | apply zA))); intro w5 ho hb hg5; have hb5 := (hg5.block g (show g < _ from blk_lt HBL.out) (Kd.R_ne HR1.out HBL.out (by decide))).trans HBL.out; have HI5 := zM (isRd_back hb5 hg1 hml ho); have HB5 := zM hb; clear hg5 hb ho hb5) | (go_at_call 89; (refine (N1 _ hj1 ?side1).mono ?_); (case side1 => exact (by repeat (first | exact HI5.out | apply isRd_drewN | apply isRd_drew))); rintro e w6 ⟨rfl, hI6, hB6⟩; have HI6 := zM hI6; have HB6 := zM (below_tr (by repeat (first | exact HB5.out | apply zN | apply zD | apply zA)) hB6); obtain ⟨v6, hb6, hg6, hr6⟩ := hI6; have hz6 := (zX hb6 1).trans rfl; have hf6 := zY hb6 1; have HBL6 := zM hb6; have HR6 := zM hr6; clear hb6 hB6 hr6)); try go_wp2_with (first | (go_at_call 70; (refine (T1 _ ?side1).mono ?_); (case side1 => exact HI0s.out); rintro e w1 ⟨rfl, hI1, hB1, hl1, hj1, hk1⟩; replace hI1 : IsRd B w1 g s j m := hI1; have HL1 := zM (show m.length ≤ 64 from hl1); replace hj1 : 0 ≤ j := hj1; replace hk1 : j ≤ (s.size : Int) := hk1; have HI1 := zM hI1; have HB1 := zM (below_tr (HB0.out.setCell (p := ⟨g, 1, none⟩) hg0 _) hB1); obtain ⟨v1, hb1, hg1, hr1⟩ := hI1; obtain ⟨g5, cap5, rfl⟩ := R_some hr1 hcm; have hz1 := (zX hb1 2).trans rfl; have hz1b := (zX hb1 1).trans rfl; have HBL := zM hb1; have HR1 := zM hr1; obtain ⟨ce, hce1, hce2, hce3, hce4⟩ := Kd.R_elem hr1 z48 (c : Int) (by omega) (by omega); have HCE := zM hce3; have HCL := zM hce1; have HCM := zM hce2; clear hb1 hB1 hr1 hce1 hce2 hce3 hce4) | ((with_reducible refine gate_store (t := 3) (p := 23) rfl ?_); refine rd_store (w0 := w) (B := B) (g5 := g5) (cap5 := cap5) (c := c) (n := n) (m := m) (ce := ce) rfl rfl (p := .tmp 23) (x := .tmp 21) rfl rfl rfl ?sR hcm HCL.out HCE.out HCM.out ?sB ?sT ?_; (case sT => kernel_rfl); (case sR => exact (by repeat (first | exact HR1.out | apply Kd.R_drewN | apply Kd.R_drew))); (case sB => exact (by repeat (first | exact HB1.out | apply zN | apply zD | apply zA))); intro w5 ho hb hg5; have hb5 := (hg5.block g (show g < _ from blk_lt HBL.out) (Kd.R_ne HR1.out HBL.out (by decide))).trans HBL.out; have HI5 := zM (isRd_back hb5 hg1 hml ho); have HB5 := zM hb; clear hg5 hb ho hb5) | (go_at_call 89; (refine (N1 _ hj1 ?side1).mono ?_); (case side1 => exact (by repeat (first | exact HI5.out | apply isRd_drewN | apply isRd_drew))); rintro e w6 ⟨rfl, hI6, hB6⟩; have HI6 := zM hI6; have HB6 := zM (below_tr (by repeat (first | exact HB5.out | apply zN | apply zD | apply zA)) hB6); obtain ⟨v6, hb6, hg6, hr6⟩ := hI6; have hz6 := (zX hb6 1).trans rfl; have hf6 := zY hb6 1; have HBL6 := zM hb6; have HR6 := zM hr6; clear hb6 hB6 hr6)))
      (try simp only [Exit.inBlock, Exit.then])
      (first | refine bodyPost_ret (results_none rfl _ _ _) rfl ?_ | refine bodyPost_end (results_none rfl _ _ _) rfl ?_)
      have hw2 : wrap64 (j + 1) = j + 1 := wrap_id' (by omega) (by omega)
      exact ⟨rfl, by show IsRd B _ g s (wrap64 (j + 1)) y; rw [hw2]; exact isRd_at HBL6.out hg6 HR6.out _, HB6.out.setCell (p := ⟨g, 1, none⟩) hg6 _, by have := HL1.out; have := hml.1; show y.length ≤ 64; omega, by show 0 ≤ wrap64 (j + 1); omega, by show wrap64 (j + 1) ≤ _; omega⟩
     ·
      rw [if_neg c4] at H
      have c4b : (nxS s j == 41) = false := zE c4
      clear c4
      by_cases c6 : nxS s j = 44
      ·
       rw [if_pos c6] at H
       have c6b : (nxS s j == 44) = true := zG c6
       have hjs : j < (s.size : Int) := nx_lt c6 (by decide)
       clear c6
       by_cases c7 : n = 4
       ·
        rw [if_pos c7] at H
        obtain rfl := zS H
        clear H
        have c7b : (n == 4) = true := zG c7
        clear c7
        go_wp2_with (first | (go_at_call 70; (refine (T1 _ ?side1).mono ?_); (case side1 => exact HI0s.out); rintro e w1 ⟨rfl, hI1, hB1, hl1, hj1, hk1⟩; replace hI1 : IsRd B w1 g s j m := hI1; have HL1 := zM (show m.length ≤ 64 from hl1); replace hj1 : 0 ≤ j := hj1; replace hk1 : j ≤ (s.size : Int) := hk1; have HI1 := zM hI1; have HB1 := zM (below_tr (HB0.out.setCell (p := ⟨g, 1, none⟩) hg0 _) hB1); obtain ⟨v1, hb1, hg1, hr1⟩ := hI1; obtain ⟨g5, cap5, rfl⟩ := R_some hr1 hcm; have hz1 := (zX hb1 2).trans rfl; have hz1b := (zX hb1 1).trans rfl; have HBL := zM hb1; have HR1 := zM hr1; obtain ⟨ce, hce1, hce2, hce3, hce4⟩ := Kd.R_elem hr1 z48 (c : Int) (by omega) (by omega); have HCE := zM hce3; have HCL := zM hce1; have HCM := zM hce2; clear hb1 hB1 hr1 hce1 hce2 hce3 hce4) | ((with_reducible refine gate_store (t := 3) (p := 23) rfl ?_); refine rd_store (w0 := w) (B := B) (g5 := g5) (cap5 := cap5) (c := c) (n := n) (m := m) (ce := ce) rfl rfl (p := .tmp 23) (x := .tmp 21) rfl rfl rfl ?sR hcm HCL.out HCE.out HCM.out ?sB ?sT ?_; (case sT => kernel_rfl); (case sR => exact (by repeat (first | exact HR1.out | apply Kd.R_drewN | apply Kd.R_drew))); (case sB => exact (by repeat (first | exact HB1.out | apply zN | apply zD | apply zA))); intro w5 ho hb hg5; have hb5 := (hg5.block g (show g < _ from blk_lt HBL.out) (Kd.R_ne HR1.out HBL.out (by decide))).trans HBL.out; have HI5 := zM (isRd_back hb5 hg1 hml ho); have HB5 := zM hb; clear hg5 hb ho hb5) | (go_at_call 89; (refine (N1 _ hj1 ?side1).mono ?_); (case side1 => exact (by repeat (first | exact HI5.out | apply isRd_drewN | apply isRd_drew))); rintro e w6 ⟨rfl, hI6, hB6⟩; have HI6 := zM hI6; have HB6 := zM (below_tr (by repeat (first | exact HB5.out | apply zN | apply zD | apply zA)) hB6); obtain ⟨v6, hb6, hg6, hr6⟩ := hI6; have hz6 := (zX hb6 1).trans rfl; have hf6 := zY hb6 1; have HBL6 := zM hb6; have HR6 := zM hr6; clear hb6 hB6 hr6) | (go_at_call 71; (refine (rd_give _ _ _ _).mono ?_); rintro e w7 ⟨rfl, rfl⟩))
        repeat (go_quiet (first | (go_at_call 70; (refine (T1 _ ?side1).mono ?_); (case side1 => exact HI0s.out); rintro e w1 ⟨rfl, hI1, hB1, hl1, hj1, hk1⟩; replace hI1 : IsRd B w1 g s j m := hI1; have HL1 := zM (show m.length ≤ 64 from hl1); replace hj1 : 0 ≤ j := hj1; replace hk1 : j ≤ (s.size : Int) := hk1; have HI1 := zM hI1; have HB1 := zM (below_tr (HB0.out.setCell (p := ⟨g, 1, none⟩) hg0 _) hB1); obtain ⟨v1, hb1, hg1, hr1⟩ := hI1; obtain ⟨g5, cap5, rfl⟩ := R_some hr1 hcm; have hz1 := (zX hb1 2).trans rfl; have hz1b := (zX hb1 1).trans rfl; have HBL := zM hb1; have HR1 := zM hr1; obtain ⟨ce, hce1, hce2, hce3, hce4⟩ := Kd.R_elem hr1 z48 (c : Int) (by omega) (by omega); have HCE := zM hce3; have HCL := zM hce1; have HCM := zM hce2; clear hb1 hB1 hr1 hce1 hce2 hce3 hce4) | ((with_reducible refine gate_store (t := 3) (p := 23) rfl ?_); refine rd_store (w0 := w) (B := B) (g5 := g5) (cap5 := cap5) (c := c) (n := n) (m := m) (ce := ce) rfl rfl (p := .tmp 23) (x := .tmp 21) rfl rfl rfl ?sR hcm HCL.out HCE.out HCM.out ?sB ?sT ?_; (case sT => kernel_rfl); (case sR => exact (by repeat (first | exact HR1.out | apply Kd.R_drewN | apply Kd.R_drew))); (case sB => exact (by repeat (first | exact HB1.out | apply zN | apply zD | apply zA))); intro w5 ho hb hg5; have hb5 := (hg5.block g (show g < _ from blk_lt HBL.out) (Kd.R_ne HR1.out HBL.out (by decide))).trans HBL.out; have HI5 := zM (isRd_back hb5 hg1 hml ho); have HB5 := zM hb; clear hg5 hb ho hb5) | (go_at_call 89; (refine (N1 _ hj1 ?side1).mono ?_); (case side1 => exact (by repeat (first | exact HI5.out | apply isRd_drewN | apply isRd_drew))); rintro e w6 ⟨rfl, hI6, hB6⟩; have HI6 := zM hI6; have HB6 := zM (below_tr (by repeat (first | exact HB5.out | apply zN | apply zD | apply zA)) hB6); obtain ⟨v6, hb6, hg6, hr6⟩ := hI6; have hz6 := (zX hb6 1).trans rfl; have hf6 := zY hb6 1; have HBL6 := zM hb6; have HR6 := zM hr6; clear hb6 hB6 hr6) | (go_at_call 71; (refine (rd_give _ _ _ _).mono ?_); rintro e w7 ⟨rfl, rfl⟩)); try go_wp2_with (first | (go_at_call 70; (refine (T1 _ ?side1).mono ?_); (case side1 => exact HI0s.out); rintro e w1 ⟨rfl, hI1, hB1, hl1, hj1, hk1⟩; replace hI1 : IsRd B w1 g s j m := hI1; have HL1 := zM (show m.length ≤ 64 from hl1); replace hj1 : 0 ≤ j := hj1; replace hk1 : j ≤ (s.size : Int) := hk1; have HI1 := zM hI1; have HB1 := zM (below_tr (HB0.out.setCell (p := ⟨g, 1, none⟩) hg0 _) hB1); obtain ⟨v1, hb1, hg1, hr1⟩ := hI1; obtain ⟨g5, cap5, rfl⟩ := R_some hr1 hcm; have hz1 := (zX hb1 2).trans rfl; have hz1b := (zX hb1 1).trans rfl; have HBL := zM hb1; have HR1 := zM hr1; obtain ⟨ce, hce1, hce2, hce3, hce4⟩ := Kd.R_elem hr1 z48 (c : Int) (by omega) (by omega); have HCE := zM hce3; have HCL := zM hce1; have HCM := zM hce2; clear hb1 hB1 hr1 hce1 hce2 hce3 hce4) | ((with_reducible refine gate_store (t := 3) (p := 23) rfl ?_); refine rd_store (w0 := w) (B := B) (g5 := g5) (cap5 := cap5) (c := c) (n := n) (m := m) (ce := ce) rfl rfl (p := .tmp 23) (x := .tmp 21) rfl rfl rfl ?sR hcm HCL.out HCE.out HCM.out ?sB ?sT ?_; (case sT => kernel_rfl); (case sR => exact (by repeat (first | exact HR1.out | apply Kd.R_drewN | apply Kd.R_drew))); (case sB => exact (by repeat (first | exact HB1.out | apply zN | apply zD | apply zA))); intro w5 ho hb hg5; have hb5 := (hg5.block g (show g < _ from blk_lt HBL.out) (Kd.R_ne HR1.out HBL.out (by decide))).trans HBL.out; have HI5 := zM (isRd_back hb5 hg1 hml ho); have HB5 := zM hb; clear hg5 hb ho hb5) | (go_at_call 89; (refine (N1 _ hj1 ?side1).mono ?_); (case side1 => exact (by repeat (first | exact HI5.out | apply isRd_drewN | apply isRd_drew))); rintro e w6 ⟨rfl, hI6, hB6⟩; have HI6 := zM hI6; have HB6 := zM (below_tr (by repeat (first | exact HB5.out | apply zN | apply zD | apply zA)) hB6); obtain ⟨v6, hb6, hg6, hr6⟩ := hI6; have hz6 := (zX hb6 1).trans rfl; have hf6 := zY hb6 1; have HBL6 := zM hb6; have HR6 := zM hr6; clear hb6 hB6 hr6) | (go_at_call 71; (refine (rd_give _ _ _ _).mono ?_); rintro e w7 ⟨rfl, rfl⟩)))
        exact ⟨rfl, rfl, (by repeat (first | exact HB6.out | apply zN | apply zD | apply zA))⟩
       ·
        rw [if_neg c7] at H
        have c7b : (n == 4) = false := zE c7
        clear c7
        have H' := zM H
        clear H
        go_wp2_with (first | (go_at_call 70; (refine (T1 _ ?side1).mono ?_); (case side1 => exact HI0s.out); rintro e w1 ⟨rfl, hI1, hB1, hl1, hj1, hk1⟩; replace hI1 : IsRd B w1 g s j m := hI1; have HL1 := zM (show m.length ≤ 64 from hl1); replace hj1 : 0 ≤ j := hj1; replace hk1 : j ≤ (s.size : Int) := hk1; have HI1 := zM hI1; have HB1 := zM (below_tr (HB0.out.setCell (p := ⟨g, 1, none⟩) hg0 _) hB1); obtain ⟨v1, hb1, hg1, hr1⟩ := hI1; obtain ⟨g5, cap5, rfl⟩ := R_some hr1 hcm; have hz1 := (zX hb1 2).trans rfl; have hz1b := (zX hb1 1).trans rfl; have HBL := zM hb1; have HR1 := zM hr1; obtain ⟨ce, hce1, hce2, hce3, hce4⟩ := Kd.R_elem hr1 z48 (c : Int) (by omega) (by omega); have HCE := zM hce3; have HCL := zM hce1; have HCM := zM hce2; clear hb1 hB1 hr1 hce1 hce2 hce3 hce4) | ((with_reducible refine gate_store (t := 3) (p := 23) rfl ?_); refine rd_store (w0 := w) (B := B) (g5 := g5) (cap5 := cap5) (c := c) (n := n) (m := m) (ce := ce) rfl rfl (p := .tmp 23) (x := .tmp 21) rfl rfl rfl ?sR hcm HCL.out HCE.out HCM.out ?sB ?sT ?_; (case sT => kernel_rfl); (case sR => exact (by repeat (first | exact HR1.out | apply Kd.R_drewN | apply Kd.R_drew))); (case sB => exact (by repeat (first | exact HB1.out | apply zN | apply zD | apply zA))); intro w5 ho hb hg5; have hb5 := (hg5.block g (show g < _ from blk_lt HBL.out) (Kd.R_ne HR1.out HBL.out (by decide))).trans HBL.out; have HI5 := zM (isRd_back hb5 hg1 hml ho); have HB5 := zM hb; clear hg5 hb ho hb5) | (go_at_call 89; (refine (N1 _ hj1 ?side1).mono ?_); (case side1 => exact (by repeat (first | exact HI5.out | apply isRd_drewN | apply isRd_drew))); rintro e w6 ⟨rfl, hI6, hB6⟩; have HI6 := zM hI6; have HB6 := zM (below_tr (by repeat (first | exact HB5.out | apply zN | apply zD | apply zA)) hB6); obtain ⟨v6, hb6, hg6, hr6⟩ := hI6; have hz6 := (zX hb6 1).trans rfl; have hf6 := zY hb6 1; have HBL6 := zM hb6; have HR6 := zM hr6; clear hb6 hB6 hr6))
        repeat (go_quiet (first | (go_at_call 70; (refine (T1 _ ?side1).mono ?_); (case side1 => exact HI0s.out); rintro e w1 ⟨rfl, hI1, hB1, hl1, hj1, hk1⟩; replace hI1 : IsRd B w1 g s j m := hI1; have HL1 := zM (show m.length ≤ 64 from hl1); replace hj1 : 0 ≤ j := hj1; replace hk1 : j ≤ (s.size : Int) := hk1; have HI1 := zM hI1; have HB1 := zM (below_tr (HB0.out.setCell (p := ⟨g, 1, none⟩) hg0 _) hB1); obtain ⟨v1, hb1, hg1, hr1⟩ := hI1; obtain ⟨g5, cap5, rfl⟩ := R_some hr1 hcm; have hz1 := (zX hb1 2).trans rfl; have hz1b := (zX hb1 1).trans rfl; have HBL := zM hb1; have HR1 := zM hr1; obtain ⟨ce, hce1, hce2, hce3, hce4⟩ := Kd.R_elem hr1 z48 (c : Int) (by omega) (by omega); have HCE := zM hce3; have HCL := zM hce1; have HCM := zM hce2; clear hb1 hB1 hr1 hce1 hce2 hce3 hce4) | ((with_reducible refine gate_store (t := 3) (p := 23) rfl ?_); refine rd_store (w0 := w) (B := B) (g5 := g5) (cap5 := cap5) (c := c) (n := n) (m := m) (ce := ce) rfl rfl (p := .tmp 23) (x := .tmp 21) rfl rfl rfl ?sR hcm HCL.out HCE.out HCM.out ?sB ?sT ?_; (case sT => kernel_rfl); (case sR => exact (by repeat (first | exact HR1.out | apply Kd.R_drewN | apply Kd.R_drew))); (case sB => exact (by repeat (first | exact HB1.out | apply zN | apply zD | apply zA))); intro w5 ho hb hg5; have hb5 := (hg5.block g (show g < _ from blk_lt HBL.out) (Kd.R_ne HR1.out HBL.out (by decide))).trans HBL.out; have HI5 := zM (isRd_back hb5 hg1 hml ho); have HB5 := zM hb; clear hg5 hb ho hb5) | (go_at_call 89; (refine (N1 _ hj1 ?side1).mono ?_); (case side1 => exact (by repeat (first | exact HI5.out | apply isRd_drewN | apply isRd_drew))); rintro e w6 ⟨rfl, hI6, hB6⟩; have HI6 := zM hI6; have HB6 := zM (below_tr (by repeat (first | exact HB5.out | apply zN | apply zD | apply zA)) hB6); obtain ⟨v6, hb6, hg6, hr6⟩ := hI6; have hz6 := (zX hb6 1).trans rfl; have hf6 := zY hb6 1; have HBL6 := zM hb6; have HR6 := zM hr6; clear hb6 hB6 hr6)); try go_wp2_with (first | (go_at_call 70; (refine (T1 _ ?side1).mono ?_); (case side1 => exact HI0s.out); rintro e w1 ⟨rfl, hI1, hB1, hl1, hj1, hk1⟩; replace hI1 : IsRd B w1 g s j m := hI1; have HL1 := zM (show m.length ≤ 64 from hl1); replace hj1 : 0 ≤ j := hj1; replace hk1 : j ≤ (s.size : Int) := hk1; have HI1 := zM hI1; have HB1 := zM (below_tr (HB0.out.setCell (p := ⟨g, 1, none⟩) hg0 _) hB1); obtain ⟨v1, hb1, hg1, hr1⟩ := hI1; obtain ⟨g5, cap5, rfl⟩ := R_some hr1 hcm; have hz1 := (zX hb1 2).trans rfl; have hz1b := (zX hb1 1).trans rfl; have HBL := zM hb1; have HR1 := zM hr1; obtain ⟨ce, hce1, hce2, hce3, hce4⟩ := Kd.R_elem hr1 z48 (c : Int) (by omega) (by omega); have HCE := zM hce3; have HCL := zM hce1; have HCM := zM hce2; clear hb1 hB1 hr1 hce1 hce2 hce3 hce4) | ((with_reducible refine gate_store (t := 3) (p := 23) rfl ?_); refine rd_store (w0 := w) (B := B) (g5 := g5) (cap5 := cap5) (c := c) (n := n) (m := m) (ce := ce) rfl rfl (p := .tmp 23) (x := .tmp 21) rfl rfl rfl ?sR hcm HCL.out HCE.out HCM.out ?sB ?sT ?_; (case sT => kernel_rfl); (case sR => exact (by repeat (first | exact HR1.out | apply Kd.R_drewN | apply Kd.R_drew))); (case sB => exact (by repeat (first | exact HB1.out | apply zN | apply zD | apply zA))); intro w5 ho hb hg5; have hb5 := (hg5.block g (show g < _ from blk_lt HBL.out) (Kd.R_ne HR1.out HBL.out (by decide))).trans HBL.out; have HI5 := zM (isRd_back hb5 hg1 hml ho); have HB5 := zM hb; clear hg5 hb ho hb5) | (go_at_call 89; (refine (N1 _ hj1 ?side1).mono ?_); (case side1 => exact (by repeat (first | exact HI5.out | apply isRd_drewN | apply isRd_drew))); rintro e w6 ⟨rfl, hI6, hB6⟩; have HI6 := zM hI6; have HB6 := zM (below_tr (by repeat (first | exact HB5.out | apply zN | apply zD | apply zA)) hB6); obtain ⟨v6, hb6, hg6, hr6⟩ := hI6; have hz6 := (zX hb6 1).trans rfl; have hf6 := zY hb6 1; have HBL6 := zM hb6; have HR6 := zM hr6; clear hb6 hB6 hr6)))
        go_roundg k1
        case measure => have := HK1.out; omega
        case rel => exact ⟨_, j, y, rfl, H', ⟨by have := HK1.out; omega⟩, ⟨(by repeat (first | exact HI6.out | apply isRd_drewN | apply isRd_drew))⟩, ⟨(by repeat (first | exact HB6.out | apply zN | apply zD | apply zA))⟩, ⟨by have := HL1.out; have := hml.1; omega, by have := hml.1; omega, hj1, hjs⟩⟩
      ·
       rw [if_neg c6] at H
       have c6b : (nxS s j == 44) = false := zE c6
       clear c6
       obtain rfl := zS H
       clear H
       go_wp2_with (first | (go_at_call 70; (refine (T1 _ ?side1).mono ?_); (case side1 => exact HI0s.out); rintro e w1 ⟨rfl, hI1, hB1, hl1, hj1, hk1⟩; replace hI1 : IsRd B w1 g s j m := hI1; have HL1 := zM (show m.length ≤ 64 from hl1); replace hj1 : 0 ≤ j := hj1; replace hk1 : j ≤ (s.size : Int) := hk1; have HI1 := zM hI1; have HB1 := zM (below_tr (HB0.out.setCell (p := ⟨g, 1, none⟩) hg0 _) hB1); obtain ⟨v1, hb1, hg1, hr1⟩ := hI1; obtain ⟨g5, cap5, rfl⟩ := R_some hr1 hcm; have hz1 := (zX hb1 2).trans rfl; have hz1b := (zX hb1 1).trans rfl; have HBL := zM hb1; have HR1 := zM hr1; obtain ⟨ce, hce1, hce2, hce3, hce4⟩ := Kd.R_elem hr1 z48 (c : Int) (by omega) (by omega); have HCE := zM hce3; have HCL := zM hce1; have HCM := zM hce2; clear hb1 hB1 hr1 hce1 hce2 hce3 hce4) | ((with_reducible refine gate_store (t := 3) (p := 23) rfl ?_); refine rd_store (w0 := w) (B := B) (g5 := g5) (cap5 := cap5) (c := c) (n := n) (m := m) (ce := ce) rfl rfl (p := .tmp 23) (x := .tmp 21) rfl rfl rfl ?sR hcm HCL.out HCE.out HCM.out ?sB ?sT ?_; (case sT => kernel_rfl); (case sR => exact (by repeat (first | exact HR1.out | apply Kd.R_drewN | apply Kd.R_drew))); (case sB => exact (by repeat (first | exact HB1.out | apply zN | apply zD | apply zA))); intro w5 ho hb hg5; have hb5 := (hg5.block g (show g < _ from blk_lt HBL.out) (Kd.R_ne HR1.out HBL.out (by decide))).trans HBL.out; have HI5 := zM (isRd_back hb5 hg1 hml ho); have HB5 := zM hb; clear hg5 hb ho hb5) | (go_at_call 89; (refine (N1 _ hj1 ?side1).mono ?_); (case side1 => exact (by repeat (first | exact HI5.out | apply isRd_drewN | apply isRd_drew))); rintro e w6 ⟨rfl, hI6, hB6⟩; have HI6 := zM hI6; have HB6 := zM (below_tr (by repeat (first | exact HB5.out | apply zN | apply zD | apply zA)) hB6); obtain ⟨v6, hb6, hg6, hr6⟩ := hI6; have hz6 := (zX hb6 1).trans rfl; have hf6 := zY hb6 1; have HBL6 := zM hb6; have HR6 := zM hr6; clear hb6 hB6 hr6) | (go_at_call 71; (refine (rd_give _ _ _ _).mono ?_); rintro e w7 ⟨rfl, rfl⟩))
       repeat (go_quiet (first | (go_at_call 70; (refine (T1 _ ?side1).mono ?_); (case side1 => exact HI0s.out); rintro e w1 ⟨rfl, hI1, hB1, hl1, hj1, hk1⟩; replace hI1 : IsRd B w1 g s j m := hI1; have HL1 := zM (show m.length ≤ 64 from hl1); replace hj1 : 0 ≤ j := hj1; replace hk1 : j ≤ (s.size : Int) := hk1; have HI1 := zM hI1; have HB1 := zM (below_tr (HB0.out.setCell (p := ⟨g, 1, none⟩) hg0 _) hB1); obtain ⟨v1, hb1, hg1, hr1⟩ := hI1; obtain ⟨g5, cap5, rfl⟩ := R_some hr1 hcm; have hz1 := (zX hb1 2).trans rfl; have hz1b := (zX hb1 1).trans rfl; have HBL := zM hb1; have HR1 := zM hr1; obtain ⟨ce, hce1, hce2, hce3, hce4⟩ := Kd.R_elem hr1 z48 (c : Int) (by omega) (by omega); have HCE := zM hce3; have HCL := zM hce1; have HCM := zM hce2; clear hb1 hB1 hr1 hce1 hce2 hce3 hce4) | ((with_reducible refine gate_store (t := 3) (p := 23) rfl ?_); refine rd_store (w0 := w) (B := B) (g5 := g5) (cap5 := cap5) (c := c) (n := n) (m := m) (ce := ce) rfl rfl (p := .tmp 23) (x := .tmp 21) rfl rfl rfl ?sR hcm HCL.out HCE.out HCM.out ?sB ?sT ?_; (case sT => kernel_rfl); (case sR => exact (by repeat (first | exact HR1.out | apply Kd.R_drewN | apply Kd.R_drew))); (case sB => exact (by repeat (first | exact HB1.out | apply zN | apply zD | apply zA))); intro w5 ho hb hg5; have hb5 := (hg5.block g (show g < _ from blk_lt HBL.out) (Kd.R_ne HR1.out HBL.out (by decide))).trans HBL.out; have HI5 := zM (isRd_back hb5 hg1 hml ho); have HB5 := zM hb; clear hg5 hb ho hb5) | (go_at_call 89; (refine (N1 _ hj1 ?side1).mono ?_); (case side1 => exact (by repeat (first | exact HI5.out | apply isRd_drewN | apply isRd_drew))); rintro e w6 ⟨rfl, hI6, hB6⟩; have HI6 := zM hI6; have HB6 := zM (below_tr (by repeat (first | exact HB5.out | apply zN | apply zD | apply zA)) hB6); obtain ⟨v6, hb6, hg6, hr6⟩ := hI6; have hz6 := (zX hb6 1).trans rfl; have hf6 := zY hb6 1; have HBL6 := zM hb6; have HR6 := zM hr6; clear hb6 hB6 hr6) | (go_at_call 71; (refine (rd_give _ _ _ _).mono ?_); rintro e w7 ⟨rfl, rfl⟩)); try go_wp2_with (first | (go_at_call 70; (refine (T1 _ ?side1).mono ?_); (case side1 => exact HI0s.out); rintro e w1 ⟨rfl, hI1, hB1, hl1, hj1, hk1⟩; replace hI1 : IsRd B w1 g s j m := hI1; have HL1 := zM (show m.length ≤ 64 from hl1); replace hj1 : 0 ≤ j := hj1; replace hk1 : j ≤ (s.size : Int) := hk1; have HI1 := zM hI1; have HB1 := zM (below_tr (HB0.out.setCell (p := ⟨g, 1, none⟩) hg0 _) hB1); obtain ⟨v1, hb1, hg1, hr1⟩ := hI1; obtain ⟨g5, cap5, rfl⟩ := R_some hr1 hcm; have hz1 := (zX hb1 2).trans rfl; have hz1b := (zX hb1 1).trans rfl; have HBL := zM hb1; have HR1 := zM hr1; obtain ⟨ce, hce1, hce2, hce3, hce4⟩ := Kd.R_elem hr1 z48 (c : Int) (by omega) (by omega); have HCE := zM hce3; have HCL := zM hce1; have HCM := zM hce2; clear hb1 hB1 hr1 hce1 hce2 hce3 hce4) | ((with_reducible refine gate_store (t := 3) (p := 23) rfl ?_); refine rd_store (w0 := w) (B := B) (g5 := g5) (cap5 := cap5) (c := c) (n := n) (m := m) (ce := ce) rfl rfl (p := .tmp 23) (x := .tmp 21) rfl rfl rfl ?sR hcm HCL.out HCE.out HCM.out ?sB ?sT ?_; (case sT => kernel_rfl); (case sR => exact (by repeat (first | exact HR1.out | apply Kd.R_drewN | apply Kd.R_drew))); (case sB => exact (by repeat (first | exact HB1.out | apply zN | apply zD | apply zA))); intro w5 ho hb hg5; have hb5 := (hg5.block g (show g < _ from blk_lt HBL.out) (Kd.R_ne HR1.out HBL.out (by decide))).trans HBL.out; have HI5 := zM (isRd_back hb5 hg1 hml ho); have HB5 := zM hb; clear hg5 hb ho hb5) | (go_at_call 89; (refine (N1 _ hj1 ?side1).mono ?_); (case side1 => exact (by repeat (first | exact HI5.out | apply isRd_drewN | apply isRd_drew))); rintro e w6 ⟨rfl, hI6, hB6⟩; have HI6 := zM hI6; have HB6 := zM (below_tr (by repeat (first | exact HB5.out | apply zN | apply zD | apply zA)) hB6); obtain ⟨v6, hb6, hg6, hr6⟩ := hI6; have hz6 := (zX hb6 1).trans rfl; have hf6 := zY hb6 1; have HBL6 := zM hb6; have HR6 := zM hr6; clear hb6 hB6 hr6) | (go_at_call 71; (refine (rd_give _ _ _ _).mono ?_); rintro e w7 ⟨rfl, rfl⟩)))
       exact ⟨rfl, rfl, (by repeat (first | exact HB6.out | apply zN | apply zD | apply zA))⟩
    ·
     rw [if_neg hcm] at H; cases H
theorem rd_all : ∀ k, TermC k ∧ ArgsC k := by
 intro k
 induction k using Nat.strongRecOn with
 | _ k ih =>
  have ha : ArgsC k := rdArgs_step k fun k' h => (ih k' h).1
  refine ⟨?_, ha⟩
  cases k with
  | zero => intro B g s i l r w _ _ _ _ h; simp [rdTerm] at h
  | succ k => exact rdTerm_step k (ih k (Nat.lt_succ_self k)).2

theorem rd_assert (W : World) (v : Value) (xT : TypeId) : (Instr.typeAssert (.iface 118 v) xT 118 true).run Tryz.prog W = .ok (.tuple #[v, .bool true]) W := by kernel_rfl
attribute [local go_sem] rd_assert
theorem parse_catch (pt pa pe : Nat) (v : Value) (i0 e0 p er : Int) (w : World) (h1 : w.heap[pt]? = some (.cells #[v] 24 (0, 0))) (h2 : w.heap[pa]? = some (.cells #[.int .i64 i0] 3 (0, 0))) (h3 : w.heap[pe]? = some (.cells #[.int .i64 e0] 29 (0, 0))) (n1 : pt ≠ pa) (n2 : pt ≠ pe) (n3 : pa ≠ pe) :
 CallsD Tryz.prog 69 #[.pointer (some ⟨pt, 0, none⟩), .pointer (some ⟨pa, 0, none⟩), .pointer (some ⟨pe, 0, none⟩)] (.panicking (faultV p er)) w fun e u' w' =>
  e = .returned (.tuple #[]) ∧ u' = .panicking [{ v := .iface 118 (.agg #[.int .i64 p, .int .i64 er]), recovered := true }] ∧
   w'.heap = ((((w.setCell ⟨pt, 0, none⟩ (.slice none 0 0)).setCell ⟨pa, 0, none⟩ (.int .i64 p)).setCell ⟨pe, 0, none⟩ (.int .i64 er)).alloc (.cells #[.int .i64 p, .int .i64 er] 118)).heap ∧ w'.os = w.os ∧ w'.tape = w.tape ∧ w'.output = w.output := by
 have c1 := (zX h1 0).trans rfl
 have c2 := (zX h2 0).trans rfl
 have c3 := (zX h3 0).trans rfl
 have f1 := zY h1 0
 have f2 := zY h2 0
 have f3 := zY h3 0
 refine callsD_of_wpS Tryz.func69 rfl fun c₀ cs hu => ?_
 simp only [faultV] at hu
 simp only [Tryz.ntmps69, List.size_toArray, List.length_cons, List.length_nil, Nat.reduceAdd, Nat.reduceSub, Array.replicate_succ, Array.replicate_zero, List.push_toArray, List.append_toArray, List.nil_append, List.cons_append]
 apply wpS_seq
 apply wpS_region
 simp [wpOpsS, go_sem, recoverD, hu, Exit.thenS]
 refine wpS_of_wp ?_
 have l1 := blk_lt h1
 have l2 := blk_lt h2
 have l3 := blk_lt h3
 go_wp2
 go_region
 exact ⟨rfl, _, rfl, .tuple #[], results_none rfl _ _ _, rfl, rfl, rfl, rfl, rfl, rfl⟩
theorem parse_idle (x y z : Value) (w : World) : CallsD Tryz.prog 69 #[x, y, z] .returning w fun e u' w' => e = .returned (.tuple #[]) ∧ u' = .returning ∧ w' = w := by
 refine callsD_of_wpS Tryz.func69 rfl fun c₀ cs hu => ?_
 simp only [Tryz.ntmps69, List.size_toArray, List.length_cons, List.length_nil, Nat.reduceAdd, Nat.reduceSub, Array.replicate_succ, Array.replicate_zero, List.push_toArray, List.append_toArray, List.nil_append, List.cons_append]
 apply wpS_seq
 apply wpS_region
 simp [wpOpsS, go_sem, recoverD, hu, Exit.thenS]
 refine wpS_of_wp ?_
 go_wp2
 exact ⟨rfl, .returning, by cases c₀; simp_all, .tuple #[], results_none rfl _ _ _, rfl, rfl, rfl⟩

def parseF (k : Nat) (s : ByteArray) : Option (List RdCell × Int × Int) :=
 if (s.size : Int) > 1024 then some ([], 0, 2) else (rdTerm k s 0 []).bind fun
  | .inl x => some ([], x.1, x.2)
  | .inr y => if y.1 < (s.size : Int) then some ([], y.1, 3) else some (y.2, 0, 0)
theorem isRd_new {W : World} {B : Nat} (s : ByteArray) (hB : B = W.heap.size) : IsRd B (W.alloc (.cells #[.string s, .int .i64 0, .slice none 0 0] 122)) W.heap.size s 0 [] :=
 ⟨_, by simpa using heap_alloc_new W _, by omega, Kd.R_nil _ _ _ _ _⟩
def parseW (w : World) : World := (((w.alloc (.cells #[.slice none 0 0] 24)).alloc (.cells #[.int .i64 0] 3)).alloc (.cells #[.int .i64 0] 29))
theorem parseW_cells (w : World) : (parseW w).heap[w.heap.size]? = some (.cells #[.slice none 0 0] 24 (0, 0)) ∧ (parseW w).heap[w.heap.size + 1]? = some (.cells #[.int .i64 0] 3 (0, 0)) ∧ (parseW w).heap[w.heap.size + 1 + 1]? = some (.cells #[.int .i64 0] 29 (0, 0)) ∧ (parseW w).heap.size = w.heap.size + 1 + 1 + 1 ∧ Below w.heap.size w (parseW w) := by
 have a1 := heap_alloc_new w (.cells #[.slice none 0 0] 24)
 have a2 := heap_alloc_new (w.alloc (.cells #[.slice none 0 0] 24)) (.cells #[.int .i64 0] 3)
 have a3 := heap_alloc_new ((w.alloc (.cells #[.slice none 0 0] 24)).alloc (.cells #[.int .i64 0] 3)) (.cells #[.int .i64 0] 29)
 have b1 : (w.alloc (.cells #[.slice none 0 0] 24)).heap.size = w.heap.size + 1 := by simp
 have b2 : ((w.alloc (.cells #[.slice none 0 0] 24)).alloc (.cells #[.int .i64 0] 3)).heap.size = w.heap.size + 1 + 1 := by simp
 rw [b1] at a2
 rw [b2] at a3
 have c2 := Below.heap_alloc (w.alloc (.cells #[.slice none 0 0] 24)) (.cells #[.int .i64 0] 3)
 have c3 := Below.heap_alloc ((w.alloc (.cells #[.slice none 0 0] 24)).alloc (.cells #[.int .i64 0] 3)) (.cells #[.int .i64 0] 29)
 refine ⟨?_, ?_, ?_, by unfold parseW; simp, zA (zA (zA (Below.refl _ _) _) _) _⟩
 ·
  exact (c3 _ (by omega)).trans ((c2 _ (by omega)).trans a1)
 ·
  exact (c3 _ (by omega)).trans a2
 ·
  exact a3
theorem R_under {w : World} {b : Nat} {v u : Value} {l : List RdCell} (h : Kd.R k48 48 w b (fun _ => True) v l) {p : Addr} (hp : p.block < b) : Kd.R k48 48 (w.setCell p u) b (fun _ => True) v l :=
 Kd.R_mono (Kd.R_far (Kd.R_bound h) (fun k hk => by have := hk.2.1; omega) u) (fun _ _ => trivial)
theorem clone_same (m : List RdCell) (h : m.length ≤ 64) : api_Cell.f m = some m := by
 unfold api_Cell.f
 rw [if_pos (by simp; omega)]
 rfl
theorem isRd_first (w : World) (s : ByteArray) : IsRd (w.heap.size + 1 + 1 + 1) ((((w.alloc (.cells #[.slice none 0 0] 24)).alloc (.cells #[.int .i64 0] 3)).alloc (.cells #[.int .i64 0] 29)).alloc (.cells #[.string s, .int .i64 0, .slice none 0 0] 122)) (w.heap.size + 1 + 1 + 1) s 0 [] := by
 have h := isRd_new (W := parseW w) s (parseW_cells w).2.2.2.1.symm
 rw [(parseW_cells w).2.2.2.1] at h
 exact h
theorem below_alloc' {B : Nat} {w : World} (h : w.heap.size = B) (o : Obj) : Below B w (w.alloc o) := by
 subst h
 exact zA (Below.refl _ _) o
theorem parse_kept {w W : World} (hB : Below (w.heap.size + 1 + 1 + 1) (parseW w) W) : W.heap[w.heap.size]? = some (.cells #[.slice none 0 0] 24 (0, 0)) ∧ W.heap[w.heap.size + 1]? = some (.cells #[.int .i64 0] 3 (0, 0)) ∧ W.heap[w.heap.size + 1 + 1]? = some (.cells #[.int .i64 0] 29 (0, 0)) ∧ w.heap.size + 1 + 1 + 1 ≤ W.heap.size ∧ Below w.heap.size w W := by
 obtain ⟨h1, h2, h3, h4, h5⟩ := parseW_cells w
 refine ⟨(hB.block _ (by omega)).trans h1, (hB.block _ (by omega)).trans h2, (hB.block _ (by omega)).trans h3, by rw [← h4]; exact hB.size, ?_⟩
 exact ⟨hB.os.trans h5.os, hB.tape.trans h5.tape, hB.output.trans h5.output, Nat.le_trans h5.size hB.size, fun k hk => (hB.block k (by omega)).trans (h5.block k hk)⟩
theorem parse_back {w W W8 : World} {A8 : Option Addr} {c8 : Nat} {m : List RdCell} (hB : Below (w.heap.size + 1 + 1 + 1) (parseW w) W) (hB8 : Below W.heap.size W W8) (hr : Kd.R k48 48 W8 W.heap.size (fun _ => True) (.slice A8 m.length c8) m) :
 (((W8.setCell ⟨w.heap.size, 0, none⟩ (.slice A8 m.length c8)).setCell ⟨w.heap.size + 1, 0, none⟩ (.int .i64 0)).setCell ⟨w.heap.size + 1 + 1, 0, none⟩ (.int .i64 0)).cell? ⟨w.heap.size, 0, none⟩ = some (.slice A8 m.length c8) ∧
 (((W8.setCell ⟨w.heap.size, 0, none⟩ (.slice A8 m.length c8)).setCell ⟨w.heap.size + 1, 0, none⟩ (.int .i64 0)).setCell ⟨w.heap.size + 1 + 1, 0, none⟩ (.int .i64 0)).cell? ⟨w.heap.size + 1, 0, none⟩ = some (.int .i64 0) ∧
 (((W8.setCell ⟨w.heap.size, 0, none⟩ (.slice A8 m.length c8)).setCell ⟨w.heap.size + 1, 0, none⟩ (.int .i64 0)).setCell ⟨w.heap.size + 1 + 1, 0, none⟩ (.int .i64 0)).cell? ⟨w.heap.size + 1 + 1, 0, none⟩ = some (.int .i64 0) ∧
 Kd.R k48 48 (((W8.setCell ⟨w.heap.size, 0, none⟩ (.slice A8 m.length c8)).setCell ⟨w.heap.size + 1, 0, none⟩ (.int .i64 0)).setCell ⟨w.heap.size + 1 + 1, 0, none⟩ (.int .i64 0)) w.heap.size (fun _ => True) (.slice A8 m.length c8) m ∧
 Below w.heap.size w (((W8.setCell ⟨w.heap.size, 0, none⟩ (.slice A8 m.length c8)).setCell ⟨w.heap.size + 1, 0, none⟩ (.int .i64 0)).setCell ⟨w.heap.size + 1 + 1, 0, none⟩ (.int .i64 0)) := by
 obtain ⟨d1, d2, d3, hs, hb⟩ := parse_kept hB
 have c1 := (hB8.block _ (show w.heap.size < _ by omega)).trans d1
 have c2 := (hB8.block _ (show w.heap.size + 1 < _ by omega)).trans d2
 have c3 := (hB8.block _ (show w.heap.size + 1 + 1 < _ by omega)).trans d3
 have s1 := blk_set c1 0 (.slice A8 m.length c8)
 have o1 := fun k (hk : k ≠ w.heap.size) => Below.heap_setCell W8 ⟨w.heap.size, 0, none⟩ (.slice A8 m.length c8) k hk
 have c2' := (o1 (w.heap.size + 1) (by omega)).trans c2
 have c3' := (o1 (w.heap.size + 1 + 1) (by omega)).trans c3
 have s2 := blk_set c2' 0 (.int .i64 0)
 have o2 := fun k (hk : k ≠ w.heap.size + 1) => Below.heap_setCell (W8.setCell ⟨w.heap.size, 0, none⟩ (.slice A8 m.length c8)) ⟨w.heap.size + 1, 0, none⟩ (.int .i64 0) k hk
 have c3'' := (o2 (w.heap.size + 1 + 1) (by omega)).trans c3'
 have s3 := blk_set c3'' 0 (.int .i64 0)
 have o3 := fun k (hk : k ≠ w.heap.size + 1 + 1) => Below.heap_setCell ((W8.setCell ⟨w.heap.size, 0, none⟩ (.slice A8 m.length c8)).setCell ⟨w.heap.size + 1, 0, none⟩ (.int .i64 0)) ⟨w.heap.size + 1 + 1, 0, none⟩ (.int .i64 0) k hk
 have e1 := (o3 w.heap.size (by omega)).trans ((o2 _ (by omega)).trans s1)
 have e2 := (o3 (w.heap.size + 1) (by omega)).trans s2
 refine ⟨(zX e1 0).trans rfl, (zX e2 0).trans rfl, (zX s3 0).trans rfl, Kd.R_lower (R_under (R_under (R_under hr (show w.heap.size < _ by omega)) (show w.heap.size + 1 < _ by omega)) (show w.heap.size + 1 + 1 < _ by omega)) (by omega), ?_⟩
 have b1 : Below w.heap.size w W8 := ⟨hB8.os.trans hb.os, hB8.tape.trans hb.tape, hB8.output.trans hb.output, Nat.le_trans hb.size hB8.size, fun k hk => (hB8.block k (by omega)).trans (hb.block k hk)⟩
 exact ((b1.setCell (p := ⟨w.heap.size, 0, none⟩) (Nat.le_refl _) _).setCell (p := ⟨w.heap.size + 1, 0, none⟩) (show w.heap.size ≤ w.heap.size + 1 by omega) _).setCell (p := ⟨w.heap.size + 1 + 1, 0, none⟩) (show w.heap.size ≤ w.heap.size + 1 + 1 by omega) _
theorem parse_after {w W w2 : World} {p er : Int} (hB : Below (w.heap.size + 1 + 1 + 1) (parseW w) W)
 (hh : w2.heap = ((((W.setCell ⟨w.heap.size, 0, none⟩ (.slice none 0 0)).setCell ⟨w.heap.size + 1, 0, none⟩ (.int .i64 p)).setCell ⟨w.heap.size + 1 + 1, 0, none⟩ (.int .i64 er)).alloc (.cells #[.int .i64 p, .int .i64 er] 118)).heap) (h5 : w2.os = W.os) (h6 : w2.tape = W.tape) (h7 : w2.output = W.output) :
 w2.cell? ⟨w.heap.size, 0, none⟩ = some (.slice none 0 0) ∧ w2.cell? ⟨w.heap.size + 1, 0, none⟩ = some (.int .i64 p) ∧ w2.cell? ⟨w.heap.size + 1 + 1, 0, none⟩ = some (.int .i64 er) ∧ Below w.heap.size w w2 := by
 obtain ⟨c1, c2, c3, hs, hb⟩ := parse_kept hB
 have s1 := blk_set c1 0 (.slice none 0 0)
 have o1 := fun k (hk : k ≠ w.heap.size) => Below.heap_setCell W ⟨w.heap.size, 0, none⟩ (.slice none 0 0) k hk
 have c2' := (o1 (w.heap.size + 1) (by omega)).trans c2
 have c3' := (o1 (w.heap.size + 1 + 1) (by omega)).trans c3
 have s2 := blk_set c2' 0 (.int .i64 p)
 have o2 := fun k (hk : k ≠ w.heap.size + 1) => Below.heap_setCell (W.setCell ⟨w.heap.size, 0, none⟩ (.slice none 0 0)) ⟨w.heap.size + 1, 0, none⟩ (.int .i64 p) k hk
 have c3'' := (o2 (w.heap.size + 1 + 1) (by omega)).trans c3'
 have s3 := blk_set c3'' 0 (.int .i64 er)
 have o3 := fun k (hk : k ≠ w.heap.size + 1 + 1) => Below.heap_setCell ((W.setCell ⟨w.heap.size, 0, none⟩ (.slice none 0 0)).setCell ⟨w.heap.size + 1, 0, none⟩ (.int .i64 p)) ⟨w.heap.size + 1 + 1, 0, none⟩ (.int .i64 er) k hk
 have hz : (((W.setCell ⟨w.heap.size, 0, none⟩ (.slice none 0 0)).setCell ⟨w.heap.size + 1, 0, none⟩ (.int .i64 p)).setCell ⟨w.heap.size + 1 + 1, 0, none⟩ (.int .i64 er)).heap.size = W.heap.size := by simp
 have o4 := fun k hk => Below.heap_alloc (((W.setCell ⟨w.heap.size, 0, none⟩ (.slice none 0 0)).setCell ⟨w.heap.size + 1, 0, none⟩ (.int .i64 p)).setCell ⟨w.heap.size + 1 + 1, 0, none⟩ (.int .i64 er)) (.cells #[.int .i64 p, .int .i64 er] 118) k (by rw [hz]; exact hk)
 have e1 : w2.heap[w.heap.size]? = some (.cells (#[.slice none 0 0].setIfInBounds 0 (.slice none 0 0)) 24 (0, 0)) := by
  rw [hh]; exact (o4 _ (by omega)).trans ((o3 _ (by omega)).trans ((o2 _ (by omega)).trans s1))
 have e2 : w2.heap[w.heap.size + 1]? = some (.cells (#[.int .i64 0].setIfInBounds 0 (.int .i64 p)) 3 (0, 0)) := by
  rw [hh]; exact (o4 _ (by omega)).trans ((o3 _ (by omega)).trans s2)
 have e3 : w2.heap[w.heap.size + 1 + 1]? = some (.cells (#[.int .i64 0].setIfInBounds 0 (.int .i64 er)) 29 (0, 0)) := by
  rw [hh]; exact (o4 _ (by omega)).trans s3
 refine ⟨(zX e1 0).trans rfl, (zX e2 0).trans rfl, (zX e3 0).trans rfl, h5.trans hb.os, h6.trans hb.tape, h7.trans hb.output, ?_, fun k hk => ?_⟩
 ·
  rw [hh]
  have := hb.size
  have hz2 := (Below.alloc (Below.refl 0 (((W.setCell ⟨w.heap.size, 0, none⟩ (.slice none 0 0)).setCell ⟨w.heap.size + 1, 0, none⟩ (.int .i64 p)).setCell ⟨w.heap.size + 1 + 1, 0, none⟩ (.int .i64 er))) (Nat.zero_le _) (.cells #[.int .i64 p, .int .i64 er] 118)).size
  rw [hz] at hz2
  omega
 ·
  rw [hh]
  exact (o4 k (by omega)).trans ((o3 k (by omega)).trans ((o2 k (by omega)).trans ((o1 k (by omega)).trans (hb.block k hk))))
theorem parse_calls (k : Nat) (s : ByteArray) (r1 : List RdCell) (r2 r3 : Int) (w : World) (h : parseF k s = some (r1, r2, r3)) :
 Calls Tryz.prog 40 #[.string s] w fun e w' => ∃ v0_ : Value, e = .returned (.tuple #[v0_, .int .i64 r2, .int .i64 r3]) ∧ Kd.R k48 48 w' w.heap.size (fun _ => True) v0_ r1 ∧ Below w.heap.size w w' := by
 have hmf : ∀ (fn : Fn) (first cap : Array Value) (w : World), (Instr.makeFunc fn first cap).run Tryz.prog w = .ok (.func fn first cap) w := fun _ _ _ _ => rfl
 unfold parseF at h
 by_cases c1 : (s.size : Int) > 1024
 ·
  rw [if_pos c1] at h
  injection h with h
  injection h with h1 h
  injection h with h2 h3
  subst h1 h2 h3
  have c1b : decide ((s.size : Int) > 1024) = true := zQ c1
  go_enter_defers Tryz.func40, Tryz.ntmps40
  go_wp2
  simp [bodyPostD, Leaves, settle, results, Tryz.results40, go_sem]
  exact ⟨Kd.R_nil _ _ _ _ _, zA (zA (zA (Below.refl _ _) _) _) _⟩
 ·
  rw [if_neg c1] at h
  have c1b : decide ((s.size : Int) > 1024) = false := zR c1
  have hsz : s.size ≤ 4096 := by omega
  clear c1
  obtain ⟨x, hx, h⟩ := zB h
  have T1 := fun (W : World) (hq : IsRd (w.heap.size + 1 + 1 + 1) W (w.heap.size + 1 + 1 + 1) s 0 []) => (rd_all k).1 _ _ s 0 [] x W hq (by simp) (by omega) hsz hx
  clear hx
  cases x with
  | inl x =>
   injection h with h
   injection h with h1 h
   injection h with h2 h3
   subst h1 h2 h3
   go_enter_defers Tryz.func40, Tryz.ntmps40
   go_wp2_with (first | (go_at_call 70; refine (T1 _ ?side1).mono ?_; (case side1 => exact isRd_first w s); rintro e w5 ⟨rfl, hB5⟩))
   have hB6 : Below (w.heap.size + 1 + 1 + 1) (parseW w) w5 := below_tr (below_alloc' (parseW_cells w).2.2.2.1 _) hB5
   obtain ⟨d1, d2, d3, _, _⟩ := parse_kept hB6
   refine leaves_cons (f := 69) (args := #[.pointer (some ⟨w.heap.size, 0, none⟩), .pointer (some ⟨w.heap.size + 1, 0, none⟩), .pointer (some ⟨w.heap.size + 1 + 1, 0, none⟩)]) (by simp) (by simp [go_sem]) ?_
   refine (parse_catch _ _ _ _ _ _ _ _ w5 d1 d2 d3 (by omega) (by omega) (by omega)).mono ?_
   rintro e u' w6 ⟨rfl, rfl, hh, h5, h6, h7⟩
   obtain ⟨e1, e2, e3, hb⟩ := parse_after hB6 hh h5 h6 h7
   simp [Leaves, settle, results, Tryz.results40, go_sem, e1, e2, e3]
   exact ⟨Kd.R_nil _ _ _ _ _, hb⟩
  | inr y =>
   obtain ⟨j, m⟩ := y
   simp only at h
   by_cases c2 : j < (s.size : Int)
   ·
    rw [if_pos c2] at h
    injection h with h
    injection h with h1 h
    injection h with h2 h3
    subst h1 h2 h3
    have c2b : decide (j < (s.size : Int)) = true := zQ c2
    clear c2
    go_enter_defers Tryz.func40, Tryz.ntmps40
    go_wp2_with (first | (go_at_call 70; refine (T1 _ ?side1).mono ?_; (case side1 => exact isRd_first w s); rintro e w5 ⟨rfl, hI5, hB5, hl5, hj5, hk5⟩; have HI5 := zM hI5; obtain ⟨v5, hb5, hg5, hr5⟩ := hI5; obtain ⟨A5, c5, rfl⟩ := Kd.R_slice hr5; have hz5 := (zX hb5 1).trans rfl; have hz5b := (zX hb5 2).trans rfl; have HR5 := zM hr5; have HB6 : Aside0 (Below (w.heap.size + 1 + 1 + 1) (parseW w) w5) := ⟨below_tr (below_alloc' (parseW_cells w).2.2.2.1 _) hB5⟩; obtain ⟨d1, d2, d3, hd, hbw⟩ := parse_kept HB6.out; have d1c := (zX d1 0).trans rfl; have d2c := (zX d2 0).trans rfl; have d3c := (zX d3 0).trans rfl; have d1f := zY d1 0; have d2f := zY d2 0; have d3f := zY d3 0; have HBW := zM hbw; clear hB5 hb5 hr5 hbw) | (go_at_call 71; (refine (rd_give _ _ _ _).mono ?_); rintro e w7 ⟨rfl, rfl⟩))
    have hB6 := HB6.out
    refine leaves_cons (f := 69) (args := #[.pointer (some ⟨w.heap.size, 0, none⟩), .pointer (some ⟨w.heap.size + 1, 0, none⟩), .pointer (some ⟨w.heap.size + 1 + 1, 0, none⟩)]) (by simp) (by simp [go_sem]) ?_
    refine (parse_catch _ _ _ _ _ _ _ _ w7 d1 d2 d3 (by omega) (by omega) (by omega)).mono ?_
    rintro e u' w6 ⟨rfl, rfl, hh, h5, h6, h7⟩
    obtain ⟨e1, e2, e3, hb⟩ := parse_after hB6 hh h5 h6 h7
    simp [Leaves, settle, results, Tryz.results40, go_sem, e1, e2, e3]
    exact ⟨Kd.R_nil _ _ _ _ _, hb⟩
   ·
    rw [if_neg c2] at h
    injection h with h
    injection h with h1 h
    injection h with h2 h3
    subst h1 h2 h3
    have c2b : decide (j < (s.size : Int)) = false := zR c2
    clear c2
    go_enter_defers Tryz.func40, Tryz.ntmps40
    have CL1 := fun (W : World) (A : Option Addr) (c : Nat) (hc : Kd.C k48 W A m.length m) (hl : m.length ≤ c) (hml : m.length ≤ 64) => api_Cell.calls A c m m W hc hl (clone_same m (show m.length ≤ 64 from hml))
    go_wp2_with (first | (go_at_call 70; refine (T1 _ ?side1).mono ?_; (case side1 => exact isRd_first w s); rintro e w5 ⟨rfl, hI5, hB5, hl5, hj5, hk5⟩; have HI5 := zM hI5; obtain ⟨v5, hb5, hg5, hr5⟩ := hI5; obtain ⟨A5, c5, rfl⟩ := Kd.R_slice hr5; have hz5 := (zX hb5 1).trans rfl; have hz5b := (zX hb5 2).trans rfl; have HR5 := zM hr5; have HB6 : Aside0 (Below (w.heap.size + 1 + 1 + 1) (parseW w) w5) := ⟨below_tr (below_alloc' (parseW_cells w).2.2.2.1 _) hB5⟩; obtain ⟨d1, d2, d3, hd, hbw⟩ := parse_kept HB6.out; have d1c := (zX d1 0).trans rfl; have d2c := (zX d2 0).trans rfl; have d3c := (zX d3 0).trans rfl; have d1f := zY d1 0; have d2f := zY d2 0; have d3f := zY d3 0; have HBW := zM hbw; clear hB5 hb5 hr5 hbw) | (go_at_call 72; refine (CL1 _ _ _ ?side1 ?side2 hl5).mono ?_; (case side1 => repeat (first | exact (Kd.R_reads' HR5.out).2.2 | apply Kd.C_drewN | apply Kd.C_drew)); (case side2 => exact (Kd.R_reads' HR5.out).2.1); rintro e w8 ⟨v8, rfl, hr8, hb8⟩; obtain ⟨A8, c8, rfl⟩ := Kd.R_slice hr8; have HR8 := zM hr8; have HB8 := zM hb8; have k1 := (hb8.block _ (show w.heap.size < _ by omega)).trans d1; have k2 := (hb8.block _ (show w.heap.size + 1 < _ by omega)).trans d2; have k3 := (hb8.block _ (show w.heap.size + 1 + 1 < _ by omega)).trans d3; have k1c := (zX k1 0).trans rfl; have k2c := (zX k2 0).trans rfl; have k3c := (zX k3 0).trans rfl; have k1f := zY k1 0; have k2f := zY k2 0; have k3f := zY k3 0; clear hr8 hb8))
    refine leaves_cons (f := 69) (args := #[.pointer (some ⟨w.heap.size, 0, none⟩), .pointer (some ⟨w.heap.size + 1, 0, none⟩), .pointer (some ⟨w.heap.size + 1 + 1, 0, none⟩)]) (by simp) (by simp [go_sem]) ?_
    refine (parse_idle _ _ _ _).mono ?_
    rintro e u' w9 ⟨rfl, rfl, rfl⟩
    obtain ⟨e1, e2, e3, hr9, hb9⟩ := parse_back HB6.out HB8.out HR8.out
    simp [Leaves, settle, results, Tryz.results40, go_sem, e1, e2, e3]
    exact ⟨hr9, hb9⟩
theorem rd_mono : ∀ k, (∀ s i l, LeO (rdTerm k s i l) (rdTerm (k + 1) s i l)) ∧ (∀ s i l c n, LeO (rdArgs k s i l c n) (rdArgs (k + 1) s i l c n))
 | 0 => ⟨fun _ _ _ r h => by simp [rdTerm] at h, fun _ _ _ _ _ r h => by simp [rdArgs] at h⟩
 | k + 1 => by
  obtain ⟨ih0, ih1⟩ := rd_mono k
  refine ⟨fun s i l => ?_, fun s i l c n => ?_⟩
  ·
   unfold rdTerm
   refine LeO.bind (term_reader_word.mono _ _ _ _) fun b => LeO.bind (name_Kind.mono _ _) fun kd => ?_
   refine LeO.ite (LeO.refl _) (LeO.ite (LeO.refl _) (LeO.ite (LeO.refl _) (LeO.ite (LeO.ite (LeO.refl _) (ih1 _ _ _ _ _)) (LeO.refl _))))
  ·
   unfold rdArgs
   refine LeO.bind (ih0 _ _ _) fun x => ?_
   cases x with
   | inl x => exact LeO.refl _
   | inr y =>
    obtain ⟨j, m⟩ := y
    exact LeO.ite (LeO.ite (LeO.refl _) (LeO.ite (LeO.ite (LeO.refl _) (ih1 _ _ _ _ _)) (LeO.refl _))) (LeO.none _)
def term_Parse.f (k : Nat) (a0 : ByteArray) : Option ((List (S48)) × Int × Int) := parseF k a0
theorem term_Parse.mono : ∀ a0 k, LeO (term_Parse.f k a0) (term_Parse.f (k + 1) a0) := by
 intro a0 k
 unfold term_Parse.f parseF
 refine LeO.ite (LeO.refl _) (LeO.bind ((rd_mono k).1 _ _ _) fun x => ?_)
 exact LeO.refl _
theorem term_Parse.calls (k : Nat) (a0 : ByteArray) (r1 : List (S48)) (r2 : Int) (r3 : Int) (w : World) (h : term_Parse.f k a0 = some (r1, r2, r3)) :
 Calls Tryz.prog 40 #[.string a0] w fun e w' => ∃ v0_ : Value, e = .returned (.tuple #[v0_, .int .i64 r2, .int .i64 r3]) ∧ Kd.R k48 48 w' w.heap.size (fun _ => True) v0_ r1 ∧ Below w.heap.size w w' := parse_calls k a0 r1 r2 r3 w h



-- ==== PF91

def term_cell.f (k : Nat) (a0_0 : ByteArray) (a0_1 : Int) : Option (Int) := (name_Kind.f k a0_0).bind fun t102 => (if t102 = 0 then (some 4) else (if a0_1 < 0 then (some 5) else (if a0_1 > 4 then (some 5) else (if t102 = 2 then (if a0_1 > 0 then (some 5) else (some 0)) else (some 0)))))
theorem term_cell.mono : ∀ a0 a1 k, LeO (term_cell.f k a0 a1) (term_cell.f (k + 1) a0 a1) := by
 intro a0 a1 k
 unfold term_cell.f
 repeat' first
  | (with_reducible exact name_Kind.mono _ _)
  | (with_reducible exact LeO.refl _)
  | (with_reducible exact LeO.none _)
  | (with_reducible refine LeO.ite ?_ ?_)
  | (with_reducible refine LeO.bind ?_ (fun _ => ?_))
theorem term_cell.calls (k : Nat) (a0_0 : ByteArray) (a0_1 : Int) (r : Int) (w : World) (h : term_cell.f k a0_0 a0_1 = some r) :
 Calls Tryz.prog 91 #[.agg #[.string a0_0, .int .i64 a0_1]] w fun e w' => e = .returned (.int .i64 r) ∧ Below w.heap.size w w' := by
 have hu48 := Tryz.underlying48
 have HB := zM (Below.refl w.heap.size w)
 have H : ((name_Kind.f k a0_0).bind fun t102 => (if t102 = 0 then (some 4) else (if a0_1 < 0 then (some 5) else (if a0_1 > 4 then (some 5) else (if t102 = 2 then (if a0_1 > 0 then (some 5) else (some 0)) else (some 0)))))) = some r := h
 clear h
 replace H := zB H
 obtain ⟨t102, A20, H⟩ := H
 try dsimp only at H
 have A2 := zM A20
 clear A20
 by_cases c3 : t102 = 0
 ·
  rw [if_pos c3] at H
  have c3b0 : (t102 == 0) = true := zG c3
  have c3b1 : (t102 != 0) = false := zH c3
  clear c3
  obtain rfl := zS H
  go_enter Tryz.func91, Tryz.ntmps91
  go_wp2_with (first | ((with_reducible refine gate_dst (N := 1) rfl ?_); refine box_event ?hg (N := 1) ?hd (cs := #[.string a0_0, .int .i64 a0_1]) (t := 48) ?hr ?_; (case hd => rfl); (case hg => rfl); (case hr => first | (go_simp; done) | (go_simp; rfl)); intro gb101 hg w4 hbox hb; have BK101 := zM (hbox); have GW101 := zM (zh hg : w.heap.size ≤ gb101); have GE101 := zM (zh hg : w.heap.size ≤ gb101); replace HB := zM (below_step zb hb); clear hb hbox hg; have hcz5_0 : w4.cell? ⟨gb101, 0, none⟩ = some (.string a0_0) := (zX BK101.out 0).trans rfl; have hcz5_1 : w4.cell? ⟨gb101, 1, none⟩ = some (.int .i64 a0_1) := (zX BK101.out 1).trans rfl; have hfz5_0 := zY BK101.out 0; have hfz5_1 := zY BK101.out 1) | ((with_reducible refine gate_callee (f := 35) rfl ?_); refine goesL_ (some 6) rfl rfl Tryz.func35 (by kernel_rfl) rfl #[.string a0_0] rfl zl ?_; (with_reducible refine (name_Kind.calls k a0_0 t102 _ A2.out).mono ?_); rintro e w' ⟨rfl, ⟨nd, rfl⟩⟩; refine ⟨_, rfl, ?_⟩))
  go_ret
  exact ⟨zw, zb⟩
 ·
  rw [if_neg c3] at H
  have c3b0 : (t102 == 0) = false := zE c3
  have c3b1 : (t102 != 0) = true := zF c3
  by_cases c6 : a0_1 < 0
  ·
   rw [if_pos c6] at H
   have c6b0 : decide (a0_1 < 0) = true := zQ c6
   clear c6
   obtain rfl := zS H
   go_enter Tryz.func91, Tryz.ntmps91
   go_wp2_with (first | ((with_reducible refine gate_dst (N := 1) rfl ?_); refine box_event ?hg (N := 1) ?hd (cs := #[.string a0_0, .int .i64 a0_1]) (t := 48) ?hr ?_; (case hd => rfl); (case hg => rfl); (case hr => first | (go_simp; done) | (go_simp; rfl)); intro gb101 hg w7 hbox hb; have BK101 := zM (hbox); have GW101 := zM (zh hg : w.heap.size ≤ gb101); have GE101 := zM (zh hg : w.heap.size ≤ gb101); replace HB := zM (below_step zb hb); clear hb hbox hg; have hcz8_0 : w7.cell? ⟨gb101, 0, none⟩ = some (.string a0_0) := (zX BK101.out 0).trans rfl; have hcz8_1 : w7.cell? ⟨gb101, 1, none⟩ = some (.int .i64 a0_1) := (zX BK101.out 1).trans rfl; have hfz8_0 := zY BK101.out 0; have hfz8_1 := zY BK101.out 1) | ((with_reducible refine gate_callee (f := 35) rfl ?_); refine goesL_ (some 6) rfl rfl Tryz.func35 (by kernel_rfl) rfl #[.string a0_0] rfl zl ?_; (with_reducible refine (name_Kind.calls k a0_0 t102 _ A2.out).mono ?_); rintro e w' ⟨rfl, ⟨nd, rfl⟩⟩; refine ⟨_, rfl, ?_⟩))
   go_ret
   exact ⟨zw, zb⟩
  ·
   rw [if_neg c6] at H
   have c6b0 : decide (a0_1 < 0) = false := zR c6
   clear c6
   by_cases c9 : a0_1 > 4
   ·
    rw [if_pos c9] at H
    have c9b0 : decide (4 < a0_1) = true := zQ c9
    clear c9
    obtain rfl := zS H
    go_enter Tryz.func91, Tryz.ntmps91
    go_wp2_with (first | ((with_reducible refine gate_dst (N := 1) rfl ?_); refine box_event ?hg (N := 1) ?hd (cs := #[.string a0_0, .int .i64 a0_1]) (t := 48) ?hr ?_; (case hd => rfl); (case hg => rfl); (case hr => first | (go_simp; done) | (go_simp; rfl)); intro gb101 hg w10 hbox hb; have BK101 := zM (hbox); have GW101 := zM (zh hg : w.heap.size ≤ gb101); have GE101 := zM (zh hg : w.heap.size ≤ gb101); replace HB := zM (below_step zb hb); clear hb hbox hg; have hcz11_0 : w10.cell? ⟨gb101, 0, none⟩ = some (.string a0_0) := (zX BK101.out 0).trans rfl; have hcz11_1 : w10.cell? ⟨gb101, 1, none⟩ = some (.int .i64 a0_1) := (zX BK101.out 1).trans rfl; have hfz11_0 := zY BK101.out 0; have hfz11_1 := zY BK101.out 1) | ((with_reducible refine gate_callee (f := 35) rfl ?_); refine goesL_ (some 6) rfl rfl Tryz.func35 (by kernel_rfl) rfl #[.string a0_0] rfl zl ?_; (with_reducible refine (name_Kind.calls k a0_0 t102 _ A2.out).mono ?_); rintro e w' ⟨rfl, ⟨nd, rfl⟩⟩; refine ⟨_, rfl, ?_⟩))
    go_ret
    exact ⟨zw, zb⟩
   ·
    rw [if_neg c9] at H
    have c9b0 : decide (4 < a0_1) = false := zR c9
    clear c9
    by_cases c12 : t102 = 2
    ·
     rw [if_pos c12] at H
     have c12b0 : (t102 == 2) = true := zG c12
     have c12b1 : (t102 != 2) = false := zH c12
     clear c12
     by_cases c13 : a0_1 > 0
     ·
      rw [if_pos c13] at H
      have c13b0 : decide (0 < a0_1) = true := zQ c13
      clear c13
      obtain rfl := zS H
      go_enter Tryz.func91, Tryz.ntmps91
      go_wp2_with (first | ((with_reducible refine gate_dst (N := 1) rfl ?_); refine box_event ?hg (N := 1) ?hd (cs := #[.string a0_0, .int .i64 a0_1]) (t := 48) ?hr ?_; (case hd => rfl); (case hg => rfl); (case hr => first | (go_simp; done) | (go_simp; rfl)); intro gb101 hg w14 hbox hb; have BK101 := zM (hbox); have GW101 := zM (zh hg : w.heap.size ≤ gb101); have GE101 := zM (zh hg : w.heap.size ≤ gb101); replace HB := zM (below_step zb hb); clear hb hbox hg; have hcz15_0 : w14.cell? ⟨gb101, 0, none⟩ = some (.string a0_0) := (zX BK101.out 0).trans rfl; have hcz15_1 : w14.cell? ⟨gb101, 1, none⟩ = some (.int .i64 a0_1) := (zX BK101.out 1).trans rfl; have hfz15_0 := zY BK101.out 0; have hfz15_1 := zY BK101.out 1) | ((with_reducible refine gate_callee (f := 35) rfl ?_); refine goesL_ (some 6) rfl rfl Tryz.func35 (by kernel_rfl) rfl #[.string a0_0] rfl zl ?_; (with_reducible refine (name_Kind.calls k a0_0 t102 _ A2.out).mono ?_); rintro e w' ⟨rfl, ⟨nd, rfl⟩⟩; refine ⟨_, rfl, ?_⟩))
      go_ret
      exact ⟨zw, zb⟩
     ·
      rw [if_neg c13] at H
      have c13b0 : decide (0 < a0_1) = false := zR c13
      clear c13
      obtain rfl := zS H
      go_enter Tryz.func91, Tryz.ntmps91
      go_wp2_with (first | ((with_reducible refine gate_dst (N := 1) rfl ?_); refine box_event ?hg (N := 1) ?hd (cs := #[.string a0_0, .int .i64 a0_1]) (t := 48) ?hr ?_; (case hd => rfl); (case hg => rfl); (case hr => first | (go_simp; done) | (go_simp; rfl)); intro gb101 hg w16 hbox hb; have BK101 := zM (hbox); have GW101 := zM (zh hg : w.heap.size ≤ gb101); have GE101 := zM (zh hg : w.heap.size ≤ gb101); replace HB := zM (below_step zb hb); clear hb hbox hg; have hcz17_0 : w16.cell? ⟨gb101, 0, none⟩ = some (.string a0_0) := (zX BK101.out 0).trans rfl; have hcz17_1 : w16.cell? ⟨gb101, 1, none⟩ = some (.int .i64 a0_1) := (zX BK101.out 1).trans rfl; have hfz17_0 := zY BK101.out 0; have hfz17_1 := zY BK101.out 1) | ((with_reducible refine gate_callee (f := 35) rfl ?_); refine goesL_ (some 6) rfl rfl Tryz.func35 (by kernel_rfl) rfl #[.string a0_0] rfl zl ?_; (with_reducible refine (name_Kind.calls k a0_0 t102 _ A2.out).mono ?_); rintro e w' ⟨rfl, ⟨nd, rfl⟩⟩; refine ⟨_, rfl, ?_⟩))
      go_ret
      exact ⟨zw, zb⟩
    ·
     rw [if_neg c12] at H
     have c12b0 : (t102 == 2) = false := zE c12
     have c12b1 : (t102 != 2) = true := zF c12
     obtain rfl := zS H
     go_enter Tryz.func91, Tryz.ntmps91
     go_wp2_with (first | ((with_reducible refine gate_dst (N := 1) rfl ?_); refine box_event ?hg (N := 1) ?hd (cs := #[.string a0_0, .int .i64 a0_1]) (t := 48) ?hr ?_; (case hd => rfl); (case hg => rfl); (case hr => first | (go_simp; done) | (go_simp; rfl)); intro gb101 hg w18 hbox hb; have BK101 := zM (hbox); have GW101 := zM (zh hg : w.heap.size ≤ gb101); have GE101 := zM (zh hg : w.heap.size ≤ gb101); replace HB := zM (below_step zb hb); clear hb hbox hg; have hcz19_0 : w18.cell? ⟨gb101, 0, none⟩ = some (.string a0_0) := (zX BK101.out 0).trans rfl; have hcz19_1 : w18.cell? ⟨gb101, 1, none⟩ = some (.int .i64 a0_1) := (zX BK101.out 1).trans rfl; have hfz19_0 := zY BK101.out 0; have hfz19_1 := zY BK101.out 1) | ((with_reducible refine gate_callee (f := 35) rfl ?_); refine goesL_ (some 6) rfl rfl Tryz.func35 (by kernel_rfl) rfl #[.string a0_0] rfl zl ?_; (with_reducible refine (name_Kind.calls k a0_0 t102 _ A2.out).mono ?_); rintro e w' ⟨rfl, ⟨nd, rfl⟩⟩; refine ⟨_, rfl, ?_⟩))
     go_ret
     exact ⟨zw, zb⟩


-- ==== PF92

def term_behind.l0 : Nat → List (S48) → Int → Int → Option (Int)
 | 0, _, _, _ => none
 | k + 1, x0, x1, x5 => if x5 > 0 then (if x1 ≥ (x0.length : Int) then (some (-1)) else (if 0 ≤ x1 then (if x1 < (x0.length : Int) then (term_behind.l0 k x0 (wrap64 (x1 + 1)) (wrap64 (x5 + (wrap64 (((rd_T48 x0 x1).f1) - 1))))) else (none)) else (none))) else (some x1)
def term_behind.f (k : Nat) (l0 : List (S48)) (a1 : Int) : Option (Int) := term_behind.l0 k l0 a1 1
theorem term_behind.mono_l : ∀ k, (∀ y0 y1 y2, LeO (term_behind.l0 k y0 y1 y2) (term_behind.l0 (k + 1) y0 y1 y2))
 | 0 => fun _ _ _ r h => by simp [term_behind.l0] at h
 | k + 1 => by
  have ih0 := term_behind.mono_l k
  ·
   intro y0 y1 y2
   unfold term_behind.l0
   repeat' first
   | (with_reducible exact ih0 _ _ _)
   | (with_reducible exact LeO.refl _)
   | (with_reducible exact LeO.none _)
   | (with_reducible refine LeO.ite ?_ ?_)
   | (with_reducible refine LeO.bind ?_ (fun _ => ?_))
theorem term_behind.mono : ∀ a0 a1 k, LeO (term_behind.f k a0 a1) (term_behind.f (k + 1) a0 a1) := by
 intro a0 a1 k
 have ih0 := term_behind.mono_l k
 unfold term_behind.f
 repeat' first
  | (with_reducible exact ih0 _ _ _)
  | (with_reducible exact LeO.refl _)
  | (with_reducible exact LeO.none _)
  | (with_reducible refine LeO.ite ?_ ?_)
  | (with_reducible refine LeO.bind ?_ (fun _ => ?_))
theorem term_behind.calls (k : Nat) (A0 : Option Addr) (c0 : Nat) (l0 : List (S48)) (a1 : Int) (r : Int) (w : World) (hr0 : Kd.C k48 w A0 l0.length l0) (hc0 : l0.length ≤ c0) (h : term_behind.f k l0 a1 = some r) :
 Calls Tryz.prog 92 #[.slice A0 l0.length c0, .int .i64 a1] w fun e w' => e = .returned (.int .i64 r) ∧ Drawn0 w w' := by
 have HR0 := zM hr0
 have HC0 := zM hc0
 clear hr0 hc0
 have H : (term_behind.l0 k l0 a1 1) = some r := h
 clear h
 have H' := zM H
 clear H
 go_enter Tryz.func92, Tryz.ntmps92
 go_wp2
 go_loopg [1, 5] k (fun kq v1 v5 w' => ∃ (x1_1 : Int) (x5_1 : Int), v1 = .int .i64 x1_1 ∧ v5 = .int .i64 x5_1 ∧ Aside0 (term_behind.l0 kq l0 x1_1 x5_1 = some r) ∧ Aside0 (kq ≤ k) ∧ Drawn0 w w')
 case atStart => exact ⟨(a1), (1), zy, zy, H', ⟨Nat.le_refl _⟩, zd⟩
 case round =>
  clear H'
  try clear p2
  obtain ⟨x1_1, x5_1, rfl, rfl, HA, HK1, ⟨m1, rfl⟩⟩ := hrel
  cases gk with
  | zero => exact absurd HA.out (by simp [term_behind.l0])
  | succ k1 =>
   have H := HA.out
   clear HA
   simp only [term_behind.l0] at H
   by_cases c3 : x5_1 > 0
   ·
    rw [if_pos c3] at H
    have c3b0 : decide (0 < x5_1) = true := zQ c3
    clear c3
    by_cases c4 : x1_1 ≥ (l0.length : Int)
    ·
     rw [if_pos c4] at H
     have c4b0 : decide ((l0.length : Int) ≤ x1_1) = true := zQ c4
     clear c4
     obtain rfl := zS H
     go_wp2
     go_ret
     exact ⟨zy, zd⟩
    ·
     rw [if_neg c4] at H
     have c4b0 : decide ((l0.length : Int) ≤ x1_1) = false := zR c4
     clear c4
     by_cases c5 : 0 ≤ x1_1
     ·
      rw [if_pos c5] at H
      have c5b0 : decide (0 ≤ x1_1) = true := zQ c5
      clear c5
      by_cases c6 : x1_1 < (l0.length : Int)
      ·
       rw [if_pos c6] at H
       have c6b0 : decide (x1_1 < (l0.length : Int)) = true := zQ c6
       clear c6
       have H' := zM H
       clear H
       have p101 : 0 ≤ (x1_1 : Int) := zT zv
       have q101 : x1_1 < (l0.length : Int) := zT zv
       obtain ⟨ad101, e101, hx101_0, hx101_1⟩ := at_T48 HR0.out x1_1 p101 q101
       cases e101
       replace p101 := eq_true p101
       replace q101 := eq_true q101
       go_wp2
       go_roundg k1
       case measure => have := HK1.out; omega
       case rel => exact ⟨(wrap64 (x1_1 + 1)), (wrap64 (x5_1 + (wrap64 (((rd_T48 l0 x1_1).f1) - 1)))), zy, zy, H', ⟨by have := HK1.out; omega⟩, zd⟩
      ·
       rw [if_neg c6] at H
       exact absurd H (by simp)
     ·
      rw [if_neg c5] at H
      exact absurd H (by simp)
   ·
    rw [if_neg c3] at H
    have c3b0 : decide (0 < x5_1) = false := zR c3
    clear c3
    obtain rfl := zS H
    go_wp2
    go_ret
    exact ⟨zy, zd⟩


-- ==== PF73

def term_Check.l0 : Nat → List (S48) → List (S48) → Int → Int → Option (Int)
 | 0, _, _, _, _ => none
 | k + 1, x0, x9, x10, x11 => if x11 < x10 then (if 0 ≤ x11 then (if x11 < (x9.length : Int) then ((term_cell.f k ((rd_T48 x9 x11).f0) ((rd_T48 x9 x11).f1)).bind fun t103 => (if t103 = 0 then (term_Check.l0 k x0 x9 x10 (wrap64 (x11 + 1))) else (some t103))) else (none)) else (none)) else ((term_behind.f k x0 0).bind fun t104 => (if t104 = (x0.length : Int) then (some 0) else (some 3)))
def term_Check.f (k : Nat) (l0 : List (S48)) : Option (Int) := if (l0.length : Int) > 64 then (some 6) else (term_Check.l0 k l0 l0 (l0.length : Int) 0)
theorem term_Check.mono_l : ∀ k, (∀ y0 y1 y2 y3, LeO (term_Check.l0 k y0 y1 y2 y3) (term_Check.l0 (k + 1) y0 y1 y2 y3))
 | 0 => fun _ _ _ _ r h => by simp [term_Check.l0] at h
 | k + 1 => by
  have ih0 := term_Check.mono_l k
  ·
   intro y0 y1 y2 y3
   unfold term_Check.l0
   repeat' first
   | (with_reducible exact ih0 _ _ _ _)
   | (with_reducible exact term_behind.mono _ _ _)
   | (with_reducible exact term_cell.mono _ _ _)
   | (with_reducible exact LeO.refl _)
   | (with_reducible exact LeO.none _)
   | (with_reducible refine LeO.ite ?_ ?_)
   | (with_reducible refine LeO.bind ?_ (fun _ => ?_))
theorem term_Check.mono : ∀ a0 k, LeO (term_Check.f k a0) (term_Check.f (k + 1) a0) := by
 intro a0 k
 have ih0 := term_Check.mono_l k
 unfold term_Check.f
 repeat' first
  | (with_reducible exact ih0 _ _ _ _)
  | (with_reducible exact term_behind.mono _ _ _)
  | (with_reducible exact term_cell.mono _ _ _)
  | (with_reducible exact LeO.refl _)
  | (with_reducible exact LeO.none _)
  | (with_reducible refine LeO.ite ?_ ?_)
  | (with_reducible refine LeO.bind ?_ (fun _ => ?_))
theorem term_Check.calls (k : Nat) (A0 : Option Addr) (c0 : Nat) (l0 : List (S48)) (r : Int) (w : World) (hr0 : Kd.C k48 w A0 l0.length l0) (hc0 : l0.length ≤ c0) (h : term_Check.f k l0 = some r) :
 Calls Tryz.prog 73 #[.slice A0 l0.length c0] w fun e w' => e = .returned (.int .i64 r) ∧ Below w.heap.size w w' := by
 have hu48 := Tryz.underlying48
 have HR0 := zM hr0
 have HC0 := zM hc0
 clear hr0 hc0
 have HB := zM (Below.refl w.heap.size w)
 have H : (if (l0.length : Int) > 64 then (some 6) else (term_Check.l0 k l0 l0 (l0.length : Int) 0)) = some r := h
 clear h
 by_cases c2 : (l0.length : Int) > 64
 ·
  rw [if_pos c2] at H
  have c2b0 : decide (64 < (l0.length : Int)) = true := zQ c2
  have c2b1 : decide (64 < l0.length) = true := zQ (by omega)
  clear c2
  obtain rfl := zS H
  go_enter Tryz.func73, Tryz.ntmps73
  go_wp2
  go_ret
  exact ⟨zw, zb⟩
 ·
  rw [if_neg c2] at H
  have c2b0 : decide (64 < (l0.length : Int)) = false := zR c2
  have c2b1 : decide (64 < l0.length) = false := zR (by omega)
  clear c2
  have H' := zM H
  clear H
  go_enter Tryz.func73, Tryz.ntmps73
  go_wp2
  go_loopg [11] k (fun kq v11 w' => ∃ (x11_1 : Int), v11 = .int .i64 x11_1 ∧ Aside0 (term_Check.l0 kq l0 l0 (l0.length : Int) x11_1 = some r) ∧ Aside0 (kq ≤ k) ∧ Aside0 (Below w.heap.size w w'))
  case atStart => exact ⟨(0), zy, H', ⟨Nat.le_refl _⟩, ⟨zb⟩⟩
  case round =>
   clear H'
   try clear c2
   try clear c2b0
   try clear c2b1
   try clear p2
   obtain ⟨x11_1, rfl, HA, HK1, HB⟩ := hrel
   cases gk with
   | zero => exact absurd HA.out (by simp [term_Check.l0])
   | succ k1 =>
    have H := HA.out
    clear HA
    simp only [term_Check.l0] at H
    by_cases c3 : x11_1 < (l0.length : Int)
    ·
     rw [if_pos c3] at H
     have c3b0 : decide (x11_1 < (l0.length : Int)) = true := zQ c3
     clear c3
     by_cases c4 : 0 ≤ x11_1
     ·
      rw [if_pos c4] at H
      have c4b0 : decide (0 ≤ x11_1) = true := zQ c4
      clear c4
      by_cases c5 : x11_1 < (l0.length : Int)
      ·
       rw [if_pos c5] at H
       have c5b0 : decide (x11_1 < (l0.length : Int)) = true := zQ c5
       clear c5
       replace H := zB H
       obtain ⟨t103, A60, H⟩ := H
       try dsimp only at H
       have A6 := zM A60
       clear A60
       by_cases c7 : t103 = 0
       ·
        rw [if_pos c7] at H
        have c7b0 : (t103 == 0) = true := zG c7
        have c7b1 : (t103 != 0) = false := zH c7
        clear c7
        have H' := zM H
        clear H
        have p101 : 0 ≤ (x11_1 : Int) := zT zv
        have q101 : x11_1 < (l0.length : Int) := zT zv
        obtain ⟨ad101, e101, hx101_0, hx101_1⟩ := at_T48 HR0.out x11_1 p101 q101
        cases e101
        replace hx101_0 := (HB.out.cell (World.block_lt_of_cell? w _ hx101_0)).trans hx101_0
        replace hx101_1 := (HB.out.cell (World.block_lt_of_cell? w _ hx101_1)).trans hx101_1
        replace p101 := eq_true p101
        replace q101 := eq_true q101
        go_wp2_with (first | ((with_reducible refine gate_dst (N := 4) rfl ?_); refine box_event ?hg (N := 4) ?hd (cs := #[.string (⟨#[]⟩ : ByteArray), .int .i64 0]) (t := 48) ?hr ?_; (case hd => rfl); (case hg => rfl); (case hr => first | (go_simp; done) | (go_simp; rfl)); intro gb102 hg w8 hbox hb; have BK102 := zM (hbox); have GW102 := zM (zh hg : w.heap.size ≤ gb102); have GE102 := zM (zh hg : w.heap.size ≤ gb102); replace HB := zM (below_step zb hb); clear hb hbox hg; have hcz9_0 : w8.cell? ⟨gb102, 0, none⟩ = some (.string (⟨#[]⟩ : ByteArray)) := (zX BK102.out 0).trans rfl; have hcz9_1 : w8.cell? ⟨gb102, 1, none⟩ = some (.int .i64 0) := (zX BK102.out 1).trans rfl; have hfz9_0 := zY BK102.out 0; have hfz9_1 := zY BK102.out 1) | ((with_reducible refine gate_callee (f := 91) rfl ?_); refine goesL_ (some 16) rfl rfl Tryz.func91 (by kernel_rfl) rfl #[.agg #[.string ((rd_T48 l0 x11_1).f0), .int .i64 ((rd_T48 l0 x11_1).f1)]] rfl zl ?_; (with_reducible refine (term_cell.calls k1 ((rd_T48 l0 x11_1).f0) ((rd_T48 l0 x11_1).f1) t103 _ A6.out).mono ?_); rintro e w10 ⟨rfl, hb⟩; refine ⟨_, rfl, ?_⟩; replace BK102 := zM (blk_below (g := gb102) (o := .cells #[.string ((rd_T48 l0 x11_1).f0), .int .i64 ((rd_T48 l0 x11_1).f1)] 48 (0, 0)) (by refine zk ?_; refine blk_put (cs := #[.string ((rd_T48 l0 x11_1).f0), .int .i64 0]) ?_ 1 _ rfl; refine zk ?_; refine blk_put (cs := #[.string (⟨#[]⟩ : ByteArray), .int .i64 0]) ?_ 0 _ rfl; refine zk ?_; exact BK102.out) hb); replace HB := zM (below_step zb hb); (try clear hb)))
        go_roundg k1
        case measure => have := HK1.out; omega
        case rel => exact ⟨(wrap64 (x11_1 + 1)), zy, H', ⟨by have := HK1.out; omega⟩, ⟨zb⟩⟩
       ·
        rw [if_neg c7] at H
        have c7b0 : (t103 == 0) = false := zE c7
        have c7b1 : (t103 != 0) = true := zF c7
        obtain rfl := zS H
        have p101 : 0 ≤ (x11_1 : Int) := zT zv
        have q101 : x11_1 < (l0.length : Int) := zT zv
        obtain ⟨ad101, e101, hx101_0, hx101_1⟩ := at_T48 HR0.out x11_1 p101 q101
        cases e101
        replace hx101_0 := (HB.out.cell (World.block_lt_of_cell? w _ hx101_0)).trans hx101_0
        replace hx101_1 := (HB.out.cell (World.block_lt_of_cell? w _ hx101_1)).trans hx101_1
        replace p101 := eq_true p101
        replace q101 := eq_true q101
        go_wp2_with (first | ((with_reducible refine gate_dst (N := 4) rfl ?_); refine box_event ?hg (N := 4) ?hd (cs := #[.string (⟨#[]⟩ : ByteArray), .int .i64 0]) (t := 48) ?hr ?_; (case hd => rfl); (case hg => rfl); (case hr => first | (go_simp; done) | (go_simp; rfl)); intro gb102 hg w11 hbox hb; have BK102 := zM (hbox); have GW102 := zM (zh hg : w.heap.size ≤ gb102); have GE102 := zM (zh hg : w.heap.size ≤ gb102); replace HB := zM (below_step zb hb); clear hb hbox hg; have hcz12_0 : w11.cell? ⟨gb102, 0, none⟩ = some (.string (⟨#[]⟩ : ByteArray)) := (zX BK102.out 0).trans rfl; have hcz12_1 : w11.cell? ⟨gb102, 1, none⟩ = some (.int .i64 0) := (zX BK102.out 1).trans rfl; have hfz12_0 := zY BK102.out 0; have hfz12_1 := zY BK102.out 1) | ((with_reducible refine gate_callee (f := 91) rfl ?_); refine goesL_ (some 16) rfl rfl Tryz.func91 (by kernel_rfl) rfl #[.agg #[.string ((rd_T48 l0 x11_1).f0), .int .i64 ((rd_T48 l0 x11_1).f1)]] rfl zl ?_; (with_reducible refine (term_cell.calls k1 ((rd_T48 l0 x11_1).f0) ((rd_T48 l0 x11_1).f1) t103 _ A6.out).mono ?_); rintro e w13 ⟨rfl, hb⟩; refine ⟨_, rfl, ?_⟩; replace BK102 := zM (blk_below (g := gb102) (o := .cells #[.string ((rd_T48 l0 x11_1).f0), .int .i64 ((rd_T48 l0 x11_1).f1)] 48 (0, 0)) (by refine zk ?_; refine blk_put (cs := #[.string ((rd_T48 l0 x11_1).f0), .int .i64 0]) ?_ 1 _ rfl; refine zk ?_; refine blk_put (cs := #[.string (⟨#[]⟩ : ByteArray), .int .i64 0]) ?_ 0 _ rfl; refine zk ?_; exact BK102.out) hb); replace HB := zM (below_step zb hb); (try clear hb)))
        go_ret
        exact ⟨zw, zb⟩
      ·
       rw [if_neg c5] at H
       exact absurd H (by simp)
     ·
      rw [if_neg c4] at H
      exact absurd H (by simp)
    ·
     rw [if_neg c3] at H
     have c3b0 : decide (x11_1 < (l0.length : Int)) = false := zR c3
     clear c3
     replace H := zB H
     obtain ⟨t104, A140, H⟩ := H
     try dsimp only at H
     have A14 := zM A140
     clear A140
     by_cases c15 : t104 = (l0.length : Int)
     ·
      rw [if_pos c15] at H
      have c15b0 : (t104 == (l0.length : Int)) = true := zG c15
      have c15b1 : (t104 != (l0.length : Int)) = false := zH c15
      clear c15
      obtain rfl := zS H
      go_wp2_with (first | ((with_reducible refine gate_callee (f := 92) rfl ?_); refine goesL_ (some 22) rfl rfl Tryz.func92 (by kernel_rfl) rfl #[.slice A0 l0.length c0, .int .i64 0] rfl zl ?_; (with_reducible refine (term_behind.calls k1 _ _ l0 0 t104 _ ?side1 ?side2 A14.out).mono ?_); (case side1 => exact Kd.C_below HR0.out zb); (case side2 => exact HC0.out); rintro e w' ⟨rfl, ⟨nd, rfl⟩⟩; refine ⟨_, rfl, ?_⟩))
      go_ret
      exact ⟨zw, zb⟩
     ·
      rw [if_neg c15] at H
      have c15b0 : (t104 == (l0.length : Int)) = false := zE c15
      have c15b1 : (t104 != (l0.length : Int)) = true := zF c15
      obtain rfl := zS H
      go_wp2_with (first | ((with_reducible refine gate_callee (f := 92) rfl ?_); refine goesL_ (some 22) rfl rfl Tryz.func92 (by kernel_rfl) rfl #[.slice A0 l0.length c0, .int .i64 0] rfl zl ?_; (with_reducible refine (term_behind.calls k1 _ _ l0 0 t104 _ ?side1 ?side2 A14.out).mono ?_); (case side1 => exact Kd.C_below HR0.out zb); (case side2 => exact HC0.out); rintro e w' ⟨rfl, ⟨nd, rfl⟩⟩; refine ⟨_, rfl, ?_⟩))
      go_ret
      exact ⟨zw, zb⟩


-- ==== PF93

def slices_Index_string_string.l0 : Nat → List ByteArray → ByteArray → Int → Int → Option (Int)
 | 0, _, _, _, _ => none
 | k + 1, x0, x1, x7, x8 => if x8 < x7 then (if 0 ≤ x8 then (if x8 < (x0.length : Int) then (if x1.toList = (rdOf ByteArray.empty x0 x8).toList then (some x8) else (slices_Index_string_string.l0 k x0 x1 x7 (wrap64 (x8 + 1)))) else (none)) else (none)) else (some (-1))
def slices_Index_string_string.f (k : Nat) (l0 : List ByteArray) (a1 : ByteArray) : Option (Int) := slices_Index_string_string.l0 k l0 a1 (l0.length : Int) 0
theorem slices_Index_string_string.mono_l : ∀ k, (∀ y0 y1 y2 y3, LeO (slices_Index_string_string.l0 k y0 y1 y2 y3) (slices_Index_string_string.l0 (k + 1) y0 y1 y2 y3))
 | 0 => fun _ _ _ _ r h => by simp [slices_Index_string_string.l0] at h
 | k + 1 => by
  have ih0 := slices_Index_string_string.mono_l k
  ·
   intro y0 y1 y2 y3
   unfold slices_Index_string_string.l0
   repeat' first
   | (with_reducible exact ih0 _ _ _ _)
   | (with_reducible exact LeO.refl _)
   | (with_reducible exact LeO.none _)
   | (with_reducible refine LeO.ite ?_ ?_)
   | (with_reducible refine LeO.bind ?_ (fun _ => ?_))
theorem slices_Index_string_string.mono : ∀ a0 a1 k, LeO (slices_Index_string_string.f k a0 a1) (slices_Index_string_string.f (k + 1) a0 a1) := by
 intro a0 a1 k
 have ih0 := slices_Index_string_string.mono_l k
 unfold slices_Index_string_string.f
 repeat' first
  | (with_reducible exact ih0 _ _ _ _)
  | (with_reducible exact LeO.refl _)
  | (with_reducible exact LeO.none _)
  | (with_reducible refine LeO.ite ?_ ?_)
  | (with_reducible refine LeO.bind ?_ (fun _ => ?_))
theorem slices_Index_string_string.calls (k : Nat) (A0 : Option Addr) (c0 : Nat) (l0 : List ByteArray) (a1 : ByteArray) (r : Int) (w : World) (hr0 : Kd.C Kd.string w A0 l0.length l0) (hc0 : l0.length ≤ c0) (h : slices_Index_string_string.f k l0 a1 = some r) :
 Calls Tryz.prog 93 #[.slice A0 l0.length c0, .string a1] w fun e w' => e = .returned (.int .i64 r) ∧ Drawn0 w w' := by
 have HR0 := zM hr0
 have HC0 := zM hc0
 clear hr0 hc0
 have H : (slices_Index_string_string.l0 k l0 a1 (l0.length : Int) 0) = some r := h
 clear h
 have H' := zM H
 clear H
 go_enter Tryz.func93, Tryz.ntmps93
 go_wp2
 go_loopg [8] k (fun kq v8 w' => ∃ (x8_1 : Int), v8 = .int .i64 x8_1 ∧ Aside0 (slices_Index_string_string.l0 kq l0 a1 (l0.length : Int) x8_1 = some r) ∧ Aside0 (kq ≤ k) ∧ Drawn0 w w')
 case atStart => exact ⟨(0), zy, H', ⟨Nat.le_refl _⟩, zd⟩
 case round =>
  clear H'
  try clear p2
  obtain ⟨x8_1, rfl, HA, HK1, ⟨m1, rfl⟩⟩ := hrel
  cases gk with
  | zero => exact absurd HA.out (by simp [slices_Index_string_string.l0])
  | succ k1 =>
   have H := HA.out
   clear HA
   simp only [slices_Index_string_string.l0] at H
   by_cases c3 : x8_1 < (l0.length : Int)
   ·
    rw [if_pos c3] at H
    have c3b0 : decide (x8_1 < (l0.length : Int)) = true := zQ c3
    clear c3
    by_cases c4 : 0 ≤ x8_1
    ·
     rw [if_pos c4] at H
     have c4b0 : decide (0 ≤ x8_1) = true := zQ c4
     clear c4
     by_cases c5 : x8_1 < (l0.length : Int)
     ·
      rw [if_pos c5] at H
      have c5b0 : decide (x8_1 < (l0.length : Int)) = true := zQ c5
      clear c5
      by_cases c6 : a1.toList = (rdOf ByteArray.empty l0 x8_1).toList
      ·
       rw [if_pos c6] at H
       have c6b0 : (a1.toList == (rdOf ByteArray.empty l0 x8_1).toList) = true := zG c6
       have c6b1 : (a1.toList != (rdOf ByteArray.empty l0 x8_1).toList) = false := zH c6
       clear c6
       obtain rfl := zS H
       have p101 : 0 ≤ (x8_1 : Int) := zT zv
       have q101 : x8_1 < (l0.length : Int) := zT zv
       obtain ⟨ad101, e101, hx101_0⟩ := Kd.at_string HR0.out x8_1 p101 q101
       cases e101
       replace p101 := eq_true p101
       replace q101 := eq_true q101
       go_wp2
       go_ret
       exact ⟨zy, zd⟩
      ·
       rw [if_neg c6] at H
       have c6b0 : (a1.toList == (rdOf ByteArray.empty l0 x8_1).toList) = false := zE c6
       have c6b1 : (a1.toList != (rdOf ByteArray.empty l0 x8_1).toList) = true := zF c6
       have H' := zM H
       clear H
       have p101 : 0 ≤ (x8_1 : Int) := zT zv
       have q101 : x8_1 < (l0.length : Int) := zT zv
       obtain ⟨ad101, e101, hx101_0⟩ := Kd.at_string HR0.out x8_1 p101 q101
       cases e101
       replace p101 := eq_true p101
       replace q101 := eq_true q101
       go_wp2
       go_roundg k1
       case measure => have := HK1.out; omega
       case rel => exact ⟨(wrap64 (x8_1 + 1)), zy, H', ⟨by have := HK1.out; omega⟩, zd⟩
     ·
      rw [if_neg c5] at H
      exact absurd H (by simp)
    ·
     rw [if_neg c4] at H
     exact absurd H (by simp)
   ·
    rw [if_neg c3] at H
    have c3b0 : decide (x8_1 < (l0.length : Int)) = false := zR c3
    clear c3
    obtain rfl := zS H
    go_wp2
    go_ret
    exact ⟨zy, zd⟩


-- ==== PF74

def slices_Contains_string_string.f (k : Nat) (l0 : List ByteArray) (a1 : ByteArray) : Option (Bool) := (slices_Index_string_string.f k l0 a1).bind fun t101 => (some (decide (t101 ≥ 0)))
theorem slices_Contains_string_string.mono : ∀ a0 a1 k, LeO (slices_Contains_string_string.f k a0 a1) (slices_Contains_string_string.f (k + 1) a0 a1) := by
 intro a0 a1 k
 unfold slices_Contains_string_string.f
 repeat' first
  | (with_reducible exact slices_Index_string_string.mono _ _ _)
  | (with_reducible exact LeO.refl _)
  | (with_reducible exact LeO.none _)
  | (with_reducible refine LeO.ite ?_ ?_)
  | (with_reducible refine LeO.bind ?_ (fun _ => ?_))
theorem slices_Contains_string_string.calls (k : Nat) (A0 : Option Addr) (c0 : Nat) (l0 : List ByteArray) (a1 : ByteArray) (r : Bool) (w : World) (hr0 : Kd.C Kd.string w A0 l0.length l0) (hc0 : l0.length ≤ c0) (h : slices_Contains_string_string.f k l0 a1 = some r) :
 Calls Tryz.prog 74 #[.slice A0 l0.length c0, .string a1] w fun e w' => e = .returned (.bool r) ∧ Drawn0 w w' := by
 have HR0 := zM hr0
 have HC0 := zM hc0
 clear hr0 hc0
 have H : ((slices_Index_string_string.f k l0 a1).bind fun t101 => (some (decide (t101 ≥ 0)))) = some r := h
 clear h
 replace H := zB H
 obtain ⟨t101, A30, H⟩ := H
 try dsimp only at H
 have A3 := zM A30
 clear A30
 obtain rfl := zS H
 go_enter Tryz.func74, Tryz.ntmps74
 go_wp2_with (first | ((with_reducible refine gate_callee (f := 93) rfl ?_); refine goesL_ (some 7) rfl rfl Tryz.func93 (by kernel_rfl) rfl #[.slice A0 l0.length c0, .string a1] rfl zl ?_; (with_reducible refine (slices_Index_string_string.calls k _ _ l0 a1 t101 _ ?side1 ?side2 A3.out).mono ?_); (case side1 => exact Kd.C_below HR0.out zg); (case side2 => exact HC0.out); rintro e w' ⟨rfl, ⟨nd, rfl⟩⟩; refine ⟨_, rfl, ?_⟩))
 go_ret
 exact ⟨zy, zd⟩


-- ==== PF41

def term_Vars.l0 : Nat → List ByteArray → List (S48) → Int → Int → Option (List ByteArray × Int)
 | 0, _, _, _, _ => none
 | k + 1, x5, x13, x14, x15 => if x15 < x14 then (if 0 ≤ x15 then (if x15 < (x13.length : Int) then ((name_Kind.f k ((rd_T48 x13 x15).f0)).bind fun t104 => (if t104 = 2 then ((slices_Contains_string_string.f k x5 ((rd_T48 x13 x15).f0)).bind fun t105 => (if t105 = true then (term_Vars.l0 k x5 x13 x14 (wrap64 (x15 + 1))) else (if x5.length < 8796093022208 then (term_Vars.l0 k (x5 ++ [(rd_T48 x13 x15).f0]) x13 x14 (wrap64 (x15 + 1))) else (none)))) else (term_Vars.l0 k x5 x13 x14 (wrap64 (x15 + 1))))) else (none)) else (none)) else (some (x5, 0))
def term_Vars.f (k : Nat) (l0 : List (S48)) : Option (List ByteArray × Int) := (term_Check.f k l0).bind fun t101 => (if t101 = 0 then (term_Vars.l0 k ([] : List ByteArray) l0 (l0.length : Int) 0) else (some (([] : List ByteArray), t101)))
theorem term_Vars.mono_l : ∀ k, (∀ y0 y1 y2 y3, LeO (term_Vars.l0 k y0 y1 y2 y3) (term_Vars.l0 (k + 1) y0 y1 y2 y3))
 | 0 => fun _ _ _ _ r h => by simp [term_Vars.l0] at h
 | k + 1 => by
  have ih0 := term_Vars.mono_l k
  ·
   intro y0 y1 y2 y3
   unfold term_Vars.l0
   repeat' first
   | (with_reducible exact ih0 _ _ _ _)
   | (with_reducible exact name_Kind.mono _ _)
   | (with_reducible exact slices_Contains_string_string.mono _ _ _)
   | (with_reducible exact term_Check.mono _ _)
   | (with_reducible exact LeO.refl _)
   | (with_reducible exact LeO.none _)
   | (with_reducible refine LeO.ite ?_ ?_)
   | (with_reducible refine LeO.bind ?_ (fun _ => ?_))
theorem term_Vars.mono : ∀ a0 k, LeO (term_Vars.f k a0) (term_Vars.f (k + 1) a0) := by
 intro a0 k
 have ih0 := term_Vars.mono_l k
 unfold term_Vars.f
 repeat' first
  | (with_reducible exact ih0 _ _ _ _)
  | (with_reducible exact name_Kind.mono _ _)
  | (with_reducible exact slices_Contains_string_string.mono _ _ _)
  | (with_reducible exact term_Check.mono _ _)
  | (with_reducible exact LeO.refl _)
  | (with_reducible exact LeO.none _)
  | (with_reducible refine LeO.ite ?_ ?_)
  | (with_reducible refine LeO.bind ?_ (fun _ => ?_))
theorem term_Vars.calls (k : Nat) (A0 : Option Addr) (c0 : Nat) (l0 : List (S48)) (r1 : List ByteArray) (r2 : Int) (w : World) (hr0 : Kd.C k48 w A0 l0.length l0) (hc0 : l0.length ≤ c0) (h : term_Vars.f k l0 = some (r1, r2)) :
 Calls Tryz.prog 41 #[.slice A0 l0.length c0] w fun e w' => ∃ v0_ : Value, e = .returned (.tuple #[v0_, .int .i64 r2]) ∧ Kd.R Kd.string 9 w' w.heap.size (fun _ => True) v0_ r1 ∧ Below w.heap.size w w' := by
 have hu48 := Tryz.underlying48
 have HR0 := zM hr0
 have HC0 := zM hc0
 clear hr0 hc0
 have HB := zM (Below.refl w.heap.size w)
 have H : ((term_Check.f k l0).bind fun t101 => (if t101 = 0 then (term_Vars.l0 k ([] : List ByteArray) l0 (l0.length : Int) 0) else (some (([] : List ByteArray), t101)))) = some (r1, r2) := h
 clear h
 replace H := zB H
 obtain ⟨t101, A20, H⟩ := H
 try dsimp only at H
 have A2 := zM A20
 clear A20
 by_cases c3 : t101 = 0
 ·
  rw [if_pos c3] at H
  have c3b0 : (t101 == 0) = true := zG c3
  have c3b1 : (t101 != 0) = false := zH c3
  clear c3
  have H' := zM H
  clear H
  go_enter Tryz.func41, Tryz.ntmps41
  go_wp2_with (first | ((with_reducible refine gate_callee (f := 73) rfl ?_); refine goesL_ (some 9) rfl rfl Tryz.func73 (by kernel_rfl) rfl #[.slice A0 l0.length c0] rfl zl ?_; (with_reducible refine (term_Check.calls k _ _ l0 t101 _ ?side1 ?side2 A2.out).mono ?_); (case side1 => exact Kd.C_below HR0.out zg); (case side2 => exact HC0.out); rintro e w4 ⟨rfl, hb⟩; refine ⟨_, rfl, ?_⟩; replace HB := zM (below_step zb hb); (try clear hb)))
  go_loopg [5, 15] k (fun kq v5 v15 w' => ∃ (x5_1 : List ByteArray) (x15_1 : Int), v15 = .int .i64 x15_1 ∧ Aside0 (term_Vars.l0 kq x5_1 l0 (l0.length : Int) x15_1 = some (r1, r2)) ∧ Aside0 (kq ≤ k) ∧ Aside0 (Kd.R Kd.string 9 w' w.heap.size (fun _ => True) v5 x5_1) ∧ Aside0 (Below w.heap.size w w'))
  case atStart => exact ⟨(([] : List ByteArray)), (0), zy, H', ⟨Nat.le_refl _⟩, ⟨by first | exact Kd.R_nil _ _ _ _ _ | exact Kd.N_nil _ _ _ _ _ | exact Kd.V_nil _ _ _ _ _ | exact Kd.Q_nil _ _ _ _ _ | exact Kd.S_nil _ _ _ _ _⟩, ⟨zb⟩⟩
  case round =>
   clear H'
   try clear p2
   try clear c3
   try clear c3b0
   try clear c3b1
   try clear c4
   obtain ⟨x5_1, x15_1, rfl, HA, HK1, HO_5, HB⟩ := hrel
   cases gk with
   | zero => exact absurd HA.out (by simp [term_Vars.l0])
   | succ k1 =>
    have H := HA.out
    clear HA
    simp only [term_Vars.l0] at H
    by_cases c5 : x15_1 < (l0.length : Int)
    ·
     rw [if_pos c5] at H
     have c5b0 : decide (x15_1 < (l0.length : Int)) = true := zQ c5
     clear c5
     by_cases c6 : 0 ≤ x15_1
     ·
      rw [if_pos c6] at H
      have c6b0 : decide (0 ≤ x15_1) = true := zQ c6
      clear c6
      by_cases c7 : x15_1 < (l0.length : Int)
      ·
       rw [if_pos c7] at H
       have c7b0 : decide (x15_1 < (l0.length : Int)) = true := zQ c7
       clear c7
       replace H := zB H
       obtain ⟨t104, A80, H⟩ := H
       try dsimp only at H
       have A8 := zM A80
       clear A80
       by_cases c9 : t104 = 2
       ·
        rw [if_pos c9] at H
        have c9b0 : (t104 == 2) = true := zG c9
        have c9b1 : (t104 != 2) = false := zH c9
        clear c9
        replace H := zB H
        obtain ⟨t105, A100, H⟩ := H
        try dsimp only at H
        have A10 := zM A100
        clear A100
        by_cases c11 : t105 = true
        ·
         subst c11
         rw [if_pos rfl] at H
         have H' := zM H
         clear H
         have p102 : 0 ≤ (x15_1 : Int) := zT zv
         have q102 : x15_1 < (l0.length : Int) := zT zv
         obtain ⟨ad102, e102, hx102_0, hx102_1⟩ := at_T48 HR0.out x15_1 p102 q102
         cases e102
         replace hx102_0 := (HB.out.cell (World.block_lt_of_cell? w _ hx102_0)).trans hx102_0
         replace hx102_1 := (HB.out.cell (World.block_lt_of_cell? w _ hx102_1)).trans hx102_1
         replace p102 := eq_true p102
         replace q102 := eq_true q102
         go_wp2_with (first | ((with_reducible refine gate_dst (N := 7) rfl ?_); refine box_event ?hg (N := 7) ?hd (cs := #[.string (⟨#[]⟩ : ByteArray), .int .i64 0]) (t := 48) ?hr ?_; (case hd => rfl); (case hg => rfl); (case hr => first | (go_simp; done) | (go_simp; rfl)); intro gb103 hg w12 hbox hb; replace HO_5 := zM (Kd.R_below (zr HO_5.out) hb); have BK103 := zM (hbox); have GW103 := zM (zh hg : w.heap.size ≤ gb103); have GE103 := zM (zh hg : w.heap.size ≤ gb103); replace HB := zM (below_step zb hb); clear hb hbox hg; have hcz13_0 : w12.cell? ⟨gb103, 0, none⟩ = some (.string (⟨#[]⟩ : ByteArray)) := (zX BK103.out 0).trans rfl; have hcz13_1 : w12.cell? ⟨gb103, 1, none⟩ = some (.int .i64 0) := (zX BK103.out 1).trans rfl; have hfz13_0 := zY BK103.out 0; have hfz13_1 := zY BK103.out 1) | ((with_reducible refine gate_callee (f := 35) rfl ?_); refine goesL_ (some 21) rfl rfl Tryz.func35 (by kernel_rfl) rfl #[.string ((rd_T48 l0 x15_1).f0)] rfl zl ?_; (with_reducible refine (name_Kind.calls k1 ((rd_T48 l0 x15_1).f0) t104 _ A8.out).mono ?_); rintro e w' ⟨rfl, ⟨nd, rfl⟩⟩; refine ⟨_, rfl, ?_⟩; obtain ⟨Ao14, co14, eo14⟩ := Kd.R_slice HO_5.out; subst eo14) | (go_at_call 74; (with_reducible refine (slices_Contains_string_string.calls k1 _ _ x5_1 ((rd_T48 l0 x15_1).f0) true _ ?side1 ?side2 A10.out).mono ?_); (case side1 => refine (Kd.R_reads' (e := 9) (base := w.heap.size) (ok := fun k_ => True) (n := x5_1.length) (c := co14) ?_).2.2; exact (by (with_reducible repeat (first | apply Kd.R_alloc | apply Kd.R_drewN | apply Kd.R_drew)); exact (Kd.R_mono (Kd.R_far (p := ⟨gb103, 1, none⟩) (Kd.R_far (p := ⟨gb103, 0, none⟩) (Kd.R_types HO_5.out BK103.out (by decide)) (fun _ hk => hk.2) (.string ((rd_T48 l0 x15_1).f0))) (fun _ hk => hk.2) (.int .i64 ((rd_T48 l0 x15_1).f1))) (fun _ h_ => h_.1)))); (case side2 => exact (Kd.R_reads' HO_5.out).2.1); rintro e w' ⟨rfl, ⟨nd, rfl⟩⟩))
         go_roundg k1
         case measure => have := HK1.out; omega
         case rel => exact ⟨(x5_1), (wrap64 (x15_1 + 1)), zy, H', ⟨by have := HK1.out; omega⟩, ⟨by (with_reducible repeat (first | apply Kd.R_alloc | apply Kd.R_drewN | apply Kd.R_drew)); exact Kd.R_mono (Kd.R_far (p := ⟨gb103, 1, none⟩) (Kd.R_far (p := ⟨gb103, 0, none⟩) (Kd.R_types HO_5.out BK103.out (by decide)) (fun _ hk => hk.2) (.string ((rd_T48 l0 x15_1).f0))) (fun _ hk => hk.2) (.int .i64 ((rd_T48 l0 x15_1).f1))) (fun _ hk => trivial)⟩, ⟨zb⟩⟩
        ·
         replace c11 := zI c11
         subst c11
         rw [if_neg (show ¬ (false = true) by decide)] at H
         by_cases c15 : x5_1.length < 8796093022208
         ·
          rw [if_pos c15] at H
          have LMc15 := zM c15
          clear c15
          obtain ⟨y106, hy106⟩ : ∃ y_ : List ByteArray, y_ = (x5_1 ++ [(rd_T48 l0 x15_1).f0]) := ⟨_, rfl⟩
          replace H : (term_Vars.l0 k1 y106 l0 (l0.length : Int) (wrap64 (x15_1 + 1))) = some (r1, r2) := by first | (rw [hy106]; with_reducible exact H) | (have H2_ := (Option.bind_some _ _).symm.trans H; rw [hy106]; with_reducible exact H2_) | (have H2_ := (Option.bind_some _ _).symm.trans H; with_reducible exact H2_) | with_reducible exact H | (rw [hy106]; exact H) | exact H
          have Ny106 := zM hy106
          clear hy106
          have H' := zM H
          clear H
          have p102 : 0 ≤ (x15_1 : Int) := zT zv
          have q102 : x15_1 < (l0.length : Int) := zT zv
          obtain ⟨ad102, e102, hx102_0, hx102_1⟩ := at_T48 HR0.out x15_1 p102 q102
          cases e102
          replace hx102_0 := (HB.out.cell (World.block_lt_of_cell? w _ hx102_0)).trans hx102_0
          replace hx102_1 := (HB.out.cell (World.block_lt_of_cell? w _ hx102_1)).trans hx102_1
          replace p102 := eq_true p102
          replace q102 := eq_true q102
          go_wp2_with (first | ((with_reducible refine gate_dst (N := 7) rfl ?_); refine box_event ?hg (N := 7) ?hd (cs := #[.string (⟨#[]⟩ : ByteArray), .int .i64 0]) (t := 48) ?hr ?_; (case hd => rfl); (case hg => rfl); (case hr => first | (go_simp; done) | (go_simp; rfl)); intro gb103 hg w16 hbox hb; replace HO_5 := zM (Kd.R_below (zr HO_5.out) hb); have BK103 := zM (hbox); have GW103 := zM (zh hg : w.heap.size ≤ gb103); have GE103 := zM (zh hg : w.heap.size ≤ gb103); replace HB := zM (below_step zb hb); clear hb hbox hg; have hcz17_0 : w16.cell? ⟨gb103, 0, none⟩ = some (.string (⟨#[]⟩ : ByteArray)) := (zX BK103.out 0).trans rfl; have hcz17_1 : w16.cell? ⟨gb103, 1, none⟩ = some (.int .i64 0) := (zX BK103.out 1).trans rfl; have hfz17_0 := zY BK103.out 0; have hfz17_1 := zY BK103.out 1) | ((with_reducible refine gate_callee (f := 35) rfl ?_); refine goesL_ (some 21) rfl rfl Tryz.func35 (by kernel_rfl) rfl #[.string ((rd_T48 l0 x15_1).f0)] rfl zl ?_; (with_reducible refine (name_Kind.calls k1 ((rd_T48 l0 x15_1).f0) t104 _ A8.out).mono ?_); rintro e w' ⟨rfl, ⟨nd, rfl⟩⟩; refine ⟨_, rfl, ?_⟩; obtain ⟨Ao18, co18, eo18⟩ := Kd.R_slice HO_5.out; subst eo18) | (go_at_call 74; (with_reducible refine (slices_Contains_string_string.calls k1 _ _ x5_1 ((rd_T48 l0 x15_1).f0) false _ ?side1 ?side2 A10.out).mono ?_); (case side1 => refine (Kd.R_reads' (e := 9) (base := w.heap.size) (ok := fun k_ => True) (n := x5_1.length) (c := co18) ?_).2.2; exact (by (with_reducible repeat (first | apply Kd.R_alloc | apply Kd.R_drewN | apply Kd.R_drew)); exact (Kd.R_mono (Kd.R_far (p := ⟨gb103, 1, none⟩) (Kd.R_far (p := ⟨gb103, 0, none⟩) (Kd.R_types HO_5.out BK103.out (by decide)) (fun _ hk => hk.2) (.string ((rd_T48 l0 x15_1).f0))) (fun _ hk => hk.2) (.int .i64 ((rd_T48 l0 x15_1).f1))) (fun _ h_ => h_.1)))); (case side2 => exact (Kd.R_reads' HO_5.out).2.1); rintro e w' ⟨rfl, ⟨nd, rfl⟩⟩) | ((with_reducible refine gate_builtin (b := .append) (xs := #[.tmp 30, .tmp 33]) rfl ?_); at_builtin; refine Kd.R_append Kd.string (w0 := w) w.heap.size rfl (.tmp 30) (.tmp 33) 42 9 (.string ⟨#[]⟩) 16 rfl Tryz.underlying42 info9 rfl (by decide) (by omega) (.slice Ao18 x5_1.length co18) x5_1 ((rd_T48 l0 x15_1).f0) [.string ((rd_T48 l0 x15_1).f0)] (fun _ => True) (fun _ => False) rfl (by first | (go_simp; done) | (go_simp; rfl)) ?aP (fun _ hk => hk.elim) ?aF ?aO ?aB ?aS ?aL ?_; (case aP => exact rfl); (case aB => exact zb); (case aF => exact (fun _ _ => trivial)); (case aO => exact (by (with_reducible repeat (first | apply Kd.R_alloc | apply Kd.R_drewN | apply Kd.R_drew)); exact Kd.R_mono (Kd.R_far (p := ⟨gb103, 1, none⟩) (Kd.R_far (p := ⟨gb103, 0, none⟩) (Kd.R_types HO_5.out BK103.out (by decide)) (fun _ hk => hk.2) (.string ((rd_T48 l0 x15_1).f0))) (fun _ hk => hk.2) (.int .i64 ((rd_T48 l0 x15_1).f1))) (fun _ hk => trivial))); (case aS => exact (below_size zb)); (case aL => have := LMc15.out; omega); intro v107 w19 ho hb hg hat; rw [← Ny106.out] at ho; replace BK103 := zM (blk_grown (g := gb103) (o := .cells #[.string ((rd_T48 l0 x15_1).f0), .int .i64 ((rd_T48 l0 x15_1).f1)] 48 (0, 0)) (by refine zk ?_; refine blk_put (cs := #[.string ((rd_T48 l0 x15_1).f0), .int .i64 0]) ?_ 1 _ rfl; refine zk ?_; refine blk_put (cs := #[.string (⟨#[]⟩ : ByteArray), .int .i64 0]) ?_ 0 _ rfl; refine zk ?_; exact BK103.out) hg (Kd.R_ne HO_5.out BK103.out (by decide))); replace HB := zM (hb); have HO108 := zM (ho); clear HO_5; clear ho hb hg hat))
          go_roundg k1
          case measure => have := HK1.out; omega
          case rel => exact ⟨(y106), (wrap64 (x15_1 + 1)), zy, H', ⟨by have := HK1.out; omega⟩, ⟨zr HO108.out⟩, ⟨zb⟩⟩
         ·
          rw [if_neg c15] at H
          exact absurd H (by simp)
       ·
        rw [if_neg c9] at H
        have c9b0 : (t104 == 2) = false := zE c9
        have c9b1 : (t104 != 2) = true := zF c9
        have H' := zM H
        clear H
        have p102 : 0 ≤ (x15_1 : Int) := zT zv
        have q102 : x15_1 < (l0.length : Int) := zT zv
        obtain ⟨ad102, e102, hx102_0, hx102_1⟩ := at_T48 HR0.out x15_1 p102 q102
        cases e102
        replace hx102_0 := (HB.out.cell (World.block_lt_of_cell? w _ hx102_0)).trans hx102_0
        replace hx102_1 := (HB.out.cell (World.block_lt_of_cell? w _ hx102_1)).trans hx102_1
        replace p102 := eq_true p102
        replace q102 := eq_true q102
        go_wp2_with (first | ((with_reducible refine gate_dst (N := 7) rfl ?_); refine box_event ?hg (N := 7) ?hd (cs := #[.string (⟨#[]⟩ : ByteArray), .int .i64 0]) (t := 48) ?hr ?_; (case hd => rfl); (case hg => rfl); (case hr => first | (go_simp; done) | (go_simp; rfl)); intro gb103 hg w20 hbox hb; replace HO_5 := zM (Kd.R_below (zr HO_5.out) hb); have BK103 := zM (hbox); have GW103 := zM (zh hg : w.heap.size ≤ gb103); have GE103 := zM (zh hg : w.heap.size ≤ gb103); replace HB := zM (below_step zb hb); clear hb hbox hg; have hcz21_0 : w20.cell? ⟨gb103, 0, none⟩ = some (.string (⟨#[]⟩ : ByteArray)) := (zX BK103.out 0).trans rfl; have hcz21_1 : w20.cell? ⟨gb103, 1, none⟩ = some (.int .i64 0) := (zX BK103.out 1).trans rfl; have hfz21_0 := zY BK103.out 0; have hfz21_1 := zY BK103.out 1) | ((with_reducible refine gate_callee (f := 35) rfl ?_); refine goesL_ (some 21) rfl rfl Tryz.func35 (by kernel_rfl) rfl #[.string ((rd_T48 l0 x15_1).f0)] rfl zl ?_; (with_reducible refine (name_Kind.calls k1 ((rd_T48 l0 x15_1).f0) t104 _ A8.out).mono ?_); rintro e w' ⟨rfl, ⟨nd, rfl⟩⟩; refine ⟨_, rfl, ?_⟩))
        go_roundg k1
        case measure => have := HK1.out; omega
        case rel => exact ⟨(x5_1), (wrap64 (x15_1 + 1)), zy, H', ⟨by have := HK1.out; omega⟩, ⟨by (with_reducible repeat (first | apply Kd.R_alloc | apply Kd.R_drewN | apply Kd.R_drew)); exact Kd.R_mono (Kd.R_far (p := ⟨gb103, 1, none⟩) (Kd.R_far (p := ⟨gb103, 0, none⟩) (Kd.R_types HO_5.out BK103.out (by decide)) (fun _ hk => hk.2) (.string ((rd_T48 l0 x15_1).f0))) (fun _ hk => hk.2) (.int .i64 ((rd_T48 l0 x15_1).f1))) (fun _ hk => trivial)⟩, ⟨zb⟩⟩
      ·
       rw [if_neg c7] at H
       exact absurd H (by simp)
     ·
      rw [if_neg c6] at H
      exact absurd H (by simp)
    ·
     rw [if_neg c5] at H
     have c5b0 : decide (x15_1 < (l0.length : Int)) = false := zR c5
     clear c5
     simp only [Option.some.injEq, Prod.mk.injEq] at H
     obtain ⟨rfl, rfl⟩ := H
     go_wp2
     go_ret2
     exact ⟨_, zw, zr HO_5.out, zb⟩
 ·
  rw [if_neg c3] at H
  have c3b0 : (t101 == 0) = false := zE c3
  have c3b1 : (t101 != 0) = true := zF c3
  simp only [Option.some.injEq, Prod.mk.injEq] at H
  obtain ⟨rfl, rfl⟩ := H
  go_enter Tryz.func41, Tryz.ntmps41
  go_wp2_with (first | ((with_reducible refine gate_callee (f := 73) rfl ?_); refine goesL_ (some 9) rfl rfl Tryz.func73 (by kernel_rfl) rfl #[.slice A0 l0.length c0] rfl zl ?_; (with_reducible refine (term_Check.calls k _ _ l0 t101 _ ?side1 ?side2 A2.out).mono ?_); (case side1 => exact Kd.C_below HR0.out zg); (case side2 => exact HC0.out); rintro e w22 ⟨rfl, hb⟩; refine ⟨_, rfl, ?_⟩; replace HB := zM (below_step zb hb); (try clear hb)))
  go_ret2
  exact ⟨_, zw, by first | exact Kd.R_nil _ _ _ _ _ | exact Kd.N_nil _ _ _ _ _ | exact Kd.V_nil _ _ _ _ _ | exact Kd.Q_nil _ _ _ _ _ | exact Kd.S_nil _ _ _ _ _, zb⟩

end Go.Proofs.YtmlddeogmckgmaaGreatDoor.P
