/- CommandPrints: the law answers true at every input that the given row speaks of. Conditions: those of the given row, none besides. (Part 6 of 6; written by programs of this session, which drive the kit's print, and by hand.) -/
import Derived.Test.YtmlddeogmckgmaaGreatDoorCards
import Derived.Test.YtmlddeogmckgmaaGreatDoorTie
import Derived.Deep.DeepWitnessRowRef
import Derived.Lay
import Derived.SevenTiedAt
import Derived.Test.YtmlddeogmckgmaaGreatDoorRows
import Derived.WalkKit
import Derived.ProofKit
import Derived.OpenShut
import Derived.ShutString
import Derived.ChangeOld
import Derived.Below
import Derived.Carry
import Derived.SizedLaws
import Derived.KernelRfl
import Derived.Test.YtmlddeogmckgmaaGreatDoorZCommandPrintsU4
set_option maxHeartbeats 8000000
set_option maxRecDepth 100000
set_option linter.unusedVariables false
set_option linter.unusedSimpArgs false
-- ==== RowCommandPrintsUpto
namespace Go.Proofs.YtmlddeogmckgmaaGreatDoor.commandPrintsUpto
open Go.ChangeShapes Go.WideShapes Go.ChangeAt Go.RowKit Go.Proofs.YtmlddeogmckgmaaGreatDoorW.PrintWords Go.Proofs.YtmlddeogmckgmaaGreatDoor.P Go.Proofs.YtmlddeogmckgmaaGreatDoor.Open
open Go.ChangeMaps (open_string shut_string)
theorem own : ownKnob Tryz.prog.godebug = none := by kernel_rfl
theorem laidOut : laidOutB Tryz.prog = true := by kernel_rfl
theorem bulk_le {H : Type} : ∀ (l r : List (DataW H)), Rows.uptoBulkAll l ≤ Rows.uptoBulkAll (l ++ r)
 | [], r => by simp [Rows.uptoBulkAll]
 | d :: l, r => by
  have := bulk_le l r
  simp only [List.cons_append, Rows.uptoBulkAll]
  omega
theorem core {H : Type} {enc : TypeId × Value → H} (W : World) (base : Nat) (args : Array Value) (ds gs : List (DataW H)) (before : List MemPlace)
 (hval : ∀ (j : Nat) t v, Tryz.f4.params[j]? = some t → args[j]? = some v → Value.okWide Tryz.prog W .any base t v)
 (hW : DataW.Whole enc Tryz.prog Tryz.f4.params.toList Rows.commandPrintsSpec.vars false W args.toList ds gs before)
 (hsz : (DataW.weightsEach Tryz.prog (Tryz.f4.params.toList ++ Rows.commandPrintsSpec.plain.varTypes Tryz.prog) (ds ++ gs)).all (· ≤ reachBytes) = true)
 (hL : laidMetH Tryz.prog Rows.commandPrintsRow.laid W)
 (hbulk : Rows.uptoBulkAll ds ≤ 1048576)
 :
 Calls Tryz.prog 4 args W fun e W' => ∃ v, e = .returned v ∧ Rows.commandPrintsSpec.post enc Tryz.prog Tryz.f4 false true false false W args v W' := by
 have hW' := hW
 obtain ⟨p, q, hA, hV, rfl, hfz, hnd⟩ := hW
 rw [Tryz.params4] at hA hval hsz
 obtain ⟨v0, vs0, d0, ds0, p0, q0, hargs, rfl, rfl, h0, r0⟩ := trodAll_cons hA
 obtain ⟨rfl, rfl, rfl⟩ := trodAll_nil r0
 obtain rfl : args = #[v0] := by cases args; simp_all
 obtain ⟨rfl, rfl⟩ := trodVars_none hV
 have k0 := h0
 obtain ⟨n0, hf0⟩ := h0
 obtain ⟨x0, hK0, hS0, hB0⟩ := op28.go hf0 (fun m hm => by have := List.all_eq_true.1 hsz m (DataW.weights_mem_each (j := 0) rfl rfl m hm); simpa using this)
 have lt0 : ∀ z ∈ p0, z.block < W.heap.size := by obtain ⟨m, hm⟩ := k0; exact DataW.trod_lt m _ _ _ hm
 obtain ⟨cs0, rfl, hz0⟩ := okWide_struct Tryz.underlying28 (hval 0 28 v0 rfl rfl)
 obtain ⟨A0_5, c0_5, A0_7, c0_7, A0_8, c0_8, hcs0, hc0_5, hr0_5, hc0_7, hr0_7, hc0_8, hr0_8⟩ := k28_open hK0
 have hcs0' : cs0.toList = _ := hcs0
 obtain rfl : cs0 = #[.int .i64 ((x0).f0), .string ((x0).f1), .int .i64 ((x0).f2), .int .i64 ((x0).f3), .bool ((x0).f4), .slice A0_5 (x0).f5.length c0_5, .int .i64 ((x0).f6.f0), .slice A0_7 (x0).f6.f1.length c0_7, .slice A0_8 (x0).f6.f2.length c0_8] := by apply Array.toList_inj.1; exact hcs0'
 obtain ⟨k, h⟩ := Pure.CommandPrintsUpto x0 hS0 (by simp only [Rows.uptoBulkAll] at hbulk; (try dsimp only at hB0); omega)
 refine (aumbrylaw22_CommandPrints.calls k (x0).f0 (x0).f1 (x0).f2 (x0).f3 (x0).f4 _ _ (x0).f5 (x0).f6.f0 _ _ (x0).f6.f1 _ _ (x0).f6.f2 true W hr0_5 hc0_5 hr0_7 hc0_7 hr0_8 hc0_8 h rfl (glob_row hL)).mono ?_
 rintro e W' ⟨rfl, hd⟩
 have bel : Below W.heap.size W W' := hd
 exact ⟨_, rfl, _, _, _, [], _, [], hW', trodAll_mk1 (shut_bool Tryz.underlying4 _), (trodAll_cons_mk (Below.trod laidOut (by kernel_rfl) (of_decide_eq_true (by kernel_rfl)) k0 bel lt0) trodAll_mk0), rfl, bel.frame _, fun h => by cases h⟩
theorem laid_met (os : Os) : laidMet Tryz.prog Rows.commandPrintsUptoRow.laid ((World.laidAll Tryz.prog os Rows.commandPrintsUptoRow.laid).forCall (fun _ _ => 0) ⟨#[], #[.agg #[.int .i64 0, .string ByteArray.empty, .int .i64 0, .int .i64 0, .bool false, .slice none 0 0, .int .i64 0, .slice none 0 0, .slice none 0 0]], []⟩).memory :=
 laidMet_laidAll _ (by kernel_rfl) (by kernel_rfl)
theorem reads (os : Os) {H : Type} (enc : TypeId × Value → H) : (DataW.whole enc Tryz.prog ((World.laidAll Tryz.prog os Rows.commandPrintsUptoRow.laid).forCall (fun _ _ => 0) ⟨#[], #[.agg #[.int .i64 0, .string ByteArray.empty, .int .i64 0, .int .i64 0, .bool false, .slice none 0 0, .int .i64 0, .slice none 0 0, .slice none 0 0]], []⟩).memory Tryz.f4.params.toList Rows.commandPrintsSpec.vars false (#[.agg #[.int .i64 0, .string ByteArray.empty, .int .i64 0, .int .i64 0, .bool false, .slice none 0 0, .int .i64 0, .slice none 0 0, .slice none 0 0]] : Array Value).toList 8).map (fun x => Rows.uptoSmall H (x.1 ++ x.2.1)) = some true := by kernel_rfl
theorem lifted (os : Os) (started : os.Started) (H : Type) (enc : TypeId × Value → H) (F : Stop.Interp) :
 ReturnsInHanded {} Tryz.checked os 4 .any ((Rows.OpenSpec.upto Rows.commandPrintsSpec).preRow enc Tryz.prog Tryz.f4 Rows.commandPrintsUptoRow.domain false Rows.commandPrintsUptoRow.laid) (((Rows.OpenSpec.upto Rows.commandPrintsSpec).at F).post enc Tryz.prog Tryz.f4 false true false false) := by
 obtain ⟨x, hx, hk0⟩ := Option.map_eq_some_iff.1 (reads os enc)
 refine returnsInHanded_of_row (C := Tryz.checked) (s := (Rows.OpenSpec.upto Rows.commandPrintsSpec)) own started (by kernel_rfl) Tryz.func4
  (witness_row_atRef (enc := enc) (C := Tryz.checked) false (World.laidAll Tryz.prog os Rows.commandPrintsUptoRow.laid) #[.agg #[.int .i64 0, .string ByteArray.empty, .int .i64 0, .int .i64 0, .bool false, .slice none 0 0, .int .i64 0, .slice none 0 0, .slice none 0 0]] rfl (by kernel_rfl) (by kernel_rfl) (by kernel_rfl)
   (OpenSpec.preRow_of_cond 8 hx rfl (fun k hk => by cases hk; exact hk0) (by kernel_rfl) (laid_met os))) ?_
 intro W base args ds gs before hval0 hW _ hk hsz0 hL _ _
 exact core W base args ds gs before hval0 hW hsz0 hL (Nat.le_trans (bulk_le ds gs) (of_decide_eq_true (hk _ rfl)))
theorem said : Rows.CommandPrintsUptoSaid :=
 OpenClaim.holds_of_cond 4 Tryz.f4 rfl rfl rfl rfl rfl rfl rfl ⟨rfl, rfl, rfl, rfl, rfl⟩ rfl rfl rfl rfl rfl (by kernel_rfl) Tryz.func4 (by kernel_rfl)
  (of_decide_eq_true (by kernel_rfl)) (by unfold Func.isWrapper; first | (rw [if_pos (by decide +kernel)]; kernel_rfl) | (rw [if_neg (by decide +kernel)]; exact ⟨rfl, rfl⟩))
  (fun os started H enc _ F => by rw [OpenClaim.pre_eq_preRow]; exact lifted os started H enc F)
theorem plain (f : FuncId) (fn : Func) (hf : Tryz.pinned.checked.prog.funcNamed "aumbry/aumbrylaw22.CommandPrints" = some f) (hfn : Tryz.pinned.checked.prog.funcs[f]? = some fn) :
 true = Tryz.pinned.checked.prog.looks [] ∧ ∀ (j : Nat) t, fn.params[j]? = some t → Tryz.pinned.checked.prog.wantsStandIn t = false := by
 obtain rfl : f = 4 := Option.some.inj ((show Tryz.prog.funcNamed "aumbry/aumbrylaw22.CommandPrints" = some 4 by kernel_rfl).symm.trans hf) |>.symm
 obtain rfl : fn = Tryz.f4 := (Option.some.inj (Tryz.func4.symm.trans hfn)).symm
 refine ⟨by kernel_rfl, fun j t ht => ?_⟩
 rw [Tryz.params4] at ht
 have hm := Array.mem_of_getElem? ht
 obtain rfl : t = 28 := by simpa using hm
 exact (show Tryz.prog.wantsStandIn 28 = false by kernel_rfl)
theorem card : Rows.CommandPrintsUptoCardSaid :=
 Claim7.holds_tied_plain_at .later [] _ _ _ _ said (fun _ h => by cases h) (by kernel_rfl) (fun _ h => by cases h) commandPrintsUpto_row_tie rfl ⟨rfl, rfl⟩ (by kernel_rfl) rfl plain (by kernel_rfl)
end Go.Proofs.YtmlddeogmckgmaaGreatDoor.commandPrintsUpto
namespace Go.Proofs.YtmlddeogmckgmaaGreatDoor
theorem commandPrintsUpto_holds : Rows.CommandPrintsUptoCardSaid := commandPrintsUpto.card
#print axioms commandPrintsUpto_holds
end Go.Proofs.YtmlddeogmckgmaaGreatDoor
