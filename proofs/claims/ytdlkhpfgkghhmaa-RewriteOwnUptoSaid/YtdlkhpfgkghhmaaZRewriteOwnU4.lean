/- RewriteOwn: the law answers true at every input that the given row speaks of. Conditions: those of the given row, none besides. (Part 5 of 5; written by programs of this session, which drive the kit's print, and by hand.) -/
import Derived.Deep.DeepHandedRow
import Derived.Lay
import Derived.SevenTiedAt
import Derived.Test.YtdlkhpfgkghhmaaRows
import Derived.WalkKit
import Derived.ProofKit
import Derived.OpenShut
import Derived.ShutString
import Derived.ChangeOld
import Derived.Below
import Derived.Carry
import Derived.SizedLaws
import Derived.KernelRfl
import Derived.Test.YtdlkhpfgkghhmaaZRewriteOwnU3
set_option maxHeartbeats 8000000
set_option maxRecDepth 100000
set_option linter.unusedVariables false
set_option linter.unusedSimpArgs false
-- ==== RowRewriteOwnUpto
namespace Go.Proofs.Ytdlkhpfgkghhmaa.rewriteOwnUpto
open Go.ChangeShapes Go.WideShapes Go.ChangeAt Go.RowKit Go.Proofs.YtdlkhpfgkghhmaaW.PrintWords Go.Proofs.Ytdlkhpfgkghhmaa.P Go.Proofs.Ytdlkhpfgkghhmaa.Open
open Go.ChangeMaps (open_string shut_string)
theorem own : ownKnob Try.prog.godebug = none := by kernel_rfl
theorem laidOut : laidOutB Try.prog = true := by kernel_rfl
theorem bulk_le {H : Type} : ∀ (l r : List (DataW H)), Rows.uptoBulkAll l ≤ Rows.uptoBulkAll (l ++ r)
 | [], r => by simp [Rows.uptoBulkAll]
 | d :: l, r => by
  have := bulk_le l r
  simp only [List.cons_append, Rows.uptoBulkAll]
  omega
theorem core {H : Type} {enc : TypeId × Value → H} (W : World) (base : Nat) (args : Array Value) (ds gs : List (DataW H)) (before : List MemPlace)
 (hval : ∀ (j : Nat) t v, Try.f10.params[j]? = some t → args[j]? = some v → Value.okWide Try.prog W .any base t v)
 (hW : DataW.Whole enc Try.prog Try.f10.params.toList Rows.rewriteOwnSpec.vars false W args.toList ds gs before)
 (hsz : (DataW.weightsEach Try.prog (Try.f10.params.toList ++ Rows.rewriteOwnSpec.plain.varTypes Try.prog) (ds ++ gs)).all (· ≤ reachBytes) = true)
 (hbulk : Rows.uptoBulkAll ds ≤ 1048576)
 :
 Calls Try.prog 10 args W fun e W' => ∃ v, e = .returned v ∧ Rows.rewriteOwnSpec.post enc Try.prog Try.f10 false true false false W args v W' := by
 have hW' := hW
 obtain ⟨p, q, hA, hV, rfl, hfz, hnd⟩ := hW
 rw [Try.params10] at hA hval hsz
 obtain ⟨v0, vs0, d0, ds0, p0, q0, hargs, rfl, rfl, h0, r0⟩ := trodAll_cons hA
 obtain ⟨v1, vs1, d1, ds1, p1, q1, rfl, rfl, rfl, h1, r1⟩ := trodAll_cons r0
 obtain ⟨v2, vs2, d2, ds2, p2, q2, rfl, rfl, rfl, h2, r2⟩ := trodAll_cons r1
 obtain ⟨rfl, rfl, rfl⟩ := trodAll_nil r2
 obtain rfl : args = #[v0, v1, v2] := by cases args; simp_all
 obtain ⟨rfl, rfl⟩ := trodVars_none hV
 have k0 := h0
 obtain ⟨n0, hf0⟩ := h0
 obtain ⟨x0, hK0, hS0, hB0⟩ := op41.go hf0 (fun m hm => by have := List.all_eq_true.1 hsz m (DataW.weights_mem_each (j := 0) rfl rfl m hm); simpa using this)
 have lt0 : ∀ z ∈ p0, z.block < W.heap.size := by obtain ⟨m, hm⟩ := k0; exact DataW.trod_lt m _ _ _ hm
 obtain ⟨a0, len0, cap0, rfl⟩ := okWide_slice Try.underlying41 (hval 0 41 v0 rfl rfl)
 obtain ⟨A0, c0, hcs0, hc0, hr0⟩ := hK0
 have hcs0' : [(Value.slice a0 len0 cap0)] = [.slice A0 x0.length c0] := hcs0
 injection hcs0' with hcs0'
 injection hcs0' with ha0 hl0 hk0
 subst ha0 hl0 hk0
 have k1 := h1
 obtain ⟨n1, hf1⟩ := h1
 obtain ⟨x1, hK1, hS1, hB1⟩ := op28.go hf1 (fun m hm => by have := List.all_eq_true.1 hsz m (DataW.weights_mem_each (j := 1) rfl rfl m hm); simpa using this)
 have lt1 : ∀ z ∈ p1, z.block < W.heap.size := by obtain ⟨m, hm⟩ := k1; exact DataW.trod_lt m _ _ _ hm
 obtain ⟨cs1, rfl, hz1⟩ := okWide_struct Try.underlying28 (hval 1 28 v1 rfl rfl)
 obtain ⟨A1_0, c1_0, A1_1, c1_1, A1_3, c1_3, hcs1, hc1_0, hr1_0, hc1_1, hr1_1, hc1_3, hr1_3⟩ := k28_open hK1
 have hcs1' : cs1.toList = _ := hcs1
 obtain rfl : cs1 = #[.slice A1_0 (x1).f0.length c1_0, .slice A1_1 (x1).f1.length c1_1, .int .i64 ((x1).f2), .slice A1_3 (x1).f3.length c1_3] := by apply Array.toList_inj.1; exact hcs1'
 have k2 := h2
 obtain ⟨n2, hf2⟩ := h2
 obtain ⟨x2, hK2, hS2, hB2⟩ := op3.go hf2 (fun m hm => by have := List.all_eq_true.1 hsz m (DataW.weights_mem_each (j := 2) rfl rfl m hm); simpa using this)
 have lt2 : ∀ z ∈ p2, z.block < W.heap.size := by obtain ⟨m, hm⟩ := k2; exact DataW.trod_lt m _ _ _ hm
 obtain ⟨y2, rfl⟩ := okWide_int Try.underlying3 (hval 2 3 v2 rfl rfl)
 have hcs2' : [_] = [_] := hK2
 injection hcs2' with hcs2'
 injection hcs2' with _ hq2
 subst hq2
 obtain ⟨k, h⟩ := Pure.RewriteOwnUpto x0 x1 y2 hS0 hS1 hS2 (by simp only [Rows.uptoBulkAll] at hbulk; (try dsimp only at hB0); (try dsimp only at hB1); (try dsimp only at hB2); omega)
 refine (aumbrylaw07_RewriteOwn.calls k _ _ x0 _ _ (x1).f0 _ _ (x1).f1 (x1).f2 _ _ (x1).f3 y2 true W hr0 hc0 hr1_0 hc1_0 hr1_1 hc1_1 hr1_3 hc1_3 h rfl).mono ?_
 rintro e W' ⟨rfl, hd⟩
 have bel : Below W.heap.size W W' := hd
 exact ⟨_, rfl, _, _, _, [], _, [], hW', trodAll_mk1 (shut_bool Try.underlying4 _), (trodAll_cons_mk (Below.trod laidOut (by kernel_rfl) (of_decide_eq_true (by kernel_rfl)) k0 bel lt0) (trodAll_cons_mk (Below.trod laidOut (by kernel_rfl) (of_decide_eq_true (by kernel_rfl)) k1 bel lt1) (trodAll_cons_mk (Below.trod laidOut (by kernel_rfl) (of_decide_eq_true (by kernel_rfl)) k2 bel lt2) trodAll_mk0))), rfl, bel.frame _, fun h => by cases h⟩
theorem laid_met (os : Os) : laidMet Try.prog Rows.rewriteOwnUptoRow.laid ((World.laidAll Try.prog os Rows.rewriteOwnUptoRow.laid).forCall (fun _ _ => 0) ⟨#[], #[.slice none 0 0, .agg #[.slice none 0 0, .slice none 0 0, .int .i64 0, .slice none 0 0], .int .i64 0], []⟩).memory :=
 laidMet_laidAll _ (by kernel_rfl) (by kernel_rfl)
theorem reads (os : Os) {H : Type} (enc : TypeId × Value → H) : (DataW.whole enc Try.prog ((World.laidAll Try.prog os Rows.rewriteOwnUptoRow.laid).forCall (fun _ _ => 0) ⟨#[], #[.slice none 0 0, .agg #[.slice none 0 0, .slice none 0 0, .int .i64 0, .slice none 0 0], .int .i64 0], []⟩).memory Try.f10.params.toList Rows.rewriteOwnSpec.vars false (#[.slice none 0 0, .agg #[.slice none 0 0, .slice none 0 0, .int .i64 0, .slice none 0 0], .int .i64 0] : Array Value).toList 8).map (fun x => Rows.uptoSmall H (x.1 ++ x.2.1)) = some true := by kernel_rfl
theorem lifted (os : Os) (started : os.Started) (H : Type) (enc : TypeId × Value → H) (F : Stop.Interp) :
 ReturnsInHanded {} Try.checked os 10 .any ((Rows.OpenSpec.upto Rows.rewriteOwnSpec).preRow enc Try.prog Try.f10 Rows.rewriteOwnUptoRow.domain false Rows.rewriteOwnUptoRow.laid) (((Rows.OpenSpec.upto Rows.rewriteOwnSpec).at F).post enc Try.prog Try.f10 false true false false) := by
 obtain ⟨x, hx, hk0⟩ := Option.map_eq_some_iff.1 (reads os enc)
 refine returnsInHanded_of_row (C := Try.checked) (s := (Rows.OpenSpec.upto Rows.rewriteOwnSpec)) own started (by kernel_rfl) Try.func10
  (witness_row_at (enc := enc) (C := Try.checked) false (World.laidAll Try.prog os Rows.rewriteOwnUptoRow.laid) #[.slice none 0 0, .agg #[.slice none 0 0, .slice none 0 0, .int .i64 0, .slice none 0 0], .int .i64 0] rfl (by kernel_rfl) (by kernel_rfl) (by kernel_rfl)
   (OpenSpec.preRow_of_cond 8 hx rfl (fun k hk => by cases hk; exact hk0) (by kernel_rfl) (laid_met os))) ?_
 intro W base args ds gs before hval0 hW _ hk hsz0 hL _ _
 exact core W base args ds gs before hval0 hW hsz0 (Nat.le_trans (bulk_le ds gs) (of_decide_eq_true (hk _ rfl)))
theorem said : Rows.RewriteOwnUptoSaid :=
 OpenClaim.holds_of_cond 10 Try.f10 rfl rfl rfl rfl rfl rfl rfl ⟨rfl, rfl, rfl, rfl, rfl⟩ rfl rfl rfl rfl rfl (by kernel_rfl) Try.func10 (by kernel_rfl)
  (of_decide_eq_true (by kernel_rfl)) (by unfold Func.isWrapper; first | (rw [if_pos (by decide +kernel)]; kernel_rfl) | (rw [if_neg (by decide +kernel)]; exact ⟨rfl, rfl⟩))
  (fun os started H enc _ F => by rw [OpenClaim.pre_eq_preRow]; exact lifted os started H enc F)
end Go.Proofs.Ytdlkhpfgkghhmaa.rewriteOwnUpto
namespace Go.Proofs.Ytdlkhpfgkghhmaa
theorem rewriteOwnUpto_holds : Rows.RewriteOwnUptoSaid := rewriteOwnUpto.said
#print axioms rewriteOwnUpto_holds
end Go.Proofs.Ytdlkhpfgkghhmaa
