/- MatchOwn: the law answers true at every input that the given row speaks of. Conditions: those of the given row, none besides. (Part 3 of 3; written by programs of this session, which drive the kit's print, and by hand.) -/
import Derived.Test.YtlfhonekcmlomaaRows
import Derived.WalkKit
import Derived.ProofKit
import Derived.OpenShut
import Derived.ShutString
import Derived.ChangeOld
import Derived.Below
import Derived.Carry
import Derived.SizedLaws
import Derived.KernelRfl
import Derived.Test.YtlfhonekcmlomaaZMatchOwn1
-- ==== PureMatchOwn
/- What is handed in stays; what is answered is new memory: for every pattern, term and list of binds that can be read as data, the law answers true. -/
namespace Go.Proofs.Ytlfhonekcmlomaa.Pure
open Go.RowKit Go.Proofs.Ytlfhonekcmlomaa.P Go.Proofs.YtlfhonekcmlomaaW.PrintWords
theorem MatchOwn : aumbrylaw05_MatchOwn.Pure := by
  intro p t l hp ht hl
  have hpl := sz_len hp
  have htl := sz_len ht
  have hlen := szb_len hl
  refine Ev.rounds ?_
  unfold aumbrylaw05_MatchOwn.f lawMo
  refine Ev.bind ev_wakes (evIfp rfl ?_)
  unfold lawMoB
  refine Ev.bind (evIs (own_at p hpl)) (Ev.bind (evIs (own_at t htl)) (Ev.bind (ev_copyB l hlen.1 hlen.2) (Ev.bind (ev_match p t) (Ev.bind (ev_fill p l (by omega)) ?_))))
  obtain ⟨K1, hK1⟩ := ev_refSame4 p p (.inl (by omega))
  obtain ⟨K2, hK2⟩ := ev_refSame4 t t (.inl (by omega))
  obtain ⟨K3, hK3⟩ := ev_refSame5 l (by omega) (fun b hb => by have := hlen.2 b hb; omega)
  exact ⟨max K1 (max K2 K3), fun k hk => if_pos ⟨rfl, rfl, rfl, (hK1 k (by omega)).trans (by rw [decide_eq_true rfl]), (hK2 k (by omega)).trans (by rw [decide_eq_true rfl]), hK3 k (by omega)⟩⟩
end Go.Proofs.Ytlfhonekcmlomaa.Pure

-- ==== RowMatchOwn
namespace Go.Proofs.Ytlfhonekcmlomaa.matchOwn
open Go.ChangeShapes Go.WideShapes Go.ChangeAt Go.RowKit Go.Proofs.YtlfhonekcmlomaaW.PrintWords Go.Proofs.Ytlfhonekcmlomaa.P Go.Proofs.Ytlfhonekcmlomaa.Open
open Go.ChangeMaps (open_string shut_string)
set_option linter.unusedVariables false
theorem own : ownKnob Try.prog.godebug = none := by kernel_rfl
theorem laidOut : laidOutB Try.prog = true := by kernel_rfl
set_option maxRecDepth 100000 in
theorem core {H : Type} {enc : TypeId × Value → H} (W : World) (base : Nat) (args : Array Value) (ds gs : List (DataW H)) (before : List MemPlace)
    (hval : ∀ (j : Nat) t v, Try.f8.params[j]? = some t → args[j]? = some v → Value.okWide Try.prog W .any base t v)
    (hW : DataW.Whole enc Try.prog Try.f8.params.toList Rows.matchOwnSpec.vars false W args.toList ds gs before)
    (hsz : (DataW.weightsEach Try.prog (Try.f8.params.toList ++ Rows.matchOwnSpec.plain.varTypes Try.prog) (ds ++ gs)).all (· ≤ reachBytes) = true)
    :
    Calls Try.prog 8 args W fun e W' => ∃ v, e = .returned v ∧ Rows.matchOwnSpec.post enc Try.prog Try.f8 false true false false W args v W' := by
  have hW' := hW
  obtain ⟨p, q, hA, hV, rfl, hfz, hnd⟩ := hW
  rw [Try.params8] at hA hval hsz
  obtain ⟨v0, vs0, d0, ds0, p0, q0, hargs, rfl, rfl, h0, r0⟩ := trodAll_cons hA
  obtain ⟨v1, vs1, d1, ds1, p1, q1, rfl, rfl, rfl, h1, r1⟩ := trodAll_cons r0
  obtain ⟨v2, vs2, d2, ds2, p2, q2, rfl, rfl, rfl, h2, r2⟩ := trodAll_cons r1
  obtain ⟨rfl, rfl, rfl⟩ := trodAll_nil r2
  obtain rfl : args = #[v0, v1, v2] := by cases args; simp_all
  obtain ⟨rfl, rfl⟩ := trodVars_none hV
  have k0 := h0
  obtain ⟨n0, hf0⟩ := h0
  obtain ⟨x0, hK0, hS0, hB0⟩ := op23.go hf0 (fun m hm => by have := List.all_eq_true.1 hsz m (DataW.weights_mem_each (j := 0) rfl rfl m hm); simpa using this)
  have lt0 : ∀ z ∈ p0, z.block < W.heap.size := by obtain ⟨m, hm⟩ := k0; exact DataW.trod_lt m _ _ _ hm
  obtain ⟨a0, len0, cap0, rfl⟩ := okWide_slice Try.underlying23 (hval 0 23 v0 rfl rfl)
  obtain ⟨A0, c0, hcs0, hc0, hr0⟩ := hK0
  have hcs0' : [(Value.slice a0 len0 cap0)] = [.slice A0 x0.length c0] := hcs0
  injection hcs0' with hcs0'
  injection hcs0' with ha0 hl0 hk0
  subst ha0 hl0 hk0
  have k1 := h1
  obtain ⟨n1, hf1⟩ := h1
  obtain ⟨x1, hK1, hS1, hB1⟩ := op23.go hf1 (fun m hm => by have := List.all_eq_true.1 hsz m (DataW.weights_mem_each (j := 1) rfl rfl m hm); simpa using this)
  have lt1 : ∀ z ∈ p1, z.block < W.heap.size := by obtain ⟨m, hm⟩ := k1; exact DataW.trod_lt m _ _ _ hm
  obtain ⟨a1, len1, cap1, rfl⟩ := okWide_slice Try.underlying23 (hval 1 23 v1 rfl rfl)
  obtain ⟨A1, c1, hcs1, hc1, hr1⟩ := hK1
  have hcs1' : [(Value.slice a1 len1 cap1)] = [.slice A1 x1.length c1] := hcs1
  injection hcs1' with hcs1'
  injection hcs1' with ha1 hl1 hk1
  subst ha1 hl1 hk1
  have k2 := h2
  obtain ⟨n2, hf2⟩ := h2
  obtain ⟨x2, hK2, hS2, hB2⟩ := op25.go hf2 (fun m hm => by have := List.all_eq_true.1 hsz m (DataW.weights_mem_each (j := 2) rfl rfl m hm); simpa using this)
  have lt2 : ∀ z ∈ p2, z.block < W.heap.size := by obtain ⟨m, hm⟩ := k2; exact DataW.trod_lt m _ _ _ hm
  obtain ⟨a2, len2, cap2, rfl⟩ := okWide_slice Try.underlying25 (hval 2 25 v2 rfl rfl)
  obtain ⟨A2, c2, hcs2, hc2, hr2⟩ := hK2
  have hcs2' : [(Value.slice a2 len2 cap2)] = [.slice A2 x2.length c2] := hcs2
  injection hcs2' with hcs2'
  injection hcs2' with ha2 hl2 hk2
  subst ha2 hl2 hk2
  obtain ⟨k, h⟩ := Pure.MatchOwn x0 x1 x2 hS0 hS1 hS2
  refine (aumbrylaw05_MatchOwn.calls k _ _ x0 _ _ x1 _ _ x2 true W hr0 hc0 hr1 hc1 hr2 hc2 h rfl).mono ?_
  rintro e W' ⟨rfl, hd⟩
  have bel : Below W.heap.size W W' := hd
  exact ⟨_, rfl, _, _, _, [], _, [], hW', trodAll_mk1 (shut_bool Try.underlying4 _), (trodAll_cons_mk (Below.trod laidOut (by kernel_rfl) (of_decide_eq_true (by kernel_rfl)) k0 bel lt0) (trodAll_cons_mk (Below.trod laidOut (by kernel_rfl) (of_decide_eq_true (by kernel_rfl)) k1 bel lt1) (trodAll_cons_mk (Below.trod laidOut (by kernel_rfl) (of_decide_eq_true (by kernel_rfl)) k2 bel lt2) trodAll_mk0))), rfl, bel.frame _, fun h => by cases h⟩
set_option maxRecDepth 100000 in
theorem lifted (os : Os) (started : os.Started) (H : Type) (enc : TypeId × Value → H) :
    ReturnsInHanded {} Try.checked os 8 .any (Rows.matchOwnSpec.pre6 enc Try.prog Try.f8 Rows.matchOwnRow.domain false) (Rows.matchOwnSpec.post enc Try.prog Try.f8 false true false false) := by
  refine returnsInHanded_of_change_sized (C := Try.checked) own started (by kernel_rfl) Try.func8
    (ChangeSpec.witness6 (enc := enc) (C := Try.checked) false ⟨#[], #[.slice none 0 0, .slice none 0 0, .slice none 0 0], []⟩ 8 (by kernel_rfl) (by kernel_rfl) (by kernel_rfl) (by kernel_rfl)) ?_
  intro W base args ds gs before hval0 hW hcnd hsz0 _
  exact core W base args ds gs before hval0 hW hsz0
theorem over : Rows.matchOwnRow.holds Try.pinned (OpenSpec.ofChange Rows.matchOwnSpec) :=
  OpenClaim.holds_of_wide 8 Try.f8 rfl rfl rfl rfl rfl rfl rfl ⟨rfl, rfl, rfl, rfl, rfl⟩ rfl rfl rfl rfl rfl (by kernel_rfl) Try.func8 (by kernel_rfl)
    (of_decide_eq_true (by kernel_rfl)) (by unfold Func.isWrapper; first | (rw [if_pos (by decide +kernel)]; kernel_rfl) | (rw [if_neg (by decide +kernel)]; exact ⟨rfl, rfl⟩))
    (fun os started H enc _ => lifted os started H enc)
theorem proved : Rows.MatchOwnSaid := over
end Go.Proofs.Ytlfhonekcmlomaa.matchOwn
namespace Go.Proofs.Ytlfhonekcmlomaa
/-- The row, under a short name, for the claim. -/
theorem matchOwn_holds : Rows.MatchOwnSaid := matchOwn.proved
#print axioms matchOwn_holds
end Go.Proofs.Ytlfhonekcmlomaa
