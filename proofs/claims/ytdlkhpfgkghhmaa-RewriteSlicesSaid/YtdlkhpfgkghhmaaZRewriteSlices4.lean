/- RewriteSlices: the law answers true at every input that the given row speaks of. Conditions: those of the given row, none besides. (Part 5 of 5; written by programs of this session, which drive the kit's print, and by hand.) -/
import Derived.Test.YtdlkhpfgkghhmaaRows
import Derived.WalkKit
import Derived.ProofKit
import Derived.OpenShut
import Derived.ShutString
import Derived.ChangeOld
import Derived.Below
import Derived.Carry
import Derived.SizedLaws
import Derived.KernelRfl
import Derived.Test.YtdlkhpfgkghhmaaZRewriteSlices3
set_option maxHeartbeats 8000000
set_option maxRecDepth 100000
set_option linter.unusedVariables false
set_option linter.unusedSimpArgs false
-- ==== PureRewriteSlices
/- A run in two slices comes to what one run with both fuels comes to; more fuel changes no answer but the lack of it (of up to 300 steps): for all rules, terms and fuels that can be read as data, the law answers true. -/
namespace Go.Proofs.Ytdlkhpfgkghhmaa.Pure
open Go.RowKit Go.Proofs.Ytdlkhpfgkghhmaa.P Go.Proofs.YtdlkhpfgkghhmaaW.PrintWords
theorem u8_rem (a : Int) (h : (Lit.int .u8 a).wf = true) : 0 ≤ IntKind.i64.wrap (a.tmod 150) ∧ IntKind.i64.wrap (a.tmod 150) ≤ 149 := by
 simp [Lit.wf, IntKind.min, IntKind.max, IntKind.signed, IntKind.bits] at h
 have e : a.tmod 150 = a % 150 := Int.tmod_eq_emod_of_nonneg h.1
 rw [e, IntWalk.i64_in _ (by omega)]
 omega
theorem RewriteSlices : aumbrylaw07_RewriteSlices.Pure := by
 intro rules t x hs ht hx
 have htl := sz_len ht
 have hrl : rules.length ≤ 2513169434915 := by have := hs.1; omega
 have hrs : ∀ r ∈ rules, r.f1.length < 5864062014805 ∧ r.f2.length < 5864062014805 := fun r hr => ⟨sz_len (hs.2 r hr).2.1, sz_len (hs.2 r hr).2.2⟩
 obtain ⟨hn0, hn1⟩ := u8_rem x.f0 hx.1
 obtain ⟨hm0, hm1⟩ := u8_rem x.f1 hx.2
 refine Ev.rounds ?_
 unfold aumbrylaw07_RewriteSlices.f lawSl
 generalize IntKind.i64.wrap (x.f0.tmod 150) = n at hn0 hn1 ⊢
 generalize IntKind.i64.wrap (x.f1.tmod 150) = m at hm0 hm1 ⊢
 refine Ev.bind aumbrylaw07_wakes.ev_true (evIfp rfl ?_)
 unfold aumbrylaw07_few.f
 by_cases hl : (rules.length : Int) ≤ 64
 case neg => exact Ev.bind (a := false) (by exact evIfn hl (Ev.now _)) (evIfn (by decide) (Ev.now _))
 refine Ev.bind (a := true) (by exact evIfp hl (Ev.now _)) (evIfp rfl ?_)
 refine Ev.bind (evIs (copy_at t htl)) ?_
 by_cases hg : gndS t = true
 case neg =>
  refine Ev.bind (show Ev (fun k => rewrite_Start.f k t) _ from ev_start_no hg) (evIfn ?_ (Ev.now _))
  show ¬ (if checkS t = 0 then (7 : Int) else checkS t) = 0
  by_cases hc : checkS t = 0
  ·
   rw [if_pos hc]; decide
  ·
   rw [if_neg hc]; exact hc
 obtain ⟨o, ho⟩ := gnd_po hg
 have hol := po_len ho
 have h64 := checkS_len (gndS_iff.1 hg).1
 have hrt := right_start hg ho
 have hov : ∀ z ∈ o.reverse, z.f2.length ≤ 64 := fun z hz => may_val (cnt_may _ _ _ (inv_of hrt).cnt z (by simpa using hz))
 have hoL : o.reverse.length ≤ 64 := by rw [List.length_reverse]; omega
 refine Ev.bind (show Ev (fun k => rewrite_Start.f k t) _ from ev_start_ok hg ho) (evIfp rfl (Ev.bind (ev_rtog rules hrl) ?_))
 by_cases h : togS rules = 0
 case neg => exact evIfn h (Ev.now _)
 refine evIfp h ?_
 unfold slcA
 refine Ev.bind (ev_rules rules hrl hrs) (Ev.bind (ev_copyF o.reverse [] 0 [] (by omega) (fun z hz => by have := hov z hz; omega) (by simp) (by simp) (by simp)) ?_)
 obtain ⟨e, X, r1, ok1, fin1, sz1⟩ := rn_ex (togS_ok h) (by omega) _ 5000 o.reverse [] 0 n [] (Nat.le_refl _) ⟨inv_of hrt, by simp, Int.le_refl _⟩ (by omega) (by omega) (by simp only [List.length_nil]; omega) (by omega)
 obtain ⟨f1, f2, f3, f4, f5, f6⟩ := rn_fu r1
 simp only at f1 f2 f3
 have g2 := f2 hn0
 have runS : ∀ {fu e' : Int} {Y : Mst}, Rn rules ⟨o.reverse, [], 0, [], fu⟩ e' Y → fu ≤ 1000 → Ev (fun k => rewrite_Run.f k rules o.reverse [] 0 [] fu) (Y.ops, Y.vals, Y.st, Y.hd, e') := fun hR hf => ev_runP h (by omega) hrt (by omega) hov (by simp) (by simp) (by simp) hR hf
 have runX : ∀ {fu e' : Int} {Y : Mst}, Rn rules (atF X fu) e' Y → fu ≤ 1000 → Ev (fun k => rewrite_Run.f k rules X.ops X.vals X.st X.hd fu) (Y.ops, Y.vals, Y.st, Y.hd, e') := fun hR hf => ev_runP h (by omega) (ok_right ok1) fin1.ol fin1.ov fin1.vl fin1.vv fin1.hl hR hf
 refine Ev.bind (runS r1 (by omega)) ?_
 unfold slcB
 by_cases c : e ≠ 0 ∧ e ≠ 14
 ·
  refine evIfp c ?_
  have r2 := rn_shift r1 c.2 m (by omega)
  have hw : IntKind.i64.wrap (n + m) = n + m := IntWalk.i64_in _ (by omega)
  rw [hw]
  refine Ev.bind (runS r2 (by omega)) ?_
  obtain ⟨K, hK⟩ := ev_self fin1 e
  exact ⟨K, fun k hk => if_pos ⟨rfl, hK k hk⟩⟩
 ·
  refine evIfn c ?_
  unfold slcC
  have hX := ev_chk X.ops X.vals X.st X.hd (by have := fin1.ol; omega) (by have := fin1.vl; omega)
  rw [if_pos (ok_right ok1)] at hX
  have hC := ev_copyF X.ops X.vals X.st X.hd (by have := fin1.ol; omega) (fun z hz => by have := fin1.ov z hz; omega) (by have := fin1.vl; omega) (fun z hz => by have := fin1.vv z hz; omega) (by have := fin1.hl; omega)
  have hw : IntKind.i64.wrap (X.st + m) = X.st + m := IntWalk.i64_in _ (by omega)
  refine Ev.bind hC (Ev.bind (show Ev (fun k => rewrite_Check.f k X.ops X.vals X.st X.hd) 0 from hX) (evIfp rfl ?_))
  have he : e = 0 ∨ e = 14 := by omega
  rcases he with rfl | rfl
  ·
   have r3 := rn_shift r1 (by decide) (m - X.fu) (by omega)
   refine Ev.bind (runX (Rn.done (atF X m) (f4 rfl)) (by omega)) (Ev.bind (a := (X.ops, X.vals, X.st, X.hd, (0 : Int))) ?_ ?_)
   ·
    show Ev (fun k => rewrite_Run.f k rules o.reverse [] 0 [] (IntKind.i64.wrap (X.st + m))) _
    rw [hw, show X.st + m = n + (m - X.fu) by omega]
    exact runS (Y := atF X (X.fu + (m - X.fu))) r3 (by omega)
   ·
    obtain ⟨K, hK⟩ := ev_self fin1 0
    exact ⟨K, fun k hk => (if_pos ⟨rfl, hK k hk⟩).trans ((if_neg (fun h => h rfl)).trans (if_pos ⟨by show X.st ≤ n; omega, rfl, rfl⟩))⟩
  ·
   obtain ⟨e2, Y, r2, ok2, fin2, sz2⟩ := rn_ex (togS_ok h) (by omega) _ 10000 X.ops X.vals X.st m X.hd (Nat.le_refl _) ⟨ok1.inv, ok1.kd, ok1.st0⟩ (by omega) (by omega) (by omega) (by omega)
   have r3 := rn_cont r1 rfl hn0 m e2 Y hm0 r2
   refine Ev.bind (runX r2 (by omega)) (Ev.bind (a := (Y.ops, Y.vals, Y.st, Y.hd, e2)) ?_ ?_)
   ·
    show Ev (fun k => rewrite_Run.f k rules o.reverse [] 0 [] (IntKind.i64.wrap (X.st + m))) _
    have := f6 rfl
    rw [hw, show X.st + m = n + m by omega]
    exact runS r3 (by omega)
   ·
    obtain ⟨K, hK⟩ := ev_self fin2 e2
    exact ⟨K, fun k hk => (if_pos ⟨rfl, hK k hk⟩).trans (if_pos (show (14 : Int) ≠ 0 by decide))⟩
end Go.Proofs.Ytdlkhpfgkghhmaa.Pure

-- ==== RowRewriteSlices
namespace Go.Proofs.Ytdlkhpfgkghhmaa.rewriteSlices
open Go.ChangeShapes Go.WideShapes Go.ChangeAt Go.RowKit Go.Proofs.YtdlkhpfgkghhmaaW.PrintWords Go.Proofs.Ytdlkhpfgkghhmaa.P Go.Proofs.Ytdlkhpfgkghhmaa.Open
open Go.ChangeMaps (open_string shut_string)
theorem own : ownKnob Try.prog.godebug = none := by kernel_rfl
theorem laidOut : laidOutB Try.prog = true := by kernel_rfl
theorem core {H : Type} {enc : TypeId × Value → H} (W : World) (base : Nat) (args : Array Value) (ds gs : List (DataW H)) (before : List MemPlace)
 (hval : ∀ (j : Nat) t v, Try.f8.params[j]? = some t → args[j]? = some v → Value.okWide Try.prog W .any base t v)
 (hW : DataW.Whole enc Try.prog Try.f8.params.toList Rows.rewriteSlicesSpec.vars false W args.toList ds gs before)
 (hsz : (DataW.weightsEach Try.prog (Try.f8.params.toList ++ Rows.rewriteSlicesSpec.plain.varTypes Try.prog) (ds ++ gs)).all (· ≤ reachBytes) = true)
 :
 Calls Try.prog 8 args W fun e W' => ∃ v, e = .returned v ∧ Rows.rewriteSlicesSpec.post enc Try.prog Try.f8 false true false false W args v W' := by
 have hW' := hW
 obtain ⟨p, q, hA, hV, rfl, hfz, hnd⟩ := hW
 rw [Try.params8] at hA hval hsz
 obtain ⟨v0, vs0, d0, ds0, p0, q0, hargs, rfl, rfl, h0, r0⟩ := trodAll_cons hA
 obtain ⟨v1, vs1, d1, ds1, p1, q1, rfl, rfl, rfl, h1, r1⟩ := trodAll_cons r0
 obtain ⟨v2, vs2, d2, ds2, p2, q2, rfl, rfl, rfl, h2, r2⟩ := trodAll_cons r1
 obtain ⟨rfl, rfl, rfl⟩ := trodAll_nil r2
 obtain rfl : args = #[v0, v1, v2] := by cases args; simp_all
 obtain ⟨rfl, rfl⟩ := trodVars_none hV
 have k0 := h0
 obtain ⟨n0, hf0⟩ := h0
 obtain ⟨x0, hK0, hS0, hB0⟩ := op41.go hf0 (fun m hm => by have := List.all_eq_true.1 hsz m (DataW.weights_mem_each (j := 0) rfl rfl m hm); simpa using this)
 have lt0 : ∀ z ∈ p0, z.block < W.heap.size := by obtain ⟨m, hm⟩ := k0; exact DataW.trod_lt m _ _ _ hm
 obtain ⟨a0, len0, cap0, rfl⟩ := okWide_slice Try.underlying41 (hval 0 41 v0 rfl rfl)
 obtain ⟨A0, c0, hcs0, hc0, hr0⟩ := hK0
 have hcs0' : [(Value.slice a0 len0 cap0)] = [.slice A0 x0.length c0] := hcs0
 injection hcs0' with hcs0'
 injection hcs0' with ha0 hl0 hk0
 subst ha0 hl0 hk0
 have k1 := h1
 obtain ⟨n1, hf1⟩ := h1
 obtain ⟨x1, hK1, hS1, hB1⟩ := op23.go hf1 (fun m hm => by have := List.all_eq_true.1 hsz m (DataW.weights_mem_each (j := 1) rfl rfl m hm); simpa using this)
 have lt1 : ∀ z ∈ p1, z.block < W.heap.size := by obtain ⟨m, hm⟩ := k1; exact DataW.trod_lt m _ _ _ hm
 obtain ⟨a1, len1, cap1, rfl⟩ := okWide_slice Try.underlying23 (hval 1 23 v1 rfl rfl)
 obtain ⟨A1, c1, hcs1, hc1, hr1⟩ := hK1
 have hcs1' : [(Value.slice a1 len1 cap1)] = [.slice A1 x1.length c1] := hcs1
 injection hcs1' with hcs1'
 injection hcs1' with ha1 hl1 hk1
 subst ha1 hl1 hk1
 have k2 := h2
 obtain ⟨n2, hf2⟩ := h2
 obtain ⟨x2, hK2, hS2, hB2⟩ := op66.go hf2 (fun m hm => by have := List.all_eq_true.1 hsz m (DataW.weights_mem_each (j := 2) rfl rfl m hm); simpa using this)
 have lt2 : ∀ z ∈ p2, z.block < W.heap.size := by obtain ⟨m, hm⟩ := k2; exact DataW.trod_lt m _ _ _ hm
 obtain ⟨cs2, rfl, hz2⟩ := okWide_array Try.underlying66 (hval 2 66 v2 rfl rfl)
 have hcs2 := k66_open hK2
 have hcs2' : cs2.toList = _ := hcs2
 obtain rfl : cs2 = #[.int .u8 ((x2).f0), .int .u8 ((x2).f1)] := by apply Array.toList_inj.1; exact hcs2'
 obtain ⟨k, h⟩ := Pure.RewriteSlices x0 x1 x2 hS0 hS1 hS2
 refine (aumbrylaw07_RewriteSlices.calls k _ _ x0 _ _ x1 (x2).f0 (x2).f1 true W hr0 hc0 hr1 hc1 h rfl).mono ?_
 rintro e W' ⟨rfl, hd⟩
 have bel : Below W.heap.size W W' := hd
 exact ⟨_, rfl, _, _, _, [], _, [], hW', trodAll_mk1 (shut_bool Try.underlying4 _), (trodAll_cons_mk (Below.trod laidOut (by kernel_rfl) (of_decide_eq_true (by kernel_rfl)) k0 bel lt0) (trodAll_cons_mk (Below.trod laidOut (by kernel_rfl) (of_decide_eq_true (by kernel_rfl)) k1 bel lt1) (trodAll_cons_mk (Below.trod laidOut (by kernel_rfl) (of_decide_eq_true (by kernel_rfl)) k2 bel lt2) trodAll_mk0))), rfl, bel.frame _, fun h => by cases h⟩
theorem lifted (os : Os) (started : os.Started) (H : Type) (enc : TypeId × Value → H) :
 ReturnsInHanded {} Try.checked os 8 .any (Rows.rewriteSlicesSpec.pre6 enc Try.prog Try.f8 Rows.rewriteSlicesRow.domain false) (Rows.rewriteSlicesSpec.post enc Try.prog Try.f8 false true false false) := by
 refine returnsInHanded_of_change_sized (C := Try.checked) own started (by kernel_rfl) Try.func8
  (ChangeSpec.witness6 (enc := enc) (C := Try.checked) false ⟨#[], #[.slice none 0 0, .slice none 0 0, .agg #[.int .u8 0, .int .u8 0]], []⟩ 8 (by kernel_rfl) (by kernel_rfl) (by kernel_rfl) (by kernel_rfl)) ?_
 intro W base args ds gs before hval0 hW hcnd hsz0 _
 exact core W base args ds gs before hval0 hW hsz0
theorem over : Rows.rewriteSlicesRow.holds Try.pinned (OpenSpec.ofChange Rows.rewriteSlicesSpec) :=
 OpenClaim.holds_of_wide 8 Try.f8 rfl rfl rfl rfl rfl rfl rfl ⟨rfl, rfl, rfl, rfl, rfl⟩ rfl rfl rfl rfl rfl (by kernel_rfl) Try.func8 (by kernel_rfl)
  (of_decide_eq_true (by kernel_rfl)) (by unfold Func.isWrapper; first | (rw [if_pos (by decide +kernel)]; kernel_rfl) | (rw [if_neg (by decide +kernel)]; exact ⟨rfl, rfl⟩))
  (fun os started H enc _ => lifted os started H enc)
theorem proved : Rows.RewriteSlicesSaid := over
end Go.Proofs.Ytdlkhpfgkghhmaa.rewriteSlices
namespace Go.Proofs.Ytdlkhpfgkghhmaa
theorem rewriteSlices_holds : Rows.RewriteSlicesSaid := rewriteSlices.proved
#print axioms rewriteSlices_holds
end Go.Proofs.Ytdlkhpfgkghhmaa
