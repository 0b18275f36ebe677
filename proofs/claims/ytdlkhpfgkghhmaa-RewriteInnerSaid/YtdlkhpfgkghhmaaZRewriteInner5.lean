/- RewriteInner: the law answers true at every input that the given row speaks of. Conditions: those of the given row, none besides. (Part 6 of 6; written by programs of this session, which drive the kit's print, and by hand.) -/
import Derived.Test.YtdlkhpfgkghhmaaRows
import Derived.WalkKit
import Derived.ProofKit
import Derived.OpenShut
import Derived.ShutString
import Derived.ChangeOld
import Derived.Below
import Derived.Carry
import Derived.SizedLaws
import Derived.KernelRfl
import Derived.Test.YtdlkhpfgkghhmaaZRewriteInner4
set_option maxHeartbeats 8000000
set_option maxRecDepth 100000
set_option linter.unusedVariables false
set_option linter.unusedSimpArgs false
-- ==== PL7y
/- Plain laws of chapter 7: what Normal tells. -/
namespace Go.Proofs.Ytdlkhpfgkghhmaa.P
open Go.RowKit Go.Proofs.YtdlkhpfgkghhmaaW.PrintWords
/-! ### copies of states -/
theorem ev_clone1 (vals : List (List Cel)) (x : List Opn) (st : Int) (hd : List ByteArray) (hl : vals.length ≤ 5864062014804) (hs : ∀ a ∈ vals, a.length < 5864062014805) : ∀ (u : List (List Cel)) (i : Nat) (y : List (List Cel)), i ≤ vals.length → vals.drop i = u → y = vals.take i →
 Ev (fun k => rewrite_clone.l1 k vals (vals.length : Int) (i : Int) x y st hd) (x, vals, st, hd)
 | [], i, y, hi, hu, hy => by
  have h1 := drop_nil_len hi hu
  refine Ev.step (fun k => (show rewrite_clone.l1 (k + 1) vals (vals.length : Int) (i : Int) x y st hd = _ from by rw [rewrite_clone.l1])) ?_
  refine evIfn (by omega) ?_
  have : y = vals := by rw [hy, h1, List.take_length]
  rw [this]
  exact Ev.now _
 | a :: u, i, y, hi, hu, hy => by
  obtain ⟨h1, h2, h3⟩ := drop_cons hu
  refine Ev.step (fun k => (show rewrite_clone.l1 (k + 1) vals (vals.length : Int) (i : Int) x y st hd = _ from by rw [rewrite_clone.l1])) ?_
  refine evIfp (by omega) (evIfp (by omega) (evIfp (by omega) ?_))
  simp only [rd_trm hu, up_cast i (by omega)]
  have hm : a ∈ vals := List.mem_of_mem_drop (hu ▸ List.mem_cons_self ..)
  refine Ev.bind (evIs (cloneT_same a (hs a hm))) ?_
  have hyl : y.length = i := by rw [hy, List.length_take]; omega
  refine evIfp (by omega) ?_
  refine ev_clone1 vals x st hd hl hs u (i + 1) (y ++ [a]) (by omega) h3 ?_
  rw [hy, List.take_succ_eq_append_getElem h1]
  have := h2 a
  rw [List.getD_eq_getElem?_getD, List.getElem?_eq_getElem h1] at this
  rw [show vals[i] = a from this]
theorem ev_clone0 (ops : List Opn) (vals : List (List Cel)) (st : Int) (hd : List ByteArray) (hol : ops.length ≤ 2513169434915) (hos : ∀ o ∈ ops, o.f2.length < 5864062014805) (hl : vals.length ≤ 5864062014804) (hs : ∀ a ∈ vals, a.length < 5864062014805) : ∀ (u : List Opn) (i : Nat) (y : List Opn), i ≤ ops.length → ops.drop i = u → y = ops.take i →
 Ev (fun k => rewrite_clone.l0 k ops (ops.length : Int) (i : Int) ops vals st hd y st hd) (ops, vals, st, hd)
 | [], i, y, hi, hu, hy => by
  have h1 := drop_nil_len hi hu
  refine Ev.step (fun k => (show rewrite_clone.l0 (k + 1) ops (ops.length : Int) (i : Int) ops vals st hd y st hd = _ from by rw [rewrite_clone.l0])) ?_
  refine evIfn (by omega) ?_
  have : y = ops := by rw [hy, h1, List.take_length]
  rw [this]
  exact ev_clone1 vals ops st hd hl hs vals 0 [] (by omega) rfl rfl
 | a :: u, i, y, hi, hu, hy => by
  obtain ⟨h1, h2, h3⟩ := drop_cons hu
  refine Ev.step (fun k => (show rewrite_clone.l0 (k + 1) ops (ops.length : Int) (i : Int) ops vals st hd y st hd = _ from by rw [rewrite_clone.l0])) ?_
  refine evIfp (by omega) (evIfp (by omega) (evIfp (by omega) ?_))
  simp only [rd_opn hu, up_cast i (by omega)]
  have hm : a ∈ ops := List.mem_of_mem_drop (hu ▸ List.mem_cons_self ..)
  refine Ev.bind (evIs (cloneT_same a.f2 (hos a hm))) ?_
  have hyl : y.length = i := by rw [hy, List.length_take]; omega
  refine evIfp (by omega) ?_
  refine ev_clone0 ops vals st hd hol hos hl hs u (i + 1) (y ++ [a]) (by omega) h3 ?_
  rw [hy, List.take_succ_eq_append_getElem h1]
  have := h2 a
  rw [List.getD_eq_getElem?_getD, List.getElem?_eq_getElem h1] at this
  rw [show ops[i] = a from this]
theorem ev_clone (ops : List Opn) (vals : List (List Cel)) (st : Int) (hd : List ByteArray) (hol : ops.length ≤ 2513169434915) (hos : ∀ o ∈ ops, o.f2.length < 5864062014805) (hl : vals.length ≤ 5864062014804) (hs : ∀ a ∈ vals, a.length < 5864062014805) (hh : hd.length < 8796093022208) : Ev (fun k => rewrite_clone.f k ops vals st hd) (ops, vals, st, hd) := by
 unfold rewrite_clone.f
 exact Ev.bind (evIs (cloneS_same hd hh)) (ev_clone0 ops vals st hd hol hos hl hs ops 0 [] (by omega) rfl rfl)
/-! ### the state that Start makes may be -/
theorem cnt_po {n : Nat} {l : List Cel} {o : List Opn} (h : Po (fun _ => []) n l o) : (∀ c ∈ l, Okc c ∧ kindS c.f0 ≠ 2) → ∀ (u : List Opn) (m : Int), 0 ≤ m → cntS (o ++ u) m = cntS u (m + n) := by
 induction h with
 | nil => intro _ u m _; simp
 | have_ hc _ _ => simp at hc
 | @make n c l1 l2 o1 o2 hc h1 h2 ih1 ih2 =>
  intro hp u m hm
  obtain ⟨hk, hk2⟩ := hp c (List.mem_cons_self ..)
  have har : ((ar c : Nat) : Int) = c.f1 := by unfold ar; have := hk.lo; omega
  have hkk : kindS c.f0 = 1 := by
   rcases kindS_cases c.f0 with e | e | e
   ·
    exact absurd e hk.kind
   ·
    exact e
   ·
    exact absurd e hk2
  have hmay : mayS ⟨1, c, []⟩ = true := by
   unfold mayS
   rw [if_pos rfl]
   simp only [hkk, decide_eq_true hk.lo, decide_eq_true hk.hi]
   rfl
  rw [List.append_assoc, ih1 (fun x hx => hp x (by simp [hx])) _ m hm]
  simp only [List.cons_append, cntS, hmay, Bool.true_and]
  rw [if_pos (by simp; omega), show m + ((ar c : Nat) : Int) + 1 - c.f1 = m + 1 by omega, ih2 (fun x hx => hp x (by simp [hx])) _ _ (by omega)]
  congr 1
  omega
theorem right_start {t : List Cel} (h : gndS t = true) {o : List Opn} (ho : Po (fun _ => []) 1 t o) : rightS o.reverse [] 0 [] = true := by
 obtain ⟨h1, h2⟩ := gndS_iff.1 h
 have h3 := (checkS_ok h1).2.1
 have := cnt_po ho (fun c hc => ⟨h3 c hc, h2 c hc⟩) [] 0 (Int.le_refl _)
 rw [List.append_nil] at this
 unfold rightS
 rw [List.reverse_reverse, show (([] : List (List Cel)).length : Int) = 0 from rfl, this]
 rfl
theorem po_vals {n : Nat} {l : List Cel} {o : List Opn} (h : Po (fun _ => []) n l o) : ∀ x ∈ o, x.f2.length < 5864062014805 := by
 induction h with
 | nil => intro x hx; cases hx
 | have_ hc _ _ => simp at hc
 | make _ _ _ ih1 ih2 =>
  intro x hx
  rcases List.mem_append.1 hx with hx | hx
  ·
   exact ih1 x hx
  ·
   rcases List.mem_cons.1 hx with rfl | hx
   ·
    simp
   ·
    exact ih2 x hx
/-! ### Normal -/
theorem ev_norm_tog {rules : List Rul} (hl : rules.length ≤ 1000) (h : ¬ togS rules = 0) (t : List Cel) (fu : Int) : Ev (fun k => normF k k rules t fu) ([], 0, togS rules) := by
 unfold normF
 exact Ev.bind (ev_tog rules (by omega)) (evIfn h (Ev.now _))
theorem ev_norm_gnd {rules : List Rul} (hl : rules.length ≤ 1000) (h : togS rules = 0) {t : List Cel} (ht : ¬ gndS t = true) (fu : Int) : Ev (fun k => normF k k rules t fu) ([], 0, if checkS t = 0 then 7 else checkS t) := by
 unfold normF
 refine Ev.bind (ev_tog rules (by omega)) (evIfp h (Ev.bind (ev_start_no ht) (evIfn ?_ (Ev.now _))))
 show ¬ (if checkS t = 0 then (7 : Int) else checkS t) = 0
 by_cases hc : checkS t = 0
 ·
  rw [if_pos hc]; decide
 ·
  rw [if_neg hc]; exact hc
theorem ev_run {rules : List Rul} (hl : rules.length ≤ 1000) (h : togS rules = 0) {t : List Cel} (ht : gndS t = true) {o : List Opn} (ho : Po (fun _ => []) 1 t o) {fu : Int} {R : Int × Mst} (hM : EvM rules ⟨o.reverse, [], 0, [], fu⟩ R) : Ev (fun k => runF k k rules o.reverse [] 0 [] fu) R := by
 have h64 := checkS_len (gndS_iff.1 ht).1
 have hol := po_len ho
 have hc := ev_chk o.reverse [] 0 [] (by simp; omega) (by simp)
 rw [if_pos (right_start ht ho)] at hc
 unfold runF
 refine Ev.bind (ev_tog rules (by omega)) (evIfp h (Ev.bind hc (evIfp rfl (Ev.bind (ev_clone o.reverse [] 0 [] (by simp; omega) (fun x hx => po_vals ho x (by simpa using hx)) (by simp) (by simp) (by simp)) ?_))))
 obtain ⟨K, hK⟩ := hM
 exact ⟨K, fun k hk => hK k k hk hk⟩
theorem ev_norm_err {rules : List Rul} (hl : rules.length ≤ 1000) (h : togS rules = 0) {t : List Cel} (ht : gndS t = true) {o : List Opn} (ho : Po (fun _ => []) 1 t o) {fu e : Int} {m : Mst} (he : e ≠ 0) (hM : EvM rules ⟨o.reverse, [], 0, [], fu⟩ (e, m)) : Ev (fun k => normF k k rules t fu) ([], 0, e) := by
 unfold normF
 refine Ev.bind (ev_tog rules (by omega)) (evIfp h (Ev.bind (ev_start_ok ht ho) (evIfp rfl (Ev.bind (ev_run hl h ht ho hM) (evIfn he (Ev.now _))))))
theorem ev_norm_ok {rules : List Rul} (hl : rules.length ≤ 1000) (h : togS rules = 0) {t : List Cel} (ht : gndS t = true) {o : List Opn} (ho : Po (fun _ => []) 1 t o) {fu st fu' : Int} {v : List Cel} {hd : List ByteArray} (hM : EvM rules ⟨o.reverse, [], 0, [], fu⟩ (0, ⟨[], [v], st, hd, fu'⟩)) : Ev (fun k => normF k k rules t fu) (v, st, 0) := by
 unfold normF
 refine Ev.bind (ev_tog rules (by omega)) (evIfp h (Ev.bind (ev_start_ok ht ho) (evIfp rfl (Ev.bind (ev_run hl h ht ho hM) (evIfp rfl (evIfp (by simp) (Ev.now _)))))))
theorem splitT_one {t : List Cel} (h : segN t 1 = some []) : splitT 1 t = [t] := by
 have := splitT_put (n := 0) (w := []) h
 rwa [List.append_nil] at this
theorem norm7 {rules : List Rul} (hl : rules.length ≤ 1000) (h : togS rules = 0) {t : List Cel} (ht : gndS t = true) (fu : Int) (hfu : fu ≤ 300) :
 (∃ (v : List Cel) (F' : Nat), F' ≤ fu.toNat ∧ Val7 rules v ∧ Ev (fun k => normF k k rules t fu) (v, ((fu.toNat - F' : Nat) : Int), 0) ∧ Ev (fun k => aumbryref07_Inner.f k rules t (fu.toNat : Int)) (v, (F' : Int), 0)) ∨
 (∃ e : Int, e ≠ 0 ∧ Ev (fun k => normF k k rules t fu) ([], 0, e) ∧ Ev (fun k => aumbryref07_Inner.f k rules t (fu.toNat : Int)) ([], 0, e)) := by
 obtain ⟨h1, h2⟩ := gndS_iff.1 ht
 obtain ⟨g1, g2, g3⟩ := checkS_ok h1
 obtain ⟨o, ho⟩ := gnd_po ht
 have hP : ∀ c ∈ t, Put7 rules (fun _ => []) c := fun c hc => ⟨g2 c hc, ⟨fun q => by simp at q, fun q => absurd q (h2 c hc)⟩, fun q => absurd q (h2 c hc)⟩
 have B := eval7 (rules := rules) (togS_ok h) hl fu.toNat (by omega) ho hP g1 (by rw [putL_none]; omega)
 unfold Both at B
 rw [putL_none, splitT_one g3] at B
 rcases B with ⟨vs, F', e1, e2, e3, e4, e5⟩ | ⟨e, e1, e2, e3⟩
 ·
  obtain ⟨v, rfl⟩ : ∃ v, vs = [v] := by
   cases vs with
   | nil => cases e2
   | cons a u => cases u with
    | nil => exact ⟨a, rfl⟩
    | cons b w => simp at e2
  cases e5 with
  | cons a b k =>
  cases k
  obtain ⟨hd', fu', i1, i2, i3⟩ := e4 [] [] 0 fu [] rfl (Int.le_refl _) (by simp; omega)
  have M := i3 _ (evM_done rfl)
  rw [List.nil_append, Int.zero_add, List.nil_append] at M
  exact .inl ⟨v, F', e1, e3 v (List.mem_singleton.2 rfl), ev_norm_ok hl h ht ho M, a⟩
 ·
  obtain ⟨m, hm⟩ := e2 [] [] 0 fu [] rfl (Int.le_refl _) (by simp; omega)
  rw [List.nil_append] at hm
  refine .inr ⟨e, e1, ev_norm_err hl h ht ho e1 hm, ?_⟩
  cases e3 with
  | here _ a => exact a
  | later _ _ k => cases k
theorem mx_nat (a : Int) : mx a 0 = (a.toNat : Int) := by unfold mx; split <;> omega
end Go.Proofs.Ytdlkhpfgkghhmaa.P

-- ==== PureRewriteInner
/- What Normal tells is the normal form by definition, and in as many steps: for all rules, terms and fuels that can be read as data, the law answers true. -/
namespace Go.Proofs.Ytdlkhpfgkghhmaa.Pure
open Go.RowKit Go.Proofs.Ytdlkhpfgkghhmaa.P Go.Proofs.YtdlkhpfgkghhmaaW.PrintWords
theorem RewriteInner : aumbrylaw07_RewriteInner.Pure := by
 intro rules t fu hs ht hf
 have htl := sz_len ht
 have hrl : rules.length ≤ 2513169434915 := by have := hs.1; omega
 have hrs : ∀ r ∈ rules, r.f1.length < 5864062014805 ∧ r.f2.length < 5864062014805 := fun r hr => ⟨sz_len (hs.2 r hr).2.1, sz_len (hs.2 r hr).2.2⟩
 refine Ev.rounds ?_
 unfold aumbrylaw07_RewriteInner.f
 refine Ev.bind aumbrylaw07_wakes.ev_true (evIfp rfl ?_)
 unfold aumbrylaw07_few.f
 by_cases hl : (rules.length : Int) ≤ 64
 case neg => exact Ev.bind (a := false) (by exact evIfn hl (Ev.now _)) (evIfn (by decide) (Ev.now _))
 by_cases h3 : fu ≤ 300
 case neg => exact Ev.bind (a := false) (by exact evIfp hl (by rw [decide_eq_false h3]; exact Ev.now _)) (evIfn (by decide) (Ev.now _))
 refine Ev.bind (a := true) (by exact evIfp hl (by rw [decide_eq_true h3]; exact Ev.now _)) (evIfp rfl ?_)
 refine Ev.bind (ev_rules rules hrl hrs) (Ev.bind (evIs (copy_at t htl)) ?_)
 by_cases h : togS rules = 0
 case neg =>
  refine Ev.bind (show Ev (fun k => rewrite_Normal.f k rules t fu) _ from ev_norm_tog (by omega) h t fu) (Ev.bind (ev_rtog rules hrl) (evIfn h (evIfp rfl (evIfp rfl ?_))))
  exact Ev.now _
 by_cases hg : gndS t = true
 case neg =>
  refine Ev.bind (show Ev (fun k => rewrite_Normal.f k rules t fu) _ from ev_norm_gnd (by omega) h hg fu) (Ev.bind (ev_rtog rules hrl) (evIfp h (Ev.bind (ev_rGround t) (evIfn hg (Ev.bind (ev_rStart_no hg) (evIfp rfl (evIfp rfl ?_)))))))
  exact Ev.now _
 rcases norm7 (by omega) h hg fu h3 with ⟨v, F', e1, e2, e3, e4⟩ | ⟨e, e1, e2, e3⟩
 ·
  refine Ev.bind (show Ev (fun k => rewrite_Normal.f k rules t fu) _ from e3) (Ev.bind (ev_rtog rules hrl) (evIfp h (Ev.bind (ev_rGround t) (evIfp hg ?_))))
  rw [mx_nat]
  refine Ev.bind e4 (evIfp rfl (evIfp rfl ?_))
  have := e2.len
  refine Ev.bind (ev_refSame4 v v (.inl (by omega))) (evIfp (decide_eq_true rfl) ?_)
  have hw : wrap64 ((fu.toNat : Int) - (F' : Int)) = ((fu.toNat - F' : Nat) : Int) := by rw [wrap_id (by omega) (by omega)]; omega
  show Ev (fun k => some (((fu.toNat - F' : Nat) : Int) == wrap64 ((fu.toNat : Int) - (F' : Int)))) true
  rw [hw, beq_self_eq_true]
  exact Ev.now _
 ·
  refine Ev.bind (show Ev (fun k => rewrite_Normal.f k rules t fu) _ from e2) (Ev.bind (ev_rtog rules hrl) (evIfp h (Ev.bind (ev_rGround t) (evIfp hg ?_))))
  rw [mx_nat]
  refine Ev.bind e3 (evIfn e1 (evIfp rfl (evIfp rfl ?_)))
  show Ev (fun k => some (e == e)) true
  rw [beq_self_eq_true]
  exact Ev.now _
end Go.Proofs.Ytdlkhpfgkghhmaa.Pure

-- ==== RowRewriteInner
namespace Go.Proofs.Ytdlkhpfgkghhmaa.rewriteInner
open Go.ChangeShapes Go.WideShapes Go.ChangeAt Go.RowKit Go.Proofs.YtdlkhpfgkghhmaaW.PrintWords Go.Proofs.Ytdlkhpfgkghhmaa.P Go.Proofs.Ytdlkhpfgkghhmaa.Open
open Go.ChangeMaps (open_string shut_string)
theorem own : ownKnob Try.prog.godebug = none := by kernel_rfl
theorem laidOut : laidOutB Try.prog = true := by kernel_rfl
set_option maxRecDepth 100000 in
theorem core {H : Type} {enc : TypeId × Value → H} (W : World) (base : Nat) (args : Array Value) (ds gs : List (DataW H)) (before : List MemPlace)
 (hval : ∀ (j : Nat) t v, Try.f6.params[j]? = some t → args[j]? = some v → Value.okWide Try.prog W .any base t v)
 (hW : DataW.Whole enc Try.prog Try.f6.params.toList Rows.rewriteInnerSpec.vars false W args.toList ds gs before)
 (hsz : (DataW.weightsEach Try.prog (Try.f6.params.toList ++ Rows.rewriteInnerSpec.plain.varTypes Try.prog) (ds ++ gs)).all (· ≤ reachBytes) = true)
 :
 Calls Try.prog 6 args W fun e W' => ∃ v, e = .returned v ∧ Rows.rewriteInnerSpec.post enc Try.prog Try.f6 false true false false W args v W' := by
 have hW' := hW
 obtain ⟨p, q, hA, hV, rfl, hfz, hnd⟩ := hW
 rw [Try.params6] at hA hval hsz
 obtain ⟨v0, vs0, d0, ds0, p0, q0, hargs, rfl, rfl, h0, r0⟩ := trodAll_cons hA
 obtain ⟨v1, vs1, d1, ds1, p1, q1, rfl, rfl, rfl, h1, r1⟩ := trodAll_cons r0
 obtain ⟨v2, vs2, d2, ds2, p2, q2, rfl, rfl, rfl, h2, r2⟩ := trodAll_cons r1
 obtain ⟨rfl, rfl, rfl⟩ := trodAll_nil r2
 obtain rfl : args = #[v0, v1, v2] := by cases args; simp_all
 obtain ⟨rfl, rfl⟩ := trodVars_none hV
 have k0 := h0
 obtain ⟨n0, hf0⟩ := h0
 obtain ⟨x0, hK0, hS0, hB0⟩ := op41.go hf0 (fun m hm => by have := List.all_eq_true.1 hsz m (DataW.weights_mem_each (j := 0) rfl rfl m hm); simpa using this)
 have lt0 : ∀ z ∈ p0, z.block < W.heap.size := by obtain ⟨m, hm⟩ := k0; exact DataW.trod_lt m _ _ _ hm
 obtain ⟨a0, len0, cap0, rfl⟩ := okWide_slice Try.underlying41 (hval 0 41 v0 rfl rfl)
 obtain ⟨A0, c0, hcs0, hc0, hr0⟩ := hK0
 have hcs0' : [(Value.slice a0 len0 cap0)] = [.slice A0 x0.length c0] := hcs0
 injection hcs0' with hcs0'
 injection hcs0' with ha0 hl0 hk0
 subst ha0 hl0 hk0
 have k1 := h1
 obtain ⟨n1, hf1⟩ := h1
 obtain ⟨x1, hK1, hS1, hB1⟩ := op23.go hf1 (fun m hm => by have := List.all_eq_true.1 hsz m (DataW.weights_mem_each (j := 1) rfl rfl m hm); simpa using this)
 have lt1 : ∀ z ∈ p1, z.block < W.heap.size := by obtain ⟨m, hm⟩ := k1; exact DataW.trod_lt m _ _ _ hm
 obtain ⟨a1, len1, cap1, rfl⟩ := okWide_slice Try.underlying23 (hval 1 23 v1 rfl rfl)
 obtain ⟨A1, c1, hcs1, hc1, hr1⟩ := hK1
 have hcs1' : [(Value.slice a1 len1 cap1)] = [.slice A1 x1.length c1] := hcs1
 injection hcs1' with hcs1'
 injection hcs1' with ha1 hl1 hk1
 subst ha1 hl1 hk1
 have k2 := h2
 obtain ⟨n2, hf2⟩ := h2
 obtain ⟨x2, hK2, hS2, hB2⟩ := op3.go hf2 (fun m hm => by have := List.all_eq_true.1 hsz m (DataW.weights_mem_each (j := 2) rfl rfl m hm); simpa using this)
 have lt2 : ∀ z ∈ p2, z.block < W.heap.size := by obtain ⟨m, hm⟩ := k2; exact DataW.trod_lt m _ _ _ hm
 obtain ⟨y2, rfl⟩ := okWide_int Try.underlying3 (hval 2 3 v2 rfl rfl)
 have hcs2' : [_] = [_] := hK2
 injection hcs2' with hcs2'
 injection hcs2' with _ hq2
 subst hq2
 obtain ⟨k, h⟩ := Pure.RewriteInner x0 x1 y2 hS0 hS1 hS2
 refine (aumbrylaw07_RewriteInner.calls k _ _ x0 _ _ x1 y2 true W hr0 hc0 hr1 hc1 h rfl).mono ?_
 rintro e W' ⟨rfl, hd⟩
 have bel : Below W.heap.size W W' := hd
 exact ⟨_, rfl, _, _, _, [], _, [], hW', trodAll_mk1 (shut_bool Try.underlying4 _), (trodAll_cons_mk (Below.trod laidOut (by kernel_rfl) (of_decide_eq_true (by kernel_rfl)) k0 bel lt0) (trodAll_cons_mk (Below.trod laidOut (by kernel_rfl) (of_decide_eq_true (by kernel_rfl)) k1 bel lt1) (trodAll_cons_mk (Below.trod laidOut (by kernel_rfl) (of_decide_eq_true (by kernel_rfl)) k2 bel lt2) trodAll_mk0))), rfl, bel.frame _, fun h => by cases h⟩
set_option maxRecDepth 100000 in
theorem lifted (os : Os) (started : os.Started) (H : Type) (enc : TypeId × Value → H) :
 ReturnsInHanded {} Try.checked os 6 .any (Rows.rewriteInnerSpec.pre6 enc Try.prog Try.f6 Rows.rewriteInnerRow.domain false) (Rows.rewriteInnerSpec.post enc Try.prog Try.f6 false true false false) := by
 refine returnsInHanded_of_change_sized (C := Try.checked) own started (by kernel_rfl) Try.func6
  (ChangeSpec.witness6 (enc := enc) (C := Try.checked) false ⟨#[], #[.slice none 0 0, .slice none 0 0, .int .i64 0], []⟩ 8 (by kernel_rfl) (by kernel_rfl) (by kernel_rfl) (by kernel_rfl)) ?_
 intro W base args ds gs before hval0 hW hcnd hsz0 _
 exact core W base args ds gs before hval0 hW hsz0
theorem over : Rows.rewriteInnerRow.holds Try.pinned (OpenSpec.ofChange Rows.rewriteInnerSpec) :=
 OpenClaim.holds_of_wide 6 Try.f6 rfl rfl rfl rfl rfl rfl rfl ⟨rfl, rfl, rfl, rfl, rfl⟩ rfl rfl rfl rfl rfl (by kernel_rfl) Try.func6 (by kernel_rfl)
  (of_decide_eq_true (by kernel_rfl)) (by unfold Func.isWrapper; first | (rw [if_pos (by decide +kernel)]; kernel_rfl) | (rw [if_neg (by decide +kernel)]; exact ⟨rfl, rfl⟩))
  (fun os started H enc _ => lifted os started H enc)
theorem proved : Rows.RewriteInnerSaid := over
end Go.Proofs.Ytdlkhpfgkghhmaa.rewriteInner
namespace Go.Proofs.Ytdlkhpfgkghhmaa
theorem rewriteInner_holds : Rows.RewriteInnerSaid := rewriteInner.proved
#print axioms rewriteInner_holds
end Go.Proofs.Ytdlkhpfgkghhmaa
