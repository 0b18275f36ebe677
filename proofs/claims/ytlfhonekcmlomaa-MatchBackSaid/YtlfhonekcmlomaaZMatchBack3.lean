/- MatchBack: the law answers true at every input that the given row speaks of. Conditions: those of the given row, none besides. (Part 4 of 4; written by programs of this session, which drive the kit's print, and by hand.) -/
import Derived.Test.YtlfhonekcmlomaaRows
import Derived.WalkKit
import Derived.ProofKit
import Derived.OpenShut
import Derived.ShutString
import Derived.ChangeOld
import Derived.Below
import Derived.Carry
import Derived.SizedLaws
import Derived.KernelRfl
import Derived.Test.YtlfhonekcmlomaaZMatchBack2
-- ==== PLg
/- Plain laws, part g: filling what a match tells gives the term; what is filled is matched; a term matches itself. -/
namespace Go.Proofs.Ytlfhonekcmlomaa.P
open Go.RowKit Go.Proofs.YtlfhonekcmlomaaW.PrintWords
set_option linter.unusedVariables false
set_option linter.unusedSimpArgs false

/-- What one list of binds tells the other tells too. -/
def Ext (a b : List Bnd) : Prop := ∀ s v, lookB a s = some v → lookB b s = some v
theorem Ext.refl (a : List Bnd) : Ext a a := fun _ _ h => h
theorem Ext.trans {a b c : List Bnd} (h : Ext a b) (g : Ext b c) : Ext a c := fun s v e => g s v (h s v e)
theorem ext_snoc (a : List Bnd) (b : Bnd) : Ext a (a ++ [b]) := fun s v e => by rw [lookB_snoc, e]
theorem lookB_last {a : List Bnd} {s : ByteArray} {v : List Cel} (h : lookB a s = none) : lookB (a ++ [⟨s, v⟩]) s = some v := by rw [lookB_snoc, h]; simp
theorem mat_var {c : Cel} {p t r : List Cel} {out : List Bnd} (hv : kindS c.f0 = 2) (hr : segN t 1 = some r) : mat (c :: p) t out = (match lookB out c.f0 with | none => mat p r (out ++ [⟨c.f0, fstT t r⟩]) | some v => if v = fstT t r then mat p r out else none) := by
  show (if kindS c.f0 = 2 then _ else _) = _
  rw [if_pos hv, hr]
  rfl
theorem mat_var_none {c : Cel} {p t : List Cel} {out : List Bnd} (hv : kindS c.f0 = 2) (hr : segN t 1 = none) : mat (c :: p) t out = none := by
  show (if kindS c.f0 = 2 then _ else _) = _
  rw [if_pos hv, hr]
theorem mat_sym {c d : Cel} {p t : List Cel} {out : List Bnd} (hv : ¬ kindS c.f0 = 2) : mat (c :: p) (d :: t) out = if d = c then mat p t out else none := by
  show (if kindS c.f0 = 2 then _ else _) = _
  rw [if_neg hv]
theorem mat_sym_nil {c : Cel} {p : List Cel} {out : List Bnd} (hv : ¬ kindS c.f0 = 2) : mat (c :: p) [] out = none := by
  show (if kindS c.f0 = 2 then _ else _) = _
  rw [if_neg hv]

/-- What the binds of a match are: each stays; the pattern, filled by them (or by more), is what was matched. -/
theorem mat_put : ∀ (p t : List Cel) (out o : List Bnd) (r : List Cel), mat p t out = some (o, r) → Ext out o ∧ ∀ l, Ext o l → ∃ s, putS p l = some s ∧ t = s ++ r
  | [], t, out, o, r, h => by
    have h' : some (out, t) = some (o, r) := h
    injection h' with h'
    injection h' with h1 h2
    subst h1 h2
    exact ⟨Ext.refl _, fun l _ => ⟨[], rfl, rfl⟩⟩
  | c :: p, t, out, o, r, h => by
    by_cases hv : kindS c.f0 = 2
    · cases hq : segN t 1 with
      | none => rw [mat_var_none hv hq] at h; cases h
      | some q =>
        rw [mat_var hv hq] at h
        have hf := (segN_fst hq).1
        cases hl : lookB out c.f0 with
        | none =>
          rw [hl] at h
          obtain ⟨h1, h2⟩ := mat_put p q _ o r h
          refine ⟨(ext_snoc _ _).trans h1, fun l hl2 => ?_⟩
          obtain ⟨s, hs1, hs2⟩ := h2 l hl2
          have := hl2 _ _ (h1 _ _ (lookB_last (v := fstT t q) hl))
          refine ⟨fstT t q ++ s, by simp only [putS, hv, if_true, this, hs1, Option.map_some], ?_⟩
          rw [List.append_assoc, ← hs2]
          exact hf
        | some v =>
          rw [hl] at h
          simp only at h
          by_cases he : v = fstT t q
          · rw [if_pos he] at h
            obtain ⟨h1, h2⟩ := mat_put p q _ o r h
            refine ⟨h1, fun l hl2 => ?_⟩
            obtain ⟨s, hs1, hs2⟩ := h2 l hl2
            have := hl2 _ _ (h1 _ _ hl)
            refine ⟨v ++ s, by simp only [putS, hv, if_true, this, hs1, Option.map_some], ?_⟩
            rw [List.append_assoc, ← hs2, he]
            exact hf
          · rw [if_neg he] at h
            cases h
    · rcases t with _ | ⟨d, t⟩
      · rw [mat_sym_nil hv] at h; cases h
      · rw [mat_sym hv] at h
        by_cases he : d = c
        · rw [if_pos he] at h
          obtain ⟨h1, h2⟩ := mat_put p t _ o r h
          refine ⟨h1, fun l hl2 => ?_⟩
          obtain ⟨s, hs1, hs2⟩ := h2 l hl2
          refine ⟨c :: s, by simp only [putS, hv, if_false, hs1, Option.map_some], ?_⟩
          rw [he, hs2]
          rfl
        · rw [if_neg he] at h; cases h

/-! ### the binds of a match are right -/
theorem cellErr_okc {c : Cel} (h : Okc c) : cellErr c = 0 := by
  unfold cellErr
  have h1 := h.lo
  have h2 := h.hi
  rw [if_neg h.kind, if_neg (by omega), if_neg (by omega)]
  by_cases hk : kindS c.f0 = 2
  · rw [if_pos hk, if_neg (by have := h.var hk; omega)]
  · rw [if_neg hk]
theorem ok_errs : ∀ {l : List Cel}, (∀ c ∈ l, Okc c) → errs l = 0
  | [], _ => rfl
  | a :: l, h => by
    unfold errs
    rw [if_pos (cellErr_okc (h a (List.mem_cons_self ..)))]
    exact ok_errs fun c hc => h c (List.mem_cons_of_mem _ hc)
theorem checkS_of {t : List Cel} (h1 : t.length ≤ 64) (h2 : ∀ c ∈ t, Okc c) (h3 : segN t 1 = some []) : checkS t = 0 := by
  unfold checkS
  rw [if_neg (by omega), if_pos (ok_errs h2), if_pos h3]
theorem bErr_snoc : ∀ (u seen : List Bnd) (b : Bnd), bErr seen u = 0 → kindS b.f0 = 2 → lookB (seen ++ u) b.f0 = none → checkS b.f1 = 0 → bErr seen (u ++ [b]) = 0
  | [], seen, b, h, hk, hl, hc => by
    rw [List.append_nil] at hl
    show bErr seen [b] = 0
    unfold bErr
    rw [if_pos hk, if_neg (by rw [hl]; simp), if_pos hc]
    rfl
  | a :: u, seen, b, h, hk, hl, hc => by
    show bErr seen (a :: (u ++ [b])) = 0
    unfold bErr at h ⊢
    by_cases h1 : kindS a.f0 = 2
    · rw [if_pos h1] at h ⊢
      by_cases h2 : (lookB seen a.f0).isSome = true
      · rw [if_pos h2] at h; cases h
      · rw [if_neg h2] at h ⊢
        by_cases h3 : checkS a.f1 = 0
        · rw [if_pos h3] at h ⊢
          exact bErr_snoc u (seen ++ [a]) b h hk (by simpa using hl) hc
        · rw [if_neg h3] at h
          exact absurd h h3
    · rw [if_neg h1] at h; cases h
theorem mem_fstT {t r : List Cel} {c : Cel} (h : c ∈ fstT t r) : c ∈ t := List.mem_of_mem_take h
theorem mat_right : ∀ (p t : List Cel) (out o : List Bnd) (r : List Cel), mat p t out = some (o, r) → t.length ≤ 64 → (∀ c ∈ t, Okc c) → bErr [] out = 0 → bErr [] o = 0
  | [], t, out, o, r, h, ht, hok, hb => by
    have h' : some (out, t) = some (o, r) := h
    injection h' with h'
    injection h' with h1 h2
    rw [← h1]
    exact hb
  | c :: p, t, out, o, r, h, ht, hok, hb => by
    by_cases hv : kindS c.f0 = 2
    · cases hq : segN t 1 with
      | none => rw [mat_var_none hv hq] at h; cases h
      | some q =>
        rw [mat_var hv hq] at h
        have hf := segN_fst hq
        have hql := segN_len hq
        have hqo : ∀ c ∈ q, Okc c := fun c hc => hok c (by rw [hf.1]; exact List.mem_append_right _ hc)
        cases hl : lookB out c.f0 with
        | none =>
          rw [hl] at h
          refine mat_right p q _ o r h (by omega) hqo (bErr_snoc out [] _ hb hv (by simpa using hl) ?_)
          exact checkS_of (by unfold fstT; rw [List.length_take]; omega) (fun c hc => hok c (mem_fstT hc)) hf.2
        | some v =>
          rw [hl] at h
          simp only at h
          by_cases he : v = fstT t q
          · rw [if_pos he] at h
            exact mat_right p q _ o r h (by omega) hqo hb
          · rw [if_neg he] at h
            cases h
    · rcases t with _ | ⟨d, t⟩
      · rw [mat_sym_nil hv] at h; cases h
      · rw [mat_sym hv] at h
        by_cases he : d = c
        · rw [if_pos he] at h
          simp only [List.length_cons] at ht
          exact mat_right p t _ o r h (by omega) (fun c hc => hok c (List.mem_cons_of_mem _ hc)) hb
        · rw [if_neg he] at h; cases h
theorem lookB_none (l : List Bnd) (s : ByteArray) : lookB l s = none ↔ s ∉ l.map (·.f0) := by
  unfold lookB
  rw [Option.map_eq_none_iff, List.find?_eq_none]
  simp
theorem mat_names : ∀ (p t : List Cel) (out o : List Bnd) (r : List Cel), mat p t out = some (o, r) → o.map (·.f0) = varsS p (out.map (·.f0))
  | [], t, out, o, r, h => by
    have h' : some (out, t) = some (o, r) := h
    injection h' with h'
    injection h' with h1 h2
    rw [← h1]
    rfl
  | c :: p, t, out, o, r, h => by
    by_cases hv : kindS c.f0 = 2
    · cases hq : segN t 1 with
      | none => rw [mat_var_none hv hq] at h; cases h
      | some q =>
        rw [mat_var hv hq] at h
        simp only [varsS, hv, if_true]
        cases hl : lookB out c.f0 with
        | none =>
          rw [hl] at h
          rw [if_neg ((lookB_none _ _).1 hl)]
          have := mat_names p q _ o r h
          simpa using this
        | some v =>
          rw [hl] at h
          simp only at h
          have hm : c.f0 ∈ out.map (·.f0) := by
            by_cases hx : c.f0 ∈ out.map (·.f0)
            · exact hx
            · rw [(lookB_none _ _).2 hx] at hl; cases hl
          rw [if_pos hm]
          by_cases he : v = fstT t q
          · rw [if_pos he] at h
            exact mat_names p q _ o r h
          · rw [if_neg he] at h
            cases h
    · simp only [varsS, hv, if_false]
      rcases t with _ | ⟨d, t⟩
      · rw [mat_sym_nil hv] at h; cases h
      · rw [mat_sym hv] at h
        by_cases he : d = c
        · rw [if_pos he] at h
          exact mat_names p t _ o r h
        · rw [if_neg he] at h; cases h

/-! ### what is filled is matched -/
theorem fstT_append (v w : List Cel) : fstT (v ++ w) w = v := by
  unfold fstT
  rw [List.length_append, show v.length + w.length - w.length = v.length by omega, List.take_left']
  rfl
/-- Binds whose values are terms. -/
def Vals (l : List Bnd) : Prop := ∀ s v, lookB l s = some v → segN v 1 = some []
theorem mat_of_put : ∀ (p : List Cel) (l : List Bnd) (s r : List Cel) (out : List Bnd), putS p l = some s → (∀ c ∈ p, kindS c.f0 = 2 → ∀ v, lookB l c.f0 = some v → segN v 1 = some []) → Ext out l → ∃ o, mat p (s ++ r) out = some (o, r) ∧ Ext o l
  | [], l, s, r, out, h, hv, he => by
    injection h with h
    subst h
    exact ⟨out, rfl, he⟩
  | c :: p, l, s, r, out, h, hv, he => by
    simp only [putS] at h
    by_cases hk : kindS c.f0 = 2
    · rw [if_pos hk] at h
      cases hl : lookB l c.f0 with
      | none => rw [hl] at h; cases h
      | some v =>
        rw [hl] at h
        simp only at h
        obtain ⟨s2, h2, rfl⟩ := Option.map_eq_some_iff.1 h
        have hq : segN (v ++ s2 ++ r) 1 = some (s2 ++ r) := by
          have := segN_append (s2 ++ r) (hv c (List.mem_cons_self ..) hk v hl)
          rw [List.append_assoc]
          simpa using this
        have hf : fstT (v ++ s2 ++ r) (s2 ++ r) = v := by rw [List.append_assoc]; exact fstT_append _ _
        rw [mat_var hk hq, hf]
        cases ho : lookB out c.f0 with
        | none =>
          simp only
          exact mat_of_put p l s2 r _ h2 (fun c h => hv c (List.mem_cons_of_mem _ h)) (fun x y hxy => by
            rw [lookB_snoc] at hxy
            cases hx : lookB out x with
            | none =>
              rw [hx] at hxy
              simp only at hxy
              by_cases hcx : c.f0 = x
              · rw [if_pos hcx] at hxy
                injection hxy with hxy
                rw [← hcx, ← hxy]
                exact hl
              · rw [if_neg hcx] at hxy; cases hxy
            | some z =>
              rw [hx] at hxy
              simp only at hxy
              rw [← hxy]
              exact he _ _ hx)
        | some w =>
          have : w = v := by have := he _ _ ho; rw [hl] at this; injection this with this; exact this.symm
          simp only [this, if_true]
          exact mat_of_put p l s2 r _ h2 (fun c h => hv c (List.mem_cons_of_mem _ h)) he
    · rw [if_neg hk] at h
      obtain ⟨s2, h2, rfl⟩ := Option.map_eq_some_iff.1 h
      rw [List.cons_append, mat_sym hk, if_pos rfl]
      exact mat_of_put p l s2 r _ h2 (fun c h => hv c (List.mem_cons_of_mem _ h)) he
/-! ### the three laws -/
theorem matchS_ok {p t : List Cel} (h : (matchS p t).2.1 = true) : checkS p = 0 ∧ checkS t = 0 ∧ ∃ o r, mat p t [] = some (o, r) ∧ matchS p t = (o, true, 0) := by
  unfold matchS at h ⊢
  by_cases hp : checkS p = 0
  · rw [if_pos hp] at h ⊢
    by_cases ht : checkS t = 0
    · rw [if_pos ht] at h ⊢
      cases hm : mat p t [] with
      | none => rw [hm] at h; cases h
      | some x => exact ⟨hp, ht, x.1, x.2, rfl, rfl⟩
    · rw [if_neg ht] at h; cases h
  · rw [if_neg hp] at h; cases h
theorem matchS_of {p t : List Cel} (hp : checkS p = 0) (ht : checkS t = 0) {o : List Bnd} {r : List Cel} (hm : mat p t [] = some (o, r)) : matchS p t = (o, true, 0) := by
  unfold matchS
  rw [if_pos hp, if_pos ht, hm]
  rfl
theorem matchS_no {p t : List Cel} (h : ¬ (matchS p t).2.1 = true) : (matchS p t).1 = [] := by
  unfold matchS at h ⊢
  by_cases hp : checkS p = 0
  · rw [if_pos hp] at h ⊢
    by_cases ht : checkS t = 0
    · rw [if_pos ht] at h ⊢
      cases hm : mat p t [] with
      | none => rfl
      | some x => rw [hm] at h; exact absurd rfl h
    · rw [if_neg ht]
  · rw [if_neg hp]
theorem matchS_err {p t : List Cel} (h : ¬ (matchS p t).2.2 = 0) : (matchS p t).1 = [] ∧ (matchS p t).2.1 = false := by
  have hn : ¬ (matchS p t).2.1 = true := fun g => by
    obtain ⟨_, _, o, r, _, h5⟩ := matchS_ok g
    rw [h5] at h
    exact h rfl
  exact ⟨matchS_no hn, by simpa using hn⟩
theorem ext_nil (l : List Bnd) : Ext [] l := fun s v h => by cases h
theorem mat_whole {p t : List Cel} {out o : List Bnd} {r : List Cel} (hp : ∀ c ∈ p, Okc c) (h1 : segN p 1 = some []) (h2 : segN t 1 = some []) (h : mat p t out = some (o, r)) : r = [] := by
  have := mat_append p t 1 out [] [] hp h1 h2
  rw [List.append_nil, List.append_nil, h] at this
  simp only [Option.bind_some, mat] at this
  injection this with this
  injection this with _ this
/-- What a match tells makes the pattern to the term. -/
theorem fill_match {p t : List Cel} (h : (matchS p t).2.1 = true) : fillS p (matchS p t).1 = (t, 0) ∧ (matchS p t).2.2 = 0 ∧ (matchS p t).1.length = (varsS p []).length := by
  obtain ⟨hp, ht, o, r, hm, he⟩ := matchS_ok h
  obtain ⟨p1, p2, p3⟩ := checkS_ok hp
  obtain ⟨t1, t2, t3⟩ := checkS_ok ht
  have hr := mat_whole p2 p3 t3 hm
  subst hr
  obtain ⟨s, hs1, hs2⟩ := (mat_put p t [] o [] hm).2 o (Ext.refl o)
  rw [List.append_nil] at hs2
  subst hs2
  rw [he]
  refine ⟨?_, rfl, ?_⟩
  · unfold fillS
    rw [if_pos hp, if_pos (mat_right p t [] o [] hm t1 t2 rfl), hs1]
    unfold putR
    simp only
    rw [if_neg (by omega)]
  · have := congrArg List.length (mat_names p t [] o [] hm)
    simpa using this
/-- Each variable, bound to itself. -/
def selfB (t : List Cel) : List Bnd := (t.filter fun c => decide (kindS c.f0 = 2)).map fun c => ⟨c.f0, [c]⟩
theorem lookB_self (t : List Cel) (hok : ∀ c ∈ t, Okc c) (c : Cel) (hc : c ∈ t) (hk : kindS c.f0 = 2) : lookB (selfB t) c.f0 = some [c] := by
  cases hl : lookB (selfB t) c.f0 with
  | none =>
    have := (lookB_none _ _).1 hl
    have hx : (⟨c.f0, [c]⟩ : Bnd) ∈ selfB t := by
      unfold selfB
      exact List.mem_map.2 ⟨c, List.mem_filter.2 ⟨hc, by simpa using hk⟩, rfl⟩
    exact absurd (List.mem_map.2 ⟨_, hx, rfl⟩) this
  | some v =>
    obtain ⟨b, hb, h1, h2⟩ := lookB_mem hl
    obtain ⟨d, hd, rfl⟩ := List.mem_map.1 hb
    obtain ⟨hd1, hd2⟩ := List.mem_filter.1 hd
    have hd2 : kindS d.f0 = 2 := by simpa using hd2
    have g1 := (hok d hd1).var hd2
    have g2 := (hok c hc).var hk
    have : d = c := by
      cases d; cases c
      simp only at h1 g1 g2
      rw [h1, g1, g2]
    rw [← h2, this]
theorem vals_self (t : List Cel) (hok : ∀ c ∈ t, Okc c) : Vals (selfB t) := fun s v hl => by
  obtain ⟨b, hb, h1, h2⟩ := lookB_mem hl
  obtain ⟨d, hd, rfl⟩ := List.mem_map.1 hb
  obtain ⟨hd1, hd2⟩ := List.mem_filter.1 hd
  have g1 := (hok d hd1).var (by simpa using hd2)
  rw [← h2]
  show segN [] (0 + ar d) = some []
  have : ar d = 0 := by unfold ar; rw [g1]; rfl
  rw [this]
  rfl
theorem putS_self (t : List Cel) (hok : ∀ c ∈ t, Okc c) : ∀ (s : List Cel), (∀ c ∈ s, c ∈ t) → putS s (selfB t) = some s
  | [], _ => rfl
  | c :: s, h => by
    have ih := putS_self t hok s fun c hc => h c (List.mem_cons_of_mem _ hc)
    simp only [putS]
    by_cases hk : kindS c.f0 = 2
    · rw [if_pos hk, lookB_self t hok c (h c (List.mem_cons_self ..)) hk]
      simp only [ih, Option.map_some, List.singleton_append]
    · rw [if_neg hk, ih]
      rfl
theorem match_self {t : List Cel} (h : checkS t = 0) : (matchS t t).2.1 = true := by
  obtain ⟨t1, t2, t3⟩ := checkS_ok h
  obtain ⟨o, ho, _⟩ := mat_of_put t (selfB t) t [] [] (putS_self t t2 t fun _ h => h) (fun c _ _ v h => vals_self t t2 _ v h) (ext_nil _)
  rw [List.append_nil] at ho
  rw [matchS_of h h ho]
end Go.Proofs.Ytlfhonekcmlomaa.P

-- ==== PureMatchBack
/- What is told makes the pattern to the term; each variable is told once; a term fits itself: for every pattern and term that can be read as data, the law answers true. -/
namespace Go.Proofs.Ytlfhonekcmlomaa.Pure
open Go.RowKit Go.Proofs.Ytlfhonekcmlomaa.P Go.Proofs.YtlfhonekcmlomaaW.PrintWords

theorem ev_back1 (t : List Cel) (h : checkS t = 0) (ht : t.length < 5864062014805) : Ev (fun k => aumbrylaw05_MatchBack.j1 k t false) true := by
  have hm := match_self h
  have hf := fill_match hm
  refine Ev.step (fun k => (show aumbrylaw05_MatchBack.j1 (k + 1) t false = _ from by rw [aumbrylaw05_MatchBack.j1])) ?_
  refine evIfn (by simp) ?_
  refine Ev.bind (evIs (own_at t ht)) (Ev.bind (evIs (own_at t ht)) ?_)
  refine Ev.bind (ev_match t t) ?_
  refine Ev.bind (evIs (own_at t ht)) ?_
  have hl := matchS_small t t
  refine Ev.bind (ev_fill t _ (by omega)) ?_
  rw [hf.1]
  refine evIfp hm (evIfp hf.2.1 (evIfp rfl ?_))
  refine Ev.bind (ev_refSame4 t t (.inl (by omega))) ?_
  simp only [decide_true]
  exact Ev.now _
theorem MatchBack : aumbrylaw05_MatchBack.Pure := by
  intro p t hp ht
  have hpl := sz_len hp
  have htl := sz_len ht
  refine Ev.rounds ?_
  unfold aumbrylaw05_MatchBack.f
  refine Ev.bind ev_wakes ?_
  refine evIfp rfl ?_
  refine Ev.bind (evIs (own_at p hpl)) (Ev.bind (evIs (own_at t htl)) ?_)
  refine Ev.bind (ev_match p t) ?_
  by_cases he : (matchS p t).2.2 = 0
  · refine evIfp he ?_
    by_cases hm : (matchS p t).2.1 = true
    · have hf := fill_match hm
      obtain ⟨cp, ct, _⟩ := matchS_ok hm
      obtain ⟨p1, p2, p3⟩ := checkS_ok cp
      have hl := matchS_small p t
      refine Ev.step (fun k => (show aumbrylaw05_MatchBack.j0 (k + 1) p t (matchS p t).1 (matchS p t).2.1 (!(matchS p t).2.1) = _ from by rw [aumbrylaw05_MatchBack.j0])) ?_
      refine evIfn (by simp [hm]) ?_
      refine Ev.bind (evIs (own_at p hpl)) ?_
      refine Ev.bind (ev_fill p _ (by omega)) ?_
      rw [hf.1]
      refine evIfp rfl ?_
      refine Ev.bind (ev_refSame4 t t (.inl (by omega))) ?_
      refine evIfp (by simp) ?_
      refine Ev.bind (ev_vars p (by omega)) ?_
      have : (((matchS p t).1.length : Int) != ((varsS p []).length : Int)) = false := by rw [hf.2.2]; simp
      rw [this]
      exact ev_back1 t ct htl
    · refine Ev.step (fun k => (show aumbrylaw05_MatchBack.j0 (k + 1) p t (matchS p t).1 (matchS p t).2.1 (!(matchS p t).2.1) = _ from by rw [aumbrylaw05_MatchBack.j0])) ?_
      refine evIfp (by simp [hm]) (evIfp (by rw [matchS_no hm]; rfl) ?_)
      have : (!(matchS p t).2.1) = true := by simp [hm]
      rw [this]
      exact Ev.now _
  · refine evIfn he ?_
    have hx := matchS_err he
    refine Ev.step (fun k => (show aumbrylaw05_MatchBack.j0 (k + 1) p t (matchS p t).1 (matchS p t).2.1 true = _ from by rw [aumbrylaw05_MatchBack.j0])) ?_
    refine evIfp rfl (evIfp (by rw [hx.1]; rfl) ?_)
    rw [hx.2]
    exact Ev.now _
end Go.Proofs.Ytlfhonekcmlomaa.Pure

-- ==== RowMatchBack
namespace Go.Proofs.Ytlfhonekcmlomaa.matchBack
open Go.ChangeShapes Go.WideShapes Go.ChangeAt Go.RowKit Go.Proofs.YtlfhonekcmlomaaW.PrintWords Go.Proofs.Ytlfhonekcmlomaa.P Go.Proofs.Ytlfhonekcmlomaa.Open
open Go.ChangeMaps (open_string shut_string)
set_option linter.unusedVariables false
theorem own : ownKnob Try.prog.godebug = none := by kernel_rfl
theorem laidOut : laidOutB Try.prog = true := by kernel_rfl
set_option maxRecDepth 100000 in
theorem core {H : Type} {enc : TypeId × Value → H} (W : World) (base : Nat) (args : Array Value) (ds gs : List (DataW H)) (before : List MemPlace)
    (hval : ∀ (j : Nat) t v, Try.f5.params[j]? = some t → args[j]? = some v → Value.okWide Try.prog W .any base t v)
    (hW : DataW.Whole enc Try.prog Try.f5.params.toList Rows.matchBackSpec.vars false W args.toList ds gs before)
    (hsz : (DataW.weightsEach Try.prog (Try.f5.params.toList ++ Rows.matchBackSpec.plain.varTypes Try.prog) (ds ++ gs)).all (· ≤ reachBytes) = true)
    :
    Calls Try.prog 5 args W fun e W' => ∃ v, e = .returned v ∧ Rows.matchBackSpec.post enc Try.prog Try.f5 false true false false W args v W' := by
  have hW' := hW
  obtain ⟨p, q, hA, hV, rfl, hfz, hnd⟩ := hW
  rw [Try.params5] at hA hval hsz
  obtain ⟨v0, vs0, d0, ds0, p0, q0, hargs, rfl, rfl, h0, r0⟩ := trodAll_cons hA
  obtain ⟨v1, vs1, d1, ds1, p1, q1, rfl, rfl, rfl, h1, r1⟩ := trodAll_cons r0
  obtain ⟨rfl, rfl, rfl⟩ := trodAll_nil r1
  obtain rfl : args = #[v0, v1] := by cases args; simp_all
  obtain ⟨rfl, rfl⟩ := trodVars_none hV
  have k0 := h0
  obtain ⟨n0, hf0⟩ := h0
  obtain ⟨x0, hK0, hS0, hB0⟩ := op23.go hf0 (fun m hm => by have := List.all_eq_true.1 hsz m (DataW.weights_mem_each (j := 0) rfl rfl m hm); simpa using this)
  have lt0 : ∀ z ∈ p0, z.block < W.heap.size := by obtain ⟨m, hm⟩ := k0; exact DataW.trod_lt m _ _ _ hm
  obtain ⟨a0, len0, cap0, rfl⟩ := okWide_slice Try.underlying23 (hval 0 23 v0 rfl rfl)
  obtain ⟨A0, c0, hcs0, hc0, hr0⟩ := hK0
  have hcs0' : [(Value.slice a0 len0 cap0)] = [.slice A0 x0.length c0] := hcs0
  injection hcs0' with hcs0'
  injection hcs0' with ha0 hl0 hk0
  subst ha0 hl0 hk0
  have k1 := h1
  obtain ⟨n1, hf1⟩ := h1
  obtain ⟨x1, hK1, hS1, hB1⟩ := op23.go hf1 (fun m hm => by have := List.all_eq_true.1 hsz m (DataW.weights_mem_each (j := 1) rfl rfl m hm); simpa using this)
  have lt1 : ∀ z ∈ p1, z.block < W.heap.size := by obtain ⟨m, hm⟩ := k1; exact DataW.trod_lt m _ _ _ hm
  obtain ⟨a1, len1, cap1, rfl⟩ := okWide_slice Try.underlying23 (hval 1 23 v1 rfl rfl)
  obtain ⟨A1, c1, hcs1, hc1, hr1⟩ := hK1
  have hcs1' : [(Value.slice a1 len1 cap1)] = [.slice A1 x1.length c1] := hcs1
  injection hcs1' with hcs1'
  injection hcs1' with ha1 hl1 hk1
  subst ha1 hl1 hk1
  obtain ⟨k, h⟩ := Pure.MatchBack x0 x1 hS0 hS1
  refine (aumbrylaw05_MatchBack.calls k _ _ x0 _ _ x1 true W hr0 hc0 hr1 hc1 h).mono ?_
  rintro e W' ⟨rfl, hd⟩
  have bel : Below W.heap.size W W' := hd
  exact ⟨_, rfl, _, _, _, [], _, [], hW', trodAll_mk1 (shut_bool Try.underlying4 _), (trodAll_cons_mk (Below.trod laidOut (by kernel_rfl) (of_decide_eq_true (by kernel_rfl)) k0 bel lt0) (trodAll_cons_mk (Below.trod laidOut (by kernel_rfl) (of_decide_eq_true (by kernel_rfl)) k1 bel lt1) trodAll_mk0)), rfl, bel.frame _, fun h => by cases h⟩
set_option maxRecDepth 100000 in
theorem lifted (os : Os) (started : os.Started) (H : Type) (enc : TypeId × Value → H) :
    ReturnsInHanded {} Try.checked os 5 .any (Rows.matchBackSpec.pre6 enc Try.prog Try.f5 Rows.matchBackRow.domain false) (Rows.matchBackSpec.post enc Try.prog Try.f5 false true false false) := by
  refine returnsInHanded_of_change_sized (C := Try.checked) own started (by kernel_rfl) Try.func5
    (ChangeSpec.witness6 (enc := enc) (C := Try.checked) false ⟨#[], #[.slice none 0 0, .slice none 0 0], []⟩ 8 (by kernel_rfl) (by kernel_rfl) (by kernel_rfl) (by kernel_rfl)) ?_
  intro W base args ds gs before hval0 hW hcnd hsz0 _
  exact core W base args ds gs before hval0 hW hsz0
theorem over : Rows.matchBackRow.holds Try.pinned (OpenSpec.ofChange Rows.matchBackSpec) :=
  OpenClaim.holds_of_wide 5 Try.f5 rfl rfl rfl rfl rfl rfl rfl ⟨rfl, rfl, rfl, rfl, rfl⟩ rfl rfl rfl rfl rfl (by kernel_rfl) Try.func5 (by kernel_rfl)
    (of_decide_eq_true (by kernel_rfl)) (by unfold Func.isWrapper; first | (rw [if_pos (by decide +kernel)]; kernel_rfl) | (rw [if_neg (by decide +kernel)]; exact ⟨rfl, rfl⟩))
    (fun os started H enc _ => lifted os started H enc)
theorem proved : Rows.MatchBackSaid := over
end Go.Proofs.Ytlfhonekcmlomaa.matchBack
namespace Go.Proofs.Ytlfhonekcmlomaa
/-- The row, under a short name, for the claim. -/
theorem matchBack_holds : Rows.MatchBackSaid := matchBack.proved
#print axioms matchBack_holds
end Go.Proofs.Ytlfhonekcmlomaa
