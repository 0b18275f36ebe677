/- MatchChain: the law answers true at every input that the given row speaks of. Conditions: those of the given row, none besides. (Part 3 of 3; written by programs of this session, which drive the kit's print, and by hand.) -/
import Derived.KernelRfl
import Derived.Test.YtlfhonekcmlomaaRows
import Derived.WalkKit
import Derived.ProofKit
import Derived.OpenShut
import Derived.ShutString
import Derived.ChangeOld
import Derived.Below
import Derived.Carry
import Derived.SizedLaws
import Derived.Test.YtlfhonekcmlomaaZMatchChain0
import Derived.Test.YtlfhonekcmlomaaZMatchChain1
-- ==== PLc
/- Plain laws, part c: where a pattern fits: along the cells, and part by part. -/
namespace Go.Proofs.Ytlfhonekcmlomaa.P
open Go.RowKit Go.Proofs.YtlfhonekcmlomaaW.PrintWords
set_option linter.unusedVariables false
set_option linter.unusedSimpArgs false

abbrev Bnd := S44
def lookB (out : List Bnd) (s : ByteArray) : Option (List Cel) := (out.find? (fun b => decide (b.f0 = s))).map (·.f1)
/-- The first term of a list. -/
def fstT (t r : List Cel) : List Cel := t.take (t.length - r.length)
def mat : List Cel → List Cel → List Bnd → Option (List Bnd × List Cel)
  | [], t, out => some (out, t)
  | c :: p, t, out =>
    if kindS c.f0 = 2 then
      match segN t 1 with
      | none => none
      | some r => match lookB out c.f0 with
        | none => mat p r (out ++ [⟨c.f0, fstT t r⟩])
        | some v => if v = fstT t r then mat p r out else none
    else match t with
      | [] => none
      | d :: t' => if d = c then mat p t' out else none

/-! ### segments -/
theorem segN_append : ∀ {l r : List Cel} {n : Nat} (q : List Cel), segN l n = some r → segN (l ++ q) n = some (r ++ q)
  | l, r, 0, q, h => by
    rw [segN_zero] at h ⊢
    injection h with h
    rw [h]
  | [], r, n + 1, q, h => by cases h
  | c :: l, r, n + 1, q, h => segN_append (l := l) (r := r) (n := n + ar c) q h
theorem segN_split {t : List Cel} {n : Nat} (h : segN t (n + 1) = some []) : ∃ r, segN t 1 = some r ∧ segN r n = some [] := by
  rw [show n + 1 = 1 + n by omega, segN_add] at h
  cases hr : segN t 1 with
  | none => rw [hr] at h; cases h
  | some r => rw [hr] at h; exact ⟨r, rfl, h⟩
theorem segN_nil_pos {n : Nat} (h : segN [] n = some []) : n = 0 := by
  cases n with
  | zero => rfl
  | succ n => cases h
theorem segN_fst {t r : List Cel} {n : Nat} (h : segN t n = some r) : t = fstT t r ++ r ∧ segN (fstT t r) n = some [] := by
  obtain ⟨m, hm, hd⟩ := segN_suffix h
  have hl : r.length = t.length - m := by rw [← hd, List.length_drop]
  have he : fstT t r = t.take m := by unfold fstT; rw [show t.length - r.length = m by omega]
  rw [he]
  refine ⟨by rw [← hd]; exact (List.take_append_drop m t).symm, ?_⟩
  have : ∀ (l : List Cel) (n m : Nat), m ≤ l.length → segN l n = some (l.drop m) → segN (l.take m) n = some [] := by
    intro l
    induction l with
    | nil =>
      intro n m hm h
      have hm0 : m = 0 := by simpa using hm
      subst hm0
      simpa using h
    | cons c l ih =>
      intro n m hm h
      cases n with
      | zero =>
        rw [segN_zero] at h ⊢
        injection h with h
        have := congrArg List.length h
        simp only [List.length_cons, List.length_drop] at this
        have hm0 : m = 0 := by simp at hm; omega
        rw [hm0]
        rfl
      | succ n =>
        cases m with
        | zero =>
          have := segN_len h
          simp at this
        | succ m =>
          simp only [List.drop_succ_cons] at h
          exact ih (n + ar c) m (by simpa using hm) h
  rw [← hd] at h
  exact this t n m hm h

/-! ### the program's Match -/
theorem ev_variable (c : Cel) : Ev (fun k => match_variable.f k c.f0 c.f1) (kindS c.f0 == 2) := by
  unfold match_variable.f
  exact Ev.bind (ev_kind c.f0) (Ev.now _)
theorem ev_end_loop (t : List Cel) (ht : t.length ≤ 64) (hok : ∀ c ∈ t, Okc c) : ∀ (s : List Cel) (a n : Nat) (r : List Cel), a ≤ t.length → t.drop a = s → n ≤ 1 + 4 * a → segN s n = some r →
    Ev (fun k => match_end.l0 k t (a : Int) (n : Int)) ((t.length - r.length : Nat) : Int)
  | s, a, 0, r, ha, hs, hn, hr => by
    refine Ev.step (f := fun _ => some (a : Int)) (fun k => by simp only [match_end.l0]; rw [if_neg (by omega)]) ?_
    rw [segN_zero] at hr
    injection hr with hr
    have : ((t.length - r.length : Nat) : Int) = (a : Int) := by rw [← hr, ← hs, List.length_drop]; omega
    rw [this]
    exact Ev.now _
  | [], a, n + 1, r, ha, hs, hn, hr => by cases hr
  | c :: s, a, n + 1, r, ha, hs, hn, hr => by
    obtain ⟨h1, h2, h3⟩ := drop_cons hs
    have hc : Okc c := hok c (List.mem_of_mem_drop (hs ▸ List.mem_cons_self ..))
    have har : (ar c : Int) = c.f1 := by unfold ar; have := hc.lo; omega
    have hh := hc.hi
    have hl0 := hc.lo
    refine Ev.step (f := fun k => match_end.l0 k t ((a + 1 : Nat) : Int) ((n + ar c : Nat) : Int)) (fun k => ?_) (ev_end_loop t ht hok s (a + 1) (n + ar c) r (by omega) h3 (by omega) hr)
    simp only [match_end.l0]
    rw [if_pos (by omega), if_pos (by omega), if_pos (by omega), rd_cel hs, wrap_up (by omega) (by omega)]
    have e : wrap64 (((n + 1 : Nat) : Int) + wrap64 (c.f1 - 1)) = ((n + ar c : Nat) : Int) := by
      rw [wrap_id (i := c.f1 - 1) (by omega) (by omega), wrap_id (by omega) (by omega)]
      omega
    rw [e]
    rfl
theorem ev_end (t : List Cel) (ht : t.length ≤ 64) (hok : ∀ c ∈ t, Okc c) (a : Nat) (ha : a ≤ t.length) {r : List Cel} (hr : segN (t.drop a) 1 = some r) : Ev (fun k => match_end.f k t (a : Int)) ((t.length - r.length : Nat) : Int) := by
  unfold match_end.f
  exact ev_end_loop t ht hok _ a 1 r ha rfl (by omega) hr
theorem bytes_eq (a b : ByteArray) : a.toList = b.toList ↔ a = b := by
  rw [ByteArray.toList_eq, ByteArray.toList_eq]
  constructor
  · intro h
    cases a; cases b
    simp only [ByteArray.mk.injEq]
    exact Array.toList_inj.1 h
  · intro h
    rw [h]
theorem cel_ne (c d : Cel) : ((!((c.f0.toList) == (d.f0.toList)) || (!(c.f1 == d.f1))) = true) ↔ c ≠ d := by
  cases c with | mk a b => cases d with | mk a' b' =>
  simp only [Bool.or_eq_true, Bool.not_eq_true', beq_eq_false_iff_ne, ne_eq, bytes_eq, S47.mk.injEq]
  by_cases h : a = a' <;> simp [h]
theorem ev_cels_loop (F : Nat → List Cel → List Cel → Int → Int → Option Bool)
    (hF : ∀ k x y n i, F (k + 1) x y n i = if i < n then (if 0 ≤ i then (if i < (x.length : Int) then (if i < (y.length : Int) then (if (!((((rd_T47 x i).f0).toList) == (((rd_T47 y i).f0).toList)) || (!(((rd_T47 x i).f1) == ((rd_T47 y i).f1)))) = true then (some false) else (F k x y n (wrap64 (i + 1)))) else (none)) else (none)) else (none)) else (some true))
    (x y : List Cel) (hl : x.length = y.length) (hb : x.length ≤ 9223372036854775806) : ∀ (s u : List Cel) (a : Nat), a ≤ x.length → x.drop a = s → y.drop a = u → Ev (fun k => F k x y (x.length : Int) (a : Int)) (decide (s = u))
  | [], u, a, ha, hs, hu => by
    have h1 := drop_nil_len ha hs
    have h2 : u = [] := by rw [← hu]; exact List.drop_eq_nil_of_le (by omega)
    refine Ev.step (f := fun _ => some true) (fun k => by rw [hF, if_neg (by omega)]) ?_
    rw [h2]
    exact Ev.now _
  | c :: s, u, a, ha, hs, hu => by
    obtain ⟨h1, _, h3⟩ := drop_cons hs
    rcases u with _ | ⟨d, u⟩
    · have := drop_nil_len (by omega) hu
      omega
    obtain ⟨_, _, h4⟩ := drop_cons hu
    by_cases hcd : c = d
    · refine Ev.step (f := fun k => F k x y (x.length : Int) ((a + 1 : Nat) : Int)) (fun k => by
        rw [hF, if_pos (by omega), if_pos (by omega), if_pos (by omega), if_pos (by omega), rd_cel hs, rd_cel hu, if_neg (fun h => (cel_ne c d).1 h hcd), wrap_up (by omega) (by omega)]
        rfl) ?_
      have : decide (c :: s = d :: u) = decide (s = u) := by subst hcd; simp
      rw [this]
      exact ev_cels_loop F hF x y hl hb s u (a + 1) (by omega) h3 h4
    · refine Ev.step (f := fun _ => some false) (fun k => by
        rw [hF, if_pos (by omega), if_pos (by omega), if_pos (by omega), if_pos (by omega), rd_cel hs, rd_cel hu, if_pos ((cel_ne c d).2 hcd)]) ?_
      have : decide (c :: s = d :: u) = false := by simp [hcd]
      rw [this]
      exact Ev.now _
theorem ev_equal (x y : List Cel) (hb : x.length ≤ 9223372036854775806 ∨ y.length ≤ 9223372036854775806) : Ev (fun k => api_Cell_24.f k x y) (decide (x = y)) := by
  unfold api_Cell_24.f
  by_cases h : (x.length : Int) = (y.length : Int)
  · exact Ev.congr (f := fun k => api_Cell_24.l0 k x y (x.length : Int) ((0 : Nat) : Int)) (fun k => by rw [if_pos h]; rfl) (ev_cels_loop _ (fun k x y n i => rfl) x y (by omega) (by omega) x y 0 (by omega) rfl rfl)
  · refine Ev.congr (f := fun _ => some (decide (x = y))) (fun k => ?_) (Ev.now _)
    rw [if_neg h]
    congr 1
    rw [Eq.comm, decide_eq_false_iff_not]
    rintro rfl
    exact h rfl
theorem clone_at (x : List Cel) (h : x.length < 5864062014805) : api_Cell_23.f x = some x := by
  unfold api_Cell_23.f
  rw [if_pos (by simpa using h)]
  rfl
theorem copy_at (x : List Cel) (h : x.length < 5864062014805) : aumbryref04_Copy.f x = some x := by
  unfold aumbryref04_Copy.f
  rw [if_pos (by simpa using h)]
  rfl

/-- The map of places is that of the binds. -/
structure MapOk (m : List Cel) (out : List Bnd) : Prop where
  len : m.length = out.length
  has : ∀ s, mapHas m s = (lookB out s).isSome
  at_ : ∀ s v, lookB out s = some v → ∃ j : Nat, mapAt m s = (j : Int) ∧ j < out.length ∧ ∃ b, out[j]? = some b ∧ b.f1 = v
theorem data_eq (a b : ByteArray) : a.data.toList = b.data.toList ↔ a = b := by
  rw [← bytes_eq, ByteArray.toList_eq, ByteArray.toList_eq]
theorem mapOk_nil : MapOk [] [] := ⟨rfl, fun s => rfl, fun s v h => by cases h⟩
theorem mapOk_put {m : List Cel} {out : List Bnd} (h : MapOk m out) (s : ByteArray) (v : List Cel) (hn : lookB out s = none) : MapOk (mapPut m s (out.length : Int)) (out ++ [⟨s, v⟩]) := by
  have hlook : ∀ s', lookB (out ++ [⟨s, v⟩]) s' = if s = s' then some v else lookB out s' := by
    intro s'
    unfold lookB at hn ⊢
    rw [List.find?_append]
    by_cases hs : s = s'
    · subst hs
      rw [if_pos rfl]
      cases hf : out.find? (fun b => decide (b.f0 = s)) with
      | none => simp
      | some b => rw [hf] at hn; cases hn
    · rw [if_neg hs]
      cases hf : out.find? (fun b => decide (b.f0 = s')) with
      | none => simp [hs]
      | some b => simp
  refine ⟨by simp [mapPut, h.len], fun s' => ?_, fun s' v' hv => ?_⟩
  · rw [hlook]
    by_cases hs : s = s'
    · subst hs
      simp [mapHas, mapPut]
    · rw [if_neg hs, ← h.has s']
      have : (s.data.toList == s'.data.toList) = false := by simp only [beq_eq_false_iff_ne, ne_eq, data_eq]; exact hs
      simp only [mapHas, mapPut, List.any_cons, this, Bool.false_or]
  · rw [hlook] at hv
    by_cases hs : s = s'
    · subst hs
      rw [if_pos rfl] at hv
      injection hv with hv
      subst hv
      exact ⟨out.length, by simp [mapAt, mapPut], by simp, ⟨s, v⟩, by simp, rfl⟩
    · rw [if_neg hs] at hv
      obtain ⟨j, h1, h2, b, h3, h4⟩ := h.at_ s' v' hv
      have : (s.data.toList == s'.data.toList) = false := by simp only [beq_eq_false_iff_ne, ne_eq, data_eq]; exact hs
      refine ⟨j, ?_, by simp; omega, b, by rw [List.getElem?_append_left h2]; exact h3, h4⟩
      rw [← h1]
      simp only [mapAt, mapPut, List.find?_cons, this]
def matR (x : Option (List Bnd × List Cel)) : List Bnd × Bool × Int := match x with
  | none => ([], false, 0)
  | some y => (y.1, true, 0)
theorem ev_match_loop (p t : List Cel) (hp : p.length ≤ 64) (ht : t.length ≤ 64) (hokp : ∀ c ∈ p, Okc c) (hokt : ∀ c ∈ t, Okc c) :
    ∀ (s : List Cel) (i a n : Nat) (out : List Bnd) (m : List Cel), i ≤ p.length → a ≤ t.length → p.drop i = s → segN s n = some [] → segN (t.drop a) n = some [] → MapOk m out → out.length ≤ i →
    Ev (fun k => match_Match.l0 k t out m (a : Int) p (p.length : Int) (i : Int)) (matR (mat s (t.drop a) out))
  | [], i, a, n, out, m, hi, ha, hs, hn, hnt, hm, ho => by
    have h1 := drop_nil_len hi hs
    refine Ev.step (f := fun _ => some (out, true, 0)) (fun k => by simp only [match_Match.l0]; rw [if_neg (by omega)]) ?_
    exact Ev.now _
  | c :: s, i, a, n, out, m, hi, ha, hs, hn, hnt, hm, ho => by
    obtain ⟨h1, _, h3⟩ := drop_cons hs
    have hc : Okc c := hokp c (List.mem_of_mem_drop (hs ▸ List.mem_cons_self ..))
    obtain ⟨n, rfl⟩ : ∃ q, n = q + 1 := by
      cases n with
      | zero => rw [segN_zero] at hn; injection hn with hn; cases hn
      | succ n => exact ⟨n, rfl⟩
    have hn' : segN s (n + ar c) = some [] := hn
    obtain ⟨r, hr1, hrn⟩ := segN_split hnt
    have hks := kindS_size hc.kind
    by_cases hv : kindS c.f0 = 2
    · have hac : ar c = 0 := by unfold ar; rw [hc.var hv]; rfl
      rw [hac, Nat.add_zero] at hn'
      obtain ⟨q, hq, hqr⟩ := segN_suffix hr1
      rw [List.drop_drop] at hqr
      rw [List.length_drop] at hq
      have hrl : r.length = t.length - (a + q) := by rw [← hqr, List.length_drop]
      have hpart : ((t.take (((t.length - r.length : Nat) : Int)).toNat).drop ((a : Int)).toNat : List Cel) = fstT (t.drop a) r := by
        unfold fstT
        rw [List.length_drop]
        simp only [Int.toNat_natCast]
        rw [List.drop_take]
        congr 1
        omega
      have hfl : (fstT (t.drop a) r).length = q := by unfold fstT; rw [List.length_take, List.length_drop]; omega
      have hw1 : True → wrap64 ((a : Int) + ((fstT (t.drop a) r).length : Int)) = ((a + q : Nat) : Int) := fun _ => by rw [hfl, wrap_id (by omega) (by omega)]; omega
      have hw2 : True → wrap64 ((i : Int) + 1) = ((i + 1 : Nat) : Int) := fun _ => by rw [wrap_up (by omega) (by omega)]; rfl
      refine Ev.step (fun k => (show match_Match.l0 (k + 1) t out m (a : Int) p (p.length : Int) (i : Int) = _ from by rw [match_Match.l0])) ?_
      refine evIfp (by omega) (evIfp (by omega) (evIfp (by omega) ?_))
      simp only [rd_cel hs]
      refine Ev.bind (ev_variable c) ?_
      refine evIfp (by simp [hv]) ?_
      refine Ev.bind (ev_end t ht hokt a ha hr1) ?_
      refine evIfp (by omega) (evIfp (by omega) (evIfp (by omega) ?_))
      refine Ev.bind (Ev.now _) ?_
      simp only [hpart, hw1 trivial, hw2 trivial]
      refine evIfp (by omega) ?_
      have hmat : mat (c :: s) (t.drop a) out = (match lookB out c.f0 with | none => mat s r (out ++ [⟨c.f0, fstT (t.drop a) r⟩]) | some v => if v = fstT (t.drop a) r then mat s r out else none) := by
        show (if kindS c.f0 = 2 then _ else _) = _
        rw [if_pos hv, hr1]
      rw [hmat]
      cases hl : lookB out c.f0 with
      | none =>
        refine evIfn (by rw [hm.has, hl]; simp) ?_
        have hml := hm.len
        refine evIfp (by omega) ?_
        refine Ev.bind (evIs (clone_at _ (by omega))) ?_
        refine evIfp (by omega) ?_
        have := ev_match_loop p t hp ht hokp hokt s (i + 1) (a + q) n (out ++ [⟨c.f0, fstT (t.drop a) r⟩]) (mapPut m c.f0 (out.length : Int)) (by omega) (by omega) h3 hn' (by rw [hqr]; exact hrn) (mapOk_put hm _ _ hl) (by simp; omega)
        rw [hqr] at this
        exact this
      | some v =>
        obtain ⟨j, hj1, hj2, b, hj3, hj4⟩ := hm.at_ _ _ hl
        have hrd : (rd_T44 out (mapAt m c.f0)).f1 = v := by
          rw [hj1]
          unfold rd_T44
          rw [List.getD_eq_getElem?_getD, Int.toNat_natCast, hj3]
          exact hj4
        refine evIfp (by rw [hm.has, hl]; simp) ?_
        refine evIfp (by omega) (evIfp (by omega) ?_)
        simp only [hrd]
        refine Ev.bind (ev_equal _ _ (.inr (by omega))) ?_
        by_cases he : v = fstT (t.drop a) r
        · refine evIfp (by simpa using he) ?_
          have := ev_match_loop p t hp ht hokp hokt s (i + 1) (a + q) n out m (by omega) (by omega) h3 hn' (by rw [hqr]; exact hrn) hm (by omega)
          rw [hqr] at this
          simp only [he, if_true]
          exact this
        · refine evIfn (by simpa using he) ?_
          simp only [he, if_false]
          exact Ev.now _
    · rcases ht' : t.drop a with _ | ⟨d, u⟩
      · rw [ht'] at hnt
        cases hnt
      obtain ⟨g1, _, g3⟩ := drop_cons ht'
      have hw1 : True → wrap64 ((a : Int) + 1) = ((a + 1 : Nat) : Int) := fun _ => by rw [wrap_up (by omega) (by omega)]; rfl
      have hw2 : True → wrap64 ((i : Int) + 1) = ((i + 1 : Nat) : Int) := fun _ => by rw [wrap_up (by omega) (by omega)]; rfl
      refine Ev.step (fun k => (show match_Match.l0 (k + 1) t out m (a : Int) p (p.length : Int) (i : Int) = _ from by rw [match_Match.l0])) ?_
      refine evIfp (by omega) (evIfp (by omega) (evIfp (by omega) ?_))
      simp only [rd_cel hs, rd_cel ht']
      refine Ev.bind (ev_variable c) ?_
      refine evIfn (by simp [hv]) ?_
      refine evIfp (by omega) (evIfp (by omega) ?_)
      have hmat : mat (c :: s) (d :: u) out = if d = c then mat s u out else none := by
        show (if kindS c.f0 = 2 then _ else _) = _
        rw [if_neg hv]
      rw [hmat]
      by_cases hdc : d = c
      · refine evIfn (fun h => (cel_ne d c).1 h hdc) ?_
        rw [if_pos hdc]
        simp only [hw1 trivial, hw2 trivial]
        have := ev_match_loop p t hp ht hokp hokt s (i + 1) (a + 1) (n + ar c) out m (by omega) (by omega) h3 hn' (by rw [ht'] at hnt; rw [g3, ← hdc]; exact hnt) hm (by omega)
        rw [g3] at this
        exact this
      · refine evIfp ((cel_ne d c).2 hdc) ?_
        rw [if_neg hdc]
        exact Ev.now _
theorem checkS_ok {t : List Cel} (h : checkS t = 0) : t.length ≤ 64 ∧ (∀ c ∈ t, Okc c) ∧ segN t 1 = some [] := by
  unfold checkS at h
  by_cases h1 : t.length > 64
  · rw [if_pos h1] at h
    cases h
  · rw [if_neg h1] at h
    by_cases h2 : errs t = 0
    · rw [if_pos h2] at h
      by_cases h3 : segN t 1 = some []
      · exact ⟨by omega, errs_ok h2, h3⟩
      · rw [if_neg h3] at h
        cases h
    · rw [if_neg h2] at h
      exact absurd h h2
def matchS (p t : List Cel) : List Bnd × Bool × Int := if checkS p = 0 then (if checkS t = 0 then matR (mat p t []) else ([], false, checkS t)) else ([], false, checkS p)
theorem ev_match (p t : List Cel) : Ev (fun k => match_Match.f k p t) (matchS p t) := by
  unfold match_Match.f matchS
  refine Ev.bind (ev_check p) ?_
  by_cases hp : checkS p = 0
  · rw [if_pos hp]
    refine evIfp hp ?_
    refine Ev.bind (ev_check t) ?_
    by_cases ht : checkS t = 0
    · rw [if_pos ht]
      refine evIfp ht ?_
      obtain ⟨p1, p2, p3⟩ := checkS_ok hp
      obtain ⟨t1, t2, t3⟩ := checkS_ok ht
      exact ev_match_loop p t p1 t1 p2 t2 p 0 0 1 [] [] (by omega) (by omega) rfl p3 t3 mapOk_nil (by simp)
    · rw [if_neg ht]
      exact evIfn ht (Ev.now _)
  · rw [if_neg hp]
    exact evIfn hp (Ev.now _)

/-! ### the document's Match -/
theorem mat_append : ∀ (p t : List Cel) (n : Nat) (out : List Bnd) (p2 t2 : List Cel), (∀ c ∈ p, Okc c) → segN p n = some [] → segN t n = some [] →
    mat (p ++ p2) (t ++ t2) out = (mat p t out).bind fun x => mat p2 t2 x.1
  | [], t, n, out, p2, t2, hp, h1, h2 => by
    have h0 := segN_nil_pos h1
    subst h0
    rw [segN_zero] at h2
    injection h2 with h2
    subst h2
    rfl
  | c :: p, t, n, out, p2, t2, hp, h1, h2 => by
    have hc := hp c (List.mem_cons_self ..)
    have hp' : ∀ x ∈ p, Okc x := fun x hx => hp x (List.mem_cons_of_mem _ hx)
    obtain ⟨n, rfl⟩ : ∃ q, n = q + 1 := by
      cases n with
      | zero => rw [segN_zero] at h1; injection h1 with h1; cases h1
      | succ n => exact ⟨n, rfl⟩
    have h1' : segN p (n + ar c) = some [] := h1
    show (if kindS c.f0 = 2 then _ else _) = Option.bind (if kindS c.f0 = 2 then _ else _) _
    by_cases hv : kindS c.f0 = 2
    · have hac : ar c = 0 := by unfold ar; rw [hc.var hv]; rfl
      rw [hac, Nat.add_zero] at h1'
      rw [if_pos hv, if_pos hv]
      obtain ⟨q, hq1, hq2⟩ := segN_split h2
      have hf : fstT (t ++ t2) (q ++ t2) = fstT t q := by
        have := segN_len hq1
        unfold fstT
        simp only [List.length_append]
        rw [List.take_append_of_le_length (by omega)]
        congr 1
        omega
      rw [segN_append t2 hq1, hq1]
      simp only [hf]
      cases hl : lookB out c.f0 with
      | none => exact mat_append p q n _ p2 t2 hp' h1' hq2
      | some v =>
        simp only
        by_cases he : v = fstT t q
        · rw [if_pos he, if_pos he]
          exact mat_append p q n _ p2 t2 hp' h1' hq2
        · rw [if_neg he, if_neg he]
          rfl
    · rw [if_neg hv, if_neg hv]
      rcases t with _ | ⟨d, t⟩
      · cases h2
      · show (if d = c then mat (p ++ p2) (t ++ t2) out else none) = Option.bind (if d = c then mat p t out else none) _
        by_cases he : d = c
        · rw [if_pos he, if_pos he]
          subst he
          exact mat_append p t (n + ar d) out p2 t2 hp' h1' h2
        · rw [if_neg he, if_neg he]
          rfl
end Go.Proofs.Ytlfhonekcmlomaa.P

-- ==== PLe
/- Plain laws, part e: what the statements ask ahead (wakes), and copies. -/
namespace Go.Proofs.Ytlfhonekcmlomaa.P
open Go.RowKit Go.Proofs.YtlfhonekcmlomaaW.PrintWords
set_option linter.unusedVariables false
set_option linter.unusedSimpArgs false

set_option maxRecDepth 100000 in
theorem ev_wakes : Ev (fun k => aumbrylaw05_wakes.f k) true := Ev.of (g := fun k => aumbrylaw05_wakes.f k) aumbrylaw05_wakes.mono (k := 40) (by kernel_rfl)
theorem own_at (x : List Cel) (h : x.length < 5864062014805) : aumbrylaw05_own.f x = some x := by
  unfold aumbrylaw05_own.f
  rw [copy_at x h]
  rfl
theorem sz_len {l : List Cel} (h : sz23 l) : l.length < 5864062014805 := by
  have := h.1
  omega
end Go.Proofs.Ytlfhonekcmlomaa.P

-- ==== PF31
namespace Go.Proofs.Ytlfhonekcmlomaa.P
open Go.RowKit Go.Proofs.YtlfhonekcmlomaaW.PrintWords Go.Proofs.YtlfhonekcmlomaaW.PrintLast Go.Proofs.YtlfhonekcmlomaaW.PrintMore
attribute [local go_sem] max2_int min2_int max_two min_two max_three min_three max_four min_four   -- for this text's walks alone
set_option linter.unusedVariables false
set_option linter.unusedSimpArgs false

/-! ### aumbryref03_Has: function 31 -/
def aumbryref03_Has.l0 : Nat → List ByteArray → ByteArray → Int → Int → Option (Bool)
  | 0, _, _, _, _ => none
  | k + 1, x0, x1, x7, x8 => if x8 < x7 then (if 0 ≤ x8 then (if x8 < (x0.length : Int) then (if (rdOf ByteArray.empty x0 x8).toList = x1.toList then (some true) else (aumbryref03_Has.l0 k x0 x1 x7 (wrap64 (x8 + 1)))) else (none)) else (none)) else (some false)
def aumbryref03_Has.f (k : Nat) (l0 : List ByteArray) (a1 : ByteArray) : Option (Bool) := aumbryref03_Has.l0 k l0 a1 (l0.length : Int) 0
end Go.Proofs.Ytlfhonekcmlomaa.P

-- ==== PF18
namespace Go.Proofs.Ytlfhonekcmlomaa.P
open Go.RowKit Go.Proofs.YtlfhonekcmlomaaW.PrintWords Go.Proofs.YtlfhonekcmlomaaW.PrintLast Go.Proofs.YtlfhonekcmlomaaW.PrintMore
attribute [local go_sem] max2_int min2_int max_two min_two max_three min_three max_four min_four   -- for this text's walks alone
set_option linter.unusedVariables false
set_option linter.unusedSimpArgs false

/-! ### aumbryref04_Vars: function 18 -/
def aumbryref04_Vars.l0 : Nat → List (S47) → List ByteArray → Int → Int → Option (List ByteArray)
  | 0, _, _, _, _ => none
  | k + 1, x0, x3, x6, x7 => if x7 < x6 then (if 0 ≤ x7 then (if x7 < (x0.length : Int) then ((aumbryref03_Kind.f k ((rd_T47 x0 x7).f0)).bind fun t102 => (if t102 = 2 then ((aumbryref03_Has.f k x3 ((rd_T47 x0 x7).f0)).bind fun t104 => (if t104 = true then (aumbryref04_Vars.l0 k x0 x3 x6 (wrap64 (x7 + 1))) else (if x3.length < 8796093022208 then (aumbryref04_Vars.l0 k x0 (x3 ++ [(rd_T47 x0 x7).f0]) x6 (wrap64 (x7 + 1))) else (none)))) else (aumbryref04_Vars.l0 k x0 x3 x6 (wrap64 (x7 + 1))))) else (none)) else (none)) else (some x3)
def aumbryref04_Vars.f (k : Nat) (l0 : List (S47)) : Option (List ByteArray) := aumbryref04_Vars.l0 k l0 ([] : List ByteArray) (l0.length : Int) 0
end Go.Proofs.Ytlfhonekcmlomaa.P

-- ==== PF30
namespace Go.Proofs.Ytlfhonekcmlomaa.P
open Go.RowKit Go.Proofs.YtlfhonekcmlomaaW.PrintWords Go.Proofs.YtlfhonekcmlomaaW.PrintLast Go.Proofs.YtlfhonekcmlomaaW.PrintMore
attribute [local go_sem] max2_int min2_int max_two min_two max_three min_three max_four min_four   -- for this text's walks alone
set_option linter.unusedVariables false
set_option linter.unusedSimpArgs false

/-! ### aumbryref05_Put: function 30 -/
def aumbryref05_Put.l0 : Nat → List (S47) → List (S44) → List (S47) → Int → Int → Option ((List (S47)))
  | 0, _, _, _, _, _ => none
  | k + 1, x0, x1, x5, x8, x9 => if x9 < x8 then (if 0 ≤ x9 then (if x9 < (x0.length : Int) then ((aumbryref03_Kind.f k ((rd_T47 x0 x9).f0)).bind fun t102 => (if t102 = 2 then ((aumbryref05_At.f k x1 ((rd_T47 x0 x9).f0)).bind fun t104 => (if 0 ≤ t104 then (if t104 < (x1.length : Int) then (if x5.length + ((rd_T44 x1 t104).f1).length < 5864062014805 then (aumbryref05_Put.l0 k x0 x1 (x5 ++ ((rd_T44 x1 t104).f1)) x8 (wrap64 (x9 + 1))) else (none)) else (none)) else (none))) else (if x5.length < 5864062014805 then (aumbryref05_Put.l0 k x0 x1 (x5 ++ [(⟨(rd_T47 x0 x9).f0, (rd_T47 x0 x9).f1⟩ : S47)]) x8 (wrap64 (x9 + 1))) else (none)))) else (none)) else (none)) else (some x5)
def aumbryref05_Put.f (k : Nat) (l0 : List (S47)) (l1 : List (S44)) : Option ((List (S47))) := aumbryref05_Put.l0 k l0 l1 ([] : List (S47)) (l0.length : Int) 0
end Go.Proofs.Ytlfhonekcmlomaa.P

-- ==== PF16
namespace Go.Proofs.Ytlfhonekcmlomaa.P
open Go.RowKit Go.Proofs.YtlfhonekcmlomaaW.PrintWords Go.Proofs.YtlfhonekcmlomaaW.PrintLast Go.Proofs.YtlfhonekcmlomaaW.PrintMore
attribute [local go_sem] max2_int min2_int max_two min_two max_three min_three max_four min_four   -- for this text's walks alone
set_option linter.unusedVariables false
set_option linter.unusedSimpArgs false

/-! ### aumbryref05_Fill: function 16 -/
mutual
def aumbryref05_Fill.l0 : Nat → List (S47) → List (S44) → Int → Int → Option ((List (S47)) × Int)
  | 0, _, _, _, _ => none
  | k + 1, x0, x1, x18, x19 => if x19 < x18 then (if 0 ≤ x19 then (if x19 < (x1.length : Int) then ((aumbryref03_Kind.f k ((rd_T44 x1 x19).f0)).bind fun t103 => (if t103 = 2 then ((aumbryref05_At.f k x1 ((rd_T44 x1 x19).f0)).bind fun t105 => (if t105 < x19 then (some (([] : List (S47)), 9)) else ((aumbryref04_Check.f k ((rd_T44 x1 x19).f1)).bind fun t107 => (if t107 = 0 then (aumbryref05_Fill.l0 k x0 x1 x18 (wrap64 (x19 + 1))) else (some (([] : List (S47)), t107)))))) else (some (([] : List (S47)), 4)))) else (none)) else (none)) else ((aumbryref04_Vars.f k x0).bind fun t108 => (aumbryref05_Fill.l1 k x0 x1 t108 (t108.length : Int) 0))
def aumbryref05_Fill.l1 : Nat → List (S47) → List (S44) → List ByteArray → Int → Int → Option ((List (S47)) × Int)
  | 0, _, _, _, _, _ => none
  | k + 1, x0, x1, x9, x51, x52 => if x52 < x51 then (if 0 ≤ x52 then (if x52 < (x9.length : Int) then ((aumbryref05_At.f k x1 (rdOf ByteArray.empty x9 x52)).bind fun t112 => (if t112 < 0 then (some (([] : List (S47)), 7)) else (aumbryref05_Fill.l1 k x0 x1 x9 x51 (wrap64 (x52 + 1))))) else (none)) else (none)) else ((aumbryref05_Put.f k x0 x1).bind fun t113 => (if (t113.length : Int) > 64 then (some (([] : List (S47)), 6)) else (some (t113, 0))))
end
def aumbryref05_Fill.f (k : Nat) (l0 : List (S47)) (l1 : List (S44)) : Option ((List (S47)) × Int) := (aumbryref04_Check.f k l0).bind fun t101 => (if t101 = 0 then (aumbryref05_Fill.l0 k l0 l1 (l1.length : Int) 0) else (some (([] : List (S47)), t101)))
end Go.Proofs.Ytlfhonekcmlomaa.P

-- ==== PF15
namespace Go.Proofs.Ytlfhonekcmlomaa.P
open Go.RowKit Go.Proofs.YtlfhonekcmlomaaW.PrintWords Go.Proofs.YtlfhonekcmlomaaW.PrintLast Go.Proofs.YtlfhonekcmlomaaW.PrintMore
attribute [local go_sem] max2_int min2_int max_two min_two max_three min_three max_four min_four   -- for this text's walks alone
set_option linter.unusedVariables false
set_option linter.unusedSimpArgs false

/-! ### aumbryref05_Copy: function 15 -/
def aumbryref05_Copy.l0 : Nat → List (S44) → List (S44) → Int → Int → Option ((List (S44)))
  | 0, _, _, _, _ => none
  | k + 1, x0, x3, x6, x7 => if x7 < x6 then (if 0 ≤ x7 then (if x7 < (x0.length : Int) then ((aumbryref04_Copy.f ((rd_T44 x0 x7).f1)).bind fun t103 => (if x3.length < 3518437208883 then (aumbryref05_Copy.l0 k x0 (x3 ++ [(⟨(rd_T44 x0 x7).f0, t103⟩ : S44)]) x6 (wrap64 (x7 + 1))) else (none))) else (none)) else (none)) else (some x3)
def aumbryref05_Copy.f (k : Nat) (l0 : List (S44)) : Option ((List (S44))) := aumbryref05_Copy.l0 k l0 ([] : List (S44)) (l0.length : Int) 0
end Go.Proofs.Ytlfhonekcmlomaa.P

-- ==== PLf
/- Plain laws, part f: what a pattern becomes by binds: the program's Fill is the document's. -/
namespace Go.Proofs.Ytlfhonekcmlomaa.P
open Go.RowKit Go.Proofs.YtlfhonekcmlomaaW.PrintWords
set_option linter.unusedVariables false
set_option linter.unusedSimpArgs false

def bErr : List Bnd → List Bnd → Int
  | _, [] => 0
  | seen, b :: u => if kindS b.f0 = 2 then (if (lookB seen b.f0).isSome = true then 9 else if checkS b.f1 = 0 then bErr (seen ++ [b]) u else checkS b.f1) else 4
def putS : List Cel → List Bnd → Option (List Cel)
  | [], _ => some []
  | c :: p, l => if kindS c.f0 = 2 then (match lookB l c.f0 with | none => none | some v => (putS p l).map (v ++ ·)) else (putS p l).map (c :: ·)
theorem lookB_snoc (out : List Bnd) (b : Bnd) (s : ByteArray) : lookB (out ++ [b]) s = (match lookB out s with | some v => some v | none => if b.f0 = s then some b.f1 else none) := by
  unfold lookB
  rw [List.find?_append]
  cases out.find? (fun b => decide (b.f0 = s)) with
  | some x => simp
  | none => by_cases h : b.f0 = s <;> simp [h]
/-- The values of binds that are right have no more than 64 cells. -/
theorem bErr_vals : ∀ (u seen : List Bnd), bErr seen u = 0 → ∀ b ∈ u, b.f1.length ≤ 64 ∧ kindS b.f0 = 2 ∧ checkS b.f1 = 0
  | [], _, _, b, hb => by cases hb
  | a :: u, seen, h, b, hb => by
    unfold bErr at h
    by_cases h1 : kindS a.f0 = 2
    · rw [if_pos h1] at h
      by_cases h2 : (lookB seen a.f0).isSome = true
      · rw [if_pos h2] at h; cases h
      · rw [if_neg h2] at h
        by_cases h3 : checkS a.f1 = 0
        · rw [if_pos h3] at h
          rcases List.mem_cons.1 hb with rfl | hb
          · exact ⟨(checkS_ok h3).1, h1, h3⟩
          · exact bErr_vals u _ h b hb
        · rw [if_neg h3] at h
          exact absurd h h3
    · rw [if_neg h1] at h; cases h
theorem lookB_mem {l : List Bnd} {s : ByteArray} {v : List Cel} (h : lookB l s = some v) : ∃ b ∈ l, b.f0 = s ∧ b.f1 = v := by
  unfold lookB at h
  cases hf : l.find? (fun b => decide (b.f0 = s)) with
  | none => rw [hf] at h; cases h
  | some b =>
    rw [hf] at h
    exact ⟨b, List.mem_of_find?_eq_some hf, by simpa using List.find?_some hf, by simpa using h⟩

/-! ### the program's -/
/-! ### the document's -/
instance decMemB (c : ByteArray) (l : List ByteArray) : Decidable (c ∈ l) := decidable_of_iff (l.any (fun x => decide (x = c)) = true) (by simp)
/-! ### copies of binds -/
end Go.Proofs.Ytlfhonekcmlomaa.P

-- ==== PLg
/- Plain laws, part g: filling what a match tells gives the term; what is filled is matched; a term matches itself. -/
namespace Go.Proofs.Ytlfhonekcmlomaa.P
open Go.RowKit Go.Proofs.YtlfhonekcmlomaaW.PrintWords
set_option linter.unusedVariables false
set_option linter.unusedSimpArgs false

/-- What one list of binds tells the other tells too. -/
def Ext (a b : List Bnd) : Prop := ∀ s v, lookB a s = some v → lookB b s = some v
theorem Ext.refl (a : List Bnd) : Ext a a := fun _ _ h => h
theorem Ext.trans {a b c : List Bnd} (h : Ext a b) (g : Ext b c) : Ext a c := fun s v e => g s v (h s v e)
theorem ext_snoc (a : List Bnd) (b : Bnd) : Ext a (a ++ [b]) := fun s v e => by rw [lookB_snoc, e]
theorem lookB_last {a : List Bnd} {s : ByteArray} {v : List Cel} (h : lookB a s = none) : lookB (a ++ [⟨s, v⟩]) s = some v := by rw [lookB_snoc, h]; simp
theorem mat_var {c : Cel} {p t r : List Cel} {out : List Bnd} (hv : kindS c.f0 = 2) (hr : segN t 1 = some r) : mat (c :: p) t out = (match lookB out c.f0 with | none => mat p r (out ++ [⟨c.f0, fstT t r⟩]) | some v => if v = fstT t r then mat p r out else none) := by
  show (if kindS c.f0 = 2 then _ else _) = _
  rw [if_pos hv, hr]
  try rfl
theorem mat_var_none {c : Cel} {p t : List Cel} {out : List Bnd} (hv : kindS c.f0 = 2) (hr : segN t 1 = none) : mat (c :: p) t out = none := by
  show (if kindS c.f0 = 2 then _ else _) = _
  rw [if_pos hv, hr]
theorem mat_sym {c d : Cel} {p t : List Cel} {out : List Bnd} (hv : ¬ kindS c.f0 = 2) : mat (c :: p) (d :: t) out = if d = c then mat p t out else none := by
  show (if kindS c.f0 = 2 then _ else _) = _
  rw [if_neg hv]
theorem mat_sym_nil {c : Cel} {p : List Cel} {out : List Bnd} (hv : ¬ kindS c.f0 = 2) : mat (c :: p) [] out = none := by
  show (if kindS c.f0 = 2 then _ else _) = _
  rw [if_neg hv]

/-- What the binds of a match are: each stays; the pattern, filled by them (or by more), is what was matched. -/
theorem mat_put : ∀ (p t : List Cel) (out o : List Bnd) (r : List Cel), mat p t out = some (o, r) → Ext out o ∧ ∀ l, Ext o l → ∃ s, putS p l = some s ∧ t = s ++ r
  | [], t, out, o, r, h => by
    have h' : some (out, t) = some (o, r) := h
    injection h' with h'
    injection h' with h1 h2
    subst h1 h2
    exact ⟨Ext.refl _, fun l _ => ⟨[], rfl, rfl⟩⟩
  | c :: p, t, out, o, r, h => by
    by_cases hv : kindS c.f0 = 2
    · cases hq : segN t 1 with
      | none => rw [mat_var_none hv hq] at h; cases h
      | some q =>
        rw [mat_var hv hq] at h
        have hf := (segN_fst hq).1
        cases hl : lookB out c.f0 with
        | none =>
          rw [hl] at h
          obtain ⟨h1, h2⟩ := mat_put p q _ o r h
          refine ⟨(ext_snoc _ _).trans h1, fun l hl2 => ?_⟩
          obtain ⟨s, hs1, hs2⟩ := h2 l hl2
          have := hl2 _ _ (h1 _ _ (lookB_last (v := fstT t q) hl))
          refine ⟨fstT t q ++ s, by simp only [putS, hv, if_true, this, hs1, Option.map_some], ?_⟩
          rw [List.append_assoc, ← hs2]
          exact hf
        | some v =>
          rw [hl] at h
          simp only at h
          by_cases he : v = fstT t q
          · rw [if_pos he] at h
            obtain ⟨h1, h2⟩ := mat_put p q _ o r h
            refine ⟨h1, fun l hl2 => ?_⟩
            obtain ⟨s, hs1, hs2⟩ := h2 l hl2
            have := hl2 _ _ (h1 _ _ hl)
            refine ⟨v ++ s, by simp only [putS, hv, if_true, this, hs1, Option.map_some], ?_⟩
            rw [List.append_assoc, ← hs2, he]
            exact hf
          · rw [if_neg he] at h
            cases h
    · rcases t with _ | ⟨d, t⟩
      · rw [mat_sym_nil hv] at h; cases h
      · rw [mat_sym hv] at h
        by_cases he : d = c
        · rw [if_pos he] at h
          obtain ⟨h1, h2⟩ := mat_put p t _ o r h
          refine ⟨h1, fun l hl2 => ?_⟩
          obtain ⟨s, hs1, hs2⟩ := h2 l hl2
          refine ⟨c :: s, by simp only [putS, hv, if_false, hs1, Option.map_some], ?_⟩
          rw [he, hs2]
          rfl
        · rw [if_neg he] at h; cases h

/-! ### the binds of a match are right -/
theorem cellErr_okc {c : Cel} (h : Okc c) : cellErr c = 0 := by
  unfold cellErr
  have h1 := h.lo
  have h2 := h.hi
  rw [if_neg h.kind, if_neg (by omega), if_neg (by omega)]
  by_cases hk : kindS c.f0 = 2
  · rw [if_pos hk, if_neg (by have := h.var hk; omega)]
  · rw [if_neg hk]
theorem ok_errs : ∀ {l : List Cel}, (∀ c ∈ l, Okc c) → errs l = 0
  | [], _ => rfl
  | a :: l, h => by
    unfold errs
    rw [if_pos (cellErr_okc (h a (List.mem_cons_self ..)))]
    exact ok_errs fun c hc => h c (List.mem_cons_of_mem _ hc)
theorem checkS_of {t : List Cel} (h1 : t.length ≤ 64) (h2 : ∀ c ∈ t, Okc c) (h3 : segN t 1 = some []) : checkS t = 0 := by
  unfold checkS
  rw [if_neg (by omega), if_pos (ok_errs h2), if_pos h3]
theorem bErr_snoc : ∀ (u seen : List Bnd) (b : Bnd), bErr seen u = 0 → kindS b.f0 = 2 → lookB (seen ++ u) b.f0 = none → checkS b.f1 = 0 → bErr seen (u ++ [b]) = 0
  | [], seen, b, h, hk, hl, hc => by
    rw [List.append_nil] at hl
    show bErr seen [b] = 0
    unfold bErr
    rw [if_pos hk, if_neg (by rw [hl]; simp), if_pos hc]
    rfl
  | a :: u, seen, b, h, hk, hl, hc => by
    show bErr seen (a :: (u ++ [b])) = 0
    unfold bErr at h ⊢
    by_cases h1 : kindS a.f0 = 2
    · rw [if_pos h1] at h ⊢
      by_cases h2 : (lookB seen a.f0).isSome = true
      · rw [if_pos h2] at h; cases h
      · rw [if_neg h2] at h ⊢
        by_cases h3 : checkS a.f1 = 0
        · rw [if_pos h3] at h ⊢
          exact bErr_snoc u (seen ++ [a]) b h hk (by simpa using hl) hc
        · rw [if_neg h3] at h
          exact absurd h h3
    · rw [if_neg h1] at h; cases h
theorem mem_fstT {t r : List Cel} {c : Cel} (h : c ∈ fstT t r) : c ∈ t := List.mem_of_mem_take h
theorem mat_right : ∀ (p t : List Cel) (out o : List Bnd) (r : List Cel), mat p t out = some (o, r) → t.length ≤ 64 → (∀ c ∈ t, Okc c) → bErr [] out = 0 → bErr [] o = 0
  | [], t, out, o, r, h, ht, hok, hb => by
    have h' : some (out, t) = some (o, r) := h
    injection h' with h'
    injection h' with h1 h2
    rw [← h1]
    exact hb
  | c :: p, t, out, o, r, h, ht, hok, hb => by
    by_cases hv : kindS c.f0 = 2
    · cases hq : segN t 1 with
      | none => rw [mat_var_none hv hq] at h; cases h
      | some q =>
        rw [mat_var hv hq] at h
        have hf := segN_fst hq
        have hql := segN_len hq
        have hqo : ∀ c ∈ q, Okc c := fun c hc => hok c (by rw [hf.1]; exact List.mem_append_right _ hc)
        cases hl : lookB out c.f0 with
        | none =>
          rw [hl] at h
          refine mat_right p q _ o r h (by omega) hqo (bErr_snoc out [] _ hb hv (by simpa using hl) ?_)
          exact checkS_of (by unfold fstT; rw [List.length_take]; omega) (fun c hc => hok c (mem_fstT hc)) hf.2
        | some v =>
          rw [hl] at h
          simp only at h
          by_cases he : v = fstT t q
          · rw [if_pos he] at h
            exact mat_right p q _ o r h (by omega) hqo hb
          · rw [if_neg he] at h
            cases h
    · rcases t with _ | ⟨d, t⟩
      · rw [mat_sym_nil hv] at h; cases h
      · rw [mat_sym hv] at h
        by_cases he : d = c
        · rw [if_pos he] at h
          simp only [List.length_cons] at ht
          exact mat_right p t _ o r h (by omega) (fun c hc => hok c (List.mem_cons_of_mem _ hc)) hb
        · rw [if_neg he] at h; cases h
/-! ### what is filled is matched -/
theorem fstT_append (v w : List Cel) : fstT (v ++ w) w = v := by
  unfold fstT
  rw [List.length_append, show v.length + w.length - w.length = v.length by omega, List.take_left']
  rfl
/-- Binds whose values are terms. -/
def Vals (l : List Bnd) : Prop := ∀ s v, lookB l s = some v → segN v 1 = some []
theorem mat_of_put : ∀ (p : List Cel) (l : List Bnd) (s r : List Cel) (out : List Bnd), putS p l = some s → (∀ c ∈ p, kindS c.f0 = 2 → ∀ v, lookB l c.f0 = some v → segN v 1 = some []) → Ext out l → ∃ o, mat p (s ++ r) out = some (o, r) ∧ Ext o l
  | [], l, s, r, out, h, hv, he => by
    injection h with h
    subst h
    exact ⟨out, rfl, he⟩
  | c :: p, l, s, r, out, h, hv, he => by
    simp only [putS] at h
    by_cases hk : kindS c.f0 = 2
    · rw [if_pos hk] at h
      cases hl : lookB l c.f0 with
      | none => rw [hl] at h; cases h
      | some v =>
        rw [hl] at h
        simp only at h
        obtain ⟨s2, h2, rfl⟩ := Option.map_eq_some_iff.1 h
        have hq : segN (v ++ s2 ++ r) 1 = some (s2 ++ r) := by
          have := segN_append (s2 ++ r) (hv c (List.mem_cons_self ..) hk v hl)
          rw [List.append_assoc]
          simpa using this
        have hf : fstT (v ++ s2 ++ r) (s2 ++ r) = v := by rw [List.append_assoc]; exact fstT_append _ _
        rw [mat_var hk hq, hf]
        cases ho : lookB out c.f0 with
        | none =>
          simp only
          exact mat_of_put p l s2 r _ h2 (fun c h => hv c (List.mem_cons_of_mem _ h)) (fun x y hxy => by
            rw [lookB_snoc] at hxy
            cases hx : lookB out x with
            | none =>
              rw [hx] at hxy
              simp only at hxy
              by_cases hcx : c.f0 = x
              · rw [if_pos hcx] at hxy
                injection hxy with hxy
                rw [← hcx, ← hxy]
                exact hl
              · rw [if_neg hcx] at hxy; cases hxy
            | some z =>
              rw [hx] at hxy
              simp only at hxy
              rw [← hxy]
              exact he _ _ hx)
        | some w =>
          have : w = v := by have := he _ _ ho; rw [hl] at this; injection this with this; exact this.symm
          simp only [this, if_true]
          exact mat_of_put p l s2 r _ h2 (fun c h => hv c (List.mem_cons_of_mem _ h)) he
    · rw [if_neg hk] at h
      obtain ⟨s2, h2, rfl⟩ := Option.map_eq_some_iff.1 h
      rw [List.cons_append, mat_sym hk, if_pos rfl]
      exact mat_of_put p l s2 r _ h2 (fun c h => hv c (List.mem_cons_of_mem _ h)) he
theorem vals_of {l : List Bnd} (h : bErr [] l = 0) : Vals l := fun s v hl => by
  obtain ⟨b, hb, _, h2⟩ := lookB_mem hl
  rw [← h2]
  exact (checkS_ok (bErr_vals l [] h b hb).2.2).2.2
theorem segN_put : ∀ (s t : List Cel) (l : List Bnd) (n : Nat), (∀ c ∈ s, Okc c) → segN s n = some [] → putS s l = some t → Vals l → segN t n = some []
  | [], t, l, n, hok, hs, hp, hv => by
    have := segN_nil_pos hs
    subst this
    injection hp with hp
    subst hp
    rfl
  | c :: s, t, l, 0, hok, hs, hp, hv => by rw [segN_zero] at hs; injection hs with hs; cases hs
  | c :: s, t, l, n + 1, hok, hs, hp, hv => by
    have hc := hok c (List.mem_cons_self ..)
    have hs' : segN s (n + ar c) = some [] := hs
    simp only [putS] at hp
    by_cases hk : kindS c.f0 = 2
    · rw [if_pos hk] at hp
      cases hl : lookB l c.f0 with
      | none => rw [hl] at hp; cases hp
      | some v =>
        rw [hl] at hp
        simp only at hp
        obtain ⟨t2, h2, rfl⟩ := Option.map_eq_some_iff.1 hp
        have hac : ar c = 0 := by unfold ar; rw [hc.var hk]; rfl
        rw [hac, Nat.add_zero] at hs'
        rw [Nat.add_comm, segN_add, segN_append t2 (hv _ _ hl)]
        exact segN_put s t2 l n (fun c h => hok c (List.mem_cons_of_mem _ h)) hs' h2 hv
    · rw [if_neg hk] at hp
      obtain ⟨t2, h2, rfl⟩ := Option.map_eq_some_iff.1 hp
      show segN t2 (n + ar c) = some []
      exact segN_put s t2 l _ (fun c h => hok c (List.mem_cons_of_mem _ h)) hs' h2 hv
theorem putS_append : ∀ (a b : List Cel) (l : List Bnd) (t : List Cel), putS (a ++ b) l = some t → ∃ x y, putS a l = some x ∧ putS b l = some y ∧ t = x ++ y
  | [], b, l, t, h => ⟨[], t, rfl, h, rfl⟩
  | c :: a, b, l, t, h => by
    rw [List.cons_append] at h
    simp only [putS] at h
    by_cases hk : kindS c.f0 = 2
    · rw [if_pos hk] at h
      cases hl : lookB l c.f0 with
      | none => rw [hl] at h; cases h
      | some v =>
        rw [hl] at h
        simp only at h
        obtain ⟨t2, h2, rfl⟩ := Option.map_eq_some_iff.1 h
        obtain ⟨x, y, h3, h4, rfl⟩ := putS_append a b l t2 h2
        exact ⟨v ++ x, y, by simp only [putS, hk, if_true, hl, h3, Option.map_some], h4, by simp⟩
    · rw [if_neg hk] at h
      obtain ⟨t2, h2, rfl⟩ := Option.map_eq_some_iff.1 h
      obtain ⟨x, y, h3, h4, rfl⟩ := putS_append a b l t2 h2
      exact ⟨c :: x, y, by simp only [putS, hk, if_false, h3, Option.map_some], h4, by simp⟩
/-- The binds of one match, filled by those of another. -/
def thru (a b : List Bnd) : List Bnd := a.map fun x => ⟨x.f0, (putS x.f1 b).getD []⟩
theorem lookB_thru (a b : List Bnd) (s : ByteArray) : lookB (thru a b) s = (lookB a s).map fun v => (putS v b).getD [] := by
  unfold lookB thru
  induction a with
  | nil => rfl
  | cons x a ih =>
    by_cases h : x.f0 = s
    · simp [h]
    · simpa [h] using ih
theorem putS_thru : ∀ (p q t : List Cel) (a b : List Bnd), putS p a = some q → putS q b = some t → putS p (thru a b) = some t
  | [], q, t, a, b, h1, h2 => by
    injection h1 with h1
    subst h1
    exact h2
  | c :: p, q, t, a, b, h1, h2 => by
    simp only [putS] at h1 ⊢
    by_cases hk : kindS c.f0 = 2
    · rw [if_pos hk] at h1 ⊢
      rw [lookB_thru]
      cases hl : lookB a c.f0 with
      | none => rw [hl] at h1; cases h1
      | some v =>
        rw [hl] at h1
        simp only at h1
        obtain ⟨q2, g1, rfl⟩ := Option.map_eq_some_iff.1 h1
        obtain ⟨x, y, g2, g3, rfl⟩ := putS_append v q2 b t h2
        simp only [Option.map_some, g2, Option.getD_some, putS_thru p q2 y a b g1 g3]
    · rw [if_neg hk] at h1 ⊢
      obtain ⟨q2, g1, rfl⟩ := Option.map_eq_some_iff.1 h1
      simp only [putS, hk, if_false] at h2
      obtain ⟨t2, g2, rfl⟩ := Option.map_eq_some_iff.1 h2
      simp only [putS_thru p q2 t2 a b g1 g2, Option.map_some]

theorem putS_parts : ∀ (p q t : List Cel) (a b : List Bnd), putS p a = some q → putS q b = some t → ∀ c ∈ p, kindS c.f0 = 2 → ∃ v x, lookB a c.f0 = some v ∧ putS v b = some x
  | [], q, t, a, b, h1, h2, c, hc, hk => by cases hc
  | d :: p, q, t, a, b, h1, h2, c, hc, hkc => by
    simp only [putS] at h1
    by_cases hk : kindS d.f0 = 2
    · rw [if_pos hk] at h1
      cases hl : lookB a d.f0 with
      | none => rw [hl] at h1; cases h1
      | some v =>
        rw [hl] at h1
        simp only at h1
        obtain ⟨q2, g1, rfl⟩ := Option.map_eq_some_iff.1 h1
        obtain ⟨x, y, g2, g3, rfl⟩ := putS_append v q2 b t h2
        rcases List.mem_cons.1 hc with rfl | hc
        · exact ⟨v, x, hl, g2⟩
        · exact putS_parts p q2 y a b g1 g3 c hc hkc
    · rw [if_neg hk] at h1
      obtain ⟨q2, g1, rfl⟩ := Option.map_eq_some_iff.1 h1
      simp only [putS, hk, if_false] at h2
      obtain ⟨t2, g2, rfl⟩ := Option.map_eq_some_iff.1 h2
      rcases List.mem_cons.1 hc with rfl | hc
      · exact absurd hkc hk
      · exact putS_parts p q2 t2 a b g1 g2 c hc hkc

/-! ### the three laws -/
theorem matchS_ok {p t : List Cel} (h : (matchS p t).2.1 = true) : checkS p = 0 ∧ checkS t = 0 ∧ ∃ o r, mat p t [] = some (o, r) ∧ matchS p t = (o, true, 0) := by
  unfold matchS at h ⊢
  by_cases hp : checkS p = 0
  · rw [if_pos hp] at h ⊢
    by_cases ht : checkS t = 0
    · rw [if_pos ht] at h ⊢
      cases hm : mat p t [] with
      | none => rw [hm] at h; cases h
      | some x => exact ⟨hp, ht, x.1, x.2, rfl, rfl⟩
    · rw [if_neg ht] at h; cases h
  · rw [if_neg hp] at h; cases h
theorem matchS_of {p t : List Cel} (hp : checkS p = 0) (ht : checkS t = 0) {o : List Bnd} {r : List Cel} (hm : mat p t [] = some (o, r)) : matchS p t = (o, true, 0) := by
  unfold matchS
  rw [if_pos hp, if_pos ht, hm]
  rfl
theorem ext_nil (l : List Bnd) : Ext [] l := fun s v h => by cases h
theorem mat_whole {p t : List Cel} {out o : List Bnd} {r : List Cel} (hp : ∀ c ∈ p, Okc c) (h1 : segN p 1 = some []) (h2 : segN t 1 = some []) (h : mat p t out = some (o, r)) : r = [] := by
  have := mat_append p t 1 out [] [] hp h1 h2
  rw [List.append_nil, List.append_nil, h] at this
  simp only [Option.bind_some, mat] at this
  injection this with this
  injection this with _ this
/-- A pattern that fits a pattern fits all that this one fits. -/
theorem match_chain {p q t : List Cel} (h1 : (matchS p q).2.1 = true) (h2 : (matchS q t).2.1 = true) : (matchS p t).2.1 = true ∧ (matchS p t).2.2 = 0 := by
  obtain ⟨hp, hq, o1, r1, hm1, _⟩ := matchS_ok h1
  obtain ⟨_, ht, o2, r2, hm2, _⟩ := matchS_ok h2
  obtain ⟨p1, p2, p3⟩ := checkS_ok hp
  obtain ⟨q1, q2, q3⟩ := checkS_ok hq
  obtain ⟨t1, t2, t3⟩ := checkS_ok ht
  have e1 := mat_whole p2 p3 q3 hm1
  subst e1
  have e2 := mat_whole q2 q3 t3 hm2
  subst e2
  obtain ⟨s1, g1, g2⟩ := (mat_put p q [] o1 [] hm1).2 o1 (Ext.refl _)
  obtain ⟨s2, g3, g4⟩ := (mat_put q t [] o2 [] hm2).2 o2 (Ext.refl _)
  rw [List.append_nil] at g2 g4
  subst g2 g4
  have hb2 := mat_right q t [] o2 [] hm2 t1 t2 rfl
  have hb1 := mat_right p q [] o1 [] hm1 q1 q2 rfl
  obtain ⟨o, ho, _⟩ := mat_of_put p (thru o1 o2) t [] [] (putS_thru p q t o1 o2 g1 g3) (fun c hc hk v hl => by
    obtain ⟨w, x, k1, k2⟩ := putS_parts p q t o1 o2 g1 g3 c hc hk
    rw [lookB_thru, k1] at hl
    simp only [Option.map_some, k2, Option.getD_some] at hl
    injection hl with hl
    obtain ⟨b, hb, _, hbw⟩ := lookB_mem k1
    have hcw := (bErr_vals o1 [] hb1 b hb).2.2
    rw [hbw] at hcw
    obtain ⟨_, w2, w3⟩ := checkS_ok hcw
    rw [← hl]
    exact segN_put w x o2 1 w2 w3 k2 (vals_of hb2)) (ext_nil _)
  rw [List.append_nil] at ho
  rw [matchS_of hp ht ho]
  exact ⟨rfl, rfl⟩
end Go.Proofs.Ytlfhonekcmlomaa.P

-- ==== PureMatchChain
/- A pattern that fits a pattern fits all that this one fits: for all three terms that can be read as data, the law answers true. -/
namespace Go.Proofs.Ytlfhonekcmlomaa.Pure
open Go.RowKit Go.Proofs.Ytlfhonekcmlomaa.P Go.Proofs.YtlfhonekcmlomaaW.PrintWords

theorem ev_chain_t (p t : List Cel) : Ev (fun k => aumbrylaw05_MatchChain.j0 k p t true) true := by
  refine Ev.step (fun k => (show aumbrylaw05_MatchChain.j0 (k + 1) p t true = _ from by rw [aumbrylaw05_MatchChain.j0])) ?_
  exact evIfp rfl (Ev.now _)
theorem MatchChain : aumbrylaw05_MatchChain.Pure := by
  intro p q t hp hq ht
  have hpl := sz_len hp
  have hql := sz_len hq
  have htl := sz_len ht
  refine Ev.rounds ?_
  unfold aumbrylaw05_MatchChain.f
  refine Ev.bind ev_wakes ?_
  refine evIfp rfl ?_
  refine Ev.bind (evIs (own_at p hpl)) (Ev.bind (evIs (own_at q hql)) ?_)
  refine Ev.bind (ev_match p q) ?_
  refine Ev.bind (evIs (own_at q hql)) (Ev.bind (evIs (own_at t htl)) ?_)
  refine Ev.bind (ev_match q t) ?_
  by_cases he : (matchS p q).2.2 = 0
  · refine evIfp he ?_
    by_cases hf : (matchS q t).2.2 = 0
    · refine evIfp hf ?_
      by_cases hm : (matchS p q).2.1 = true
      · refine evIfp hm ?_
        by_cases hn : (matchS q t).2.1 = true
        · have hc := match_chain hm hn
          refine Ev.step (fun k => (show aumbrylaw05_MatchChain.j0 (k + 1) p t (!(matchS q t).2.1) = _ from by rw [aumbrylaw05_MatchChain.j0])) ?_
          refine evIfn (by simp [hn]) ?_
          refine Ev.bind (evIs (own_at p hpl)) (Ev.bind (evIs (own_at t htl)) ?_)
          refine Ev.bind (ev_match p t) ?_
          refine evIfp hc.1 ?_
          rw [hc.2]
          exact Ev.now _
        · have : (!(matchS q t).2.1) = true := by simp [hn]
          rw [this]
          exact ev_chain_t p t
      · exact evIfn hm (ev_chain_t p t)
    · exact evIfn hf (ev_chain_t p t)
  · exact evIfn he (ev_chain_t p t)
end Go.Proofs.Ytlfhonekcmlomaa.Pure

-- ==== RowMatchChain
namespace Go.Proofs.Ytlfhonekcmlomaa.matchChain
open Go.ChangeShapes Go.WideShapes Go.ChangeAt Go.RowKit Go.Proofs.YtlfhonekcmlomaaW.PrintWords Go.Proofs.Ytlfhonekcmlomaa.P Go.Proofs.Ytlfhonekcmlomaa.Open
open Go.ChangeMaps (open_string shut_string)
set_option linter.unusedVariables false
theorem own : ownKnob Try.prog.godebug = none := by kernel_rfl
theorem laidOut : laidOutB Try.prog = true := by kernel_rfl
set_option maxRecDepth 100000 in
theorem core {H : Type} {enc : TypeId × Value → H} (W : World) (base : Nat) (args : Array Value) (ds gs : List (DataW H)) (before : List MemPlace)
    (hval : ∀ (j : Nat) t v, Try.f7.params[j]? = some t → args[j]? = some v → Value.okWide Try.prog W .any base t v)
    (hW : DataW.Whole enc Try.prog Try.f7.params.toList Rows.matchChainSpec.vars false W args.toList ds gs before)
    (hsz : (DataW.weightsEach Try.prog (Try.f7.params.toList ++ Rows.matchChainSpec.plain.varTypes Try.prog) (ds ++ gs)).all (· ≤ reachBytes) = true)
    :
    Calls Try.prog 7 args W fun e W' => ∃ v, e = .returned v ∧ Rows.matchChainSpec.post enc Try.prog Try.f7 false true false false W args v W' := by
  have hW' := hW
  obtain ⟨p, q, hA, hV, rfl, hfz, hnd⟩ := hW
  rw [Try.params7] at hA hval hsz
  obtain ⟨v0, vs0, d0, ds0, p0, q0, hargs, rfl, rfl, h0, r0⟩ := trodAll_cons hA
  obtain ⟨v1, vs1, d1, ds1, p1, q1, rfl, rfl, rfl, h1, r1⟩ := trodAll_cons r0
  obtain ⟨v2, vs2, d2, ds2, p2, q2, rfl, rfl, rfl, h2, r2⟩ := trodAll_cons r1
  obtain ⟨rfl, rfl, rfl⟩ := trodAll_nil r2
  obtain rfl : args = #[v0, v1, v2] := by cases args; simp_all
  obtain ⟨rfl, rfl⟩ := trodVars_none hV
  have k0 := h0
  obtain ⟨n0, hf0⟩ := h0
  obtain ⟨x0, hK0, hS0, hB0⟩ := op23.go hf0 (fun m hm => by have := List.all_eq_true.1 hsz m (DataW.weights_mem_each (j := 0) rfl rfl m hm); simpa using this)
  have lt0 : ∀ z ∈ p0, z.block < W.heap.size := by obtain ⟨m, hm⟩ := k0; exact DataW.trod_lt m _ _ _ hm
  obtain ⟨a0, len0, cap0, rfl⟩ := okWide_slice Try.underlying23 (hval 0 23 v0 rfl rfl)
  obtain ⟨A0, c0, hcs0, hc0, hr0⟩ := hK0
  have hcs0' : [(Value.slice a0 len0 cap0)] = [.slice A0 x0.length c0] := hcs0
  injection hcs0' with hcs0'
  injection hcs0' with ha0 hl0 hk0
  subst ha0 hl0 hk0
  have k1 := h1
  obtain ⟨n1, hf1⟩ := h1
  obtain ⟨x1, hK1, hS1, hB1⟩ := op23.go hf1 (fun m hm => by have := List.all_eq_true.1 hsz m (DataW.weights_mem_each (j := 1) rfl rfl m hm); simpa using this)
  have lt1 : ∀ z ∈ p1, z.block < W.heap.size := by obtain ⟨m, hm⟩ := k1; exact DataW.trod_lt m _ _ _ hm
  obtain ⟨a1, len1, cap1, rfl⟩ := okWide_slice Try.underlying23 (hval 1 23 v1 rfl rfl)
  obtain ⟨A1, c1, hcs1, hc1, hr1⟩ := hK1
  have hcs1' : [(Value.slice a1 len1 cap1)] = [.slice A1 x1.length c1] := hcs1
  injection hcs1' with hcs1'
  injection hcs1' with ha1 hl1 hk1
  subst ha1 hl1 hk1
  have k2 := h2
  obtain ⟨n2, hf2⟩ := h2
  obtain ⟨x2, hK2, hS2, hB2⟩ := op23.go hf2 (fun m hm => by have := List.all_eq_true.1 hsz m (DataW.weights_mem_each (j := 2) rfl rfl m hm); simpa using this)
  have lt2 : ∀ z ∈ p2, z.block < W.heap.size := by obtain ⟨m, hm⟩ := k2; exact DataW.trod_lt m _ _ _ hm
  obtain ⟨a2, len2, cap2, rfl⟩ := okWide_slice Try.underlying23 (hval 2 23 v2 rfl rfl)
  obtain ⟨A2, c2, hcs2, hc2, hr2⟩ := hK2
  have hcs2' : [(Value.slice a2 len2 cap2)] = [.slice A2 x2.length c2] := hcs2
  injection hcs2' with hcs2'
  injection hcs2' with ha2 hl2 hk2
  subst ha2 hl2 hk2
  obtain ⟨k, h⟩ := Pure.MatchChain x0 x1 x2 hS0 hS1 hS2
  refine (aumbrylaw05_MatchChain.calls k _ _ x0 _ _ x1 _ _ x2 true W hr0 hc0 hr1 hc1 hr2 hc2 h).mono ?_
  rintro e W' ⟨rfl, hd⟩
  have bel : Below W.heap.size W W' := hd
  exact ⟨_, rfl, _, _, _, [], _, [], hW', trodAll_mk1 (shut_bool Try.underlying4 _), (trodAll_cons_mk (Below.trod laidOut (by kernel_rfl) (of_decide_eq_true (by kernel_rfl)) k0 bel lt0) (trodAll_cons_mk (Below.trod laidOut (by kernel_rfl) (of_decide_eq_true (by kernel_rfl)) k1 bel lt1) (trodAll_cons_mk (Below.trod laidOut (by kernel_rfl) (of_decide_eq_true (by kernel_rfl)) k2 bel lt2) trodAll_mk0))), rfl, bel.frame _, fun h => by cases h⟩
set_option maxRecDepth 100000 in
theorem lifted (os : Os) (started : os.Started) (H : Type) (enc : TypeId × Value → H) :
    ReturnsInHanded {} Try.checked os 7 .any (Rows.matchChainSpec.pre6 enc Try.prog Try.f7 Rows.matchChainRow.domain false) (Rows.matchChainSpec.post enc Try.prog Try.f7 false true false false) := by
  refine returnsInHanded_of_change_sized (C := Try.checked) own started (by kernel_rfl) Try.func7
    (ChangeSpec.witness6 (enc := enc) (C := Try.checked) false ⟨#[], #[.slice none 0 0, .slice none 0 0, .slice none 0 0], []⟩ 8 (by kernel_rfl) (by kernel_rfl) (by kernel_rfl) (by kernel_rfl)) ?_
  intro W base args ds gs before hval0 hW hcnd hsz0 _
  exact core W base args ds gs before hval0 hW hsz0
theorem over : Rows.matchChainRow.holds Try.pinned (OpenSpec.ofChange Rows.matchChainSpec) :=
  OpenClaim.holds_of_wide 7 Try.f7 rfl rfl rfl rfl rfl rfl rfl ⟨rfl, rfl, rfl, rfl, rfl⟩ rfl rfl rfl rfl rfl (by kernel_rfl) Try.func7 (by kernel_rfl)
    (of_decide_eq_true (by kernel_rfl)) (by unfold Func.isWrapper; first | (rw [if_pos (by decide +kernel)]; kernel_rfl) | (rw [if_neg (by decide +kernel)]; exact ⟨rfl, rfl⟩))
    (fun os started H enc _ => lifted os started H enc)
theorem proved : Rows.MatchChainSaid := over
end Go.Proofs.Ytlfhonekcmlomaa.matchChain
namespace Go.Proofs.Ytlfhonekcmlomaa
/-- The row, under a short name, for the claim. -/
theorem matchChain_holds : Rows.MatchChainSaid := matchChain.proved
#print axioms matchChain_holds
end Go.Proofs.Ytlfhonekcmlomaa
