/- MatchFills: the law answers true at every input that the given row speaks of. Conditions: those of the given row, none besides. (Part 4 of 4; written by programs of this session, which drive the kit's print, and by hand.) -/
import Derived.KernelRfl
import Derived.Test.YtlfhonekcmlomaaRows
import Derived.WalkKit
import Derived.ProofKit
import Derived.OpenShut
import Derived.ShutString
import Derived.ChangeOld
import Derived.Below
import Derived.Carry
import Derived.SizedLaws
import Derived.Test.YtlfhonekcmlomaaZMatchFills0
import Derived.Test.YtlfhonekcmlomaaZMatchFills1
import Derived.Test.YtlfhonekcmlomaaZMatchFills2
-- ==== PF35
namespace Go.Proofs.Ytlfhonekcmlomaa.P
open Go.RowKit Go.Proofs.YtlfhonekcmlomaaW.PrintWords Go.Proofs.YtlfhonekcmlomaaW.PrintLast Go.Proofs.YtlfhonekcmlomaaW.PrintMore
attribute [local go_sem] max2_int min2_int max_two min_two max_three min_three max_four min_four   -- for this text's walks alone
set_option linter.unusedVariables false
set_option linter.unusedSimpArgs false

/-! ### aumbryref05_Var: function 35 -/
def aumbryref05_Var.f (k : Nat) (l0 : List (S47)) : Option (Bool) := if (l0.length : Int) = 1 then (if 0 < (l0.length : Int) then ((aumbryref03_Kind.f k ((rd_T47 l0 0).f0)).bind fun t102 => (some (t102 == 2))) else (none)) else (some false)
end Go.Proofs.Ytlfhonekcmlomaa.P

-- ==== PF36
namespace Go.Proofs.Ytlfhonekcmlomaa.P
open Go.RowKit Go.Proofs.YtlfhonekcmlomaaW.PrintWords Go.Proofs.YtlfhonekcmlomaaW.PrintLast Go.Proofs.YtlfhonekcmlomaaW.PrintMore
attribute [local go_sem] max2_int min2_int max_two min_two max_three min_three max_four min_four   -- for this text's walks alone
set_option linter.unusedVariables false
set_option linter.unusedSimpArgs false

/-! ### aumbryref04_Kids: function 36 -/
def aumbryref04_Kids.l0 : Nat → List (S47) → List (List (S47)) → Int → Option ((List (List (S47))))
  | 0, _, _, _ => none
  | k + 1, x0, x3, x4 => if x4 < (x0.length : Int) then ((aumbryref04_Behind.f k x0 x4).bind fun t101 => (if 0 ≤ x4 then (if x4 ≤ t101 then (if t101 ≤ (x0.length : Int) then ((aumbryref04_Copy.f ((x0.take (t101 : Int).toNat).drop (x4 : Int).toNat)).bind fun t106 => (if x3.length < 5864062014805 then ((aumbryref04_Behind.f k x0 x4).bind fun t112 => (aumbryref04_Kids.l0 k x0 (x3 ++ [t106]) t112)) else (none))) else (none)) else (none)) else (none))) else (some x3)
def aumbryref04_Kids.f (k : Nat) (l0 : List (S47)) : Option ((List (List (S47)))) := aumbryref04_Kids.l0 k l0 ([] : List (List (S47))) 1
end Go.Proofs.Ytlfhonekcmlomaa.P

-- ==== PF27
namespace Go.Proofs.Ytlfhonekcmlomaa.P
open Go.RowKit Go.Proofs.YtlfhonekcmlomaaW.PrintWords Go.Proofs.YtlfhonekcmlomaaW.PrintLast Go.Proofs.YtlfhonekcmlomaaW.PrintMore
attribute [local go_sem] max2_int min2_int max_two min_two max_three min_three max_four min_four   -- for this text's walks alone
set_option linter.unusedVariables false
set_option linter.unusedSimpArgs false

attribute [local go_sem high] eqA47
/-! ### aumbryref05_Fit: function 27 -/
mutual
def aumbryref05_Fit.l0 : Nat → List (S44) → List (List (S47)) → List (List (S47)) → Int → Int → Option ((List (S44)) × Bool)
  | 0, _, _, _, _, _ => none
  | k + 1, x2, x9, x10, x54, x55 => if x55 < x54 then (if 0 ≤ x55 then (if x55 < (x9.length : Int) then (if x55 < (x10.length : Int) then ((aumbryref05_Fit.f k (rd_L3 x9 x55) (rd_L3 x10 x55) x2).bind fun bt123 => (if bt123.2 = true then (aumbryref05_Fit.l0 k bt123.1 x9 x10 x54 (wrap64 (x55 + 1))) else (some (([] : List (S44)), false)))) else (none)) else (none)) else (none)) else (some (x2, true))
def aumbryref05_Fit.f : Nat → List (S47) → List (S47) → List (S44) → Option ((List (S44)) × Bool)
  | 0, _, _, _ => none
  | k + 1, l0, l1, l2 => (aumbryref05_Var.f k l0).bind fun t101 => (if t101 = true then (if 0 < (l0.length : Int) then ((aumbryref05_At.f k l2 ((rd_T47 l0 0).f0)).bind fun t103 => (if t103 < 0 then ((aumbryref04_Copy.f l1).bind fun t105 => (if l2.length < 3518437208883 then (some ((l2 ++ [(⟨(rd_T47 l0 0).f0, t105⟩ : S44)]), true)) else (none))) else (if 0 ≤ t103 then (if t103 < (l2.length : Int) then ((aumbryref04_Same.f k ((rd_T44 l2 t103).f1) l1).bind fun t112 => (some (l2, t112))) else (none)) else (none)))) else (none)) else (if 0 < (l0.length : Int) then (if 0 < (l1.length : Int) then (if (!((((rd_T47 l0 0).f0).toList) == (((rd_T47 l1 0).f0).toList)) || (!(((rd_T47 l0 0).f1) == ((rd_T47 l1 0).f1)))) = true then (some (([] : List (S44)), false)) else ((aumbryref04_Kids.f k l0).bind fun t115 => ((aumbryref04_Kids.f k l1).bind fun t118 => (aumbryref05_Fit.l0 k l2 t115 t118 (t115.length : Int) 0)))) else (none)) else (none)))
end
end Go.Proofs.Ytlfhonekcmlomaa.P

-- ==== PF12
namespace Go.Proofs.Ytlfhonekcmlomaa.P
open Go.RowKit Go.Proofs.YtlfhonekcmlomaaW.PrintWords Go.Proofs.YtlfhonekcmlomaaW.PrintLast Go.Proofs.YtlfhonekcmlomaaW.PrintMore
attribute [local go_sem] max2_int min2_int max_two min_two max_three min_three max_four min_four   -- for this text's walks alone
set_option linter.unusedVariables false
set_option linter.unusedSimpArgs false

/-! ### aumbryref05_Match: function 12 -/
def aumbryref05_Match.f (k : Nat) (l0 : List (S47)) (l1 : List (S47)) : Option ((List (S44)) × Bool × Int) := (aumbryref04_Check.f k l0).bind fun t101 => (if t101 = 0 then ((aumbryref04_Check.f k l1).bind fun t102 => (if t102 = 0 then ((aumbryref05_Fit.f k l0 l1 ([] : List (S44))).bind fun bt103 => (if bt103.2 = true then (some (bt103.1, true, 0)) else (some (([] : List (S44)), false, 0)))) else (some (([] : List (S44)), false, t102)))) else (some (([] : List (S44)), false, t101)))
end Go.Proofs.Ytlfhonekcmlomaa.P

-- ==== PF13
namespace Go.Proofs.Ytlfhonekcmlomaa.P
open Go.RowKit Go.Proofs.YtlfhonekcmlomaaW.PrintWords Go.Proofs.YtlfhonekcmlomaaW.PrintLast Go.Proofs.YtlfhonekcmlomaaW.PrintMore
attribute [local go_sem] max2_int min2_int max_two min_two max_three min_three max_four min_four   -- for this text's walks alone
set_option linter.unusedVariables false
set_option linter.unusedSimpArgs false

/-! ### aumbryref05_Same: function 13 -/
def aumbryref05_Same.l0 : Nat → List (S44) → List (S44) → Int → Int → Option (Bool)
  | 0, _, _, _, _ => none
  | k + 1, x0, x1, x12, x13 => if x13 < x12 then (if 0 ≤ x13 then (if x13 < (x0.length : Int) then (if x13 < (x1.length : Int) then (if ((rd_T44 x0 x13).f0).toList = ((rd_T44 x1 x13).f0).toList then ((aumbryref04_Same.f k ((rd_T44 x0 x13).f1) ((rd_T44 x1 x13).f1)).bind fun t105 => (if t105 = true then (aumbryref05_Same.l0 k x0 x1 x12 (wrap64 (x13 + 1))) else (some false))) else (some false)) else (none)) else (none)) else (none)) else (some true)
def aumbryref05_Same.f (k : Nat) (l0 : List (S44)) (l1 : List (S44)) : Option (Bool) := if (l0.length : Int) = (l1.length : Int) then (aumbryref05_Same.l0 k l0 l1 (l0.length : Int) 0) else (some false)
end Go.Proofs.Ytlfhonekcmlomaa.P

-- ==== PLc
/- Plain laws, part c: where a pattern fits: along the cells, and part by part. -/
namespace Go.Proofs.Ytlfhonekcmlomaa.P
open Go.RowKit Go.Proofs.YtlfhonekcmlomaaW.PrintWords
set_option linter.unusedVariables false
set_option linter.unusedSimpArgs false

abbrev Bnd := S44
def lookB (out : List Bnd) (s : ByteArray) : Option (List Cel) := (out.find? (fun b => decide (b.f0 = s))).map (·.f1)
/-! ### segments -/
/-! ### the program's Match -/
theorem ev_variable (c : Cel) : Ev (fun k => match_variable.f k c.f0 c.f1) (kindS c.f0 == 2) := by
  unfold match_variable.f
  exact Ev.bind (ev_kind c.f0) (Ev.now _)
theorem bytes_eq (a b : ByteArray) : a.toList = b.toList ↔ a = b := by
  rw [ByteArray.toList_eq, ByteArray.toList_eq]
  constructor
  · intro h
    cases a; cases b
    simp only [ByteArray.mk.injEq]
    exact Array.toList_inj.1 h
  · intro h
    rw [h]
theorem cel_ne (c d : Cel) : ((!((c.f0.toList) == (d.f0.toList)) || (!(c.f1 == d.f1))) = true) ↔ c ≠ d := by
  cases c with | mk a b => cases d with | mk a' b' =>
  simp only [Bool.or_eq_true, Bool.not_eq_true', beq_eq_false_iff_ne, ne_eq, bytes_eq, S47.mk.injEq]
  by_cases h : a = a' <;> simp [h]
theorem ev_cels_loop (F : Nat → List Cel → List Cel → Int → Int → Option Bool)
    (hF : ∀ k x y n i, F (k + 1) x y n i = if i < n then (if 0 ≤ i then (if i < (x.length : Int) then (if i < (y.length : Int) then (if (!((((rd_T47 x i).f0).toList) == (((rd_T47 y i).f0).toList)) || (!(((rd_T47 x i).f1) == ((rd_T47 y i).f1)))) = true then (some false) else (F k x y n (wrap64 (i + 1)))) else (none)) else (none)) else (none)) else (some true))
    (x y : List Cel) (hl : x.length = y.length) (hb : x.length ≤ 9223372036854775806) : ∀ (s u : List Cel) (a : Nat), a ≤ x.length → x.drop a = s → y.drop a = u → Ev (fun k => F k x y (x.length : Int) (a : Int)) (decide (s = u))
  | [], u, a, ha, hs, hu => by
    have h1 := drop_nil_len ha hs
    have h2 : u = [] := by rw [← hu]; exact List.drop_eq_nil_of_le (by omega)
    refine Ev.step (f := fun _ => some true) (fun k => by rw [hF, if_neg (by omega)]) ?_
    rw [h2]
    exact Ev.now _
  | c :: s, u, a, ha, hs, hu => by
    obtain ⟨h1, _, h3⟩ := drop_cons hs
    rcases u with _ | ⟨d, u⟩
    · have := drop_nil_len (by omega) hu
      omega
    obtain ⟨_, _, h4⟩ := drop_cons hu
    by_cases hcd : c = d
    · refine Ev.step (f := fun k => F k x y (x.length : Int) ((a + 1 : Nat) : Int)) (fun k => by
        rw [hF, if_pos (by omega), if_pos (by omega), if_pos (by omega), if_pos (by omega), rd_cel hs, rd_cel hu, if_neg (fun h => (cel_ne c d).1 h hcd), wrap_up (by omega) (by omega)]
        rfl) ?_
      have : decide (c :: s = d :: u) = decide (s = u) := by subst hcd; simp
      rw [this]
      exact ev_cels_loop F hF x y hl hb s u (a + 1) (by omega) h3 h4
    · refine Ev.step (f := fun _ => some false) (fun k => by
        rw [hF, if_pos (by omega), if_pos (by omega), if_pos (by omega), if_pos (by omega), rd_cel hs, rd_cel hu, if_pos ((cel_ne c d).2 hcd)]) ?_
      have : decide (c :: s = d :: u) = false := by simp [hcd]
      rw [this]
      exact Ev.now _
theorem ev_refSame4 (x y : List Cel) (hb : x.length ≤ 9223372036854775806 ∨ y.length ≤ 9223372036854775806) : Ev (fun k => aumbryref04_Same.f k x y) (decide (x = y)) := by
  unfold aumbryref04_Same.f
  by_cases h : (x.length : Int) = (y.length : Int)
  · exact Ev.congr (f := fun k => aumbryref04_Same.l0 k x y (x.length : Int) ((0 : Nat) : Int)) (fun k => by rw [if_pos h]; rfl) (ev_cels_loop _ (fun k x y n i => rfl) x y (by omega) (by omega) x y 0 (by omega) rfl rfl)
  · refine Ev.congr (f := fun _ => some (decide (x = y))) (fun k => ?_) (Ev.now _)
    rw [if_neg h]
    congr 1
    rw [Eq.comm, decide_eq_false_iff_not]
    rintro rfl
    exact h rfl
theorem copy_at (x : List Cel) (h : x.length < 5864062014805) : aumbryref04_Copy.f x = some x := by
  unfold aumbryref04_Copy.f
  rw [if_pos (by simpa using h)]
  rfl

/-- The map of places is that of the binds. -/
structure MapOk (m : List Cel) (out : List Bnd) : Prop where
  len : m.length = out.length
  has : ∀ s, mapHas m s = (lookB out s).isSome
  at_ : ∀ s v, lookB out s = some v → ∃ j : Nat, mapAt m s = (j : Int) ∧ j < out.length ∧ ∃ b, out[j]? = some b ∧ b.f1 = v
theorem data_eq (a b : ByteArray) : a.data.toList = b.data.toList ↔ a = b := by
  rw [← bytes_eq, ByteArray.toList_eq, ByteArray.toList_eq]
theorem mapOk_nil : MapOk [] [] := ⟨rfl, fun s => rfl, fun s v h => by cases h⟩
theorem mapOk_put {m : List Cel} {out : List Bnd} (h : MapOk m out) (s : ByteArray) (v : List Cel) (hn : lookB out s = none) : MapOk (mapPut m s (out.length : Int)) (out ++ [⟨s, v⟩]) := by
  have hlook : ∀ s', lookB (out ++ [⟨s, v⟩]) s' = if s = s' then some v else lookB out s' := by
    intro s'
    unfold lookB at hn ⊢
    rw [List.find?_append]
    by_cases hs : s = s'
    · subst hs
      rw [if_pos rfl]
      cases hf : out.find? (fun b => decide (b.f0 = s)) with
      | none => simp
      | some b => rw [hf] at hn; cases hn
    · rw [if_neg hs]
      cases hf : out.find? (fun b => decide (b.f0 = s')) with
      | none => simp [hs]
      | some b => simp
  refine ⟨by simp [mapPut, h.len], fun s' => ?_, fun s' v' hv => ?_⟩
  · rw [hlook]
    by_cases hs : s = s'
    · subst hs
      simp [mapHas, mapPut]
    · rw [if_neg hs, ← h.has s']
      have : (s.data.toList == s'.data.toList) = false := by simp only [beq_eq_false_iff_ne, ne_eq, data_eq]; exact hs
      simp only [mapHas, mapPut, List.any_cons, this, Bool.false_or]
  · rw [hlook] at hv
    by_cases hs : s = s'
    · subst hs
      rw [if_pos rfl] at hv
      injection hv with hv
      subst hv
      exact ⟨out.length, by simp [mapAt, mapPut], by simp, ⟨s, v⟩, by simp, rfl⟩
    · rw [if_neg hs] at hv
      obtain ⟨j, h1, h2, b, h3, h4⟩ := h.at_ s' v' hv
      have : (s.data.toList == s'.data.toList) = false := by simp only [beq_eq_false_iff_ne, ne_eq, data_eq]; exact hs
      refine ⟨j, ?_, by simp; omega, b, by rw [List.getElem?_append_left h2]; exact h3, h4⟩
      rw [← h1]
      simp only [mapAt, mapPut, List.find?_cons, this]
theorem checkS_ok {t : List Cel} (h : checkS t = 0) : t.length ≤ 64 ∧ (∀ c ∈ t, Okc c) ∧ segN t 1 = some [] := by
  unfold checkS at h
  by_cases h1 : t.length > 64
  · rw [if_pos h1] at h
    cases h
  · rw [if_neg h1] at h
    by_cases h2 : errs t = 0
    · rw [if_pos h2] at h
      by_cases h3 : segN t 1 = some []
      · exact ⟨by omega, errs_ok h2, h3⟩
      · rw [if_neg h3] at h
        cases h
    · rw [if_neg h2] at h
      exact absurd h h2
/-! ### the document's Match -/
end Go.Proofs.Ytlfhonekcmlomaa.P

-- ==== PLd
/- Plain laws, part d: the document's Match is the program's. -/
namespace Go.Proofs.Ytlfhonekcmlomaa.P
open Go.RowKit Go.Proofs.YtlfhonekcmlomaaW.PrintWords
set_option linter.unusedVariables false
set_option linter.unusedSimpArgs false

theorem rd_bnd {t : List Bnd} {n : Nat} {c : Bnd} {s : List Bnd} (h : t.drop n = c :: s) : rd_T44 t (n : Int) = c := by
  unfold rd_T44
  exact (drop_cons h).2.1 _
theorem up_cast (a : Nat) (h : a < 9223372036854775807) : wrap64 ((a : Int) + 1) = ((a + 1 : Nat) : Int) := by rw [wrap_up (by omega) (by omega)]; rfl

def atS (l : List Bnd) (s : ByteArray) : Int := match l.findIdx? (fun b => decide (b.f0 = s)) with
  | none => -1
  | some j => (j : Int)
theorem ev_at_loop (l : List Bnd) (s : ByteArray) (hl : l.length ≤ 9223372036854775806) : ∀ (u : List Bnd) (a : Nat), a ≤ l.length → l.drop a = u →
    Ev (fun k => aumbryref05_At.l0 k l s (l.length : Int) (a : Int)) (match u.findIdx? (fun b => decide (b.f0 = s)) with | none => -1 | some j => ((a + j : Nat) : Int))
  | [], a, ha, hu => by
    have h1 := drop_nil_len ha hu
    refine Ev.step (fun k => (show aumbryref05_At.l0 (k + 1) l s (l.length : Int) (a : Int) = _ from by rw [aumbryref05_At.l0])) ?_
    exact evIfn (by omega) (Ev.now _)
  | b :: u, a, ha, hu => by
    obtain ⟨h1, _, h3⟩ := drop_cons hu
    refine Ev.step (fun k => (show aumbryref05_At.l0 (k + 1) l s (l.length : Int) (a : Int) = _ from by rw [aumbryref05_At.l0])) ?_
    refine evIfp (by omega) (evIfp (by omega) (evIfp (by omega) ?_))
    simp only [rd_bnd hu, up_cast a (by omega)]
    by_cases hb : b.f0 = s
    · refine evIfp ((bytes_eq _ _).2 hb) ?_
      simp only [List.findIdx?_cons, hb, decide_true, if_true]
      exact Ev.now _
    · refine evIfn (fun h => hb ((bytes_eq _ _).1 h)) ?_
      have := ev_at_loop l s hl u (a + 1) (by omega) h3
      have e : (match (b :: u).findIdx? (fun b => decide (b.f0 = s)) with | none => (-1 : Int) | some j => ((a + j : Nat) : Int)) = (match u.findIdx? (fun b => decide (b.f0 = s)) with | none => -1 | some j => ((a + 1 + j : Nat) : Int)) := by
        simp only [List.findIdx?_cons, hb, decide_false]
        cases u.findIdx? (fun b => decide (b.f0 = s)) with
        | none => rfl
        | some j => show ((a + (j + 1) : Nat) : Int) = ((a + 1 + j : Nat) : Int); omega
      rw [e]
      exact this
theorem ev_at (l : List Bnd) (s : ByteArray) (hl : l.length ≤ 9223372036854775806) : Ev (fun k => aumbryref05_At.f k l s) (atS l s) := by
  unfold aumbryref05_At.f atS
  have := ev_at_loop l s hl l 0 (by omega) rfl
  simp only [Nat.zero_add] at this
  exact this
theorem atS_look (l : List Bnd) (s : ByteArray) : (lookB l s = none ∧ atS l s = -1) ∨ ∃ (j : Nat) (b : Bnd), l[j]? = some b ∧ b.f0 = s ∧ lookB l s = some b.f1 ∧ atS l s = (j : Int) ∧ j < l.length ∧ ∀ i : Nat, i < j → ∀ c, l[i]? = some c → c.f0 ≠ s := by
  unfold lookB atS
  induction l with
  | nil => exact .inl ⟨rfl, rfl⟩
  | cons b l ih =>
    by_cases hb : b.f0 = s
    · refine .inr ⟨0, b, rfl, hb, ?_, ?_, by simp, fun i hi => by omega⟩
      · simp [hb]
      · simp [List.findIdx?_cons, hb]
    · rcases ih with ⟨h1, h2⟩ | ⟨j, c, h1, h2, h3, h4, h5, h6⟩
      · refine .inl ⟨?_, ?_⟩
        · rw [List.find?_cons_of_neg (by simp [hb])]
          exact h1
        · simp only [List.findIdx?_cons, hb, decide_false]
          cases hf : l.findIdx? (fun b => decide (b.f0 = s)) with
          | none => rfl
          | some j => rw [hf] at h2; simp only at h2; omega
      · refine .inr ⟨j + 1, c, by simpa using h1, h2, ?_, ?_, by simp; omega, fun i hi x hx => ?_⟩
        · rw [List.find?_cons_of_neg (by simp [hb])]
          exact h3
        · simp only [List.findIdx?_cons, hb, decide_false]
          cases hf : l.findIdx? (fun b => decide (b.f0 = s)) with
          | none => rw [hf] at h4; simp only at h4; omega
          | some q => rw [hf] at h4; simp only at h4; simp; omega
        · cases i with
          | zero => simp at hx; subst hx; exact hb
          | succ i => exact h6 i (by omega) x (by simpa using hx)
/-! ### binds alike -/
end Go.Proofs.Ytlfhonekcmlomaa.P

-- ==== PLe
/- Plain laws, part e: what the statements ask ahead (wakes), and copies. -/
namespace Go.Proofs.Ytlfhonekcmlomaa.P
open Go.RowKit Go.Proofs.YtlfhonekcmlomaaW.PrintWords
set_option linter.unusedVariables false
set_option linter.unusedSimpArgs false

set_option maxRecDepth 100000 in
theorem ev_wakes : Ev (fun k => aumbrylaw05_wakes.f k) true := Ev.of (g := fun k => aumbrylaw05_wakes.f k) aumbrylaw05_wakes.mono (k := 40) (by kernel_rfl)
theorem own_at (x : List Cel) (h : x.length < 5864062014805) : aumbrylaw05_own.f x = some x := by
  unfold aumbrylaw05_own.f
  rw [copy_at x h]
  rfl
theorem sz_len {l : List Cel} (h : sz23 l) : l.length < 5864062014805 := by
  have := h.1
  omega
end Go.Proofs.Ytlfhonekcmlomaa.P

-- ==== PLf
/- Plain laws, part f: what a pattern becomes by binds: the program's Fill is the document's. -/
namespace Go.Proofs.Ytlfhonekcmlomaa.P
open Go.RowKit Go.Proofs.YtlfhonekcmlomaaW.PrintWords
set_option linter.unusedVariables false
set_option linter.unusedSimpArgs false

def bErr : List Bnd → List Bnd → Int
  | _, [] => 0
  | seen, b :: u => if kindS b.f0 = 2 then (if (lookB seen b.f0).isSome = true then 9 else if checkS b.f1 = 0 then bErr (seen ++ [b]) u else checkS b.f1) else 4
def putS : List Cel → List Bnd → Option (List Cel)
  | [], _ => some []
  | c :: p, l => if kindS c.f0 = 2 then (match lookB l c.f0 with | none => none | some v => (putS p l).map (v ++ ·)) else (putS p l).map (c :: ·)
def putR (x : Option (List Cel)) : List Cel × Int := match x with
  | none => ([], 7)
  | some o => if o.length > 64 then ([], 6) else (o, 0)
def fillS (p : List Cel) (l : List Bnd) : List Cel × Int := if checkS p = 0 then (if bErr [] l = 0 then putR (putS p l) else ([], bErr [] l)) else ([], checkS p)

theorem lookB_mem {l : List Bnd} {s : ByteArray} {v : List Cel} (h : lookB l s = some v) : ∃ b ∈ l, b.f0 = s ∧ b.f1 = v := by
  unfold lookB at h
  cases hf : l.find? (fun b => decide (b.f0 = s)) with
  | none => rw [hf] at h; cases h
  | some b =>
    rw [hf] at h
    exact ⟨b, List.mem_of_find?_eq_some hf, by simpa using List.find?_some hf, by simpa using h⟩

/-! ### the program's -/
theorem ev_fill2 (p : List Cel) (l : List Bnd) (m : List Cel) (hp : p.length ≤ 64) (hok : ∀ c ∈ p, Okc c) (hm : MapOk m l) (hv : ∀ b ∈ l, b.f1.length ≤ 64) (hl : l.length ≤ 9223372036854775806) :
    ∀ (s : List Cel) (i : Nat) (out : List Cel), i ≤ p.length → p.drop i = s → out.length ≤ 64 * i → Ev (fun k => match_Fill.l1 k l m out p (p.length : Int) (i : Int)) (putR ((putS s l).map (out ++ ·)))
  | [], i, out, hi, hs, ho => by
    have h1 := drop_nil_len hi hs
    refine Ev.step (fun k => (show match_Fill.l1 (k + 1) l m out p (p.length : Int) (i : Int) = _ from by rw [match_Fill.l1])) ?_
    refine evIfn (by omega) ?_
    simp only [putS, Option.map_some, List.append_nil, putR]
    by_cases h : out.length > 64
    · rw [if_pos h]
      exact evIfp (by omega) (Ev.now _)
    · rw [if_neg h]
      exact evIfn (by omega) (Ev.now _)
  | c :: s, i, out, hi, hs, ho => by
    obtain ⟨h1, _, h3⟩ := drop_cons hs
    have hc : Okc c := hok c (List.mem_of_mem_drop (hs ▸ List.mem_cons_self ..))
    have hks := kindS_size hc.kind
    refine Ev.step (fun k => (show match_Fill.l1 (k + 1) l m out p (p.length : Int) (i : Int) = _ from by rw [match_Fill.l1])) ?_
    refine evIfp (by omega) (evIfp (by omega) (evIfp (by omega) ?_))
    simp only [rd_cel hs, up_cast i (by omega)]
    refine evIfp (by omega) ?_
    refine Ev.bind (ev_variable c) ?_
    by_cases hk : kindS c.f0 = 2
    · refine evIfp (by simp [hk]) ?_
      cases hlk : lookB l c.f0 with
      | none =>
        refine evIfn (by rw [hm.has, hlk]; simp) ?_
        have : putS (c :: s) l = none := by simp only [putS, hk, if_true, hlk]
        rw [this]
        exact Ev.now _
      | some v =>
        obtain ⟨j, hj1, hj2, b, hj3, hj4⟩ := hm.at_ _ _ hlk
        have hrd : (rd_T44 l (mapAt m c.f0)).f1 = v := by
          rw [hj1]
          unfold rd_T44
          rw [List.getD_eq_getElem?_getD, Int.toNat_natCast, hj3]
          exact hj4
        obtain ⟨b', hb', _, hb2⟩ := lookB_mem hlk
        have hvl : v.length ≤ 64 := by rw [← hb2]; exact hv b' hb'
        refine evIfp (by rw [hm.has, hlk]; simp) ?_
        refine evIfp (by omega) (evIfp (by omega) ?_)
        simp only [hrd]
        refine evIfp (by omega) ?_
        have := ev_fill2 p l m hp hok hm hv hl s (i + 1) (out ++ v) (by omega) h3 (by simp; omega)
        have e : (putS (c :: s) l).map (out ++ ·) = (putS s l).map (out ++ v ++ ·) := by
          simp only [putS, hk, if_true, hlk, Option.map_map]
          congr 1
          funext x
          simp
        rw [e]
        exact this
    · refine evIfn (by simp [hk]) ?_
      refine evIfp (by omega) ?_
      have := ev_fill2 p l m hp hok hm hv hl s (i + 1) (out ++ [c]) (by omega) h3 (by simp; omega)
      have e : (putS (c :: s) l).map (out ++ ·) = (putS s l).map (out ++ [c] ++ ·) := by
        simp only [putS, hk, if_false, Option.map_map]
        congr 1
        funext x
        simp
      rw [e]
      exact this
theorem ev_fill1 (p : List Cel) (l : List Bnd) (hp : p.length ≤ 64) (hok : ∀ c ∈ p, Okc c) (hl : l.length ≤ 9223372036854775806) :
    ∀ (u : List Bnd) (i : Nat) (m : List Cel), i ≤ l.length → l.drop i = u → MapOk m (l.take i) → (∀ b ∈ l.take i, b.f1.length ≤ 64) →
    Ev (fun k => match_Fill.l0 k p l m l (l.length : Int) (i : Int)) (if bErr (l.take i) u = 0 then putR (putS p l) else ([], bErr (l.take i) u))
  | [], i, m, hi, hu, hm, hv => by
    have h1 := drop_nil_len hi hu
    refine Ev.step (fun k => (show match_Fill.l0 (k + 1) p l m l (l.length : Int) (i : Int) = _ from by rw [match_Fill.l0])) ?_
    refine evIfn (by omega) ?_
    rw [h1, List.take_length] at hm hv
    have := ev_fill2 p l m hp hok hm hv hl p 0 [] (by omega) rfl (by simp)
    simp only [bErr, if_true]
    have e : (putS p l).map (([] : List Cel) ++ ·) = putS p l := by cases putS p l <;> rfl
    rw [e] at this
    exact this
  | b :: u, i, m, hi, hu, hm, hv => by
    obtain ⟨h1, h2, h3⟩ := drop_cons hu
    have htk : l.take (i + 1) = l.take i ++ [b] := by
      rw [List.take_succ_eq_append_getElem h1]
      have := h2 b
      rw [List.getD_eq_getElem?_getD, List.getElem?_eq_getElem h1] at this
      rw [show l[i] = b from this]
    have hln : (l.take i).length = i := by rw [List.length_take]; omega
    have hml := hm.len
    refine Ev.step (fun k => (show match_Fill.l0 (k + 1) p l m l (l.length : Int) (i : Int) = _ from by rw [match_Fill.l0])) ?_
    refine evIfp (by omega) (evIfp (by omega) (evIfp (by omega) ?_))
    simp only [rd_bnd hu, up_cast i (by omega)]
    refine Ev.bind (ev_kind b.f0) ?_
    by_cases hk : kindS b.f0 = 2
    · have hks := kindS_size (s := b.f0) (by rw [hk]; decide)
      refine evIfp hk (evIfp (by omega) ?_)
      by_cases hh : (lookB (l.take i) b.f0).isSome = true
      · refine evIfp (by rw [hm.has]; exact hh) ?_
        simp only [bErr, hk, if_true, hh]
        exact Ev.now _
      · refine evIfn (by rw [hm.has]; exact hh) ?_
        refine Ev.bind (ev_check b.f1) ?_
        by_cases hc : checkS b.f1 = 0
        · refine evIfp hc (evIfp (by omega) ?_)
          have hlk : lookB (l.take i) b.f0 = none := by
            cases hq : lookB (l.take i) b.f0 with
            | none => rfl
            | some v => rw [hq] at hh; exact absurd rfl hh
          have hm' : MapOk (mapPut m b.f0 (i : Int)) (l.take (i + 1)) := by
            have := mapOk_put hm b.f0 b.f1 hlk
            rw [hln] at this
            rw [htk]
            exact this
          have := ev_fill1 p l hp hok hl u (i + 1) (mapPut m b.f0 (i : Int)) (by omega) h3 hm' (fun x hx => by
            rw [htk] at hx
            rcases List.mem_append.1 hx with hx | hx
            · exact hv x hx
            · rw [List.mem_singleton.1 hx]
              exact (checkS_ok hc).1)
          have e : bErr (l.take i) (b :: u) = bErr (l.take (i + 1)) u := by
            simp only [bErr, hk, if_true, hh, hc, htk]
            simp
          rw [e]
          exact this
        · refine evIfn hc ?_
          have e : bErr (l.take i) (b :: u) = checkS b.f1 := by
            simp only [bErr, hk, if_true, hh, hc, if_false]
            simp
          rw [e, if_neg hc]
          exact Ev.now _
    · refine evIfn hk ?_
      simp only [bErr, hk, if_false]
      exact Ev.now _
theorem ev_fill (p : List Cel) (l : List Bnd) (hl : l.length ≤ 9223372036854775806) : Ev (fun k => match_Fill.f k p l) (fillS p l) := by
  unfold match_Fill.f fillS
  refine Ev.bind (ev_check p) ?_
  by_cases hp : checkS p = 0
  · obtain ⟨p1, p2, _⟩ := checkS_ok hp
    rw [if_pos hp]
    refine evIfp hp ?_
    have := ev_fill1 p l p1 p2 hl l 0 [] (by omega) rfl mapOk_nil (fun b hb => by simp at hb)
    simp only [List.take_zero] at this
    exact this
  · rw [if_neg hp]
    exact evIfn hp (Ev.now _)

/-! ### the document's -/
theorem atS_before (l : List Bnd) (i : Nat) (b : Bnd) (h : l[i]? = some b) : (atS l b.f0 < (i : Int)) ↔ (lookB (l.take i) b.f0).isSome = true := by
  rcases atS_look l b.f0 with ⟨h1, h2⟩ | ⟨j, c, h1, h2, h3, h4, h5, h6⟩
  · exfalso
    have hi := (List.getElem?_eq_some_iff.1 h).1
    have hm : b ∈ l := List.mem_of_getElem? h
    unfold lookB at h1
    cases hf : l.find? (fun x => decide (x.f0 = b.f0)) with
    | none =>
      have := List.find?_eq_none.1 hf b hm
      simp at this
    | some x => rw [hf] at h1; cases h1
  · rw [h4]
    constructor
    · intro hj
      have hji : j < i := by omega
      unfold lookB
      cases hf : (l.take i).find? (fun x => decide (x.f0 = b.f0)) with
      | none =>
        have hmem : c ∈ l.take i := by
          rw [List.mem_iff_getElem?]
          exact ⟨j, by rw [List.getElem?_take, if_pos hji]; exact h1⟩
        have := List.find?_eq_none.1 hf c hmem
        simp [h2] at this
      | some x => rfl
    · intro hs
      rcases Nat.lt_or_ge j i with hji | hji
      · omega
      · exfalso
        cases hq : lookB (l.take i) b.f0 with
        | none => rw [hq] at hs; cases hs
        | some v =>
          obtain ⟨x, hx, hx2, _⟩ := lookB_mem hq
          obtain ⟨q, hq1⟩ := List.mem_iff_getElem?.1 hx
          have hqi : q < i := by
            have := (List.getElem?_eq_some_iff.1 hq1).1
            rw [List.length_take] at this
            omega
          rw [List.getElem?_take, if_pos hqi] at hq1
          exact h6 q (by omega) x hq1 hx2
instance decMemB (c : ByteArray) (l : List ByteArray) : Decidable (c ∈ l) := decidable_of_iff (l.any (fun x => decide (x = c)) = true) (by simp)
def varsS : List Cel → List ByteArray → List ByteArray
  | [], acc => acc
  | c :: p, acc => if kindS c.f0 = 2 then (if c.f0 ∈ acc then varsS p acc else varsS p (acc ++ [c.f0])) else varsS p acc
theorem mem_varsS : ∀ (p : List Cel) (acc : List ByteArray) (v : ByteArray), v ∈ varsS p acc ↔ v ∈ acc ∨ ∃ c ∈ p, kindS c.f0 = 2 ∧ c.f0 = v
  | [], acc, v => by simp [varsS]
  | c :: p, acc, v => by
    simp only [varsS]
    by_cases hk : kindS c.f0 = 2
    · rw [if_pos hk]
      by_cases hm : c.f0 ∈ acc
      · rw [if_pos hm, mem_varsS p acc v]
        constructor
        · rintro (h | ⟨d, h1, h2⟩)
          · exact .inl h
          · exact .inr ⟨d, List.mem_cons_of_mem _ h1, h2⟩
        · rintro (h | ⟨d, h1, h2, h3⟩)
          · exact .inl h
          · rcases List.mem_cons.1 h1 with rfl | h1
            · exact .inl (h3 ▸ hm)
            · exact .inr ⟨d, h1, h2, h3⟩
      · rw [if_neg hm, mem_varsS p (acc ++ [c.f0]) v]
        simp only [List.mem_append, List.mem_singleton]
        constructor
        · rintro ((h | h) | ⟨d, h1, h2⟩)
          · exact .inl h
          · exact .inr ⟨c, List.mem_cons_self .., hk, h.symm⟩
          · exact .inr ⟨d, List.mem_cons_of_mem _ h1, h2⟩
        · rintro (h | ⟨d, h1, h2, h3⟩)
          · exact .inl (.inl h)
          · rcases List.mem_cons.1 h1 with rfl | h1
            · exact .inl (.inr h3.symm)
            · exact .inr ⟨d, h1, h2, h3⟩
    · rw [if_neg hk, mem_varsS p acc v]
      constructor
      · rintro (h | ⟨d, h1, h2⟩)
        · exact .inl h
        · exact .inr ⟨d, List.mem_cons_of_mem _ h1, h2⟩
      · rintro (h | ⟨d, h1, h2, h3⟩)
        · exact .inl h
        · rcases List.mem_cons.1 h1 with rfl | h1
          · exact absurd h2 hk
          · exact .inr ⟨d, h1, h2, h3⟩
theorem varsS_len : ∀ (p : List Cel) (acc : List ByteArray), (varsS p acc).length ≤ acc.length + p.length
  | [], acc => by simp [varsS]
  | c :: p, acc => by
    simp only [varsS, List.length_cons]
    split
    · split
      · have := varsS_len p acc; omega
      · have := varsS_len p (acc ++ [c.f0]); simp at this; omega
    · have := varsS_len p acc; omega
theorem rd_str {t : List ByteArray} {n : Nat} {c : ByteArray} {s : List ByteArray} (h : t.drop n = c :: s) : rdOf ByteArray.empty t (n : Int) = c := by
  unfold rdOf
  exact (drop_cons h).2.1 _
theorem ev_has_loop (l : List ByteArray) (s : ByteArray) (hl : l.length ≤ 9223372036854775806) : ∀ (u : List ByteArray) (a : Nat), a ≤ l.length → l.drop a = u → Ev (fun k => aumbryref03_Has.l0 k l s (l.length : Int) (a : Int)) (decide (s ∈ u))
  | [], a, ha, hu => by
    have h1 := drop_nil_len ha hu
    refine Ev.step (fun k => (show aumbryref03_Has.l0 (k + 1) l s (l.length : Int) (a : Int) = _ from by rw [aumbryref03_Has.l0])) ?_
    exact evIfn (by omega) (Ev.now _)
  | b :: u, a, ha, hu => by
    obtain ⟨h1, _, h3⟩ := drop_cons hu
    refine Ev.step (fun k => (show aumbryref03_Has.l0 (k + 1) l s (l.length : Int) (a : Int) = _ from by rw [aumbryref03_Has.l0])) ?_
    refine evIfp (by omega) (evIfp (by omega) (evIfp (by omega) ?_))
    simp only [rd_str hu, up_cast a (by omega)]
    by_cases hb : b = s
    · refine evIfp ((bytes_eq _ _).2 hb) ?_
      simp only [hb, List.mem_cons, true_or, decide_true]
      exact Ev.now _
    · refine evIfn (fun h => hb ((bytes_eq _ _).1 h)) ?_
      have := ev_has_loop l s hl u (a + 1) (by omega) h3
      have e : decide (s ∈ b :: u) = decide (s ∈ u) := by
        have : ¬ s = b := fun h => hb h.symm
        simp [this]
      rw [e]
      exact this
theorem ev_has (l : List ByteArray) (s : ByteArray) (hl : l.length ≤ 9223372036854775806) : Ev (fun k => aumbryref03_Has.f k l s) (decide (s ∈ l)) := by
  unfold aumbryref03_Has.f
  exact ev_has_loop l s hl l 0 (by omega) rfl
theorem ev_vars_loop (p : List Cel) (hp : p.length ≤ 5864062014805) : ∀ (s : List Cel) (i : Nat) (acc : List ByteArray), i ≤ p.length → p.drop i = s → acc.length ≤ i → Ev (fun k => aumbryref04_Vars.l0 k p acc (p.length : Int) (i : Int)) (varsS s acc)
  | [], i, acc, hi, hs, ha => by
    have h1 := drop_nil_len hi hs
    refine Ev.step (fun k => (show aumbryref04_Vars.l0 (k + 1) p acc (p.length : Int) (i : Int) = _ from by rw [aumbryref04_Vars.l0])) ?_
    exact evIfn (by omega) (Ev.now _)
  | c :: s, i, acc, hi, hs, ha => by
    obtain ⟨h1, _, h3⟩ := drop_cons hs
    refine Ev.step (fun k => (show aumbryref04_Vars.l0 (k + 1) p acc (p.length : Int) (i : Int) = _ from by rw [aumbryref04_Vars.l0])) ?_
    refine evIfp (by omega) (evIfp (by omega) (evIfp (by omega) ?_))
    simp only [rd_cel hs, up_cast i (by omega)]
    refine Ev.bind (ev_refKind c.f0) ?_
    simp only [varsS]
    by_cases hk : kindS c.f0 = 2
    · rw [if_pos hk]
      refine evIfp hk ?_
      refine Ev.bind (ev_has acc c.f0 (by omega)) ?_
      by_cases hm : c.f0 ∈ acc
      · rw [if_pos hm]
        exact evIfp (by simpa using hm) (ev_vars_loop p hp s (i + 1) acc (by omega) h3 (by omega))
      · rw [if_neg hm]
        refine evIfn (by simpa using hm) (evIfp (by omega) ?_)
        exact ev_vars_loop p hp s (i + 1) (acc ++ [c.f0]) (by omega) h3 (by simp; omega)
    · rw [if_neg hk]
      exact evIfn hk (ev_vars_loop p hp s (i + 1) acc (by omega) h3 (by omega))
theorem ev_vars (p : List Cel) (hp : p.length ≤ 5864062014805) : Ev (fun k => aumbryref04_Vars.f k p) (varsS p []) := by
  unfold aumbryref04_Vars.f
  exact ev_vars_loop p hp p 0 [] (by omega) rfl (by simp)
theorem putS_none (p : List Cel) (l : List Bnd) : putS p l = none ↔ ∃ c ∈ p, kindS c.f0 = 2 ∧ lookB l c.f0 = none := by
  induction p with
  | nil => simp [putS]
  | cons c p ih =>
    simp only [putS]
    by_cases hk : kindS c.f0 = 2
    · rw [if_pos hk]
      cases hl : lookB l c.f0 with
      | none => simp [hk, hl]
      | some v =>
        simp only [Option.map_eq_none_iff, ih, List.mem_cons]
        constructor
        · rintro ⟨d, h1, h2⟩
          exact ⟨d, .inr h1, h2⟩
        · rintro ⟨d, h1 | h1, h2, h3⟩
          · subst h1; rw [hl] at h3; cases h3
          · exact ⟨d, h1, h2, h3⟩
    · rw [if_neg hk]
      simp only [Option.map_eq_none_iff, ih, List.mem_cons]
      constructor
      · rintro ⟨d, h1, h2⟩
        exact ⟨d, .inr h1, h2⟩
      · rintro ⟨d, h1 | h1, h2, h3⟩
        · subst h1; exact absurd h2 hk
        · exact ⟨d, h1, h2, h3⟩
theorem ev_put_loop (p : List Cel) (l : List Bnd) (hp : p.length ≤ 64) (hv : ∀ b ∈ l, b.f1.length ≤ 64) (hl : l.length ≤ 9223372036854775806) :
    ∀ (s : List Cel) (i : Nat) (out o : List Cel), i ≤ p.length → p.drop i = s → out.length ≤ 64 * i → putS s l = some o → Ev (fun k => aumbryref05_Put.l0 k p l out (p.length : Int) (i : Int)) (out ++ o)
  | [], i, out, o, hi, hs, ho, hput => by
    have h1 := drop_nil_len hi hs
    refine Ev.step (fun k => (show aumbryref05_Put.l0 (k + 1) p l out (p.length : Int) (i : Int) = _ from by rw [aumbryref05_Put.l0])) ?_
    refine evIfn (by omega) ?_
    injection hput with hput
    rw [← hput, List.append_nil]
    exact Ev.now _
  | c :: s, i, out, o, hi, hs, ho, hput => by
    obtain ⟨h1, _, h3⟩ := drop_cons hs
    refine Ev.step (fun k => (show aumbryref05_Put.l0 (k + 1) p l out (p.length : Int) (i : Int) = _ from by rw [aumbryref05_Put.l0])) ?_
    refine evIfp (by omega) (evIfp (by omega) (evIfp (by omega) ?_))
    simp only [rd_cel hs, up_cast i (by omega)]
    refine Ev.bind (ev_refKind c.f0) ?_
    simp only [putS] at hput
    by_cases hk : kindS c.f0 = 2
    · rw [if_pos hk] at hput
      refine evIfp hk ?_
      rcases atS_look l c.f0 with ⟨hl1, hl2⟩ | ⟨j, b, j1, j2, j3, j4, j5, _⟩
      · rw [hl1] at hput
        cases hput
      · rw [j3] at hput
        simp only at hput
        obtain ⟨o2, ho2, rfl⟩ := Option.map_eq_some_iff.1 hput
        have hrd : (rd_T44 l (j : Int)).f1 = b.f1 := by
          unfold rd_T44
          rw [List.getD_eq_getElem?_getD, Int.toNat_natCast, j1]
          rfl
        have hbl := hv b (List.mem_of_getElem? j1)
        refine Ev.bind (ev_at l c.f0 hl) ?_
        rw [j4]
        refine evIfp (by omega) (evIfp (by omega) ?_)
        simp only [hrd]
        refine evIfp (by omega) ?_
        have := ev_put_loop p l hp hv hl s (i + 1) (out ++ b.f1) o2 (by omega) h3 (by simp; omega) ho2
        rw [List.append_assoc] at this
        exact this
    · rw [if_neg hk] at hput
      obtain ⟨o2, ho2, rfl⟩ := Option.map_eq_some_iff.1 hput
      refine evIfn hk (evIfp (by omega) ?_)
      have := ev_put_loop p l hp hv hl s (i + 1) (out ++ [c]) o2 (by omega) h3 (by simp; omega) ho2
      rw [List.append_assoc] at this
      exact this
theorem ev_refFill2 (p : List Cel) (l : List Bnd) (hp : p.length ≤ 64) (hv : ∀ b ∈ l, b.f1.length ≤ 64) (hl : l.length ≤ 9223372036854775806) (vs : List ByteArray) (hvs : vs.length ≤ 64) (hvm : ∀ v, v ∈ vs ↔ ∃ c ∈ p, kindS c.f0 = 2 ∧ c.f0 = v) :
    ∀ (u : List ByteArray) (i : Nat), i ≤ vs.length → vs.drop i = u → (∀ v ∈ vs.take i, lookB l v ≠ none) → Ev (fun k => aumbryref05_Fill.l1 k p l vs (vs.length : Int) (i : Int)) (putR (putS p l))
  | [], i, hi, hu, ha => by
    have h1 := drop_nil_len hi hu
    rw [h1, List.take_length] at ha
    refine Ev.step (fun k => (show aumbryref05_Fill.l1 (k + 1) p l vs (vs.length : Int) (i : Int) = _ from by rw [aumbryref05_Fill.l1])) ?_
    refine evIfn (by omega) ?_
    cases hput : putS p l with
    | none =>
      obtain ⟨c, hc, hk, hn⟩ := (putS_none p l).1 hput
      exact absurd hn (ha c.f0 ((hvm _).2 ⟨c, hc, hk, rfl⟩))
    | some o =>
      have := ev_put_loop p l hp hv hl p 0 [] o (by omega) rfl (by simp) hput
      refine Ev.bind (g := fun k => aumbryref05_Put.f k p l) (by unfold aumbryref05_Put.f; exact this) ?_
      simp only [List.nil_append, putR]
      by_cases h : o.length > 64
      · rw [if_pos h]
        exact evIfp (by omega) (Ev.now _)
      · rw [if_neg h]
        exact evIfn (by omega) (Ev.now _)
  | v :: u, i, hi, hu, ha => by
    obtain ⟨h1, h2, h3⟩ := drop_cons hu
    refine Ev.step (fun k => (show aumbryref05_Fill.l1 (k + 1) p l vs (vs.length : Int) (i : Int) = _ from by rw [aumbryref05_Fill.l1])) ?_
    refine evIfp (by omega) (evIfp (by omega) (evIfp (by omega) ?_))
    simp only [rd_str hu, up_cast i (by omega)]
    refine Ev.bind (ev_at l v hl) ?_
    rcases atS_look l v with ⟨hl1, hl2⟩ | ⟨j, b, j1, j2, j3, j4, j5, _⟩
    · rw [hl2]
      refine evIfp (by omega) ?_
      have hmv : v ∈ vs := List.mem_of_mem_drop (hu ▸ List.mem_cons_self ..)
      obtain ⟨c, hc, hk, hcv⟩ := (hvm v).1 hmv
      have : putS p l = none := (putS_none p l).2 ⟨c, hc, hk, by rw [hcv]; exact hl1⟩
      rw [this]
      exact Ev.now _
    · rw [j4]
      refine evIfn (by omega) ?_
      refine ev_refFill2 p l hp hv hl vs hvs hvm u (i + 1) (by omega) h3 (fun x hx => ?_)
      rw [List.take_succ_eq_append_getElem h1] at hx
      rcases List.mem_append.1 hx with hx | hx
      · exact ha x hx
      · have hce : vs[i] = v := by have := h2 v; rw [List.getD_eq_getElem?_getD, List.getElem?_eq_getElem h1] at this; exact this
        rw [List.mem_singleton.1 hx, hce, j3]
        simp
theorem ev_refFill1 (p : List Cel) (l : List Bnd) (hp : p.length ≤ 64) (hl : l.length ≤ 9223372036854775806) :
    ∀ (u : List Bnd) (i : Nat), i ≤ l.length → l.drop i = u → (∀ b ∈ l.take i, b.f1.length ≤ 64) →
    Ev (fun k => aumbryref05_Fill.l0 k p l (l.length : Int) (i : Int)) (if bErr (l.take i) u = 0 then putR (putS p l) else ([], bErr (l.take i) u))
  | [], i, hi, hu, hv => by
    have h1 := drop_nil_len hi hu
    rw [h1, List.take_length] at hv
    refine Ev.step (fun k => (show aumbryref05_Fill.l0 (k + 1) p l (l.length : Int) (i : Int) = _ from by rw [aumbryref05_Fill.l0])) ?_
    refine evIfn (by omega) ?_
    refine Ev.bind (ev_vars p (by omega)) ?_
    simp only [bErr, if_true]
    have hvl := varsS_len p []
    exact ev_refFill2 p l hp hv hl (varsS p []) (by simp at hvl; omega) (fun v => by rw [mem_varsS]; simp) _ 0 (by omega) rfl (fun v hv => by simp at hv)
  | b :: u, i, hi, hu, hv => by
    obtain ⟨h1, h2, h3⟩ := drop_cons hu
    have hget : l[i]? = some b := by
      have := h2 b
      rw [List.getD_eq_getElem?_getD, List.getElem?_eq_getElem h1] at this
      rw [List.getElem?_eq_getElem h1]
      exact congrArg some this
    have htk : l.take (i + 1) = l.take i ++ [b] := by
      rw [List.take_succ_eq_append_getElem h1]
      rw [List.getElem?_eq_getElem h1] at hget
      injection hget with hget
      rw [hget]
    refine Ev.step (fun k => (show aumbryref05_Fill.l0 (k + 1) p l (l.length : Int) (i : Int) = _ from by rw [aumbryref05_Fill.l0])) ?_
    refine evIfp (by omega) (evIfp (by omega) (evIfp (by omega) ?_))
    simp only [rd_bnd hu, up_cast i (by omega)]
    refine Ev.bind (ev_refKind b.f0) ?_
    by_cases hk : kindS b.f0 = 2
    · refine evIfp hk ?_
      refine Ev.bind (ev_at l b.f0 hl) ?_
      have hb := atS_before l i b hget
      by_cases hh : (lookB (l.take i) b.f0).isSome = true
      · refine evIfp (hb.2 hh) ?_
        simp only [bErr, hk, if_true, hh]
        exact Ev.now _
      · refine evIfn (fun h => hh (hb.1 h)) ?_
        refine Ev.bind (ev_refCheck b.f1) ?_
        by_cases hc : checkS b.f1 = 0
        · refine evIfp hc ?_
          have := ev_refFill1 p l hp hl u (i + 1) (by omega) h3 (fun x hx => by
            rw [htk] at hx
            rcases List.mem_append.1 hx with hx | hx
            · exact hv x hx
            · rw [List.mem_singleton.1 hx]
              exact (checkS_ok hc).1)
          have e : bErr (l.take i) (b :: u) = bErr (l.take (i + 1)) u := by
            simp only [bErr, hk, if_true, hh, hc, htk]
            simp
          rw [e]
          exact this
        · refine evIfn hc ?_
          have e : bErr (l.take i) (b :: u) = checkS b.f1 := by
            simp only [bErr, hk, if_true, hh, hc, if_false]
            simp
          rw [e, if_neg hc]
          exact Ev.now _
    · refine evIfn hk ?_
      simp only [bErr, hk, if_false]
      exact Ev.now _
theorem ev_refFill (p : List Cel) (l : List Bnd) (hl : l.length ≤ 9223372036854775806) : Ev (fun k => aumbryref05_Fill.f k p l) (fillS p l) := by
  unfold aumbryref05_Fill.f fillS
  refine Ev.bind (ev_refCheck p) ?_
  by_cases hp : checkS p = 0
  · obtain ⟨p1, p2, _⟩ := checkS_ok hp
    rw [if_pos hp]
    refine evIfp hp ?_
    have := ev_refFill1 p l p1 hl l 0 (by omega) rfl (fun b hb => by simp at hb)
    simp only [List.take_zero] at this
    exact this
  · rw [if_neg hp]
    exact evIfn hp (Ev.now _)
theorem fillS_small (p : List Cel) (l : List Bnd) : (fillS p l).1.length ≤ 64 := by
  unfold fillS
  split
  · split
    · unfold putR
      split
      · simp
      · split
        · simp
        · next h => exact Nat.le_of_not_gt h
    · simp
  · simp

/-! ### copies of binds -/
theorem ev_copyB_loop (l : List Bnd) (hl : l.length < 3518437208883) (hv : ∀ b ∈ l, b.f1.length < 5864062014805) : ∀ (u : List Bnd) (i : Nat) (out : List Bnd), i ≤ l.length → l.drop i = u → out.length ≤ i → Ev (fun k => aumbryref05_Copy.l0 k l out (l.length : Int) (i : Int)) (out ++ u)
  | [], i, out, hi, hu, ho => by
    have h1 := drop_nil_len hi hu
    refine Ev.step (fun k => (show aumbryref05_Copy.l0 (k + 1) l out (l.length : Int) (i : Int) = _ from by rw [aumbryref05_Copy.l0])) ?_
    rw [List.append_nil]
    exact evIfn (by omega) (Ev.now _)
  | b :: u, i, out, hi, hu, ho => by
    obtain ⟨h1, _, h3⟩ := drop_cons hu
    refine Ev.step (fun k => (show aumbryref05_Copy.l0 (k + 1) l out (l.length : Int) (i : Int) = _ from by rw [aumbryref05_Copy.l0])) ?_
    refine evIfp (by omega) (evIfp (by omega) (evIfp (by omega) ?_))
    simp only [rd_bnd hu, up_cast i (by omega)]
    refine Ev.bind (evIs (copy_at b.f1 (hv b (List.mem_of_mem_drop (hu ▸ List.mem_cons_self ..))))) ?_
    refine evIfp (by omega) ?_
    have := ev_copyB_loop l hl hv u (i + 1) (out ++ [b]) (by omega) h3 (by simp; omega)
    rw [List.append_assoc] at this
    exact this
theorem ev_copyB (l : List Bnd) (hl : l.length < 3518437208883) (hv : ∀ b ∈ l, b.f1.length < 5864062014805) : Ev (fun k => aumbryref05_Copy.f k l) l := by
  unfold aumbryref05_Copy.f
  exact ev_copyB_loop l hl hv l 0 [] (by omega) rfl (by simp)
theorem szb_len {l : List Bnd} (h : sz25 l) : l.length < 3518437208883 ∧ ∀ b ∈ l, b.f1.length < 5864062014805 := by
  have := h.1
  exact ⟨by omega, fun b hb => sz_len (h.2 b hb).2⟩
end Go.Proofs.Ytlfhonekcmlomaa.P

-- ==== PureMatchFills
/- What any pattern becomes by any binds, or why it becomes nothing: for every pattern and list of binds that can be read as data, the law answers true. -/
namespace Go.Proofs.Ytlfhonekcmlomaa.Pure
open Go.RowKit Go.Proofs.Ytlfhonekcmlomaa.P Go.Proofs.YtlfhonekcmlomaaW.PrintWords

theorem MatchFills : aumbrylaw05_MatchFills.Pure := by
  intro p l hp hl
  have hlen := szb_len hl
  refine Ev.rounds ?_
  unfold aumbrylaw05_MatchFills.f
  refine Ev.bind ev_wakes ?_
  refine evIfp rfl ?_
  refine Ev.bind (evIs (own_at p (sz_len hp))) ?_
  refine Ev.bind (ev_copyB l hlen.1 hlen.2) ?_
  refine Ev.bind (ev_fill p l (by omega)) ?_
  refine Ev.bind (ev_refFill p l (by omega)) ?_
  have hs := fillS_small p l
  refine Ev.bind (ev_refSame4 _ _ (.inl (by omega))) ?_
  refine evIfp (by simp) ?_
  simp only [beq_self_eq_true]
  exact Ev.now _
end Go.Proofs.Ytlfhonekcmlomaa.Pure

-- ==== RowMatchFills
namespace Go.Proofs.Ytlfhonekcmlomaa.matchFills
open Go.ChangeShapes Go.WideShapes Go.ChangeAt Go.RowKit Go.Proofs.YtlfhonekcmlomaaW.PrintWords Go.Proofs.Ytlfhonekcmlomaa.P Go.Proofs.Ytlfhonekcmlomaa.Open
open Go.ChangeMaps (open_string shut_string)
set_option linter.unusedVariables false
theorem own : ownKnob Try.prog.godebug = none := by kernel_rfl
theorem laidOut : laidOutB Try.prog = true := by kernel_rfl
set_option maxRecDepth 100000 in
theorem core {H : Type} {enc : TypeId × Value → H} (W : World) (base : Nat) (args : Array Value) (ds gs : List (DataW H)) (before : List MemPlace)
    (hval : ∀ (j : Nat) t v, Try.f4.params[j]? = some t → args[j]? = some v → Value.okWide Try.prog W .any base t v)
    (hW : DataW.Whole enc Try.prog Try.f4.params.toList Rows.matchFillsSpec.vars false W args.toList ds gs before)
    (hsz : (DataW.weightsEach Try.prog (Try.f4.params.toList ++ Rows.matchFillsSpec.plain.varTypes Try.prog) (ds ++ gs)).all (· ≤ reachBytes) = true)
    :
    Calls Try.prog 4 args W fun e W' => ∃ v, e = .returned v ∧ Rows.matchFillsSpec.post enc Try.prog Try.f4 false true false false W args v W' := by
  have hW' := hW
  obtain ⟨p, q, hA, hV, rfl, hfz, hnd⟩ := hW
  rw [Try.params4] at hA hval hsz
  obtain ⟨v0, vs0, d0, ds0, p0, q0, hargs, rfl, rfl, h0, r0⟩ := trodAll_cons hA
  obtain ⟨v1, vs1, d1, ds1, p1, q1, rfl, rfl, rfl, h1, r1⟩ := trodAll_cons r0
  obtain ⟨rfl, rfl, rfl⟩ := trodAll_nil r1
  obtain rfl : args = #[v0, v1] := by cases args; simp_all
  obtain ⟨rfl, rfl⟩ := trodVars_none hV
  have k0 := h0
  obtain ⟨n0, hf0⟩ := h0
  obtain ⟨x0, hK0, hS0, hB0⟩ := op23.go hf0 (fun m hm => by have := List.all_eq_true.1 hsz m (DataW.weights_mem_each (j := 0) rfl rfl m hm); simpa using this)
  have lt0 : ∀ z ∈ p0, z.block < W.heap.size := by obtain ⟨m, hm⟩ := k0; exact DataW.trod_lt m _ _ _ hm
  obtain ⟨a0, len0, cap0, rfl⟩ := okWide_slice Try.underlying23 (hval 0 23 v0 rfl rfl)
  obtain ⟨A0, c0, hcs0, hc0, hr0⟩ := hK0
  have hcs0' : [(Value.slice a0 len0 cap0)] = [.slice A0 x0.length c0] := hcs0
  injection hcs0' with hcs0'
  injection hcs0' with ha0 hl0 hk0
  subst ha0 hl0 hk0
  have k1 := h1
  obtain ⟨n1, hf1⟩ := h1
  obtain ⟨x1, hK1, hS1, hB1⟩ := op25.go hf1 (fun m hm => by have := List.all_eq_true.1 hsz m (DataW.weights_mem_each (j := 1) rfl rfl m hm); simpa using this)
  have lt1 : ∀ z ∈ p1, z.block < W.heap.size := by obtain ⟨m, hm⟩ := k1; exact DataW.trod_lt m _ _ _ hm
  obtain ⟨a1, len1, cap1, rfl⟩ := okWide_slice Try.underlying25 (hval 1 25 v1 rfl rfl)
  obtain ⟨A1, c1, hcs1, hc1, hr1⟩ := hK1
  have hcs1' : [(Value.slice a1 len1 cap1)] = [.slice A1 x1.length c1] := hcs1
  injection hcs1' with hcs1'
  injection hcs1' with ha1 hl1 hk1
  subst ha1 hl1 hk1
  obtain ⟨k, h⟩ := Pure.MatchFills x0 x1 hS0 hS1
  refine (aumbrylaw05_MatchFills.calls k _ _ x0 _ _ x1 true W hr0 hc0 hr1 hc1 h).mono ?_
  rintro e W' ⟨rfl, hd⟩
  have bel : Below W.heap.size W W' := hd
  exact ⟨_, rfl, _, _, _, [], _, [], hW', trodAll_mk1 (shut_bool Try.underlying4 _), (trodAll_cons_mk (Below.trod laidOut (by kernel_rfl) (of_decide_eq_true (by kernel_rfl)) k0 bel lt0) (trodAll_cons_mk (Below.trod laidOut (by kernel_rfl) (of_decide_eq_true (by kernel_rfl)) k1 bel lt1) trodAll_mk0)), rfl, bel.frame _, fun h => by cases h⟩
set_option maxRecDepth 100000 in
theorem lifted (os : Os) (started : os.Started) (H : Type) (enc : TypeId × Value → H) :
    ReturnsInHanded {} Try.checked os 4 .any (Rows.matchFillsSpec.pre6 enc Try.prog Try.f4 Rows.matchFillsRow.domain false) (Rows.matchFillsSpec.post enc Try.prog Try.f4 false true false false) := by
  refine returnsInHanded_of_change_sized (C := Try.checked) own started (by kernel_rfl) Try.func4
    (ChangeSpec.witness6 (enc := enc) (C := Try.checked) false ⟨#[], #[.slice none 0 0, .slice none 0 0], []⟩ 8 (by kernel_rfl) (by kernel_rfl) (by kernel_rfl) (by kernel_rfl)) ?_
  intro W base args ds gs before hval0 hW hcnd hsz0 _
  exact core W base args ds gs before hval0 hW hsz0
theorem over : Rows.matchFillsRow.holds Try.pinned (OpenSpec.ofChange Rows.matchFillsSpec) :=
  OpenClaim.holds_of_wide 4 Try.f4 rfl rfl rfl rfl rfl rfl rfl ⟨rfl, rfl, rfl, rfl, rfl⟩ rfl rfl rfl rfl rfl (by kernel_rfl) Try.func4 (by kernel_rfl)
    (of_decide_eq_true (by kernel_rfl)) (by unfold Func.isWrapper; first | (rw [if_pos (by decide +kernel)]; kernel_rfl) | (rw [if_neg (by decide +kernel)]; exact ⟨rfl, rfl⟩))
    (fun os started H enc _ => lifted os started H enc)
theorem proved : Rows.MatchFillsSaid := over
end Go.Proofs.Ytlfhonekcmlomaa.matchFills
namespace Go.Proofs.Ytlfhonekcmlomaa
/-- The row, under a short name, for the claim. -/
theorem matchFills_holds : Rows.MatchFillsSaid := matchFills.proved
#print axioms matchFills_holds
end Go.Proofs.Ytlfhonekcmlomaa
