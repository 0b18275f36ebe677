/- TermPrints: the law answers true at every input that the given row speaks of. Conditions: those of the given row, none besides. (Part 4 of 4; written by programs of this session, which drive the kit's print, and by hand.) -/
import Derived.Test.YtcmnpjgmpgjbdaaRows
import Derived.WalkKit
import Derived.ProofKit
import Derived.OpenShut
import Derived.ShutString
import Derived.ChangeOld
import Derived.Below
import Derived.Carry
import Derived.SizedLaws
import Derived.KernelRfl
import Derived.Test.YtcmnpjgmpgjbdaaZTermPrints0
import Derived.Test.YtcmnpjgmpgjbdaaZTermPrints1
import Derived.Test.YtcmnpjgmpgjbdaaZTermPrints2
-- ==== PL4t
/- Plain laws of chapter 4: a term's text. -/
namespace Go.Proofs.Ytcmnpjgmpgjbdaa.P
open Go.RowKit Go.Proofs.YtcmnpjgmpgjbdaaW.PrintWords
set_option linter.unusedVariables false
set_option linter.unusedSimpArgs false
def closeB (n : Nat) : List UInt8 := if n = 0 then [] else [41]
def sepB (i : Nat) : UInt8 := if i = 0 then 40 else 44
/-- The arguments i, .., n - 1 of a cell with n, their text, their depth. -/
inductive Tx : Nat → Nat → List Cel → List UInt8 → Nat → Prop
  | done (n : Nat) : Tx n n [] [] 0
  | arg {i n : Nat} {c : Cel} {l1 l2 : List Cel} {b1 b2 : List UInt8} {d1 d2 : Nat} (h : i < n) (h1 : Tx 0 (ar c) l1 b1 d1) (h2 : Tx (i + 1) n l2 b2 d2) :
      Tx i n (c :: (l1 ++ l2)) (sepB i :: (bl c.f0 ++ b1 ++ closeB (ar c) ++ b2)) (max (d1 + 1) d2)
theorem tx_seg {i n : Nat} {l : List Cel} {b : List UInt8} {d : Nat} (h : Tx i n l b d) : segN l (n - i) = some [] := by
  induction h with
  | done n => rw [Nat.sub_self]; rfl
  | @arg i n c l1 l2 b1 b2 d1 d2 h h1 h2 ih1 ih2 =>
    rw [show n - i = (n - (i + 1)) + 1 by omega]
    show segN (l1 ++ l2) (n - (i + 1) + ar c) = some []
    rw [Nat.add_comm, segN_add]
    have := segN_append l2 ih1
    rw [Nat.sub_zero] at this
    rw [this]
    exact ih2
theorem tx_of : ∀ (m : Nat) (l : List Cel) (i n : Nat), l.length ≤ m → i ≤ n → segN l (n - i) = some [] → ∃ b d, Tx i n l b d := by
  intro m
  induction m with
  | zero =>
    intro l i n hl hi h
    have : l = [] := List.eq_nil_of_length_eq_zero (by omega)
    subst this
    have := segN_nil_pos h
    have : i = n := by omega
    subst this
    exact ⟨[], 0, .done i⟩
  | succ m ih =>
    intro l i n hl hi h
    cases l with
    | nil =>
      have := segN_nil_pos h
      have : i = n := by omega
      subst this
      exact ⟨[], 0, .done i⟩
    | cons c l =>
      have hin : i < n := by
        rcases Nat.lt_or_ge i n with h1 | h1
        · exact h1
        · rw [show n - i = 0 by omega] at h
          cases h
      rw [show n - i = (n - (i + 1)) + 1 by omega] at h
      have h' : segN l (n - (i + 1) + ar c) = some [] := h
      rw [Nat.add_comm, segN_add] at h'
      cases hr : segN l (ar c) with
      | none => rw [hr] at h'; cases h'
      | some r =>
        rw [hr] at h'
        obtain ⟨e, hs⟩ := segN_fst hr
        have hrl := (segN_len hr).1
        simp at hl
        obtain ⟨b1, d1, t1⟩ := ih (fstT l r) 0 (ar c) (by unfold fstT; rw [List.length_take]; omega) (Nat.zero_le _) (by rw [Nat.sub_zero]; exact hs)
        obtain ⟨b2, d2, t2⟩ := ih r (i + 1) n (by omega) (by omega) h'
        have ht := Tx.arg (c := c) hin t1 t2
        rw [← e] at ht
        exact ⟨_, _, ht⟩
theorem tx_len {i n : Nat} {l : List Cel} {b : List UInt8} {d : Nat} (h : Tx i n l b d) (hc : ∀ c ∈ l, Okc c) : b.length ≤ 10 * l.length ∧ d ≤ l.length := by
  induction h with
  | done n => simp
  | @arg i n c l1 l2 b1 b2 d1 d2 h h1 h2 ih1 ih2 =>
    have i1 := ih1 fun x hx => hc x (List.mem_cons_of_mem _ (List.mem_append_left _ hx))
    have i2 := ih2 fun x hx => hc x (List.mem_cons_of_mem _ (List.mem_append_right _ hx))
    have hk := kindS_size (hc c (List.mem_cons_self ..)).kind
    have hb : (bl c.f0).length ≤ 8 := by rw [bl_len]; exact hk.2
    have hcl : (closeB (ar c)).length ≤ 1 := by unfold closeB; split <;> simp
    simp only [List.length_cons, List.length_append]
    omega
theorem ar_eq {c : Cel} (h : Okc c) : c.f1 = ((ar c : Nat) : Int) := by
  have := h.lo
  unfold ar
  omega
theorem ar_le {c : Cel} (h : Okc c) : ar c ≤ 4 := by
  have := h.hi
  unfold ar
  omega
/-! ### writing -/
theorem ev_wrL (t : List Cel) (ht : t.length ≤ 64) {i n : Nat} {l : List Cel} {b : List UInt8} {d : Nat} (h : Tx i n l b d) : ∀ (pos : Nat) (q : List Cel) (acc : List UInt8), n ≤ 4 → pos ≤ t.length → t.drop pos = l ++ q → (∀ c ∈ l, Okc c) → acc.length + b.length + 1 ≤ 4000 →
    Ev (fun k => wrL k t (n : Int) (i : Int) (pos : Int) acc) (acc ++ b, ((pos + l.length : Nat) : Int)) := by
  induction h with
  | done n =>
    intro pos q acc hn hp hd hc hl
    refine Ev.step (fun k => (show wrL (k + 1) t (n : Int) (n : Int) (pos : Int) acc = _ from by rw [wrL])) ?_
    refine evIfn (by omega) ?_
    rw [List.append_nil]
    exact Ev.now _
  | @arg i n c l1 l2 b1 b2 d1 d2 h h1 h2 ih1 ih2 =>
    intro pos q acc hn hp hd hc hl
    have hcc := hc c (List.mem_cons_self ..)
    obtain ⟨p1, p2, p3⟩ := drop_cons (show t.drop pos = c :: (l1 ++ l2 ++ q) from hd)
    simp only [List.length_cons, List.length_append] at hl
    have hsz := bl_len c.f0
    refine Ev.step (fun k => (show wrL (k + 1) t (n : Int) (i : Int) (pos : Int) acc = _ from by rw [wrL])) ?_
    refine evIfp (by omega) (evIfp (by omega) (evIfp (by omega) ?_))
    have hsep : (if (i : Int) = 0 then (40 : UInt8) else 44) = sepB i := by
      unfold sepB
      by_cases hi : i = 0
      · rw [if_pos (by omega), if_pos hi]
      · rw [if_neg (by omega), if_neg hi]
    rw [hsep]
    have hr : Ev (fun k => wrT k t (pos : Int) (acc ++ [sepB i])) (acc ++ (sepB i :: (bl c.f0 ++ b1 ++ closeB (ar c))), ((pos + 1 + l1.length : Nat) : Int)) := by
      refine Ev.step (fun k => (show wrT (k + 1) t (pos : Int) (acc ++ [sepB i]) = _ from by rw [wrT])) ?_
      simp only [rd_cel hd]
      refine evIfp (by omega) (evIfp (by omega) (evIfp (by simp only [List.length_append, List.length_cons, List.length_nil]; omega) ?_))
      have e1 := ih1 (pos + 1) (l2 ++ q) (acc ++ [sepB i] ++ bl c.f0) (ar_le hcc) (by omega) (by rw [p3]; simp) (fun x hx => hc x (List.mem_cons_of_mem _ (List.mem_append_left _ hx))) (by simp only [List.length_append, List.length_cons, List.length_nil]; omega)
      rw [ar_eq hcc]
      rw [wrap_up (i := (pos : Int)) (by omega) (by omega)]
      refine Ev.bind e1 ?_
      by_cases ha : ar c = 0
      · refine evIfn (by omega) ?_
        have : closeB (ar c) = [] := by unfold closeB; exact if_pos ha
        rw [this]
        simp only [List.append_assoc, List.cons_append, List.nil_append, List.append_nil]
        exact Ev.now _
      · have hcl : closeB (ar c) = [41] := by unfold closeB; exact if_neg ha
        rw [hcl] at hl ⊢
        refine evIfp (by omega) (evIfp (by simp only [List.length_append, List.length_cons, List.length_nil] at hl ⊢; omega) ?_)
        simp only [List.append_assoc, List.cons_append, List.nil_append, List.append_nil]
        exact Ev.now _
    refine Ev.bind hr ?_
    rw [wrap_up (i := (i : Int)) (by omega) (by omega)]
    have hpl : t.drop (pos + 1 + l1.length) = l2 ++ q := by
      rw [← List.drop_drop, p3, List.append_assoc, List.drop_left]
    have hpn : pos + 1 + l1.length ≤ t.length := by
      have := congrArg List.length p3
      simp only [List.length_drop, List.length_append] at this
      omega
    have e2 := ih2 (pos + 1 + l1.length) q (acc ++ (sepB i :: (bl c.f0 ++ b1 ++ closeB (ar c)))) hn hpn hpl (fun x hx => hc x (List.mem_cons_of_mem _ (List.mem_append_right _ hx))) (by simp only [List.length_append, List.length_cons]; omega)
    have g1 : acc ++ sepB i :: (bl c.f0 ++ b1 ++ closeB (ar c) ++ b2) = acc ++ sepB i :: (bl c.f0 ++ b1 ++ closeB (ar c)) ++ b2 := by simp
    have g2 : pos + (c :: (l1 ++ l2)).length = pos + 1 + l1.length + l2.length := by simp; omega
    rw [g1, g2]
    exact e2
/-- A term that is right, taken apart. -/
theorem tx_term {t : List Cel} (h : checkS t = 0) : ∃ c l b d, t = c :: l ∧ Tx 0 (ar c) l b d ∧ (∀ x ∈ c :: l, Okc x) ∧ (c :: l).length ≤ 64 := by
  obtain ⟨h1, h2, h3⟩ := checkS_ok h
  rcases t with _ | ⟨c, l⟩
  · cases h3
  have h4 : segN l (0 + ar c) = some [] := h3
  rw [Nat.zero_add] at h4
  obtain ⟨b, d, ht⟩ := tx_of l.length l 0 (ar c) (Nat.le_refl _) (Nat.zero_le _) h4
  exact ⟨c, l, b, d, rfl, ht, h2, h1⟩
def txtL (c : Cel) (b : List UInt8) : List UInt8 := bl c.f0 ++ b ++ closeB (ar c)
def txtB (c : Cel) (b : List UInt8) : ByteArray := ⟨(txtL c b).toArray⟩
theorem txt_bl (c : Cel) (b : List UInt8) : bl (txtB c b) = txtL c b := rfl
theorem txt_len {c : Cel} {l : List Cel} {b : List UInt8} {d : Nat} (h : Tx 0 (ar c) l b d) (ho : ∀ x ∈ c :: l, Okc x) (hl : (c :: l).length ≤ 64) : (txtL c b).length ≤ 640 ∧ txtL c b ≠ [] := by
  have h1 := tx_len h fun x hx => ho x (List.mem_cons_of_mem _ hx)
  have hk := kindS_size (ho c (List.mem_cons_self ..)).kind
  have hb := bl_len c.f0
  have hcl : (closeB (ar c)).length ≤ 1 := by unfold closeB; split <;> simp
  unfold txtL
  simp only [List.length_cons] at hl
  refine ⟨by simp only [List.length_append]; omega, fun he => ?_⟩
  have := congrArg List.length he
  simp only [List.length_append, List.length_nil] at this
  omega
theorem ev_print {c : Cel} {l : List Cel} {b : List UInt8} {d : Nat} (h : Tx 0 (ar c) l b d) (ho : ∀ x ∈ c :: l, Okc x) (hl : (c :: l).length ≤ 64) : Ev (fun k => term_Print.f k (c :: l)) (txtB c b, 0) := by
  have hck : checkS (c :: l) = 0 := by
    refine checkS_of hl ho ?_
    show segN l (0 + ar c) = some []
    have := tx_seg h
    rw [Nat.zero_add]
    exact this
  have hlen := txt_len h ho hl
  have hcc := ho c (List.mem_cons_self ..)
  have h1 := tx_len h fun x hx => ho x (List.mem_cons_of_mem _ hx)
  have hk := kindS_size hcc.kind
  have hb := bl_len c.f0
  simp only [List.length_cons] at hl
  unfold term_Print.f printF
  refine Ev.bind (ev_check _) ?_
  refine evIfp hck ?_
  have hr : Ev (fun k => wrT k (c :: l) 0 []) (txtL c b, ((1 + l.length : Nat) : Int)) := by
    refine Ev.step (fun k => (show wrT (k + 1) (c :: l) 0 [] = _ from by rw [wrT])) ?_
    have hrd : rd_T50 (c :: l) 0 = c := rd_cel (t := c :: l) (n := 0) (c := c) (s := l) rfl
    simp only [hrd]
    refine evIfp (by omega) (evIfp (by simp) (evIfp (by simp only [List.length_nil]; omega) ?_))
    have e1 := ev_wrL (c :: l) (by simp; omega) h 1 [] ([] ++ bl c.f0) (ar_le hcc) (by simp) (by simp) (fun x hx => ho x (List.mem_cons_of_mem _ hx)) (by simp only [List.length_append, List.length_nil]; omega)
    rw [ar_eq hcc, show wrap64 (0 + 1) = ((1 : Nat) : Int) from up_cast 0 (by omega)]
    refine Ev.bind e1 ?_
    by_cases ha : ar c = 0
    · refine evIfn (by omega) ?_
      have : closeB (ar c) = [] := by unfold closeB; exact if_pos ha
      unfold txtL
      rw [this]
      simp only [List.nil_append, List.append_nil]
      exact Ev.now _
    · have hcl : closeB (ar c) = [41] := by unfold closeB; exact if_neg ha
      refine evIfp (by omega) (evIfp (by simp only [List.length_append, List.length_nil]; omega) ?_)
      unfold txtL
      rw [hcl]
      simp only [List.nil_append]
      exact Ev.now _
  refine Ev.bind hr ?_
  refine evIfn hlen.2 (evIfp (by simp only; omega) ?_)
  exact Ev.now _
theorem ev_print_no {t : List Cel} (h : ¬ checkS t = 0) : Ev (fun k => term_Print.f k t) (⟨#[]⟩, checkS t) := by
  unfold term_Print.f printF
  refine Ev.bind (ev_check t) ?_
  exact evIfn h (Ev.now _)
end Go.Proofs.Ytcmnpjgmpgjbdaa.P

-- ==== PF21
namespace Go.Proofs.Ytcmnpjgmpgjbdaa.P
open Go.RowKit Go.Proofs.YtcmnpjgmpgjbdaaW.PrintWords Go.Proofs.YtcmnpjgmpgjbdaaW.PrintLast Go.Proofs.YtcmnpjgmpgjbdaaW.PrintMore
attribute [local go_sem] max2_int min2_int max_two min_two max_three min_three max_four min_four   -- for this text's walks alone
set_option linter.unusedVariables false
set_option linter.unusedSimpArgs false

/-! ### term_Make: function 21 -/
def term_Make.l0 : Nat → List (S50) → List (List (S50)) → Int → Int → Option ((List (S50)) × Int)
  | 0, _, _, _, _ => none
  | k + 1, x6, x16, x17, x18 => if x18 < x17 then (if 0 ≤ x18 then (if x18 < (x16.length : Int) then ((term_Check.f k (rd_L3 x16 x18)).bind fun t106 => (if t106 = 0 then (if (x6.length : Int) ≤ 64 then (if x6.length + (rd_L3 x16 x18).length < 5864062014805 then (term_Make.l0 k (x6 ++ (rd_L3 x16 x18)) x16 x17 (wrap64 (x18 + 1))) else (none)) else (term_Make.l0 k x6 x16 x17 (wrap64 (x18 + 1)))) else (some (([] : List (S50)), t106)))) else (none)) else (none)) else ((term_Check.f k x6).bind fun t104 => (if t104 = 0 then (some (x6, 0)) else (some (([] : List (S50)), t104))))
def term_Make.f (k : Nat) (a0 : ByteArray) (l1 : List (List (S50))) : Option ((List (S50)) × Int) := term_Make.l0 k (([(⟨a0, (l1.length : Int)⟩ : S50)] : List (S50))) l1 (l1.length : Int) 0
end Go.Proofs.Ytcmnpjgmpgjbdaa.P

-- ==== PF23
namespace Go.Proofs.Ytcmnpjgmpgjbdaa.P
open Go.RowKit Go.Proofs.YtcmnpjgmpgjbdaaW.PrintWords Go.Proofs.YtcmnpjgmpgjbdaaW.PrintLast Go.Proofs.YtcmnpjgmpgjbdaaW.PrintMore
attribute [local go_sem] max2_int min2_int max_two min_two max_three min_three max_four min_four   -- for this text's walks alone
set_option linter.unusedVariables false
set_option linter.unusedSimpArgs false

/-! ### aumbryref04_Make: function 23 -/
mutual
def aumbryref04_Make.l0 : Nat → ByteArray → List (List (S50)) → Int → Int → Option ((List (S50)) × Int)
  | 0, _, _, _, _ => none
  | k + 1, x0, x1, x12, x13 => if x13 < x12 then (if 0 ≤ x13 then (if x13 < (x1.length : Int) then ((aumbryref04_Check.f k (rd_L3 x1 x13)).bind fun t102 => (if t102 = 0 then (aumbryref04_Make.l0 k x0 x1 x12 (wrap64 (x13 + 1))) else (some (([] : List (S50)), t102)))) else (none)) else (none)) else (aumbryref04_Make.l1 k x1 (([(⟨x0, (x1.length : Int)⟩ : S50)] : List (S50))) (x1.length : Int) 0)
def aumbryref04_Make.l1 : Nat → List (List (S50)) → List (S50) → Int → Int → Option ((List (S50)) × Int)
  | 0, _, _, _, _ => none
  | k + 1, x1, x8, x31, x32 => if x32 < x31 then (if (x8.length : Int) > 64 then (some (([] : List (S50)), 6)) else (if 0 ≤ x32 then (if x32 < (x1.length : Int) then (if x8.length + (rd_L3 x1 x32).length < 5864062014805 then (aumbryref04_Make.l1 k x1 (x8 ++ (rd_L3 x1 x32)) x31 (wrap64 (x32 + 1))) else (none)) else (none)) else (none))) else ((aumbryref04_Check.f k x8).bind fun t110 => (if t110 = 0 then (some (x8, 0)) else (some (([] : List (S50)), t110))))
end
def aumbryref04_Make.f (k : Nat) (a0 : ByteArray) (l1 : List (List (S50))) : Option ((List (S50)) × Int) := aumbryref04_Make.l0 k a0 l1 (l1.length : Int) 0
end Go.Proofs.Ytcmnpjgmpgjbdaa.P

-- ==== PF22
namespace Go.Proofs.Ytcmnpjgmpgjbdaa.P
open Go.RowKit Go.Proofs.YtcmnpjgmpgjbdaaW.PrintWords Go.Proofs.YtcmnpjgmpgjbdaaW.PrintLast Go.Proofs.YtcmnpjgmpgjbdaaW.PrintMore
attribute [local go_sem] max2_int min2_int max_two min_two max_three min_three max_four min_four   -- for this text's walks alone
set_option linter.unusedVariables false
set_option linter.unusedSimpArgs false

/-! ### aumbryref04_CopyAll: function 22 -/
def aumbryref04_CopyAll.l0 : Nat → List (List (S50)) → List (List (S50)) → Int → Int → Option ((List (List (S50))))
  | 0, _, _, _, _ => none
  | k + 1, x0, x3, x6, x7 => if x7 < x6 then (if 0 ≤ x7 then (if x7 < (x0.length : Int) then ((aumbryref04_Copy.f (rd_L3 x0 x7)).bind fun t102 => (if x3.length < 5864062014805 then (aumbryref04_CopyAll.l0 k x0 (x3 ++ [t102]) x6 (wrap64 (x7 + 1))) else (none))) else (none)) else (none)) else (some x3)
def aumbryref04_CopyAll.f (k : Nat) (l0 : List (List (S50))) : Option ((List (List (S50)))) := aumbryref04_CopyAll.l0 k l0 ([] : List (List (S50))) (l0.length : Int) 0
end Go.Proofs.Ytcmnpjgmpgjbdaa.P

-- ==== PL4m
/- Plain laws of chapter 4: a name above terms. -/
namespace Go.Proofs.Ytcmnpjgmpgjbdaa.P
open Go.RowKit Go.Proofs.YtcmnpjgmpgjbdaaW.PrintWords
set_option linter.unusedVariables false
set_option linter.unusedSimpArgs false
theorem checkS_len {t : List Cel} (h : checkS t = 0) : t.length ≤ 64 := (checkS_ok h).1
theorem kidsS_flat {t : List Cel} (h : checkS t = 0) : ∃ c, t = c :: (kidsS t).flatten ∧ ((kidsS t).length : Int) = c.f1 ∧ (∀ a ∈ kidsS t, checkS a = 0) ∧ (kidsS t).length ≤ 64 := by
  obtain ⟨h1, h2, h3⟩ := checkS_ok h
  rcases t with _ | ⟨c, l⟩
  · cases h3
  have h4 : segN l (0 + ar c) = some [] := h3
  rw [Nat.zero_add] at h4
  obtain ⟨a1, a2, a3⟩ := splitT_spec _ _ h4
  have hc := h2 c (List.mem_cons_self ..)
  have hlo := hc.lo
  have hhi := hc.hi
  have har : (ar c : Int) = c.f1 := by unfold ar; omega
  refine ⟨c, ?_, ?_, ?_, ?_⟩
  · simp only [kidsS, a1]
  · simp only [kidsS, a2]
    exact har
  · intro a ha
    simp only [kidsS] at ha
    have hsub : ∀ x ∈ a, x ∈ l := fun x hx => by rw [← a1]; exact List.mem_flatten.2 ⟨a, ha, hx⟩
    have hlen : a.length ≤ l.length := by
      rw [← a1]
      exact (List.sublist_flatten_of_mem ha).length_le
    exact checkS_of (by simp at h1; omega) (fun x hx => h2 x (List.mem_cons_of_mem _ (hsub x hx))) (a3 a ha)
  · simp only [kidsS, a2]
    omega
end Go.Proofs.Ytcmnpjgmpgjbdaa.P

-- ==== PL4p
/- Plain laws of chapter 4: what is told of a term that is right: its text, its variables, its depth, its arguments: the program's answers and the document's. -/
namespace Go.Proofs.Ytcmnpjgmpgjbdaa.P
open Go.RowKit Go.Proofs.YtcmnpjgmpgjbdaaW.PrintWords
set_option linter.unusedVariables false
set_option linter.unusedSimpArgs false
/-! ### lists of texts -/
instance txtMem (a : ByteArray) (l : List ByteArray) : Decidable (a ∈ l) :=
  if h : l.any (fun b => decide (a = b)) = true then isTrue (by obtain ⟨b, h1, h2⟩ := List.any_eq_true.1 h; rw [of_decide_eq_true h2]; exact h1) else isFalse (fun h1 => h (List.any_eq_true.2 ⟨a, h1, decide_eq_true rfl⟩))
theorem rd_txt {t : List ByteArray} {n : Nat} {c : ByteArray} {s : List ByteArray} (h : t.drop n = c :: s) : rdOf ByteArray.empty t (n : Int) = c := by
  unfold rdOf
  exact (drop_cons h).2.1 _
theorem ev_index_loop (l : List ByteArray) (a : ByteArray) (hl : l.length ≤ 9223372036854775806) : ∀ (u : List ByteArray) (i : Nat), i ≤ l.length → l.drop i = u →
    ∃ r, Ev (fun k => slices_Index_string_string.l0 k l a (l.length : Int) (i : Int)) r ∧ decide (r ≥ 0) = decide (a ∈ u)
  | [], i, hi, hu => by
    have h1 := drop_nil_len hi hu
    refine ⟨-1, Ev.step (fun k => (show slices_Index_string_string.l0 (k + 1) l a (l.length : Int) (i : Int) = _ from by rw [slices_Index_string_string.l0])) ?_, by simp⟩
    exact evIfn (by omega) (Ev.now _)
  | b :: u, i, hi, hu => by
    obtain ⟨h1, _, h3⟩ := drop_cons hu
    by_cases hab : a.toList = b.toList
    · refine ⟨(i : Int), Ev.step (fun k => (show slices_Index_string_string.l0 (k + 1) l a (l.length : Int) (i : Int) = _ from by rw [slices_Index_string_string.l0])) ?_, ?_⟩
      · refine evIfp (by omega) (evIfp (by omega) (evIfp (by omega) ?_))
        rw [rd_txt hu]
        exact evIfp hab (Ev.now _)
      · rw [(bytes_eq a b).1 hab]
        simp
    · obtain ⟨r, hr, he⟩ := ev_index_loop l a hl u (i + 1) (by omega) h3
      refine ⟨r, Ev.step (fun k => (show slices_Index_string_string.l0 (k + 1) l a (l.length : Int) (i : Int) = _ from by rw [slices_Index_string_string.l0])) ?_, ?_⟩
      · refine evIfp (by omega) (evIfp (by omega) (evIfp (by omega) ?_))
        rw [rd_txt hu]
        refine evIfn hab ?_
        rw [up_cast i (by omega)]
        exact hr
      · rw [he]
        have : a ≠ b := fun h => hab (by rw [h])
        simp [this]
theorem ev_contains (l : List ByteArray) (a : ByteArray) (hl : l.length ≤ 9223372036854775806) : Ev (fun k => slices_Contains_string_string.f k l a) (decide (a ∈ l)) := by
  unfold slices_Contains_string_string.f slices_Index_string_string.f
  obtain ⟨r, hr, he⟩ := ev_index_loop l a hl l 0 (by omega) rfl
  refine Ev.bind hr ?_
  rw [he]
  exact Ev.now _
theorem ev_has_loop (l : List ByteArray) (a : ByteArray) (hl : l.length ≤ 9223372036854775806) : ∀ (u : List ByteArray) (i : Nat), i ≤ l.length → l.drop i = u →
    Ev (fun k => aumbryref03_Has.l0 k l a (l.length : Int) (i : Int)) (decide (a ∈ u))
  | [], i, hi, hu => by
    have h1 := drop_nil_len hi hu
    refine Ev.step (fun k => (show aumbryref03_Has.l0 (k + 1) l a (l.length : Int) (i : Int) = _ from by rw [aumbryref03_Has.l0])) ?_
    exact evIfn (by omega) (Ev.now _)
  | b :: u, i, hi, hu => by
    obtain ⟨h1, _, h3⟩ := drop_cons hu
    refine Ev.step (fun k => (show aumbryref03_Has.l0 (k + 1) l a (l.length : Int) (i : Int) = _ from by rw [aumbryref03_Has.l0])) ?_
    refine evIfp (by omega) (evIfp (by omega) (evIfp (by omega) ?_))
    rw [rd_txt hu]
    by_cases hab : b.toList = a.toList
    · have : decide (a ∈ b :: u) = true := by rw [(bytes_eq b a).1 hab]; simp
      rw [this]
      exact evIfp hab (Ev.now _)
    · have : decide (a ∈ b :: u) = decide (a ∈ u) := by
        have : a ≠ b := fun h => hab (by rw [h])
        simp [this]
      rw [this]
      refine evIfn hab ?_
      rw [up_cast i (by omega)]
      exact ev_has_loop l a hl u (i + 1) (by omega) h3
theorem ev_has (l : List ByteArray) (a : ByteArray) (hl : l.length ≤ 9223372036854775806) : Ev (fun k => aumbryref03_Has.f k l a) (decide (a ∈ l)) := by
  unfold aumbryref03_Has.f
  exact ev_has_loop l a hl l 0 (by omega) rfl
theorem ev_same3_loop (l : List ByteArray) (hl : l.length ≤ 9223372036854775806) : ∀ (u : List ByteArray) (i : Nat), i ≤ l.length → l.drop i = u →
    Ev (fun k => aumbryref03_Same.l0 k l l (l.length : Int) (i : Int)) true
  | [], i, hi, hu => by
    have h1 := drop_nil_len hi hu
    refine Ev.step (fun k => (show aumbryref03_Same.l0 (k + 1) l l (l.length : Int) (i : Int) = _ from by rw [aumbryref03_Same.l0])) ?_
    exact evIfn (by omega) (Ev.now _)
  | b :: u, i, hi, hu => by
    obtain ⟨h1, _, h3⟩ := drop_cons hu
    refine Ev.step (fun k => (show aumbryref03_Same.l0 (k + 1) l l (l.length : Int) (i : Int) = _ from by rw [aumbryref03_Same.l0])) ?_
    refine evIfp (by omega) (evIfp (by omega) (evIfp (by omega) (evIfp (by omega) (evIfp rfl ?_))))
    rw [up_cast i (by omega)]
    exact ev_same3_loop l hl u (i + 1) (by omega) h3
theorem ev_same3 (l : List ByteArray) (hl : l.length ≤ 9223372036854775806) : Ev (fun k => aumbryref03_Same.f k l l) true := by
  unfold aumbryref03_Same.f
  exact evIfp rfl (ev_same3_loop l hl l 0 (by omega) rfl)
theorem ev_sameAll_loop (l : List (List Cel)) (hl : l.length ≤ 9223372036854775806) (hs : ∀ a ∈ l, a.length ≤ 9223372036854775806) : ∀ (u : List (List Cel)) (i : Nat), i ≤ l.length → l.drop i = u →
    Ev (fun k => aumbryref04_SameAll.l0 k l l (l.length : Int) (i : Int)) true
  | [], i, hi, hu => by
    have h1 := drop_nil_len hi hu
    refine Ev.step (fun k => (show aumbryref04_SameAll.l0 (k + 1) l l (l.length : Int) (i : Int) = _ from by rw [aumbryref04_SameAll.l0])) ?_
    exact evIfn (by omega) (Ev.now _)
  | b :: u, i, hi, hu => by
    obtain ⟨h1, _, h3⟩ := drop_cons hu
    refine Ev.step (fun k => (show aumbryref04_SameAll.l0 (k + 1) l l (l.length : Int) (i : Int) = _ from by rw [aumbryref04_SameAll.l0])) ?_
    refine evIfp (by omega) (evIfp (by omega) (evIfp (by omega) (evIfp (by omega) ?_)))
    simp only [rd_trm hu, up_cast i (by omega)]
    refine Ev.bind (ev_refSame4 b b (.inl (hs b (List.mem_of_mem_drop (hu ▸ List.mem_cons_self ..))))) ?_
    exact evIfp (decide_eq_true rfl) (ev_sameAll_loop l hl hs u (i + 1) (by omega) h3)
theorem ev_sameAll (l : List (List Cel)) (hl : l.length ≤ 9223372036854775806) (hs : ∀ a ∈ l, a.length ≤ 9223372036854775806) : Ev (fun k => aumbryref04_SameAll.f k l l) true := by
  unfold aumbryref04_SameAll.f
  exact evIfp rfl (ev_sameAll_loop l hl hs l 0 (by omega) rfl)
/-! ### variables -/
def varsS : List ByteArray → List Cel → List ByteArray
  | out, [] => out
  | out, c :: l => if kindS c.f0 = 2 then (if c.f0 ∈ out then varsS out l else varsS (out ++ [c.f0]) l) else varsS out l
theorem ev_vars_loop (t : List Cel) (ht : t.length ≤ 1000) : ∀ (u : List Cel) (i : Nat) (out : List ByteArray), i ≤ t.length → t.drop i = u → out.length ≤ i →
    Ev (fun k => term_Vars.l0 k out t (t.length : Int) (i : Int)) (varsS out u, 0)
  | [], i, out, hi, hu, ho => by
    have h1 := drop_nil_len hi hu
    refine Ev.step (fun k => (show term_Vars.l0 (k + 1) out t (t.length : Int) (i : Int) = _ from by rw [term_Vars.l0])) ?_
    exact evIfn (by omega) (Ev.now _)
  | c :: u, i, out, hi, hu, ho => by
    obtain ⟨h1, _, h3⟩ := drop_cons hu
    refine Ev.step (fun k => (show term_Vars.l0 (k + 1) out t (t.length : Int) (i : Int) = _ from by rw [term_Vars.l0])) ?_
    refine evIfp (by omega) (evIfp (by omega) (evIfp (by omega) ?_))
    simp only [rd_cel hu, up_cast i (by omega)]
    refine Ev.bind (ev_kind c.f0) ?_
    have hv : varsS out (c :: u) = if kindS c.f0 = 2 then (if c.f0 ∈ out then varsS out u else varsS (out ++ [c.f0]) u) else varsS out u := rfl
    by_cases hk : kindS c.f0 = 2
    · refine evIfp hk ?_
      rw [hv, if_pos hk]
      refine Ev.bind (ev_contains out c.f0 (by omega)) ?_
      by_cases hm : c.f0 ∈ out
      · rw [if_pos hm]
        exact evIfp (decide_eq_true hm) (ev_vars_loop t ht u (i + 1) out (by omega) h3 (by omega))
      · rw [if_neg hm]
        exact evIfn (by simpa using hm) (evIfp (by omega) (ev_vars_loop t ht u (i + 1) (out ++ [c.f0]) (by omega) h3 (by simp; omega)))
    · refine evIfn hk ?_
      rw [hv, if_neg hk]
      exact ev_vars_loop t ht u (i + 1) out (by omega) h3 (by omega)
theorem ev_rvars_loop (t : List Cel) (ht : t.length ≤ 1000) : ∀ (u : List Cel) (i : Nat) (out : List ByteArray), i ≤ t.length → t.drop i = u → out.length ≤ i →
    Ev (fun k => aumbryref04_Vars.l0 k t out (t.length : Int) (i : Int)) (varsS out u)
  | [], i, out, hi, hu, ho => by
    have h1 := drop_nil_len hi hu
    refine Ev.step (fun k => (show aumbryref04_Vars.l0 (k + 1) t out (t.length : Int) (i : Int) = _ from by rw [aumbryref04_Vars.l0])) ?_
    exact evIfn (by omega) (Ev.now _)
  | c :: u, i, out, hi, hu, ho => by
    obtain ⟨h1, _, h3⟩ := drop_cons hu
    refine Ev.step (fun k => (show aumbryref04_Vars.l0 (k + 1) t out (t.length : Int) (i : Int) = _ from by rw [aumbryref04_Vars.l0])) ?_
    refine evIfp (by omega) (evIfp (by omega) (evIfp (by omega) ?_))
    simp only [rd_cel hu, up_cast i (by omega)]
    refine Ev.bind (ev_refKind c.f0) ?_
    have hv : varsS out (c :: u) = if kindS c.f0 = 2 then (if c.f0 ∈ out then varsS out u else varsS (out ++ [c.f0]) u) else varsS out u := rfl
    by_cases hk : kindS c.f0 = 2
    · refine evIfp hk ?_
      rw [hv, if_pos hk]
      refine Ev.bind (ev_has out c.f0 (by omega)) ?_
      by_cases hm : c.f0 ∈ out
      · rw [if_pos hm]
        exact evIfp (decide_eq_true hm) (ev_rvars_loop t ht u (i + 1) out (by omega) h3 (by omega))
      · rw [if_neg hm]
        exact evIfn (by simpa using hm) (evIfp (by omega) (ev_rvars_loop t ht u (i + 1) (out ++ [c.f0]) (by omega) h3 (by simp; omega)))
    · refine evIfn hk ?_
      rw [hv, if_neg hk]
      exact ev_rvars_loop t ht u (i + 1) out (by omega) h3 (by omega)
theorem ev_vars {t : List Cel} (h : checkS t = 0) : Ev (fun k => term_Vars.f k t) (varsS [] t, 0) := by
  have := checkS_len h
  unfold term_Vars.f
  refine Ev.bind (ev_check t) (evIfp h ?_)
  exact ev_vars_loop t (by omega) t 0 [] (by omega) rfl (by simp)
theorem ev_vars_no {t : List Cel} (h : ¬ checkS t = 0) : Ev (fun k => term_Vars.f k t) ([], checkS t) := by
  unfold term_Vars.f
  exact Ev.bind (ev_check t) (evIfn h (Ev.now _))
theorem ev_rvars {t : List Cel} (h : t.length ≤ 1000) : Ev (fun k => aumbryref04_Vars.f k t) (varsS [] t) := by
  unfold aumbryref04_Vars.f
  exact ev_rvars_loop t h t 0 [] (by omega) rfl (by simp)
theorem varsS_len : ∀ (u : List Cel) (out : List ByteArray), (varsS out u).length ≤ out.length + u.length
  | [], out => by simp [varsS]
  | c :: u, out => by
    have hv : varsS out (c :: u) = if kindS c.f0 = 2 then (if c.f0 ∈ out then varsS out u else varsS (out ++ [c.f0]) u) else varsS out u := rfl
    have h1 := varsS_len u out
    have h2 := varsS_len u (out ++ [c.f0])
    rw [hv]
    simp only [List.length_append, List.length_cons, List.length_nil] at h2 ⊢
    split
    · split <;> omega
    · omega
/-! ### the document's arguments -/
theorem ev_rkids_loop (t : List Cel) (ht : t.length ≤ 64) (hok : ∀ c ∈ t, Okc c) : ∀ (n a : Nat) (out : List (List Cel)), a ≤ t.length → segN (t.drop a) n = some [] → out.length ≤ a →
    Ev (fun k => aumbryref04_Kids.l0 k t out (a : Int)) (out ++ splitT n (t.drop a))
  | 0, a, out, ha, hn, ho => by
    rw [segN_zero] at hn
    injection hn with hn
    have := drop_nil_len ha hn
    refine Ev.step (fun k => (show aumbryref04_Kids.l0 (k + 1) t out (a : Int) = _ from by rw [aumbryref04_Kids.l0])) ?_
    refine evIfn (by omega) ?_
    simp only [splitT, List.append_nil]
    exact Ev.now _
  | n + 1, a, out, ha, hn, ho => by
    obtain ⟨r, hr1, hr2⟩ := segN_split hn
    have hlt := (segN_len hr1).2 (by omega)
    rw [List.length_drop] at hlt
    obtain ⟨q, hq, hqr⟩ := segN_suffix hr1
    rw [List.drop_drop] at hqr
    rw [List.length_drop] at hq
    have hrl : r.length = t.length - (a + q) := by rw [← hqr, List.length_drop]
    have hb : behS t a 1 = ((a + q : Nat) : Int) := by
      unfold behS
      rw [hr1]
      simp only
      omega
    have hq0 : 0 < q := by omega
    have hpart : ((t.take (((a + q : Nat) : Int)).toNat).drop ((a : Int)).toNat : List Cel) = fstT (t.drop a) r := by
      unfold fstT
      rw [List.length_drop]
      simp only [Int.toNat_natCast]
      rw [List.drop_take]
      congr 1
      omega
    have hbh := ev_refBehind t ht hok a ha
    rw [hb] at hbh
    refine Ev.step (fun k => (show aumbryref04_Kids.l0 (k + 1) t out (a : Int) = _ from by rw [aumbryref04_Kids.l0])) ?_
    refine evIfp (by omega) ?_
    refine Ev.bind hbh ?_
    refine evIfp (by omega) (evIfp (by omega) (evIfp (by omega) ?_))
    have hfl : (fstT (t.drop a) r).length = q := by unfold fstT; rw [List.length_take, List.length_drop]; omega
    simp only [hpart]
    refine Ev.bind (evIs (copy_at _ (by omega))) ?_
    refine evIfp (by omega) ?_
    refine Ev.bind hbh ?_
    have := ev_rkids_loop t ht hok n (a + q) (out ++ [fstT (t.drop a) r]) (by omega) (by rw [hqr]; exact hr2) (by simp; omega)
    have e : out ++ splitT (n + 1) (t.drop a) = out ++ [fstT (t.drop a) r] ++ splitT n (t.drop (a + q)) := by
      simp only [splitT, hr1, hqr, List.append_assoc, List.singleton_append]
    rw [e]
    exact this
theorem ev_rkids {c : Cel} {l : List Cel} (h1 : (c :: l).length ≤ 64) (h2 : ∀ x ∈ c :: l, Okc x) (h3 : segN l (ar c) = some []) : Ev (fun k => aumbryref04_Kids.f k (c :: l)) (splitT (ar c) l) := by
  unfold aumbryref04_Kids.f
  exact ev_rkids_loop (c :: l) h1 h2 (ar c) 1 [] (by simp) h3 (by simp)
theorem split_arg {c : Cel} {l1 l2 : List Cel} {b : List UInt8} {d m : Nat} (h : Tx 0 (ar c) l1 b d) : splitT (m + 1) (c :: (l1 ++ l2)) = (c :: l1) :: splitT m l2 := by
  have h1 : segN (c :: (l1 ++ l2)) 1 = some l2 := by
    show segN (l1 ++ l2) (0 + ar c) = some l2
    rw [Nat.zero_add]
    have := segN_append l2 (tx_seg h)
    rw [Nat.sub_zero] at this
    exact this
  have h2 : fstT (c :: (l1 ++ l2)) l2 = c :: l1 := by
    unfold fstT
    have : (c :: (l1 ++ l2)).length - l2.length = (c :: l1).length := by simp; omega
    rw [this, ← List.cons_append, List.take_left]
  simp only [splitT, h1, h2]
/-! ### the document's text -/
theorem bl_append (a b : ByteArray) : bl (a ++ b) = bl a ++ bl b := by
  unfold bl
  rw [ByteArray.data_append, Array.toList_append]
theorem ev_text_kids {i n : Nat} {l : List Cel} {b : List UInt8} {d : Nat} (h : Tx i n l b d) : (∀ c ∈ l, Okc c) → l.length ≤ 63 → ∀ (kids : List (List Cel)) (acc : ByteArray), kids.length = n → kids.drop i = splitT (n - i) l → acc.size + b.length + 1 ≤ 4000 → n ≤ 4 →
    Ev (fun k => aumbryref04_Text.l0 k acc kids (n : Int) (i : Int)) ⟨(bl acc ++ b ++ closeB n).toArray⟩ := by
  induction h with
  | done n =>
    intro hc hl kids acc hk hd ha hn
    refine Ev.step (fun k => (show aumbryref04_Text.l0 (k + 1) acc kids (n : Int) (n : Int) = _ from by rw [aumbryref04_Text.l0])) ?_
    refine evIfn (by omega) ?_
    by_cases h0 : n = 0
    · refine evIfn (by omega) ?_
      have : (⟨(bl acc ++ [] ++ closeB n).toArray⟩ : ByteArray) = acc := bl_inj (by unfold closeB; rw [if_pos h0]; simp [bl])
      rw [this]
      exact Ev.now _
    · refine evIfp (by omega) (evIfp (by omega) ?_)
      have : (⟨(bl acc ++ [] ++ closeB n).toArray⟩ : ByteArray) = acc ++ (⟨#[41]⟩ : ByteArray) := bl_inj (by rw [bl_append]; unfold closeB; rw [if_neg h0]; simp [bl])
      rw [this]
      exact Ev.now _
  | @arg i n c l1 l2 b1 b2 d1 d2 h h1 h2 ih1 ih2 =>
    intro hc hl kids acc hk hd ha hn
    have hcc := hc c (List.mem_cons_self ..)
    rw [show n - i = (n - (i + 1)) + 1 by omega, split_arg h1] at hd
    obtain ⟨p1, p2, p3⟩ := drop_cons hd
    simp only [List.length_cons, List.length_append] at hl ha
    have hsz := bl_len c.f0
    have hcl : (closeB (ar c)).length ≤ 1 := by unfold closeB; split <;> simp
    have hT : Ev (fun k => aumbryref04_Text.f k (c :: l1)) (txtB c b1) := by
      refine Ev.step (fun k => (show aumbryref04_Text.f (k + 1) (c :: l1) = _ from by rw [aumbryref04_Text.f])) ?_
      refine evIfp (by simp) ?_
      have hrd : rd_T50 (c :: l1) 0 = c := rd_cel (t := c :: l1) (n := 0) (c := c) (s := l1) rfl
      have hsg := tx_seg h1
      rw [Nat.sub_zero] at hsg
      have hkl : (splitT (ar c) l1).length = ar c := (splitT_spec _ _ hsg).2.1
      refine Ev.bind (ev_rkids (by simp; omega) (fun x hx => ?_) hsg) ?_
      · rcases List.mem_cons.1 hx with rfl | hx
        · exact hcc
        · exact hc x (List.mem_cons_of_mem _ (List.mem_append_left _ hx))
      · simp only [hrd, hkl]
        by_cases hb : (closeB (ar c)).length = 0
        · have hlen : c.f0.size + b1.length + 1 ≤ 4000 := by omega
          exact ih1 (fun x hx => hc x (List.mem_cons_of_mem _ (List.mem_append_left _ hx))) (by omega) (splitT (ar c) l1) c.f0 hkl (by rw [Nat.sub_zero, List.drop_zero]) hlen (ar_le hcc)
        · have hlen : c.f0.size + b1.length + 1 ≤ 4000 := by omega
          exact ih1 (fun x hx => hc x (List.mem_cons_of_mem _ (List.mem_append_left _ hx))) (by omega) (splitT (ar c) l1) c.f0 hkl (by rw [Nat.sub_zero, List.drop_zero]) hlen (ar_le hcc)
    have hts : (txtB c b1).size = (bl c.f0).length + b1.length + (closeB (ar c)).length := by rw [← bl_len, txt_bl]; unfold txtL; simp; omega
    have hs1 : ∀ x : UInt8, (acc ++ (⟨#[x]⟩ : ByteArray)).size = acc.size + 1 := fun x => by rw [← bl_len, bl_append, ← bl_len acc]; simp [bl]
    have hs2 : ∀ x : UInt8, ((acc ++ (⟨#[x]⟩ : ByteArray)) ++ txtB c b1).size = acc.size + 1 + (txtB c b1).size := fun x => by rw [← bl_len, bl_append, List.length_append, bl_len, bl_len, hs1]
    have hfin : ∀ x : UInt8, sepB i = x → (⟨(bl ((acc ++ (⟨#[x]⟩ : ByteArray)) ++ txtB c b1) ++ b2 ++ closeB n).toArray⟩ : ByteArray) = ⟨(bl acc ++ sepB i :: (bl c.f0 ++ b1 ++ closeB (ar c) ++ b2) ++ closeB n).toArray⟩ := by
      intro x hx
      rw [bl_append, bl_append, txt_bl, hx]
      unfold txtL
      simp [bl]
    refine Ev.step (fun k => (show aumbryref04_Text.l0 (k + 1) acc kids (n : Int) (i : Int) = _ from by rw [aumbryref04_Text.l0])) ?_
    refine evIfp (by omega) ?_
    have e2 : ∀ x : UInt8, Ev (fun k => aumbryref04_Text.l0 k ((acc ++ (⟨#[x]⟩ : ByteArray)) ++ txtB c b1) kids (n : Int) ((i + 1 : Nat) : Int)) ⟨(bl ((acc ++ (⟨#[x]⟩ : ByteArray)) ++ txtB c b1) ++ b2 ++ closeB n).toArray⟩ := fun x =>
      ih2 (fun y hy => hc y (List.mem_cons_of_mem _ (List.mem_append_right _ hy))) (by omega) kids _ hk p3 (by rw [hs2, hts]; omega) hn
    by_cases hi : i = 0
    · refine evIfp (by omega) (evIfp (by omega) (evIfp (by omega) (evIfp (by omega) ?_)))
      simp only [rd_trm hd, up_cast i (by omega)]
      refine Ev.bind hT ?_
      refine evIfp (by rw [hs1, hts]; omega) ?_
      have := e2 40
      rw [hfin 40 (by unfold sepB; rw [if_pos hi])] at this
      exact this
    · refine evIfn (by omega) (evIfp (by omega) (evIfp (by omega) (evIfp (by omega) ?_)))
      simp only [rd_trm hd, up_cast i (by omega)]
      refine Ev.bind hT ?_
      refine evIfp (by rw [hs1, hts]; omega) ?_
      have := e2 44
      rw [hfin 44 (by unfold sepB; rw [if_neg hi])] at this
      exact this
theorem ev_text {c : Cel} {l : List Cel} {b : List UInt8} {d : Nat} (h : Tx 0 (ar c) l b d) (ho : ∀ x ∈ c :: l, Okc x) (hl : (c :: l).length ≤ 64) : Ev (fun k => aumbryref04_Text.f k (c :: l)) (txtB c b) := by
  refine Ev.step (fun k => (show aumbryref04_Text.f (k + 1) (c :: l) = _ from by rw [aumbryref04_Text.f])) ?_
  refine evIfp (by simp) ?_
  have hrd : rd_T50 (c :: l) 0 = c := rd_cel (t := c :: l) (n := 0) (c := c) (s := l) rfl
  have hsg := tx_seg h
  rw [Nat.sub_zero] at hsg
  have hkl : (splitT (ar c) l).length = ar c := (splitT_spec _ _ hsg).2.1
  have hcc := ho c (List.mem_cons_self ..)
  have hk := kindS_size hcc.kind
  have h1 := tx_len h fun x hx => ho x (List.mem_cons_of_mem _ hx)
  simp only [List.length_cons] at hl
  refine Ev.bind (ev_rkids (by simp; omega) ho hsg) ?_
  simp only [hrd, hkl]
  exact ev_text_kids h (fun x hx => ho x (List.mem_cons_of_mem _ hx)) (by omega) (splitT (ar c) l) c.f0 hkl (by rw [Nat.sub_zero, List.drop_zero]) (by omega) (ar_le hcc)
/-! ### depth -/
theorem ev_deepL (t : List Cel) (ht : t.length ≤ 64) {i n : Nat} {l : List Cel} {b : List UInt8} {d : Nat} (h : Tx i n l b d) : ∀ (pos : Nat) (q : List Cel) (most : Nat), n ≤ 4 → pos ≤ t.length → t.drop pos = l ++ q → (∀ c ∈ l, Okc c) → most ≤ 100 →
    Ev (fun k => term_deep.l0 k t (most : Int) (pos : Int) (n : Int) (i : Int)) (((max most d + 1 : Nat) : Int), ((pos + l.length : Nat) : Int)) := by
  induction h with
  | done n =>
    intro pos q most hn hp hd hc hm
    refine Ev.step (fun k => (show term_deep.l0 (k + 1) t (most : Int) (pos : Int) (n : Int) (n : Int) = _ from by rw [term_deep.l0])) ?_
    refine evIfn (by omega) ?_
    rw [up_cast most (by omega), Nat.max_zero]
    exact Ev.now _
  | @arg i n c l1 l2 b1 b2 d1 d2 h h1 h2 ih1 ih2 =>
    intro pos q most hn hp hd hc hm
    have hcc := hc c (List.mem_cons_self ..)
    obtain ⟨p1, p2, p3⟩ := drop_cons (show t.drop pos = c :: (l1 ++ l2 ++ q) from hd)
    have hlen1 := tx_len h1 fun x hx => hc x (List.mem_cons_of_mem _ (List.mem_append_left _ hx))
    have hpn : pos + 1 + l1.length + l2.length ≤ t.length := by
      have := congrArg List.length p3
      simp only [List.length_drop, List.length_append] at this
      omega
    refine Ev.step (fun k => (show term_deep.l0 (k + 1) t (most : Int) (pos : Int) (n : Int) (i : Int) = _ from by rw [term_deep.l0])) ?_
    refine evIfp (by omega) ?_
    have hr : Ev (fun k => term_deep.f k t (pos : Int)) (((max 0 d1 + 1 : Nat) : Int), ((pos + 1 + l1.length : Nat) : Int)) := by
      refine Ev.step (fun k => (show term_deep.f (k + 1) t (pos : Int) = _ from by rw [term_deep.f])) ?_
      refine evIfp (by omega) (evIfp (by omega) ?_)
      rw [rd_cel hd, ar_eq hcc, up_cast pos (by omega)]
      exact ih1 (pos + 1) (l2 ++ q) 0 (ar_le hcc) (by omega) (by rw [p3]; simp) (fun x hx => hc x (List.mem_cons_of_mem _ (List.mem_append_left _ hx))) (by omega)
    refine Ev.bind hr ?_
    have hpl : t.drop (pos + 1 + l1.length) = l2 ++ q := by rw [← List.drop_drop, p3, List.append_assoc, List.drop_left]
    have hmx : mx (most : Int) ((max 0 d1 + 1 : Nat) : Int) = ((max most (d1 + 1) : Nat) : Int) := by unfold mx; rw [Nat.zero_max]; omega
    have e2 := ih2 (pos + 1 + l1.length) q (max most (d1 + 1)) hn (by omega) hpl (fun x hx => hc x (List.mem_cons_of_mem _ (List.mem_append_right _ hx))) (by omega)
    simp only [hmx, up_cast i (by omega)]
    rw [show max most (max (d1 + 1) d2) = max (max most (d1 + 1)) d2 by omega, show pos + (c :: (l1 ++ l2)).length = pos + 1 + l1.length + l2.length by simp; omega]
    exact e2
theorem ev_deep {c : Cel} {l : List Cel} {b : List UInt8} {d : Nat} (h : Tx 0 (ar c) l b d) (ho : ∀ x ∈ c :: l, Okc x) (hl : (c :: l).length ≤ 64) : Ev (fun k => term_deep.f k (c :: l) 0) (((d + 1 : Nat) : Int), (((c :: l).length : Nat) : Int)) := by
  have hcc := ho c (List.mem_cons_self ..)
  have hrd : rd_T50 (c :: l) 0 = c := rd_cel (t := c :: l) (n := 0) (c := c) (s := l) rfl
  refine Ev.step (fun k => (show term_deep.f (k + 1) (c :: l) 0 = _ from by rw [term_deep.f])) ?_
  refine evIfp (by omega) (evIfp (by simp) ?_)
  rw [hrd, ar_eq hcc, show wrap64 (0 + 1) = ((1 : Nat) : Int) from up_cast 0 (by omega)]
  have := ev_deepL (c :: l) hl h 1 [] 0 (ar_le hcc) (by simp) (by simp) (fun x hx => ho x (List.mem_cons_of_mem _ hx)) (by omega)
  rw [Nat.zero_max, show 1 + l.length = (c :: l).length by simp; omega] at this
  exact this
theorem ev_rdepth_kids {i n : Nat} {l : List Cel} {b : List UInt8} {d : Nat} (h : Tx i n l b d) : (∀ c ∈ l, Okc c) → l.length ≤ 63 → ∀ (kids : List (List Cel)) (most : Nat), kids.length = n → kids.drop i = splitT (n - i) l → n ≤ 4 → most ≤ 100 →
    Ev (fun k => aumbryref04_Depth.l0 k (most : Int) kids (n : Int) (i : Int)) ((max most d + 1 : Nat) : Int) := by
  induction h with
  | done n =>
    intro hc hl kids most hk hd hn hm
    refine Ev.step (fun k => (show aumbryref04_Depth.l0 (k + 1) (most : Int) kids (n : Int) (n : Int) = _ from by rw [aumbryref04_Depth.l0])) ?_
    refine evIfn (by omega) ?_
    rw [up_cast most (by omega), Nat.max_zero]
    exact Ev.now _
  | @arg i n c l1 l2 b1 b2 d1 d2 h h1 h2 ih1 ih2 =>
    intro hc hl kids most hk hd hn hm
    have hcc := hc c (List.mem_cons_self ..)
    rw [show n - i = (n - (i + 1)) + 1 by omega, split_arg h1] at hd
    obtain ⟨p1, p2, p3⟩ := drop_cons hd
    simp only [List.length_cons, List.length_append] at hl
    have hlen1 := tx_len h1 fun x hx => hc x (List.mem_cons_of_mem _ (List.mem_append_left _ hx))
    have hT : Ev (fun k => aumbryref04_Depth.f k (c :: l1)) ((max 0 d1 + 1 : Nat) : Int) := by
      refine Ev.step (fun k => (show aumbryref04_Depth.f (k + 1) (c :: l1) = _ from by rw [aumbryref04_Depth.f])) ?_
      have hsg := tx_seg h1
      rw [Nat.sub_zero] at hsg
      have hkl : (splitT (ar c) l1).length = ar c := (splitT_spec _ _ hsg).2.1
      refine Ev.bind (ev_rkids (by simp; omega) (fun x hx => ?_) hsg) ?_
      · rcases List.mem_cons.1 hx with rfl | hx
        · exact hcc
        · exact hc x (List.mem_cons_of_mem _ (List.mem_append_left _ hx))
      · simp only [hkl]
        exact ih1 (fun x hx => hc x (List.mem_cons_of_mem _ (List.mem_append_left _ hx))) (by omega) (splitT (ar c) l1) 0 hkl (by rw [Nat.sub_zero, List.drop_zero]) (ar_le hcc) (by omega)
    refine Ev.step (fun k => (show aumbryref04_Depth.l0 (k + 1) (most : Int) kids (n : Int) (i : Int) = _ from by rw [aumbryref04_Depth.l0])) ?_
    refine evIfp (by omega) (evIfp (by omega) (evIfp (by omega) ?_))
    simp only [rd_trm hd, up_cast i (by omega)]
    refine Ev.bind hT ?_
    have e2 := fun m hm => ih2 (fun y hy => hc y (List.mem_cons_of_mem _ (List.mem_append_right _ hy))) (by omega) kids m hk p3 hn hm
    rw [Nat.zero_max]
    by_cases hg : ((d1 + 1 : Nat) : Int) > (most : Int)
    · refine evIfp hg ?_
      rw [show max most (max (d1 + 1) d2) = max (d1 + 1) d2 by omega]
      exact e2 (d1 + 1) (by omega)
    · refine evIfn hg ?_
      rw [show max most (max (d1 + 1) d2) = max most d2 by omega]
      exact e2 most hm
theorem ev_rdepth {c : Cel} {l : List Cel} {b : List UInt8} {d : Nat} (h : Tx 0 (ar c) l b d) (ho : ∀ x ∈ c :: l, Okc x) (hl : (c :: l).length ≤ 64) : Ev (fun k => aumbryref04_Depth.f k (c :: l)) ((d + 1 : Nat) : Int) := by
  refine Ev.step (fun k => (show aumbryref04_Depth.f (k + 1) (c :: l) = _ from by rw [aumbryref04_Depth.f])) ?_
  have hsg := tx_seg h
  rw [Nat.sub_zero] at hsg
  have hkl : (splitT (ar c) l).length = ar c := (splitT_spec _ _ hsg).2.1
  have hcc := ho c (List.mem_cons_self ..)
  refine Ev.bind (ev_rkids hl ho hsg) ?_
  simp only [hkl]
  have := ev_rdepth_kids h (fun x hx => ho x (List.mem_cons_of_mem _ hx)) (by simp at hl; omega) (splitT (ar c) l) 0 hkl (by rw [Nat.sub_zero, List.drop_zero]) (ar_le hcc) (by omega)
  rw [Nat.zero_max] at this
  exact this
end Go.Proofs.Ytcmnpjgmpgjbdaa.P

-- ==== PureTermPrints
/- Any term is written, with its variables, its depth, and its arguments, or refused, as the document says: for every list of cells, the law answers true. -/
namespace Go.Proofs.Ytcmnpjgmpgjbdaa.Pure
open Go.RowKit Go.Proofs.Ytcmnpjgmpgjbdaa.P Go.Proofs.YtcmnpjgmpgjbdaaW.PrintWords
set_option linter.unusedVariables false
theorem TermPrints : aumbrylaw04_TermPrints.Pure := by
  intro t ht
  have htl := sz_len ht
  refine Ev.rounds ?_
  unfold aumbrylaw04_TermPrints.f
  refine Ev.bind ev_wakes4 ?_
  refine evIfp rfl ?_
  have hcp := evIs (copy_at t htl)
  by_cases hc : checkS t = 0
  · have hrk := ev_tkids hc
    have hrp : Ev (fun k => aumbryref04_Check.f k t) (checkS t) := ev_refCheck t
    obtain ⟨c, l, b, d, rfl, h1, h2, h3⟩ := tx_term hc
    have hsg := tx_seg h1
    rw [Nat.sub_zero] at hsg
    have hkk : kidsS (c :: l) = splitT (ar c) l := rfl
    have hdp : Ev (fun k => term_Depth.f k (c :: l)) (((d + 1 : Nat) : Int), 0) := by
      unfold term_Depth.f
      refine Ev.bind (ev_check _) (evIfp hc ?_)
      exact Ev.bind (ev_deep h1 h2 h3) (Ev.now _)
    have hpr : Ev (fun k => aumbryref04_Print.f k (c :: l)) (txtB c b, 0) := by
      unfold aumbryref04_Print.f
      refine Ev.bind hrp (evIfp hc ?_)
      exact Ev.bind (ev_text h1 h2 h3) (Ev.now _)
    refine Ev.bind hcp (Ev.bind (ev_print h1 h2 h3) (Ev.bind hcp (Ev.bind (ev_vars hc) (Ev.bind hcp (Ev.bind hdp (Ev.bind hcp (Ev.bind hrk (Ev.bind hpr ?_))))))))
    refine evIfp rfl (evIfp rfl (evIfp rfl ?_))
    have hfl : ((0 : Int) != 0) = false := by decide
    simp only [hfl]
    refine Ev.step (fun k => (show aumbrylaw04_TermPrints.j0 (k + 1) (c :: l) (txtB c b) 0 (varsS [] (c :: l)) ((d + 1 : Nat) : Int) (kidsS (c :: l)) (txtB c b) false = _ from by rw [aumbrylaw04_TermPrints.j0])) ?_
    refine evIfn (by simp) (evIfp rfl (evIfp rfl ?_))
    refine Ev.bind (ev_rvars (t := c :: l) (by omega)) ?_
    have hvl := varsS_len (c :: l) []
    refine Ev.bind (ev_same3 (varsS [] (c :: l)) (by simp only [List.length_nil] at hvl; omega)) (evIfp rfl ?_)
    refine Ev.bind (ev_rdepth h1 h2 h3) (evIfp rfl ?_)
    refine Ev.bind (ev_rkids h3 h2 hsg) ?_
    rw [hkk]
    obtain ⟨c', k1, k2, k3, k4⟩ := kidsS_flat hc
    refine Ev.bind (ev_sameAll (splitT (ar c) l) (by rw [← hkk]; omega) (fun a ha => ?_)) (Ev.now _)
    rw [← hkk] at ha
    have := checkS_len (k3 a ha)
    omega
  · have hdp : Ev (fun k => term_Depth.f k t) (0, checkS t) := by
      unfold term_Depth.f
      exact Ev.bind (ev_check _) (evIfn hc (Ev.now _))
    have hpr : Ev (fun k => aumbryref04_Print.f k t) (⟨#[]⟩, checkS t) := by
      unfold aumbryref04_Print.f
      exact Ev.bind (ev_refCheck t) (evIfn hc (Ev.now _))
    refine Ev.bind hcp (Ev.bind (ev_print_no hc) (Ev.bind hcp (Ev.bind (ev_vars_no hc) (Ev.bind hcp (Ev.bind hdp (Ev.bind hcp (Ev.bind (ev_tkids_no hc) (Ev.bind hpr ?_))))))))
    refine evIfp rfl (evIfp rfl (evIfp rfl ?_))
    have hfl : (checkS t != checkS t) = false := by simp
    simp only [hfl]
    refine Ev.step (fun k => (show aumbrylaw04_TermPrints.j0 (k + 1) t ⟨#[]⟩ (checkS t) [] 0 [] ⟨#[]⟩ false = _ from by rw [aumbrylaw04_TermPrints.j0])) ?_
    refine evIfn (by simp) (evIfn hc (evIfp ?_ (evIfp rfl (evIfp rfl ?_))))
    · exact (toList_nil _).2 rfl
    · have : ((([] : List (List Cel)).length : Int) == 0) = true := by decide
      simp only [this]
      exact Ev.now _
end Go.Proofs.Ytcmnpjgmpgjbdaa.Pure

-- ==== RowTermPrints
namespace Go.Proofs.Ytcmnpjgmpgjbdaa.termPrints
open Go.ChangeShapes Go.WideShapes Go.ChangeAt Go.RowKit Go.Proofs.YtcmnpjgmpgjbdaaW.PrintWords Go.Proofs.Ytcmnpjgmpgjbdaa.P Go.Proofs.Ytcmnpjgmpgjbdaa.Open
open Go.ChangeMaps (open_string shut_string)
set_option linter.unusedVariables false
theorem own : ownKnob Try.prog.godebug = none := by kernel_rfl
theorem laidOut : laidOutB Try.prog = true := by kernel_rfl
set_option maxRecDepth 100000 in
theorem core {H : Type} {enc : TypeId × Value → H} (W : World) (base : Nat) (args : Array Value) (ds gs : List (DataW H)) (before : List MemPlace)
    (hval : ∀ (j : Nat) t v, Try.f9.params[j]? = some t → args[j]? = some v → Value.okWide Try.prog W .any base t v)
    (hW : DataW.Whole enc Try.prog Try.f9.params.toList Rows.termPrintsSpec.vars false W args.toList ds gs before)
    (hsz : (DataW.weightsEach Try.prog (Try.f9.params.toList ++ Rows.termPrintsSpec.plain.varTypes Try.prog) (ds ++ gs)).all (· ≤ reachBytes) = true)
    :
    Calls Try.prog 9 args W fun e W' => ∃ v, e = .returned v ∧ Rows.termPrintsSpec.post enc Try.prog Try.f9 false true false false W args v W' := by
  have hW' := hW
  obtain ⟨p, q, hA, hV, rfl, hfz, hnd⟩ := hW
  rw [Try.params9] at hA hval hsz
  obtain ⟨v0, vs0, d0, ds0, p0, q0, hargs, rfl, rfl, h0, r0⟩ := trodAll_cons hA
  obtain ⟨rfl, rfl, rfl⟩ := trodAll_nil r0
  obtain rfl : args = #[v0] := by cases args; simp_all
  obtain ⟨rfl, rfl⟩ := trodVars_none hV
  have k0 := h0
  obtain ⟨n0, hf0⟩ := h0
  obtain ⟨x0, hK0, hS0, hB0⟩ := op23.go hf0 (fun m hm => by have := List.all_eq_true.1 hsz m (DataW.weights_mem_each (j := 0) rfl rfl m hm); simpa using this)
  have lt0 : ∀ z ∈ p0, z.block < W.heap.size := by obtain ⟨m, hm⟩ := k0; exact DataW.trod_lt m _ _ _ hm
  obtain ⟨a0, len0, cap0, rfl⟩ := okWide_slice Try.underlying23 (hval 0 23 v0 rfl rfl)
  obtain ⟨A0, c0, hcs0, hc0, hr0⟩ := hK0
  have hcs0' : [(Value.slice a0 len0 cap0)] = [.slice A0 x0.length c0] := hcs0
  injection hcs0' with hcs0'
  injection hcs0' with ha0 hl0 hk0
  subst ha0 hl0 hk0
  obtain ⟨k, h⟩ := Pure.TermPrints x0 hS0
  refine (aumbrylaw04_TermPrints.calls k _ _ x0 true W hr0 hc0 h).mono ?_
  rintro e W' ⟨rfl, hd⟩
  have bel : Below W.heap.size W W' := hd
  exact ⟨_, rfl, _, _, _, [], _, [], hW', trodAll_mk1 (shut_bool Try.underlying4 _), (trodAll_cons_mk (Below.trod laidOut (by kernel_rfl) (of_decide_eq_true (by kernel_rfl)) k0 bel lt0) trodAll_mk0), rfl, bel.frame _, fun h => by cases h⟩
set_option maxRecDepth 100000 in
theorem lifted (os : Os) (started : os.Started) (H : Type) (enc : TypeId × Value → H) :
    ReturnsInHanded {} Try.checked os 9 .any (Rows.termPrintsSpec.pre6 enc Try.prog Try.f9 Rows.termPrintsRow.domain false) (Rows.termPrintsSpec.post enc Try.prog Try.f9 false true false false) := by
  refine returnsInHanded_of_change_sized (C := Try.checked) own started (by kernel_rfl) Try.func9
    (ChangeSpec.witness6 (enc := enc) (C := Try.checked) false ⟨#[], #[.slice none 0 0], []⟩ 8 (by kernel_rfl) (by kernel_rfl) (by kernel_rfl) (by kernel_rfl)) ?_
  intro W base args ds gs before hval0 hW hcnd hsz0 _
  exact core W base args ds gs before hval0 hW hsz0
theorem over : Rows.termPrintsRow.holds Try.pinned (OpenSpec.ofChange Rows.termPrintsSpec) :=
  OpenClaim.holds_of_wide 9 Try.f9 rfl rfl rfl rfl rfl rfl rfl ⟨rfl, rfl, rfl, rfl, rfl⟩ rfl rfl rfl rfl rfl (by kernel_rfl) Try.func9 (by kernel_rfl)
    (of_decide_eq_true (by kernel_rfl)) (by unfold Func.isWrapper; first | (rw [if_pos (by decide +kernel)]; kernel_rfl) | (rw [if_neg (by decide +kernel)]; exact ⟨rfl, rfl⟩))
    (fun os started H enc _ => lifted os started H enc)
theorem proved : Rows.TermPrintsSaid := over
end Go.Proofs.Ytcmnpjgmpgjbdaa.termPrints
namespace Go.Proofs.Ytcmnpjgmpgjbdaa
/-- The row, under a short name, for the claim. -/
theorem termPrints_holds : Rows.TermPrintsSaid := termPrints.proved
#print axioms termPrints_holds
end Go.Proofs.Ytcmnpjgmpgjbdaa
