/- RulePrints: the law answers true at every input that the given row speaks of. Conditions: those of the given row, none besides. (Part 6 of 6; written by programs of this session, which drive the kit's print, and by hand.) -/
import Derived.KernelRfl
import Derived.Test.YtpnamhplhdaphaaDoorCards
import Derived.Test.YtpnamhplhdaphaaDoorTie
import Derived.Deep.DeepHandedRow
import Derived.Lay
import Derived.SevenTiedAt
import Derived.Test.YtpnamhplhdaphaaDoorRows
import Derived.WalkKit
import Derived.ProofKit
import Derived.OpenShut
import Derived.ShutString
import Derived.ChangeOld
import Derived.Below
import Derived.Carry
import Derived.SizedLaws
import Derived.Test.YtpnamhplhdaphaaDoorZRulePrints0
import Derived.Test.YtpnamhplhdaphaaDoorZRulePrints1
import Derived.Test.YtpnamhplhdaphaaDoorZRulePrints3
import Derived.Test.YtpnamhplhdaphaaDoorZRulePrints4
-- ==== PF16
namespace Go.Proofs.YtpnamhplhdaphaaDoor.P
open Go.RowKit Go.Proofs.YtpnamhplhdaphaaDoorW.PrintWords Go.Proofs.YtpnamhplhdaphaaDoorW.PrintLast Go.Proofs.YtpnamhplhdaphaaDoorW.PrintMore
attribute [local go_sem] max2_int min2_int max_two min_two max_three min_three max_four min_four   -- for this text's walks alone
set_option linter.unusedVariables false
set_option linter.unusedSimpArgs false

/-! ### aumbryref06_Parse: function 16 -/
def aumbryref06_Parse.f (k : Nat) (a0 : ByteArray) (a1 : ByteArray) : Option (Int × (List (S33)) × (List (S33)) × Int) := (aumbryref04_Parse.f k a0).bind fun bt102 => (if bt102.2.2 = 0 then ((aumbryref04_Parse.f k a1).bind fun bt107 => (if bt107.2.2 = 0 then ((aumbryref06_Check.f k 0 bt102.1 bt107.1).bind fun t113 => (if t113 = 0 then (some (0, bt102.1, bt107.1, 0)) else (some (0, ([] : List (S33)), ([] : List (S33)), t113)))) else (some (0, ([] : List (S33)), ([] : List (S33)), bt107.2.2)))) else (some (0, ([] : List (S33)), ([] : List (S33)), bt102.2.2)))
end Go.Proofs.YtpnamhplhdaphaaDoor.P

-- ==== PL6r
/- Plain laws of chapter 6: reading two texts as a rule; writing a rule. -/
namespace Go.Proofs.YtpnamhplhdaphaaDoor.P
open Go.RowKit Go.Proofs.YtpnamhplhdaphaaDoorW.PrintWords
set_option linter.unusedVariables false
set_option linter.unusedSimpArgs false
def arrow : ByteArray := ⟨#[32, 45, 62, 32]⟩
theorem txtB_size {c : Cel} {l : List Cel} {b : List UInt8} {d : Nat} (h : Tx 0 (ar c) l b d) (ho : ∀ x ∈ c :: l, Okc x) (hl : (c :: l).length ≤ 64) : (txtB c b).size ≤ 640 := (txt_len h ho hl).1
section
variable {id : Int} {c1 c2 : Cel} {l1 l2 : List Cel} {b1 b2 : List UInt8} {d1 d2 : Nat} (h1 : Tx 0 (ar c1) l1 b1 d1) (o1 : ∀ x ∈ c1 :: l1, Okc x) (h2 : Tx 0 (ar c2) l2 b2 d2) (o2 : ∀ x ∈ c2 :: l2, Okc x)
include h1 o1 h2 o2
theorem ev_rprint (hr : ruleS id (c1 :: l1) (c2 :: l2) = 0) : Ev (fun k => rule_Print.f k id (c1 :: l1) (c2 :: l2)) ((txtB c1 b1 ++ arrow) ++ txtB c2 b2, 0) := by
  obtain ⟨_, _, p, q, _⟩ := ruleS_ok hr
  have s1 := txtB_size h1 o1 (by omega)
  have s2 := txtB_size h2 o2 (by omega)
  unfold rule_Print.f
  refine Ev.bind (ev_rch id _ _) (evIfp hr ?_)
  refine Ev.bind (ev_print h1 o1 (by omega)) (Ev.bind (ev_print h2 o2 (by omega)) ?_)
  refine evIfp (by show (txtB c1 b1).size + 4 ≤ _; omega) (evIfp ?_ (Ev.now _))
  show (txtB c1 b1 ++ arrow).size + (txtB c2 b2).size ≤ _
  rw [ByteArray.size_append]
  have : arrow.size = 4 := rfl
  omega
theorem ev_rtext (p : (c1 :: l1).length ≤ 64) (q : (c2 :: l2).length ≤ 64) : Ev (fun k => aumbryref06_Text.f k id (c1 :: l1) (c2 :: l2)) ((txtB c1 b1 ++ arrow) ++ txtB c2 b2) := by
  have s1 := txtB_size h1 o1 (by omega)
  have s2 := txtB_size h2 o2 (by omega)
  unfold aumbryref06_Text.f
  refine Ev.bind (ev_text h1 o1 (by omega)) ?_
  refine evIfp (by show (txtB c1 b1).size + 4 ≤ _; omega) ?_
  refine Ev.bind (ev_text h2 o2 (by omega)) (evIfp ?_ (Ev.now _))
  show (txtB c1 b1 ++ arrow).size + (txtB c2 b2).size ≤ _
  rw [ByteArray.size_append]
  have : arrow.size = 4 := rfl
  omega
end
theorem ev_rprint_no {id : Int} {l r : List Cel} (h : ¬ ruleS id l r = 0) : Ev (fun k => rule_Print.f k id l r) (⟨#[]⟩, ruleS id l r) := by
  unfold rule_Print.f
  exact Ev.bind (ev_rch id l r) (evIfn h (Ev.now _))
end Go.Proofs.YtpnamhplhdaphaaDoor.P

-- ==== PL6n
/- Plain laws of chapter 6: the plain form of a rule: its variables are called by their places. -/
namespace Go.Proofs.YtpnamhplhdaphaaDoor.P
open Go.RowKit Go.Proofs.YtpnamhplhdaphaaDoorW.PrintWords
set_option linter.unusedVariables false
set_option linter.unusedSimpArgs false
/-- The place of a text in a list. -/
def ixS : List ByteArray → ByteArray → Nat → Option Nat
  | [], _, _ => none
  | v :: u, a, i => if v = a then some i else ixS u a (i + 1)
def ixI : Option Nat → Int
  | none => -1
  | some i => (i : Int)
theorem ixS_cons (v : ByteArray) (u : List ByteArray) (a : ByteArray) (i : Nat) : ixS (v :: u) a i = if v = a then some i else ixS u a (i + 1) := rfl
theorem ixS_lt : ∀ (u : List ByteArray) (a : ByteArray) (i j : Nat), ixS u a i = some j → i ≤ j ∧ j < i + u.length
  | [], a, i, j, h => by cases h
  | v :: u, a, i, j, h => by
    rw [ixS_cons] at h
    by_cases hv : v = a
    · rw [if_pos hv] at h
      injection h with h
      subst h
      simp
    · rw [if_neg hv] at h
      have := ixS_lt u a (i + 1) j h
      simp only [List.length_cons]
      omega
theorem ixS_none : ∀ (u : List ByteArray) (a : ByteArray) (i : Nat), a ∉ u → ixS u a i = none
  | [], a, i, h => rfl
  | v :: u, a, i, h => by
    rw [ixS_cons, if_neg (fun e => h (by rw [e]; simp))]
    exact ixS_none u a (i + 1) (fun e => h (List.mem_cons_of_mem _ e))
theorem ev_index_at (l : List ByteArray) (a : ByteArray) (hl : l.length ≤ 9223372036854775806) : ∀ (u : List ByteArray) (i : Nat), i ≤ l.length → l.drop i = u →
    Ev (fun k => slices_Index_string_string.l0 k l a (l.length : Int) (i : Int)) (ixI (ixS u a i))
  | [], i, hi, hu => by
    have h1 := drop_nil_len hi hu
    refine Ev.step (fun k => (show slices_Index_string_string.l0 (k + 1) l a (l.length : Int) (i : Int) = _ from by rw [slices_Index_string_string.l0])) ?_
    exact evIfn (by omega) (Ev.now _)
  | b :: u, i, hi, hu => by
    obtain ⟨h1, _, h3⟩ := drop_cons hu
    refine Ev.step (fun k => (show slices_Index_string_string.l0 (k + 1) l a (l.length : Int) (i : Int) = _ from by rw [slices_Index_string_string.l0])) ?_
    refine evIfp (by omega) (evIfp (by omega) (evIfp (by omega) ?_))
    rw [rd_txt hu, ixS_cons]
    by_cases hab : a.toList = b.toList
    · rw [if_pos ((bytes_eq a b).1 hab).symm]
      exact evIfp hab (Ev.now _)
    · rw [if_neg (fun e => hab (by rw [e]))]
      refine evIfn hab ?_
      rw [up_cast i (by omega)]
      exact ev_index_at l a hl u (i + 1) (by omega) h3
theorem ev_index (l : List ByteArray) (a : ByteArray) (hl : l.length ≤ 9223372036854775806) : Ev (fun k => slices_Index_string_string.f k l a) (ixI (ixS l a 0)) := by
  unfold slices_Index_string_string.f
  exact ev_index_at l a hl l 0 (by omega) rfl
def xnm (j : Nat) : ByteArray := (⟨#[88]⟩ : ByteArray) ++ itB (j : Int)
/-- A name as the plain form calls it. -/
def pnS (vars : List ByteArray) (a : ByteArray) : ByteArray := match ixS vars a 0 with
  | none => a
  | some j => xnm j
def pcS (vars : List ByteArray) (c : Cel) : Cel := ⟨pnS vars c.f0, c.f1⟩
theorem ev_plL (vars : List ByteArray) (hv : vars.length ≤ 8) : ∀ u : List Cel, Ev (fun k => plL k vars u) (u.map (pcS vars))
  | [] => Ev.now _
  | c :: u => by
    have e : (fun k => plL k vars (c :: u)) = (fun k => (slices_Index_string_string.f k vars c.f0).bind fun j => if j ≥ 0 then (if j < 8 then (plL k vars u).bind fun q => some (⟨(⟨#[88]⟩ : ByteArray) ++ itB j, c.f1⟩ :: q) else none) else (plL k vars u).bind fun q => some (c :: q)) := rfl
    rw [e]
    refine Ev.bind (ev_index vars c.f0 (by omega)) ?_
    rw [List.map_cons]
    cases h : ixS vars c.f0 0 with
    | none =>
      have : pcS vars c = c := by unfold pcS pnS; rw [h]
      rw [this]
      exact evIfn (by simp [ixI]) (Ev.bind (ev_plL vars hv u) (Ev.now _))
    | some j =>
      have : pcS vars c = ⟨xnm j, c.f1⟩ := by unfold pcS pnS; rw [h]
      have hj := ixS_lt _ _ _ _ h
      rw [this]
      refine evIfp (by show ((j : Nat) : Int) ≥ 0; omega) (evIfp (by show ((j : Nat) : Int) < 8; omega) ?_)
      exact Ev.bind (ev_plL vars hv u) (Ev.now _)
theorem ev_plF (vars : List ByteArray) (hv : vars.length ≤ 8) (u : List Cel) (hu : u.length ≤ 64) : Ev (fun k => plF k vars u) (u.map (pcS vars)) := by
  unfold plF
  exact evIfp (by omega) (ev_plL vars hv u)
/-- The plain form of a right rule. -/
def plS (vars : List ByteArray) (t : List Cel) : List Cel := t.map (pcS vars)
theorem ev_plain {id : Int} {l r : List Cel} (h : ruleS id l r = 0) : Ev (fun k => rule_Plain.f k id l r) (id, plS (varsS [] l) l, plS (varsS [] l) r, 0) := by
  obtain ⟨h1, h2, h3, h4, _⟩ := ruleS_ok h
  have hv := varsS_len l []
  simp only [List.length_nil] at hv
  unfold rule_Plain.f plainF
  refine Ev.bind (ev_rch id l r) (evIfp h ?_)
  have hv' : (varsS [] l).length ≤ 8 := by omega
  refine Ev.bind (ev_vars h1) (Ev.bind (ev_plF _ hv' l (by omega)) (Ev.bind (ev_plF _ hv' r (by omega)) ?_))
  exact Ev.now _
theorem ev_plain_no {id : Int} {l r : List Cel} (h : ¬ ruleS id l r = 0) : Ev (fun k => rule_Plain.f k id l r) (0, [], [], ruleS id l r) := by
  unfold rule_Plain.f plainF
  exact Ev.bind (ev_rch id l r) (evIfn h (Ev.now _))
/-! ### the document's -/
set_option maxRecDepth 100000 in
theorem ev_wr8 (j : Nat) (h : j < 8) : Ev (fun k => aumbryref03_Write.f k (j : Int)) (itB (j : Int)) := by
  have : j = 0 ∨ j = 1 ∨ j = 2 ∨ j = 3 ∨ j = 4 ∨ j = 5 ∨ j = 6 ∨ j = 7 := by omega
  clear h
  rcases this with rfl | rfl | rfl | rfl | rfl | rfl | rfl | rfl
  · exact Ev.of (g := fun k => aumbryref03_Write.f k ((0 : Nat) : Int)) (aumbryref03_Write.mono _) (k := 3) (by kernel_rfl)
  · exact Ev.of (g := fun k => aumbryref03_Write.f k ((1 : Nat) : Int)) (aumbryref03_Write.mono _) (k := 3) (by kernel_rfl)
  · exact Ev.of (g := fun k => aumbryref03_Write.f k ((2 : Nat) : Int)) (aumbryref03_Write.mono _) (k := 3) (by kernel_rfl)
  · exact Ev.of (g := fun k => aumbryref03_Write.f k ((3 : Nat) : Int)) (aumbryref03_Write.mono _) (k := 3) (by kernel_rfl)
  · exact Ev.of (g := fun k => aumbryref03_Write.f k ((4 : Nat) : Int)) (aumbryref03_Write.mono _) (k := 3) (by kernel_rfl)
  · exact Ev.of (g := fun k => aumbryref03_Write.f k ((5 : Nat) : Int)) (aumbryref03_Write.mono _) (k := 3) (by kernel_rfl)
  · exact Ev.of (g := fun k => aumbryref03_Write.f k ((6 : Nat) : Int)) (aumbryref03_Write.mono _) (k := 3) (by kernel_rfl)
  · exact Ev.of (g := fun k => aumbryref03_Write.f k ((7 : Nat) : Int)) (aumbryref03_Write.mono _) (k := 3) (by kernel_rfl)
theorem varsS_nodup : ∀ (u : List Cel) (out : List ByteArray), out.Nodup → (varsS out u).Nodup
  | [], out, h => h
  | c :: u, out, h => by
    have hv : varsS out (c :: u) = if kindS c.f0 = 2 then (if c.f0 ∈ out then varsS out u else varsS (out ++ [c.f0]) u) else varsS out u := rfl
    rw [hv]
    split
    · split
      · exact varsS_nodup u out h
      · rename_i hm
        refine varsS_nodup u _ ?_
        refine List.nodup_append.2 ⟨h, by simp, ?_⟩
        intro a ha b hb e
        simp only [List.mem_singleton] at hb
        subst hb
        subst e
        exact hm ha
    · exact varsS_nodup u out h
theorem ev_named1 (t : List Cel) (vars : List ByteArray) (hv : vars.length ≤ 8) (acc : List Cel) (i : Nat) (c : Cel) (q : List Cel) (hi : t.drop i = c :: q) (ha : acc.length ≤ 64) (ar : Int) (R : List Cel) :
    ∀ (u : List ByteArray) (j : Nat) (nm : ByteArray), j ≤ vars.length → vars.drop j = u → u.Nodup →
      Ev (fun k => aumbryref06_named.l0 k t vars (acc ++ [⟨(match ixS u c.f0 j with | none => nm | some z => xnm z), ar⟩]) (t.length : Int) (wrap64 ((i : Int) + 1))) R →
      Ev (fun k => aumbryref06_named.l1 k t vars acc (i : Int) (t.length : Int) (i : Int) (vars.length : Int) (j : Int) nm ar) R
  | [], j, nm, hj, hu, hn, hR => by
    have h1 := drop_nil_len hj hu
    refine Ev.step (fun k => (show aumbryref06_named.l1 (k + 1) t vars acc (i : Int) (t.length : Int) (i : Int) (vars.length : Int) (j : Int) nm ar = _ from by rw [aumbryref06_named.l1])) ?_
    refine evIfn (by omega) (evIfp (by omega) ?_)
    exact hR
  | v :: u, j, nm, hj, hu, hn, hR => by
    obtain ⟨h1, _, h3⟩ := drop_cons hu
    obtain ⟨g1, _, _⟩ := drop_cons hi
    refine Ev.step (fun k => (show aumbryref06_named.l1 (k + 1) t vars acc (i : Int) (t.length : Int) (i : Int) (vars.length : Int) (j : Int) nm ar = _ from by rw [aumbryref06_named.l1])) ?_
    refine evIfp (by omega) (evIfp (by omega) (evIfp (by omega) (evIfp (by omega) (evIfp (by omega) ?_))))
    simp only [rd_cel hi, up_cast j (by omega)]
    rw [rd_txt hu]
    have hn' := List.nodup_cons.1 hn
    by_cases hab : c.f0.toList = v.toList
    · have hab' := (bytes_eq _ _).1 hab
      refine evIfp hab (Ev.bind (ev_wr8 j (by omega)) (evIfp (by rw [itB_size]; omega) ?_))
      refine ev_named1 t vars hv acc i c q hi ha ar R u (j + 1) _ (by omega) h3 hn'.2 ?_
      rw [ixS_none u c.f0 (j + 1) (by rw [hab']; exact hn'.1)]
      rw [ixS_cons, if_pos hab'.symm] at hR
      exact hR
    · refine evIfn hab ?_
      refine ev_named1 t vars hv acc i c q hi ha ar R u (j + 1) nm (by omega) h3 hn'.2 ?_
      rw [ixS_cons, if_neg (fun e => hab (by rw [e]))] at hR
      exact hR
theorem ev_named_loop (t : List Cel) (ht : t.length ≤ 64) (vars : List ByteArray) (hv : vars.length ≤ 8) (hn : vars.Nodup) : ∀ (u : List Cel) (i : Nat) (acc : List Cel), i ≤ t.length → t.drop i = u → acc.length ≤ i →
    Ev (fun k => aumbryref06_named.l0 k t vars acc (t.length : Int) (i : Int)) (acc ++ plS vars u)
  | [], i, acc, hi, hu, ha => by
    have h1 := drop_nil_len hi hu
    refine Ev.step (fun k => (show aumbryref06_named.l0 (k + 1) t vars acc (t.length : Int) (i : Int) = _ from by rw [aumbryref06_named.l0])) ?_
    refine evIfn (by omega) ?_
    simp only [plS, List.map_nil, List.append_nil]
    exact Ev.now _
  | c :: u, i, acc, hi, hu, ha => by
    obtain ⟨h1, _, h3⟩ := drop_cons hu
    refine Ev.step (fun k => (show aumbryref06_named.l0 (k + 1) t vars acc (t.length : Int) (i : Int) = _ from by rw [aumbryref06_named.l0])) ?_
    refine evIfp (by omega) (evIfp (by omega) (evIfp (by omega) ?_))
    simp only [rd_cel hu]
    refine ev_named1 t vars hv acc i c u hu (by omega) c.f1 _ vars 0 c.f0 (by omega) rfl hn ?_
    rw [up_cast i (by omega)]
    have e : acc ++ plS vars (c :: u) = (acc ++ [⟨(match ixS vars c.f0 0 with | none => c.f0 | some z => xnm z), c.f1⟩]) ++ plS vars u := by
      rw [List.append_assoc]
      rfl
    rw [e]
    exact ev_named_loop t ht vars hv hn u (i + 1) _ (by omega) h3 (by simp; omega)
theorem ev_named (t : List Cel) (ht : t.length ≤ 64) (vars : List ByteArray) (hv : vars.length ≤ 8) (hn : vars.Nodup) : Ev (fun k => aumbryref06_named.f k t vars) (plS vars t) := by
  unfold aumbryref06_named.f
  exact ev_named_loop t ht vars hv hn t 0 [] (by omega) rfl (by simp)
theorem ev_rplain {id : Int} {l r : List Cel} (h : ruleS id l r = 0) : Ev (fun k => aumbryref06_Plain.f k id l r) (id, plS (varsS [] l) l, plS (varsS [] l) r) := by
  obtain ⟨h1, h2, h3, h4, _⟩ := ruleS_ok h
  have hv := varsS_len l []
  simp only [List.length_nil] at hv
  have hn := varsS_nodup l [] List.nodup_nil
  unfold aumbryref06_Plain.f
  exact Ev.bind (ev_rvars (by omega)) (Ev.bind (ev_named l (by omega) _ (by omega) hn) (Ev.bind (ev_named r (by omega) _ (by omega) hn) (Ev.now _)))
theorem plS_len (vars : List ByteArray) (t : List Cel) : (plS vars t).length = t.length := List.length_map _
end Go.Proofs.YtpnamhplhdaphaaDoor.P

-- ==== PureRulePrints
/- Any rule is written, and told in its plain form, or refused, as the document says: for every rule, the law answers true. -/
namespace Go.Proofs.YtpnamhplhdaphaaDoor.Pure
open Go.RowKit Go.Proofs.YtpnamhplhdaphaaDoor.P Go.Proofs.YtpnamhplhdaphaaDoorW.PrintWords
set_option linter.unusedVariables false
theorem RulePrints : aumbrylaw06_RulePrints.Pure := by
  intro x hx
  obtain ⟨h1, h2⟩ := sz_rule hx
  refine Ev.rounds ?_
  unfold aumbrylaw06_RulePrints.f
  refine Ev.bind ev_wakes6 (evIfp rfl ?_)
  refine Ev.bind (evIs (rcopy_at x.f0 x.f1 x.f2 h1 h2)) ?_
  by_cases hr : ruleS x.f0 x.f1 x.f2 = 0
  · obtain ⟨c1, c2, p, q, _⟩ := ruleS_ok hr
    obtain ⟨y1, l1, b1, d1, e1, t1, o1, z1⟩ := tx_term c1
    obtain ⟨y2, l2, b2, d2, e2, t2, o2, z2⟩ := tx_term c2
    have hp := ev_rprint t1 o1 t2 o2 (id := x.f0) (by rw [← e1, ← e2]; exact hr)
    rw [← e1, ← e2] at hp
    have ht := ev_rtext t1 o1 t2 o2 (id := x.f0) z1 z2
    rw [← e1, ← e2] at ht
    refine Ev.bind hp (Ev.bind (evIs (rcopy_at x.f0 x.f1 x.f2 h1 h2)) (Ev.bind (ev_plain hr) (Ev.bind (ev_rcheck x.f0 x.f1 x.f2) ?_)))
    refine evIfp hr.symm ?_
    refine Ev.step (fun k => (show aumbrylaw06_RulePrints.j0 (k + 1) _ _ _ _ _ _ _ _ _ = _ from by rw [aumbrylaw06_RulePrints.j0])) ?_
    refine evIfn (show ¬ ((0 : Int) != 0) = true from by decide) (evIfp rfl (Ev.bind ht (evIfp rfl (Ev.bind (ev_rplain hr) ?_))))
    have g1 : (plS (varsS [] x.f1) x.f1).length ≤ 9223372036854775806 := by rw [plS_len]; omega
    have g2 : (plS (varsS [] x.f1) x.f2).length ≤ 9223372036854775806 := by rw [plS_len]; omega
    exact Ev.bind (ev_rsame x.f0 _ _ g1 g2) (Ev.now _)
  · refine Ev.bind (ev_rprint_no hr) (Ev.bind (evIs (rcopy_at x.f0 x.f1 x.f2 h1 h2)) (Ev.bind (ev_plain_no hr) (Ev.bind (ev_rcheck x.f0 x.f1 x.f2) ?_)))
    refine evIfp rfl ?_
    have hf : (ruleS x.f0 x.f1 x.f2 != ruleS x.f0 x.f1 x.f2) = false := by simp
    simp only [hf]
    refine Ev.step (fun k => (show aumbrylaw06_RulePrints.j0 (k + 1) _ _ _ _ _ _ _ _ _ = _ from by rw [aumbrylaw06_RulePrints.j0])) ?_
    refine evIfn (by decide) (evIfn hr (evIfp ((toList_nil _).2 rfl) ?_))
    exact Ev.bind (ev_rsame 0 [] [] (by simp) (by simp)) (Ev.now _)
end Go.Proofs.YtpnamhplhdaphaaDoor.Pure

-- ==== RowRulePrints
namespace Go.Proofs.YtpnamhplhdaphaaDoor.rulePrints
open Go.ChangeShapes Go.WideShapes Go.ChangeAt Go.RowKit Go.Proofs.YtpnamhplhdaphaaDoorW.PrintWords Go.Proofs.YtpnamhplhdaphaaDoor.P Go.Proofs.YtpnamhplhdaphaaDoor.Open
open Go.ChangeMaps (open_string shut_string)
set_option linter.unusedVariables false
theorem own : ownKnob Tryd.prog.godebug = none := by kernel_rfl
theorem laidOut : laidOutB Tryd.prog = true := by kernel_rfl
set_option maxRecDepth 100000 in
theorem core {H : Type} {enc : TypeId × Value → H} (W : World) (base : Nat) (args : Array Value) (ds gs : List (DataW H)) (before : List MemPlace)
    (hval : ∀ (j : Nat) t v, Tryd.f5.params[j]? = some t → args[j]? = some v → Value.okWide Tryd.prog W .any base t v)
    (hW : DataW.Whole enc Tryd.prog Tryd.f5.params.toList Rows.rulePrintsSpec.vars false W args.toList ds gs before)
    (hsz : (DataW.weightsEach Tryd.prog (Tryd.f5.params.toList ++ Rows.rulePrintsSpec.plain.varTypes Tryd.prog) (ds ++ gs)).all (· ≤ reachBytes) = true)
    :
    Calls Tryd.prog 5 args W fun e W' => ∃ v, e = .returned v ∧ Rows.rulePrintsSpec.post enc Tryd.prog Tryd.f5 false true false false W args v W' := by
  have hW' := hW
  obtain ⟨p, q, hA, hV, rfl, hfz, hnd⟩ := hW
  rw [Tryd.params5] at hA hval hsz
  obtain ⟨v0, vs0, d0, ds0, p0, q0, hargs, rfl, rfl, h0, r0⟩ := trodAll_cons hA
  obtain ⟨rfl, rfl, rfl⟩ := trodAll_nil r0
  obtain rfl : args = #[v0] := by cases args; simp_all
  obtain ⟨rfl, rfl⟩ := trodVars_none hV
  have k0 := h0
  obtain ⟨n0, hf0⟩ := h0
  obtain ⟨x0, hK0, hS0, hB0⟩ := op25.go hf0 (fun m hm => by have := List.all_eq_true.1 hsz m (DataW.weights_mem_each (j := 0) rfl rfl m hm); simpa using this)
  have lt0 : ∀ z ∈ p0, z.block < W.heap.size := by obtain ⟨m, hm⟩ := k0; exact DataW.trod_lt m _ _ _ hm
  obtain ⟨cs0, rfl, hz0⟩ := okWide_struct Tryd.underlying25 (hval 0 25 v0 rfl rfl)
  obtain ⟨A0_1, c0_1, A0_2, c0_2, hcs0, hc0_1, hr0_1, hc0_2, hr0_2⟩ := k25_open hK0
  have hcs0' : cs0.toList = _ := hcs0
  obtain rfl : cs0 = #[.int .i64 ((x0).f0), .slice A0_1 (x0).f1.length c0_1, .slice A0_2 (x0).f2.length c0_2] := by apply Array.toList_inj.1; exact hcs0'
  obtain ⟨k, h⟩ := Pure.RulePrints x0 hS0
  refine (aumbrylaw06_RulePrints.calls k (x0).f0 _ _ (x0).f1 _ _ (x0).f2 true W hr0_1 hc0_1 hr0_2 hc0_2 h).mono ?_
  rintro e W' ⟨rfl, hd⟩
  have bel : Below W.heap.size W W' := hd
  exact ⟨_, rfl, _, _, _, [], _, [], hW', trodAll_mk1 (shut_bool Tryd.underlying4 _), (trodAll_cons_mk (Below.trod laidOut (by kernel_rfl) (of_decide_eq_true (by kernel_rfl)) k0 bel lt0) trodAll_mk0), rfl, bel.frame _, fun h => by cases h⟩
set_option maxRecDepth 100000 in
theorem laid_met (os : Os) : laidMet Tryd.prog Rows.rulePrintsRow.laid ((World.laidAll Tryd.prog os Rows.rulePrintsRow.laid).forCall (fun _ _ => 0) ⟨#[], #[.agg #[.int .i64 0, .slice none 0 0, .slice none 0 0]], []⟩).memory :=
  laidMet_laidAll _ (by kernel_rfl) (by kernel_rfl)
set_option maxRecDepth 100000 in
theorem reads (os : Os) {H : Type} (enc : TypeId × Value → H) : (DataW.whole enc Tryd.prog ((World.laidAll Tryd.prog os Rows.rulePrintsRow.laid).forCall (fun _ _ => 0) ⟨#[], #[.agg #[.int .i64 0, .slice none 0 0, .slice none 0 0]], []⟩).memory Tryd.f5.params.toList Rows.rulePrintsSpec.vars false (#[.agg #[.int .i64 0, .slice none 0 0, .slice none 0 0]] : Array Value).toList 8).isSome = true := by kernel_rfl
set_option maxRecDepth 100000 in
theorem lifted (os : Os) (started : os.Started) (H : Type) (enc : TypeId × Value → H) (F : Stop.Interp) :
    ReturnsInHanded {} Tryd.checked os 5 .any ((OpenSpec.ofChange Rows.rulePrintsSpec).preRow enc Tryd.prog Tryd.f5 Rows.rulePrintsRow.domain false Rows.rulePrintsRow.laid) (((OpenSpec.ofChange Rows.rulePrintsSpec).at F).post enc Tryd.prog Tryd.f5 false true false false) := by
  obtain ⟨x, hx⟩ := Option.isSome_iff_exists.1 (reads os enc)
  refine returnsInHanded_of_row (C := Tryd.checked) (s := OpenSpec.ofChange Rows.rulePrintsSpec) own started (by kernel_rfl) Tryd.func5
    (witness_row_at (enc := enc) (C := Tryd.checked) false (World.laidAll Tryd.prog os Rows.rulePrintsRow.laid) #[.agg #[.int .i64 0, .slice none 0 0, .slice none 0 0]] rfl (by kernel_rfl) (by kernel_rfl) (by kernel_rfl)
      (OpenSpec.preRow_of_cond 8 hx rfl (fun k hk => by cases hk) (by kernel_rfl) (laid_met os))) ?_
  intro W base args ds gs before hval0 hW _ _ hsz0 _ _ _
  exact core W base args ds gs before hval0 hW hsz0
theorem said : Rows.RulePrintsSaid :=
  OpenClaim.holds_of_cond 5 Tryd.f5 rfl rfl rfl rfl rfl rfl rfl ⟨rfl, rfl, rfl, rfl, rfl⟩ rfl rfl rfl rfl rfl (by kernel_rfl) Tryd.func5 (by kernel_rfl)
    (of_decide_eq_true (by kernel_rfl)) (by unfold Func.isWrapper; first | (rw [if_pos (by decide +kernel)]; kernel_rfl) | (rw [if_neg (by decide +kernel)]; exact ⟨rfl, rfl⟩))
    (fun os started H enc _ F => by rw [OpenClaim.pre_eq_preRow]; exact lifted os started H enc F)
theorem plain (f : FuncId) (fn : Func) (hf : Tryd.pinned.checked.prog.funcNamed "aumbry/aumbrylaw06.RulePrints" = some f) (hfn : Tryd.pinned.checked.prog.funcs[f]? = some fn) :
    true = Tryd.pinned.checked.prog.looks [] ∧ ∀ (j : Nat) t, fn.params[j]? = some t → Tryd.pinned.checked.prog.wantsStandIn t = false := by
  obtain rfl : f = 5 := Option.some.inj ((show Tryd.prog.funcNamed "aumbry/aumbrylaw06.RulePrints" = some 5 by kernel_rfl).symm.trans hf) |>.symm
  obtain rfl : fn = Tryd.f5 := (Option.some.inj (Tryd.func5.symm.trans hfn)).symm
  refine ⟨by kernel_rfl, fun j t ht => ?_⟩
  rw [Tryd.params5] at ht
  have hm := Array.mem_of_getElem? ht
  obtain rfl : t = 25 := by simpa using hm
  exact (show Tryd.prog.wantsStandIn 25 = false by kernel_rfl)
theorem card : Rows.RulePrintsCardSaid :=
  Claim7.holds_tied_plain_at .later [] _ _ _ _ said (fun _ h => by cases h) (by kernel_rfl) (fun _ h => by cases h) rulePrints_row_tie rfl ⟨rfl, rfl⟩ (by kernel_rfl) rfl plain (by kernel_rfl)
end Go.Proofs.YtpnamhplhdaphaaDoor.rulePrints
namespace Go.Proofs.YtpnamhplhdaphaaDoor
/-- The card, under a short name, for the claim. -/
theorem rulePrints_holds : Rows.RulePrintsCardSaid := rulePrints.card
#print axioms rulePrints_holds
end Go.Proofs.YtpnamhplhdaphaaDoor
