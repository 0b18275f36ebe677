/- RuleReads: the law answers true at every input that the given row speaks of. Conditions: those of the given row, none besides. (Part 6 of 6; written by programs of this session, which drive the kit's print, and by hand.) -/
import Derived.KernelRfl
import Derived.Test.YtpnamhplhdaphaaDoorCards
import Derived.Test.YtpnamhplhdaphaaDoorTie
import Derived.Deep.DeepHandedRow
import Derived.Lay
import Derived.SevenTiedAt
import Derived.Test.YtpnamhplhdaphaaDoorRows
import Derived.WalkKit
import Derived.ProofKit
import Derived.OpenShut
import Derived.ShutString
import Derived.ChangeOld
import Derived.Below
import Derived.Carry
import Derived.SizedLaws
import Derived.Test.YtpnamhplhdaphaaDoorZRuleReads0
import Derived.Test.YtpnamhplhdaphaaDoorZRuleReads1
import Derived.Test.YtpnamhplhdaphaaDoorZRuleReads2
import Derived.Test.YtpnamhplhdaphaaDoorZRuleReads3
import Derived.Test.YtpnamhplhdaphaaDoorZRuleReads4
-- ==== PF12
namespace Go.Proofs.YtpnamhplhdaphaaDoor.P
open Go.RowKit Go.Proofs.YtpnamhplhdaphaaDoorW.PrintWords Go.Proofs.YtpnamhplhdaphaaDoorW.PrintLast Go.Proofs.YtpnamhplhdaphaaDoorW.PrintMore
attribute [local go_sem] max2_int min2_int max_two min_two max_three min_three max_four min_four   -- for this text's walks alone
set_option linter.unusedVariables false
set_option linter.unusedSimpArgs false

/-! ### aumbryref06_Copy: function 12 -/
def aumbryref06_Copy.f (a0_0 : Int) (l0_1 : List (S33)) (l0_2 : List (S33)) : Option (Int × (List (S33)) × (List (S33))) := (aumbryref04_Copy.f l0_1).bind fun t103 => ((aumbryref04_Copy.f l0_2).bind fun t106 => (some (a0_0, t103, t106)))
def aumbryref06_Copy.T1 : Bool × List (List Nat × List Nat) := (true, [([], []), ([0], [0]), ([], []), ([2], [2]), ([3], [3]), ([], []), ([5], [5]), ([6, 4], [6]), ([1, 4, 7], [1, 4, 7]), ([8, 7, 0, 1, 2, 3, 4, 5, 6, 7, 8], [8])])
end Go.Proofs.YtpnamhplhdaphaaDoor.P

-- ==== PL6
/- Plain laws of chapter 6: whether a rule may be: the program's answer and the document's come to one function. -/
namespace Go.Proofs.YtpnamhplhdaphaaDoor.P
open Go.RowKit Go.Proofs.YtpnamhplhdaphaaDoorW.PrintWords
set_option linter.unusedVariables false
set_option linter.unusedSimpArgs false
abbrev zc : Cel := z33
def ruleS (id : Int) (l r : List Cel) : Int := if id < 0 then 1 else if id > 65535 then 1 else if checkS l = 0 then (if checkS r = 0 then (if l.length > 8 then 6 else if r.length > 8 then 6 else
  if kindS (l.getD 0 zc).f0 = 2 then 20 else if (varsS [] r).all (fun v => decide (v ∈ varsS [] l)) = true then 0 else 7) else checkS r) else checkS l
theorem ev_strF (vl : List ByteArray) (hl : vl.length ≤ 9223372036854775806) : ∀ vr : List ByteArray, Ev (fun k => strF k vl vr) (!(vr.all (fun v => decide (v ∈ vl))))
  | [] => Ev.now _
  | v :: u => by
    have e : (fun k => strF k vl (v :: u)) = (fun k => (slices_Contains_string_string.f k vl v).bind fun b => if b = true then strF k vl u else some true) := rfl
    rw [e]
    refine Ev.bind (ev_contains vl v hl) ?_
    by_cases hv : v ∈ vl
    · refine evIfp (decide_eq_true hv) ?_
      have : (v :: u).all (fun v => decide (v ∈ vl)) = u.all (fun v => decide (v ∈ vl)) := by simp [hv]
      rw [this]
      exact ev_strF vl hl u
    · refine evIfn (by simpa using hv) ?_
      have : (v :: u).all (fun v => decide (v ∈ vl)) = false := by simp [hv]
      rw [this]
      exact Ev.now _
theorem ok_pos {l : List Cel} (h : checkS l = 0) : 0 < l.length := by
  obtain ⟨c, u, _, _, rfl, _⟩ := tx_term h
  simp
theorem vars_len {l : List Cel} (h : checkS l = 0) : (varsS [] l).length ≤ 64 := by
  have := varsS_len l []
  have := checkS_len h
  simp only [List.length_nil] at *
  omega
theorem ev_rch (id : Int) (l r : List Cel) : Ev (fun k => rule_Check.f k id l r) (ruleS id l r) := by
  unfold rule_Check.f rchF ruleS
  by_cases h1 : id < 0
  · simp only [if_pos h1]; exact Ev.now _
  simp only [if_neg h1]
  by_cases h2 : id > 65535
  · simp only [if_pos h2]; exact Ev.now _
  simp only [if_neg h2]
  refine Ev.bind (ev_check l) ?_
  by_cases h3 : checkS l = 0
  case neg =>
    refine evIfn h3 ?_
    rw [if_neg h3]
    exact Ev.now _
  refine evIfp h3 ?_
  rw [if_pos h3]
  refine Ev.bind (ev_check r) ?_
  by_cases h4 : checkS r = 0
  case neg =>
    refine evIfn h4 ?_
    rw [if_neg h4]
    exact Ev.now _
  refine evIfp h4 ?_
  rw [if_pos h4]
  by_cases h5 : l.length > 8
  · simp only [if_pos h5]; exact Ev.now _
  simp only [if_neg h5]
  by_cases h6 : r.length > 8
  · simp only [if_pos h6]; exact Ev.now _
  simp only [if_neg h6]
  refine evIfp (ok_pos h3) ?_
  refine Ev.bind (ev_kind _) ?_
  have e : rd_T33 l 0 = l.getD 0 zc := rfl
  rw [e]
  by_cases h7 : kindS (l.getD 0 zc).f0 = 2
  · refine evIfp h7 ?_
    rw [if_pos h7]
    exact Ev.now _
  refine evIfn h7 ?_
  rw [if_neg h7]
  refine Ev.bind (ev_vars h3) (Ev.bind (ev_vars h4) ?_)
  refine Ev.bind (ev_strF (varsS [] l) (by have := vars_len h3; omega) (varsS [] r)) ?_
  by_cases h8 : (varsS [] r).all (fun v => decide (v ∈ varsS [] l)) = true
  · rw [if_pos h8, h8]
    exact Ev.now _
  · have h9 : (varsS [] r).all (fun v => decide (v ∈ varsS [] l)) = false := by simpa using h8
    rw [if_neg h8, h9]
    exact Ev.now _
/-! ### the document's -/
theorem one_var {l : List Cel} (h : checkS l = 0) (hk : kindS (l.getD 0 zc).f0 = 2) : l.length = 1 := by
  obtain ⟨c, u, b, d, rfl, h1, h2, _⟩ := tx_term h
  have hc := h2 c (List.mem_cons_self ..)
  have ha : ar c = 0 := by unfold ar; rw [hc.var hk]; rfl
  rw [ha] at h1
  have := tx_seg h1
  rw [Nat.sub_zero, segN_zero] at this
  injection this with this
  rw [this]
  rfl
theorem ev_rcheck_loop (vl vr : List ByteArray) (hl : vl.length ≤ 9223372036854775806) (hr : vr.length ≤ 9223372036854775806) : ∀ (u : List ByteArray) (i : Nat), i ≤ vr.length → vr.drop i = u →
    Ev (fun k => aumbryref06_Check.l0 k vl vr (vr.length : Int) (i : Int)) (if u.all (fun v => decide (v ∈ vl)) = true then 0 else 7)
  | [], i, hi, hu => by
    have h1 := drop_nil_len hi hu
    refine Ev.step (fun k => (show aumbryref06_Check.l0 (k + 1) vl vr (vr.length : Int) (i : Int) = _ from by rw [aumbryref06_Check.l0])) ?_
    exact evIfn (by omega) (Ev.now _)
  | v :: u, i, hi, hu => by
    obtain ⟨h1, _, h3⟩ := drop_cons hu
    refine Ev.step (fun k => (show aumbryref06_Check.l0 (k + 1) vl vr (vr.length : Int) (i : Int) = _ from by rw [aumbryref06_Check.l0])) ?_
    refine evIfp (by omega) (evIfp (by omega) (evIfp (by omega) ?_))
    rw [rd_txt hu, up_cast i (by omega)]
    refine Ev.bind (ev_has vl v hl) ?_
    by_cases hv : v ∈ vl
    · refine evIfp (decide_eq_true hv) ?_
      have : (v :: u).all (fun v => decide (v ∈ vl)) = u.all (fun v => decide (v ∈ vl)) := by simp [hv]
      rw [this]
      exact ev_rcheck_loop vl vr hl hr u (i + 1) (by omega) h3
    · refine evIfn (by simpa using hv) ?_
      have : (v :: u).all (fun v => decide (v ∈ vl)) = false := by simp [hv]
      rw [this]
      exact Ev.now _
theorem ev_rcheck (id : Int) (l r : List Cel) : Ev (fun k => aumbryref06_Check.f k id l r) (ruleS id l r) := by
  have hj0t : ∀ q : Int, q = 1 → Ev (fun k => aumbryref06_Check.j0 k true id l r) q := fun q hq => by
    subst hq
    refine Ev.step (fun k => (show aumbryref06_Check.j0 (k + 1) true id l r = _ from by rw [aumbryref06_Check.j0])) ?_
    exact evIfp rfl (Ev.now _)
  have hj1t : ∀ q : Int, q = 6 → Ev (fun k => aumbryref06_Check.j1 k true id l r) q := fun q hq => by
    subst hq
    refine Ev.step (fun k => (show aumbryref06_Check.j1 (k + 1) true id l r = _ from by rw [aumbryref06_Check.j1])) ?_
    exact evIfp rfl (Ev.now _)
  unfold aumbryref06_Check.f ruleS
  by_cases h1 : id < 0
  · rw [if_pos h1]
    exact evIfp h1 (hj0t _ rfl)
  rw [if_neg h1]
  refine evIfn h1 ?_
  by_cases h2 : id > 65535
  · rw [if_pos h2, decide_eq_true h2]
    exact hj0t _ rfl
  rw [if_neg h2, decide_eq_false h2]
  refine Ev.step (fun k => (show aumbryref06_Check.j0 (k + 1) false id l r = _ from by rw [aumbryref06_Check.j0])) ?_
  refine evIfn (by simp) ?_
  refine Ev.bind (ev_refCheck l) ?_
  by_cases h3 : checkS l = 0
  case neg =>
    refine evIfn h3 ?_
    rw [if_neg h3]
    exact Ev.now _
  refine evIfp h3 ?_
  rw [if_pos h3]
  refine Ev.bind (ev_refCheck r) ?_
  by_cases h4 : checkS r = 0
  case neg =>
    refine evIfn h4 ?_
    rw [if_neg h4]
    exact Ev.now _
  refine evIfp h4 ?_
  rw [if_pos h4]
  have hl64 := checkS_len h3
  have hr64 := checkS_len h4
  by_cases h5 : l.length > 8
  · rw [if_pos h5]
    exact evIfp (by omega) (hj1t _ rfl)
  rw [if_neg h5]
  refine evIfn (by omega) ?_
  by_cases h6 : r.length > 8
  · rw [if_pos h6, decide_eq_true (show (r.length : Int) > 8 by omega)]
    exact hj1t _ rfl
  rw [if_neg h6, decide_eq_false (show ¬ (r.length : Int) > 8 by omega)]
  refine Ev.step (fun k => (show aumbryref06_Check.j1 (k + 1) false id l r = _ from by rw [aumbryref06_Check.j1])) ?_
  refine evIfn (by simp) ?_
  have hvar : Ev (fun k => aumbryref05_Var.f k l) (decide (kindS (l.getD 0 zc).f0 = 2)) := by
    unfold aumbryref05_Var.f
    by_cases h7 : (l.length : Int) = 1
    · refine evIfp h7 (evIfp (by omega) ?_)
      refine Ev.bind (ev_refKind _) ?_
      have e : rd_T33 l 0 = l.getD 0 zc := rfl
      rw [e]
      exact Ev.now _
    · refine evIfn h7 ?_
      have : ¬ kindS (l.getD 0 zc).f0 = 2 := fun hk => h7 (by have := one_var h3 hk; omega)
      rw [decide_eq_false this]
      exact Ev.now _
  refine Ev.bind hvar ?_
  by_cases h7 : kindS (l.getD 0 zc).f0 = 2
  · rw [if_pos h7]
    exact evIfp (decide_eq_true h7) (Ev.now _)
  rw [if_neg h7]
  refine evIfn (by simpa using h7) ?_
  refine Ev.bind (ev_rvars (by omega)) (Ev.bind (ev_rvars (by omega)) ?_)
  exact ev_rcheck_loop _ _ (by have := vars_len h3; omega) (by have := vars_len h4; omega) _ 0 (by omega) rfl
theorem ev_rsame (id : Int) (l r : List Cel) (hl : l.length ≤ 9223372036854775806) (hr : r.length ≤ 9223372036854775806) : Ev (fun k => aumbryref06_Same.f k id l r id l r) true := by
  unfold aumbryref06_Same.f
  refine evIfp rfl ?_
  refine Ev.bind (ev_refSame4 l l (.inl hl)) (evIfp (decide_eq_true rfl) ?_)
  refine Ev.bind (ev_refSame4 r r (.inl hr)) ?_
  rw [decide_eq_true (p := r = r) rfl]
  exact Ev.now _
end Go.Proofs.YtpnamhplhdaphaaDoor.P

-- ==== PL6w
/- Plain laws of chapter 6: what the statements ask ahead (wakes); sizes of what came in. -/
namespace Go.Proofs.YtpnamhplhdaphaaDoor.P
open Go.RowKit Go.Proofs.YtpnamhplhdaphaaDoorW.PrintWords
set_option linter.unusedVariables false
set_option maxRecDepth 100000 in
theorem ev_wakes6 : Ev (fun k => aumbrylaw06_wakes.f k) true := Ev.of (g := fun k => aumbrylaw06_wakes.f k) aumbrylaw06_wakes.mono (k := 40) (by kernel_rfl)
end Go.Proofs.YtpnamhplhdaphaaDoor.P

-- ==== PL4r
/- Plain laws of chapter 4: reading: what the program's reader and the document's come to, for every text; a term's text is read as the term. -/
namespace Go.Proofs.YtpnamhplhdaphaaDoor.P
open Go.RowKit Go.Proofs.YtpnamhplhdaphaaDoorW.PrintWords
set_option linter.unusedVariables false
set_option linter.unusedSimpArgs false
abbrev RdR := Sum (Int × Int) (Int × List Cel)
theorem nxL_cons {s : ByteArray} {j : Nat} {x : UInt8} {r : List UInt8} (h : (bl s).drop j = x :: r) : nxL s j = (x.toNat : Int) := by
  unfold nxL
  rw [h]
theorem nxL_pos {s : ByteArray} {j : Nat} {c : Int} (h : nxL s j = c) (hc : c ≠ 0) : ∃ x r, (bl s).drop j = x :: r ∧ (x.toNat : Int) = c := by
  unfold nxL at h
  cases hd : (bl s).drop j with
  | nil => rw [hd] at h; exact absurd h.symm hc
  | cons x r => rw [hd] at h; exact ⟨x, r, rfl, h⟩
theorem u8_of {x : UInt8} {n : Nat} (h : (x.toNat : Int) = (n : Int)) (hn : n < 256) : x = UInt8.ofNat n := by
  apply UInt8.toNat_inj.1
  rw [UInt8.toNat_ofNat']
  omega
theorem wdT_empty (s : ByteArray) (i : Nat) : (wdT s i).toList = [] ↔ wdL s i = [] := by
  rw [toList_nil, ← bl_len, wdT_bl]
  exact List.length_eq_zero_iff
theorem drop_word (s : ByteArray) (i : Nat) : (bl s).drop i = wdL s i ++ (bl s).drop (i + (wdL s i).length) := by
  rw [wd_behind]
  exact (List.takeWhile_append_dropWhile).symm
/-! ### the program's steps -/
theorem ev_rdTerm_at {s : ByteArray} {l : List Cel} {i : Nat} {r : RdR} (hs : s.size ≤ 100000) (hi : i ≤ s.size)
    (h : Ev (fun k => if (wdT s i).toList = [] then some (.inl ((i : Int), (3 : Int))) else if kindS (wdT s i) = 0 then some (.inl ((i : Int), (4 : Int))) else if (l.length : Int) = 64 then some (.inl ((i : Int), (6 : Int)))
      else if nxL s (i + (wdL s i).length) = 40 then (if kindS (wdT s i) = 2 then some (.inl (((i + (wdL s i).length : Nat) : Int), (5 : Int))) else rdArgs k s ((i + (wdL s i).length : Nat) : Int) (l ++ [⟨wdT s i, 0⟩]) l.length 1) else some (.inr (((i + (wdL s i).length : Nat) : Int), l ++ [⟨wdT s i, 0⟩]))) r) :
    Ev (fun k => rdTerm k s (i : Int) l) r := by
  refine Ev.step (fun k => (show rdTerm (k + 1) s (i : Int) l = _ from by rw [rdTerm])) ?_
  refine Ev.bind (ev_word s .nilIface hs i hi) ?_
  refine Ev.bind (ev_kind (wdT s i)) ?_
  simp only [nxS_eq s (i + (wdL s i).length) (wdL_bound hi)]
  exact h
theorem ev_rdArgs_inl {s : ByteArray} {l : List Cel} {i c : Nat} {n : Int} {x : Int × Int} (hi : i < 100000) (h : Ev (fun k => rdTerm k s ((i + 1 : Nat) : Int) l) (.inl x)) : Ev (fun k => rdArgs k s (i : Int) l c n) (.inl x) := by
  refine Ev.step (fun k => (show rdArgs (k + 1) s (i : Int) l c n = _ from by rw [rdArgs])) ?_
  rw [up_cast i (by omega)]
  exact Ev.bind h (Ev.now _)
theorem ev_rdArgs_inr {s : ByteArray} {l m : List Cel} {i c j : Nat} {n : Int} {r : RdR} (hi : i < 100000) (hj : j ≤ s.size) (hs : s.size ≤ 100000) (h : Ev (fun k => rdTerm k s ((i + 1 : Nat) : Int) l) (.inr ((j : Int), m))) (hc : c < m.length)
    (h2 : Ev (fun k => if nxL s j = 41 then some (.inr (((j + 1 : Nat) : Int), m.set c ⟨(rd_T33 m (c : Int)).f0, n⟩))
        else if nxL s j = 44 then (if n = 4 then some (.inl ((j : Int), (5 : Int))) else rdArgs k s (j : Int) (m.set c ⟨(rd_T33 m (c : Int)).f0, n⟩) c (wrap64 (n + 1))) else some (.inl ((j : Int), (3 : Int)))) r) :
    Ev (fun k => rdArgs k s (i : Int) l c n) r := by
  refine Ev.step (fun k => (show rdArgs (k + 1) s (i : Int) l c n = _ from by rw [rdArgs])) ?_
  rw [up_cast i (by omega)]
  refine Ev.bind h ?_
  refine evIfp hc ?_
  simp only [nxS_eq s j hj, up_cast j (by omega)]
  exact h2
/-! ### the document's steps -/
theorem ev_read_scan {s : ByteArray} {l : List Cel} {i : Nat} {r : List Cel × Int × Int} (hs : s.size ≤ 100000) : ∀ (q : List UInt8) (j : Nat), j ≤ s.size → (bl s).drop j = q →
    Ev (fun k => aumbryref04_Read.j1 k s (i : Int) l ((j + (wdL s j).length : Nat) : Int)) r → Ev (fun k => aumbryref04_Read.l0 k s (i : Int) l (j : Int)) r
  | [], j, hj, hd, h => by
    have := bl_drop_nil hj hd
    rw [wdL_end hd] at h
    refine Ev.step (fun k => (show aumbryref04_Read.l0 (k + 1) s (i : Int) l (j : Int) = _ from by rw [aumbryref04_Read.l0])) ?_
    exact evIfn (by omega) h
  | x :: q, j, hj, hd, h => by
    obtain ⟨h1, h2, h3⟩ := bt_drop hd
    refine Ev.step (fun k => (show aumbryref04_Read.l0 (k + 1) s (i : Int) l (j : Int) = _ from by rw [aumbryref04_Read.l0])) ?_
    refine evIfp (by omega) (evIfp (by omega) ?_)
    refine Ev.bind (evIs (sign_eq _)) ?_
    rw [h2, up_cast j (by omega)]
    by_cases hx : signU x = true
    · refine evIfp hx ?_
      rw [wdL_cons hd hx] at h
      refine ev_read_scan hs q (j + 1) (by omega) h3 ?_
      simp only [List.length_cons] at h
      rw [show j + 1 + (wdL s (j + 1)).length = j + ((wdL s (j + 1)).length + 1) by omega]
      exact h
    · refine evIfn hx ?_
      rw [wdL_stop hd hx] at h
      exact h
theorem ev_Read_at {s : ByteArray} {l : List Cel} {i : Nat} {r : List Cel × Int × Int} (hs : s.size ≤ 100000) (hi : i ≤ s.size) (hl : l.length ≤ 64)
    (h : Ev (fun k => if (wdT s i).toList = [] then some (([] : List Cel), (i : Int), (3 : Int)) else if kindS (wdT s i) = 0 then some (([] : List Cel), (i : Int), (4 : Int)) else if (l.length : Int) = 64 then some (([] : List Cel), (i : Int), (6 : Int))
      else if nxL s (i + (wdL s i).length) = 40 then (if kindS (wdT s i) = 2 then some (([] : List Cel), ((i + (wdL s i).length : Nat) : Int), (5 : Int)) else aumbryref04_Read.l1 k s (l ++ [⟨wdT s i, 0⟩]) ((i + (wdL s i).length : Nat) : Int) (l.length : Int) 1) else some (l ++ [⟨wdT s i, 0⟩], ((i + (wdL s i).length : Nat) : Int), (0 : Int))) r) :
    Ev (fun k => aumbryref04_Read.f k s (i : Int) l) r := by
  have hb := wdL_bound (s := s) hi
  refine Ev.step (fun k => (show aumbryref04_Read.f (k + 1) s (i : Int) l = _ from by rw [aumbryref04_Read.f])) ?_
  refine ev_read_scan hs _ i hi rfl ?_
  refine Ev.step (fun k => (show aumbryref04_Read.j1 (k + 1) s (i : Int) l ((i + (wdL s i).length : Nat) : Int) = _ from by rw [aumbryref04_Read.j1])) ?_
  refine evIfp (by omega) (evIfp (by omega) (evIfp (by omega) ?_))
  have hw : s.extract ((i : Int)).toNat (((i + (wdL s i).length : Nat) : Int)).toNat = wdT s i := rfl
  simp only [hw]
  by_cases h1 : (wdT s i).toList = []
  · simp only [if_pos h1] at h ⊢
    exact h
  · simp only [if_neg h1] at h ⊢
    refine Ev.bind (ev_refKind _) ?_
    by_cases h2 : kindS (wdT s i) = 0
    · simp only [if_pos h2] at h ⊢
      exact h
    · simp only [if_neg h2] at h ⊢
      by_cases h3 : (l.length : Int) = 64
      · simp only [if_pos h3] at h ⊢
        exact h
      · simp only [if_neg h3] at h ⊢
        refine evIfp (by omega) ?_
        simp only [Option.bind_some]
        have hj2 : ∀ fl : Bool, Ev (fun k => if fl = true then some (l ++ [(⟨wdT s i, 0⟩ : Cel)], ((i + (wdL s i).length : Nat) : Int), (0 : Int)) else (if kindS (wdT s i) = 2 then some (([] : List Cel), ((i + (wdL s i).length : Nat) : Int), (5 : Int)) else aumbryref04_Read.l1 k s (l ++ [⟨wdT s i, 0⟩]) ((i + (wdL s i).length : Nat) : Int) (l.length : Int) 1)) r →
            Ev (fun k => aumbryref04_Read.j2 k s (l ++ [⟨wdT s i, 0⟩]) ((i + (wdL s i).length : Nat) : Int) (kindS (wdT s i)) (l.length : Int) fl) r := by
          intro fl hf
          refine Ev.step (fun k => (show aumbryref04_Read.j2 (k + 1) s (l ++ [⟨wdT s i, 0⟩]) ((i + (wdL s i).length : Nat) : Int) (kindS (wdT s i)) (l.length : Int) fl = _ from by rw [aumbryref04_Read.j2])) ?_
          exact hf
        cases hd : (bl s).drop (i + (wdL s i).length) with
        | nil =>
          have := bl_drop_nil hb hd
          have hn : nxL s (i + (wdL s i).length) = 0 := by unfold nxL; rw [hd]
          rw [hn] at h
          refine evIfp (by omega) (hj2 true ?_)
          simp only [if_true]
          simpa using h
        | cons x q =>
          obtain ⟨g1, g2, g3⟩ := bt_drop hd
          have hn := nxL_cons hd
          rw [hn] at h
          refine evIfn (by omega) (evIfp (by omega) (evIfp (by omega) ?_))
          rw [g2]
          refine hj2 _ ?_
          by_cases hx : (x.toNat : Int) = 40
          · have e : ((x.toNat : Int) != 40) = false := by simp [hx]
            simp only [if_pos hx] at h
            rw [e]
            simpa using h
          · have e : ((x.toNat : Int) != 40) = true := by simpa using hx
            simp only [if_neg hx] at h
            rw [e]
            simpa using h
theorem ev_Readl1_inl {s : ByteArray} {l : List Cel} {i c : Nat} {n p e : Int} (hi : i < 100000) (he : e ≠ 0) (h : Ev (fun k => aumbryref04_Read.f k s ((i + 1 : Nat) : Int) l) ([], p, e)) : Ev (fun k => aumbryref04_Read.l1 k s l (i : Int) (c : Int) n) ([], p, e) := by
  refine Ev.step (fun k => (show aumbryref04_Read.l1 (k + 1) s l (i : Int) (c : Int) n = _ from by rw [aumbryref04_Read.l1])) ?_
  rw [up_cast i (by omega)]
  refine Ev.bind h ?_
  exact evIfn he (Ev.now _)
theorem ev_Readl1_inr {s : ByteArray} {l m : List Cel} {i c j : Nat} {n : Int} {r : List Cel × Int × Int} (hi : i < 100000) (hj : j ≤ s.size) (hs : s.size ≤ 100000) (h : Ev (fun k => aumbryref04_Read.f k s ((i + 1 : Nat) : Int) l) (m, (j : Int), 0)) (hc : c < m.length)
    (h2 : Ev (fun k => if nxL s j = 41 then some (m.set c ⟨(rd_T33 m (c : Int)).f0, n⟩, ((j + 1 : Nat) : Int), (0 : Int))
        else if nxL s j = 44 then (if n = 4 then some (([] : List Cel), (j : Int), (5 : Int)) else aumbryref04_Read.l1 k s (m.set c ⟨(rd_T33 m (c : Int)).f0, n⟩) (j : Int) (c : Int) (wrap64 (n + 1))) else some (([] : List Cel), (j : Int), (3 : Int))) r) :
    Ev (fun k => aumbryref04_Read.l1 k s l (i : Int) (c : Int) n) r := by
  refine Ev.step (fun k => (show aumbryref04_Read.l1 (k + 1) s l (i : Int) (c : Int) n = _ from by rw [aumbryref04_Read.l1])) ?_
  rw [up_cast i (by omega)]
  refine Ev.bind h ?_
  refine evIfp rfl (evIfp (by omega) (evIfp (by simp only; omega) ?_))
  simp only [Option.bind_some, Int.toNat_natCast]
  generalize m.set c ⟨(rd_T33 m (c : Int)).f0, n⟩ = m' at h2 ⊢
  have hj5 : ∀ fl : Bool, Ev (fun k => if fl = true then some (([] : List Cel), (j : Int), (3 : Int)) else (if n = 4 then some (([] : List Cel), (j : Int), (5 : Int)) else aumbryref04_Read.l1 k s m' (j : Int) (c : Int) (wrap64 (n + 1)))) r →
      Ev (fun k => aumbryref04_Read.j5 k s m' (j : Int) (c : Int) n fl) r := by
    intro fl hf
    refine Ev.step (fun k => (show aumbryref04_Read.j5 (k + 1) s m' (j : Int) (c : Int) n fl = _ from by rw [aumbryref04_Read.j5])) ?_
    exact hf
  have hj4 : ∀ fl : Bool, Ev (fun k => if fl = true then some (m', ((j + 1 : Nat) : Int), (0 : Int)) else (if (j : Int) = (s.size : Int) then (aumbryref04_Read.j5 k s m' (j : Int) (c : Int) n true) else (if 0 ≤ (j : Int) then (if (j : Int) < (s.size : Int) then (aumbryref04_Read.j5 k s m' (j : Int) (c : Int) n ((bt s (j : Int)) != 44)) else none) else none))) r →
      Ev (fun k => aumbryref04_Read.j4 k s m' (j : Int) (c : Int) n fl) r := by
    intro fl hf
    refine Ev.step (fun k => (show aumbryref04_Read.j4 (k + 1) s m' (j : Int) (c : Int) n fl = _ from by rw [aumbryref04_Read.j4])) ?_
    rw [up_cast j (by omega)]
    exact hf
  cases hd : (bl s).drop j with
  | nil =>
    have := bl_drop_nil hj hd
    have hn : nxL s j = 0 := by unfold nxL; rw [hd]
    rw [hn] at h2
    refine evIfn (by omega) (hj4 false ?_)
    refine evIfn (by simp) (evIfp (by omega) (hj5 true ?_))
    simpa using h2
  | cons x q =>
    obtain ⟨g1, g2, g3⟩ := bt_drop hd
    have hn := nxL_cons hd
    rw [hn] at h2
    refine evIfp (by omega) (evIfp (by omega) ?_)
    rw [g2]
    refine hj4 _ ?_
    by_cases hx : (x.toNat : Int) = 41
    · have e : ((x.toNat : Int) == 41) = true := by simp [hx]
      simp only [if_pos hx] at h2
      rw [e]
      simpa using h2
    · have e : ((x.toNat : Int) == 41) = false := by simpa using hx
      simp only [if_neg hx] at h2
      rw [e]
      refine evIfn (by simp) (evIfn (by omega) (evIfp (by omega) (evIfp (by omega) ?_)))
      rw [g2]
      refine hj5 _ ?_
      by_cases hy : (x.toNat : Int) = 44
      · have e : ((x.toNat : Int) != 44) = false := by simp [hy]
        simp only [if_pos hy] at h2
        rw [e]
        simpa using h2
      · have e : ((x.toNat : Int) != 44) = true := by simpa using hy
        simp only [if_neg hy] at h2
        rw [e]
        simpa using h2
/-! ### what reading comes to, both ways -/
def cA : Sum (Nat × Int) (Nat × List Cel) → RdR
  | .inl x => .inl ((x.1 : Int), x.2)
  | .inr y => .inr ((y.1 : Int), y.2)
def cR : Sum (Nat × Int) (Nat × List Cel) → List Cel × Int × Int
  | .inl x => ([], (x.1 : Int), x.2)
  | .inr y => (y.2, (y.1 : Int), 0)
def RdOk (s : ByteArray) (pos : Nat) (acc : List Cel) : Sum (Nat × Int) (Nat × List Cel) → Prop
  | .inl x => x.1 ≤ s.size ∧ x.2 ≠ 0
  | .inr y => ∃ c l b d, y.2 = acc ++ c :: l ∧ Tx 0 (ar c) l b d ∧ (∀ x ∈ c :: l, Okc x) ∧ y.2.length ≤ 64 ∧ y.1 ≤ s.size ∧ pos < y.1 ∧ (bl s).drop pos = txtL c b ++ (bl s).drop y.1
def ArOk (s : ByteArray) (pos : Nat) (acc : List Cel) (cI i : Nat) : Sum (Nat × Int) (Nat × List Cel) → Prop
  | .inl x => x.1 ≤ s.size ∧ x.2 ≠ 0
  | .inr y => ∃ (N : Nat) (l : List Cel) (b : List UInt8) (d : Nat), i < N ∧ N ≤ 4 ∧ y.2 = acc.set cI ⟨(acc.getD cI z33).f0, (N : Int)⟩ ++ l ∧ Tx i N l b d ∧ (∀ x ∈ l, Okc x) ∧ y.2.length ≤ 64 ∧ y.1 ≤ s.size ∧ pos < y.1 ∧ (bl s).drop pos = b ++ 41 :: (bl s).drop y.1
theorem rd_getD (m : List Cel) (c : Nat) : rd_T33 m (c : Int) = m.getD c z33 := rfl
theorem getD_app {acc q : List Cel} {c : Nat} (h : c < acc.length) (z : Cel) : (acc ++ q).getD c z = acc.getD c z := by
  rw [List.getD_eq_getElem?_getD, List.getD_eq_getElem?_getD, List.getElem?_append_left h]
theorem getD_set {m : List Cel} {c : Nat} {x : Cel} (h : c < m.length) (z : Cel) : (m.set c x).getD c z = x := by
  rw [List.getD_eq_getElem?_getD, List.getElem?_set_self h]
  rfl
theorem set_app {acc q : List Cel} {c : Nat} {x : Cel} (h : c < acc.length) : (acc ++ q).set c x = acc.set c x ++ q := List.set_append_left c x h
theorem rd_sound (s : ByteArray) (hs : s.size ≤ 100000) : ∀ D : Nat,
    (∀ (pos : Nat) (acc : List Cel), s.size - pos < D → pos ≤ s.size → acc.length ≤ 64 → ∃ r, Ev (fun k => rdTerm k s (pos : Int) acc) (cA r) ∧ Ev (fun k => aumbryref04_Read.f k s (pos : Int) acc) (cR r) ∧ RdOk s pos acc r) ∧
    (∀ (pos : Nat) (acc : List Cel) (cI i : Nat) (q : List UInt8), s.size - pos < D → (bl s).drop pos = sepB i :: q → cI < acc.length → acc.length ≤ 64 → i < 4 → ∃ r, Ev (fun k => rdArgs k s (pos : Int) acc cI ((i + 1 : Nat) : Int)) (cA r) ∧ Ev (fun k => aumbryref04_Read.l1 k s acc (pos : Int) (cI : Int) ((i + 1 : Nat) : Int)) (cR r) ∧ ArOk s pos acc cI i r)
  | 0 => ⟨fun _ _ h => absurd h (Nat.not_lt_zero _), fun _ _ _ _ _ h => absurd h (Nat.not_lt_zero _)⟩
  | D + 1 => by
    obtain ⟨ihT, ihA⟩ := rd_sound s hs D
    constructor
    · intro pos acc hD hp hl
      have hb := wdL_bound (s := s) hp
      have hdw := drop_word s pos
      by_cases h1 : (wdT s pos).toList = []
      · refine ⟨.inl (pos, 3), ev_rdTerm_at hs hp (evIfp h1 (Ev.now _)), ev_Read_at hs hp hl (evIfp h1 (Ev.now _)), hp, show (3 : Int) ≠ 0 by decide⟩
      have h1' : wdL s pos ≠ [] := fun h => h1 ((wdT_empty s pos).2 h)
      have hw0 : 0 < (wdL s pos).length := List.length_pos_iff.2 h1'
      by_cases h2 : kindS (wdT s pos) = 0
      · refine ⟨.inl (pos, 4), ev_rdTerm_at hs hp (evIfn h1 (evIfp h2 (Ev.now _))), ev_Read_at hs hp hl (evIfn h1 (evIfp h2 (Ev.now _))), hp, show (4 : Int) ≠ 0 by decide⟩
      by_cases h3 : (acc.length : Int) = 64
      · refine ⟨.inl (pos, 6), ev_rdTerm_at hs hp (evIfn h1 (evIfn h2 (evIfp h3 (Ev.now _)))), ev_Read_at hs hp hl (evIfn h1 (evIfn h2 (evIfp h3 (Ev.now _)))), hp, show (6 : Int) ≠ 0 by decide⟩
      by_cases h4 : nxL s (pos + (wdL s pos).length) = 40
      · by_cases h5 : kindS (wdT s pos) = 2
        · refine ⟨.inl (pos + (wdL s pos).length, 5), ev_rdTerm_at hs hp (evIfn h1 (evIfn h2 (evIfn h3 (evIfp h4 (evIfp h5 (Ev.now _)))))), ev_Read_at hs hp hl (evIfn h1 (evIfn h2 (evIfn h3 (evIfp h4 (evIfp h5 (Ev.now _)))))), hb, show (5 : Int) ≠ 0 by decide⟩
        · obtain ⟨x, q, hq, hx⟩ := nxL_pos h4 (by decide)
          have hx' : x = sepB 0 := u8_of (n := 40) hx (by decide)
          rw [hx'] at hq
          obtain ⟨r, e1, e2, e3⟩ := ihA (pos + (wdL s pos).length) (acc ++ [⟨wdT s pos, 0⟩]) acc.length 0 q (by have := (bt_drop hq).1; omega) hq (by simp) (by simp; omega) (by decide)
          refine ⟨r, ev_rdTerm_at hs hp (evIfn h1 (evIfn h2 (evIfn h3 (evIfp h4 (evIfn h5 e1))))), ev_Read_at hs hp hl (evIfn h1 (evIfn h2 (evIfn h3 (evIfp h4 (evIfn h5 e2))))), ?_⟩
          rcases r with ⟨p, e⟩ | ⟨j, m⟩
          · exact e3
          · obtain ⟨N, l, b, d, g1, g2, g3, g4, g5, g6, g7, g8, g9⟩ := e3
            have hcell : (acc ++ [(⟨wdT s pos, 0⟩ : Cel)]).getD acc.length z33 = ⟨wdT s pos, 0⟩ := by
              rw [List.getD_eq_getElem?_getD, List.getElem?_append_right (Nat.le_refl _), Nat.sub_self]
              rfl
            rw [hcell] at g3
            have hset : (acc ++ [(⟨wdT s pos, 0⟩ : Cel)]).set acc.length ⟨wdT s pos, (N : Int)⟩ = acc ++ [⟨wdT s pos, (N : Int)⟩] := by
              rw [List.set_append_right _ _ (Nat.le_refl _), Nat.sub_self]
              rfl
            have harN : ar (⟨wdT s pos, (N : Int)⟩ : Cel) = N := by unfold ar; simp
            refine ⟨⟨wdT s pos, (N : Int)⟩, l, b, d, ?_, by rw [harN]; exact g4, ?_, g6, g7, by simp only at g8; omega, ?_⟩
            · rw [g3]
              simp only
              rw [hset]
              simp
            · intro y hy
              rcases List.mem_cons.1 hy with rfl | hy
              · exact ⟨h2, by simp only; omega, by simp only; omega, fun hk => absurd hk h5⟩
              · exact g5 y hy
            · rw [hdw, g9]
              unfold txtL closeB
              rw [harN, if_neg (by omega), wdT_bl]
              simp
      · refine ⟨.inr (pos + (wdL s pos).length, acc ++ [⟨wdT s pos, 0⟩]), ev_rdTerm_at hs hp (evIfn h1 (evIfn h2 (evIfn h3 (evIfn h4 (Ev.now _))))), ev_Read_at hs hp hl (evIfn h1 (evIfn h2 (evIfn h3 (evIfn h4 (Ev.now _))))), ?_⟩
        refine ⟨⟨wdT s pos, 0⟩, [], [], 0, rfl, .done 0, ?_, by simp; omega, hb, by simp only; omega, ?_⟩
        · intro y hy
          rw [List.mem_singleton.1 hy]
          exact ⟨h2, Int.le_refl _, show (0 : Int) ≤ 4 by decide, fun _ => rfl⟩
        · rw [hdw]
          unfold txtL closeB
          rw [show ar (⟨wdT s pos, 0⟩ : Cel) = 0 from rfl, if_pos rfl, wdT_bl]
          simp
    · intro pos acc cI i q hD hd hc hl hi
      obtain ⟨p1, p2, p3⟩ := bt_drop hd
      obtain ⟨r, e1, e2, e3⟩ := ihT (pos + 1) acc (by omega) (by omega) hl
      rcases r with ⟨p, e⟩ | ⟨j, m⟩
      · exact ⟨.inl (p, e), ev_rdArgs_inl (by omega) e1, ev_Readl1_inl (by omega) e3.2 e2, e3⟩
      · obtain ⟨c, l1, b1, d1, g1, g2, g3, g4, g5, g6, g7⟩ := e3
        simp only at g1 g4 g5 g6 g7
        have hcm : cI < m.length := by rw [g1, List.length_append]; omega
        have hnm : (rd_T33 m (cI : Int)).f0 = (acc.getD cI z33).f0 := by rw [rd_getD, g1, getD_app hc]
        have hset : ∀ N : Int, m.set cI ⟨(rd_T33 m (cI : Int)).f0, N⟩ = acc.set cI ⟨(acc.getD cI z33).f0, N⟩ ++ c :: l1 := by
          intro N
          rw [hnm, g1, set_app hc]
        have hdp : (bl s).drop pos = sepB i :: (txtL c b1 ++ (bl s).drop j) := by rw [hd, ← p3, g7]
        by_cases k1 : nxL s j = 41
        · obtain ⟨x, q', hq, hx⟩ := nxL_pos k1 (by decide)
          have hx' : x = 41 := u8_of (n := 41) hx (by decide)
          rw [hx'] at hq
          have hj := bt_drop hq
          refine ⟨.inr (j + 1, m.set cI ⟨(rd_T33 m (cI : Int)).f0, ((i + 1 : Nat) : Int)⟩), ev_rdArgs_inr (by omega) g5 hs e1 hcm (evIfp k1 (Ev.now _)), ev_Readl1_inr (by omega) g5 hs e2 hcm (evIfp k1 (Ev.now _)), ?_⟩
          refine ⟨i + 1, c :: (l1 ++ []), _, _, by omega, by omega, ?_, Tx.arg (by omega) g2 (.done _), ?_, ?_, by simp only; omega, by simp only; omega, ?_⟩
          · rw [hset]
            simp
          · rw [List.append_nil]
            exact g3
          · simp only [List.length_set]
            exact g4
          · rw [hdp, hq, hj.2.2]
            unfold txtL
            simp
        · by_cases k2 : nxL s j = 44
          · by_cases k3 : ((i + 1 : Nat) : Int) = 4
            · exact ⟨.inl (j, 5), ev_rdArgs_inr (by omega) g5 hs e1 hcm (evIfn k1 (evIfp k2 (evIfp k3 (Ev.now _)))), ev_Readl1_inr (by omega) g5 hs e2 hcm (evIfn k1 (evIfp k2 (evIfp k3 (Ev.now _)))), g5, show (5 : Int) ≠ 0 by decide⟩
            · obtain ⟨x, q', hq, hx⟩ := nxL_pos k2 (by decide)
              have hx' : x = sepB (i + 1) := u8_of (n := 44) hx (by decide)
              rw [hx'] at hq
              have hj := bt_drop hq
              obtain ⟨r2, f1, f2, f3⟩ := ihA j (m.set cI ⟨(rd_T33 m (cI : Int)).f0, ((i + 1 : Nat) : Int)⟩) cI (i + 1) q' (by omega) hq (by rw [List.length_set]; exact hcm) (by rw [List.length_set]; exact g4) (by omega)
              have hup : wrap64 (((i + 1 : Nat) : Int) + 1) = ((i + 1 + 1 : Nat) : Int) := up_cast (i + 1) (by omega)
              refine ⟨r2, ev_rdArgs_inr (by omega) g5 hs e1 hcm (evIfn k1 (evIfp k2 (evIfn k3 (by rw [hup]; exact f1)))), ev_Readl1_inr (by omega) g5 hs e2 hcm (evIfn k1 (evIfp k2 (evIfn k3 (by rw [hup]; exact f2)))), ?_⟩
              rcases r2 with ⟨p, e⟩ | ⟨j2, m2⟩
              · exact f3
              · obtain ⟨N, l2, b2, d2, u1, u2, u3, u4, u5, u6, u7, u8, u9⟩ := f3
                simp only at u3 u6 u7 u8 u9
                clear hup
                rw [getD_set hcm, List.set_set, hset] at u3
                refine ⟨N, c :: (l1 ++ l2), _, _, by omega, u2, ?_, Tx.arg (by omega) g2 u4, ?_, u6, u7, by simp only; omega, ?_⟩
                · rw [u3]
                  simp
                · intro y hy
                  rcases List.mem_cons.1 hy with rfl | hy
                  · exact g3 _ (List.mem_cons_self ..)
                  · rcases List.mem_append.1 hy with hy | hy
                    · exact g3 _ (List.mem_cons_of_mem _ hy)
                    · exact u5 y hy
                · rw [hdp, u9]
                  unfold txtL
                  simp
          · exact ⟨.inl (j, 3), ev_rdArgs_inr (by omega) g5 hs e1 hcm (evIfn k1 (evIfn k2 (Ev.now _))), ev_Readl1_inr (by omega) g5 hs e2 hcm (evIfn k1 (evIfn k2 (Ev.now _))), g5, show (3 : Int) ≠ 0 by decide⟩
/-- What Parse comes to, both ways. -/
theorem parse_sound (s : ByteArray) : ∃ u at_ e, Ev (fun k => term_Parse.f k s) (u, at_, e) ∧ Ev (fun k => aumbryref04_Parse.f k s) (u, at_, e) ∧ u.length ≤ 64 ∧
    ((e ≠ 0 ∧ u = [] ∧ 0 ≤ at_ ∧ at_ ≤ (s.size : Int)) ∨ (e = 0 ∧ at_ = 0 ∧ ∃ c l b d, u = c :: l ∧ Tx 0 (ar c) l b d ∧ (∀ x ∈ c :: l, Okc x) ∧ bl s = txtL c b)) := by
  have hj0 : ∀ (u : List Cel) (a e : Int) (fl : Bool), Ev (fun k => aumbryref04_Parse.j0 k u a e fl) (if fl = true then ([], a, 3) else if e = 0 then (u, 0, 0) else ([], a, e)) := by
    intro u a e fl
    refine Ev.step (fun k => (show aumbryref04_Parse.j0 (k + 1) u a e fl = _ from by rw [aumbryref04_Parse.j0])) ?_
    cases fl
    · refine evIfn (by simp) ?_
      by_cases he : e = 0
      · simp only [if_pos he]; exact Ev.now _
      · simp only [if_neg he]; exact Ev.now _
    · exact evIfp rfl (Ev.now _)
  by_cases hs : (s.size : Int) > 1024
  · refine ⟨[], 0, 2, ?_, ?_, by simp, .inl ⟨by decide, rfl, by decide, by omega⟩⟩
    · unfold term_Parse.f parseF
      exact evIfp hs (Ev.now _)
    · unfold aumbryref04_Parse.f
      exact evIfp hs (Ev.now _)
  · obtain ⟨r, e1, e2, e3⟩ := (rd_sound s (by omega) (s.size + 1)).1 0 [] (by omega) (by omega) (by simp)
    rcases r with ⟨p, e⟩ | ⟨j, m⟩
    · refine ⟨[], (p : Int), e, ?_, ?_, by simp, .inl ⟨e3.2, rfl, by omega, by have := e3.1; simp only at this; omega⟩⟩
      · unfold term_Parse.f parseF
        exact evIfn hs (Ev.bind e1 (Ev.now _))
      · unfold aumbryref04_Parse.f
        refine evIfn hs (Ev.bind e2 (evIfn e3.2 ?_))
        have := hj0 [] (p : Int) e false
        rw [if_neg (by simp), if_neg e3.2] at this
        exact this
    · obtain ⟨c, l, b, d, g1, g2, g3, g4, g5, g6, g7⟩ := e3
      simp only [List.nil_append] at g1 g4 g5 g6 g7
      by_cases hj : (j : Int) < (s.size : Int)
      · refine ⟨[], (j : Int), 3, ?_, ?_, by simp, .inl ⟨by decide, rfl, by omega, by omega⟩⟩
        · unfold term_Parse.f parseF
          exact evIfn hs (Ev.bind e1 (evIfp hj (Ev.now _)))
        · unfold aumbryref04_Parse.f
          refine evIfn hs (Ev.bind e2 (evIfp rfl ?_))
          have := hj0 m (j : Int) 0 true
          rw [if_pos rfl] at this
          have hdj : decide ((j : Int) < (s.size : Int)) = true := decide_eq_true hj
          rw [show (cR (.inr (j, m))).2.1 = (j : Int) from rfl, hdj]
          exact this
      · refine ⟨m, 0, 0, ?_, ?_, g4, .inr ⟨rfl, rfl, c, l, b, d, g1, g2, g3, ?_⟩⟩
        · unfold term_Parse.f parseF
          exact evIfn hs (Ev.bind e1 (evIfn hj (Ev.now _)))
        · unfold aumbryref04_Parse.f
          refine evIfn hs (Ev.bind e2 (evIfp rfl ?_))
          have := hj0 m (j : Int) 0 false
          rw [if_neg (by simp), if_pos rfl] at this
          have hdj : decide ((j : Int) < (s.size : Int)) = false := decide_eq_false hj
          rw [show (cR (.inr (j, m))).2.1 = (j : Int) from rfl, hdj]
          exact this
        · rw [List.drop_zero] at g7
          have : j = s.size := by omega
          rw [g7, this, List.drop_eq_nil_of_le (by rw [bl_len]; omega), List.append_nil]
/-! ### a term's text is read as the term -/
end Go.Proofs.YtpnamhplhdaphaaDoor.P

-- ==== PF20
namespace Go.Proofs.YtpnamhplhdaphaaDoor.P
open Go.RowKit Go.Proofs.YtpnamhplhdaphaaDoorW.PrintWords Go.Proofs.YtpnamhplhdaphaaDoorW.PrintLast Go.Proofs.YtpnamhplhdaphaaDoorW.PrintMore
attribute [local go_sem] max2_int min2_int max_two min_two max_three min_three max_four min_four   -- for this text's walks alone
set_option linter.unusedVariables false
set_option linter.unusedSimpArgs false

/-! ### aumbryref06_Text: function 20 -/
def aumbryref06_Text.f (k : Nat) (a0_0 : Int) (l0_1 : List (S33)) (l0_2 : List (S33)) : Option (ByteArray) := (aumbryref04_Text.f k l0_1).bind fun t102 => (if t102.size + 4 ≤ 9223372036854775807 then ((aumbryref04_Text.f k l0_2).bind fun t103 => (if (t102 ++ (⟨#[32, 45, 62, 32]⟩ : ByteArray)).size + t103.size ≤ 9223372036854775807 then (some ((t102 ++ (⟨#[32, 45, 62, 32]⟩ : ByteArray)) ++ t103)) else (none))) else (none))
def aumbryref06_Text.T1 : Bool × List (List Nat × List Nat) := (true, [([], []), ([0], [0]), ([1], [1]), ([2], [2]), ([], []), ([4], [4]), ([5, 2], [5]), ([3, 6], [3, 6]), ([7, 6, 0, 1, 2, 3, 4, 5, 6, 7], [7])])
end Go.Proofs.YtpnamhplhdaphaaDoor.P

-- ==== PL6r
/- Plain laws of chapter 6: reading two texts as a rule; writing a rule. -/
namespace Go.Proofs.YtpnamhplhdaphaaDoor.P
open Go.RowKit Go.Proofs.YtpnamhplhdaphaaDoorW.PrintWords
set_option linter.unusedVariables false
set_option linter.unusedSimpArgs false
theorem ev_rparse (s1 s2 : ByteArray) : ∃ l r e, Ev (fun k => rule_Parse.f k s1 s2) (0, l, r, e) ∧ Ev (fun k => aumbryref06_Parse.f k s1 s2) (0, l, r, e) ∧ l.length ≤ 64 ∧ r.length ≤ 64 ∧
    ((e ≠ 0 ∧ l = [] ∧ r = []) ∨ (e = 0 ∧ ruleS 0 l r = 0 ∧ ∃ c1 l1 b1 d1 c2 l2 b2 d2, l = c1 :: l1 ∧ r = c2 :: l2 ∧ Tx 0 (ar c1) l1 b1 d1 ∧ (∀ x ∈ c1 :: l1, Okc x) ∧ bl s1 = txtL c1 b1 ∧ Tx 0 (ar c2) l2 b2 d2 ∧ (∀ x ∈ c2 :: l2, Okc x) ∧ bl s2 = txtL c2 b2)) := by
  obtain ⟨u, a, e, h1, h1', h1l, h1c⟩ := parse_sound s1
  obtain ⟨v, b, f, h2, h2', h2l, h2c⟩ := parse_sound s2
  by_cases he : e = 0
  case neg =>
    refine ⟨[], [], e, ?_, ?_, by simp, by simp, .inl ⟨he, rfl, rfl⟩⟩
    · unfold rule_Parse.f
      exact Ev.bind h1 (evIfn he (Ev.now _))
    · unfold aumbryref06_Parse.f
      exact Ev.bind h1' (evIfn he (Ev.now _))
  by_cases hf : f = 0
  case neg =>
    refine ⟨[], [], f, ?_, ?_, by simp, by simp, .inl ⟨hf, rfl, rfl⟩⟩
    · unfold rule_Parse.f
      exact Ev.bind h1 (evIfp he (Ev.bind h2 (evIfn hf (Ev.now _))))
    · unfold aumbryref06_Parse.f
      exact Ev.bind h1' (evIfp he (Ev.bind h2' (evIfn hf (Ev.now _))))
  by_cases hr : ruleS 0 u v = 0
  case neg =>
    refine ⟨[], [], ruleS 0 u v, ?_, ?_, by simp, by simp, .inl ⟨hr, rfl, rfl⟩⟩
    · unfold rule_Parse.f
      exact Ev.bind h1 (evIfp he (Ev.bind h2 (evIfp hf (Ev.bind (ev_rch 0 u v) (evIfn hr (Ev.now _))))))
    · unfold aumbryref06_Parse.f
      exact Ev.bind h1' (evIfp he (Ev.bind h2' (evIfp hf (Ev.bind (ev_rcheck 0 u v) (evIfn hr (Ev.now _))))))
  refine ⟨u, v, 0, ?_, ?_, h1l, h2l, .inr ⟨rfl, hr, ?_⟩⟩
  · unfold rule_Parse.f
    exact Ev.bind h1 (evIfp he (Ev.bind h2 (evIfp hf (Ev.bind (ev_rch 0 u v) (evIfp hr (Ev.now _))))))
  · unfold aumbryref06_Parse.f
    exact Ev.bind h1' (evIfp he (Ev.bind h2' (evIfp hf (Ev.bind (ev_rcheck 0 u v) (evIfp hr (Ev.now _))))))
  rcases h1c with ⟨hx, _⟩ | ⟨_, _, c1, l1, b1, d1, e1, p1, p2, p3⟩
  · exact absurd he hx
  rcases h2c with ⟨hx, _⟩ | ⟨_, _, c2, l2, b2, d2, e2, q1, q2, q3⟩
  · exact absurd hf hx
  exact ⟨c1, l1, b1, d1, c2, l2, b2, d2, e1, e2, p1, p2, p3, q1, q2, q3⟩
section
variable {id : Int} {c1 c2 : Cel} {l1 l2 : List Cel} {b1 b2 : List UInt8} {d1 d2 : Nat} (h1 : Tx 0 (ar c1) l1 b1 d1) (o1 : ∀ x ∈ c1 :: l1, Okc x) (h2 : Tx 0 (ar c2) l2 b2 d2) (o2 : ∀ x ∈ c2 :: l2, Okc x)
include h1 o1 h2 o2
end
end Go.Proofs.YtpnamhplhdaphaaDoor.P

-- ==== PureRuleReads
/- Any two texts are read as a rule's sides, or refused, as the document says: for all texts, the law answers true. -/
namespace Go.Proofs.YtpnamhplhdaphaaDoor.Pure
open Go.RowKit Go.Proofs.YtpnamhplhdaphaaDoor.P Go.Proofs.YtpnamhplhdaphaaDoorW.PrintWords
set_option linter.unusedVariables false
theorem RuleReads : aumbrylaw06_RuleReads.Pure := by
  intro s1 s2 _ _
  refine Ev.rounds ?_
  unfold aumbrylaw06_RuleReads.f
  refine Ev.bind ev_wakes6 (evIfp rfl ?_)
  obtain ⟨l, r, e, h1, h2, h3, h4, _⟩ := ev_rparse s1 s2
  refine Ev.bind h1 (Ev.bind h2 ?_)
  refine Ev.bind (ev_rsame 0 l r (by omega) (by omega)) (evIfp rfl ?_)
  have he : (e == e) = true := by simp
  simp only [he]
  exact Ev.now _
end Go.Proofs.YtpnamhplhdaphaaDoor.Pure

-- ==== RowRuleReads
namespace Go.Proofs.YtpnamhplhdaphaaDoor.ruleReads
open Go.ChangeShapes Go.WideShapes Go.ChangeAt Go.RowKit Go.Proofs.YtpnamhplhdaphaaDoorW.PrintWords Go.Proofs.YtpnamhplhdaphaaDoor.P Go.Proofs.YtpnamhplhdaphaaDoor.Open
open Go.ChangeMaps (open_string shut_string)
set_option linter.unusedVariables false
theorem own : ownKnob Tryd.prog.godebug = none := by kernel_rfl
theorem laidOut : laidOutB Tryd.prog = true := by kernel_rfl
set_option maxRecDepth 100000 in
theorem core {H : Type} {enc : TypeId × Value → H} (W : World) (base : Nat) (args : Array Value) (ds gs : List (DataW H)) (before : List MemPlace)
    (hval : ∀ (j : Nat) t v, Tryd.f4.params[j]? = some t → args[j]? = some v → Value.okWide Tryd.prog W .any base t v)
    (hW : DataW.Whole enc Tryd.prog Tryd.f4.params.toList Rows.ruleReadsSpec.vars false W args.toList ds gs before)
    (hsz : (DataW.weightsEach Tryd.prog (Tryd.f4.params.toList ++ Rows.ruleReadsSpec.plain.varTypes Tryd.prog) (ds ++ gs)).all (· ≤ reachBytes) = true)
    :
    Calls Tryd.prog 4 args W fun e W' => ∃ v, e = .returned v ∧ Rows.ruleReadsSpec.post enc Tryd.prog Tryd.f4 false true false false W args v W' := by
  have hW' := hW
  obtain ⟨p, q, hA, hV, rfl, hfz, hnd⟩ := hW
  rw [Tryd.params4] at hA hval hsz
  obtain ⟨v0, vs0, d0, ds0, p0, q0, hargs, rfl, rfl, h0, r0⟩ := trodAll_cons hA
  obtain ⟨v1, vs1, d1, ds1, p1, q1, rfl, rfl, rfl, h1, r1⟩ := trodAll_cons r0
  obtain ⟨rfl, rfl, rfl⟩ := trodAll_nil r1
  obtain rfl : args = #[v0, v1] := by cases args; simp_all
  obtain ⟨rfl, rfl⟩ := trodVars_none hV
  have k0 := h0
  obtain ⟨n0, hf0⟩ := h0
  obtain ⟨x0, hK0, hS0, hB0⟩ := op9.go hf0 (fun m hm => by have := List.all_eq_true.1 hsz m (DataW.weights_mem_each (j := 0) rfl rfl m hm); simpa using this)
  have lt0 : ∀ z ∈ p0, z.block < W.heap.size := by obtain ⟨m, hm⟩ := k0; exact DataW.trod_lt m _ _ _ hm
  obtain ⟨y0, rfl⟩ := okWide_string Tryd.underlying9 (hval 0 9 v0 rfl rfl)
  have hcs0' : [_] = [_] := hK0
  injection hcs0' with hcs0'
  injection hcs0' with hq0
  subst hq0
  have k1 := h1
  obtain ⟨n1, hf1⟩ := h1
  obtain ⟨x1, hK1, hS1, hB1⟩ := op9.go hf1 (fun m hm => by have := List.all_eq_true.1 hsz m (DataW.weights_mem_each (j := 1) rfl rfl m hm); simpa using this)
  have lt1 : ∀ z ∈ p1, z.block < W.heap.size := by obtain ⟨m, hm⟩ := k1; exact DataW.trod_lt m _ _ _ hm
  obtain ⟨y1, rfl⟩ := okWide_string Tryd.underlying9 (hval 1 9 v1 rfl rfl)
  have hcs1' : [_] = [_] := hK1
  injection hcs1' with hcs1'
  injection hcs1' with hq1
  subst hq1
  obtain ⟨k, h⟩ := Pure.RuleReads y0 y1 hS0 hS1
  refine (aumbrylaw06_RuleReads.calls k y0 y1 true W h).mono ?_
  rintro e W' ⟨rfl, hd⟩
  have bel : Below W.heap.size W W' := hd
  exact ⟨_, rfl, _, _, _, [], _, [], hW', trodAll_mk1 (shut_bool Tryd.underlying4 _), (trodAll_cons_mk (Below.trod laidOut (by kernel_rfl) (of_decide_eq_true (by kernel_rfl)) k0 bel lt0) (trodAll_cons_mk (Below.trod laidOut (by kernel_rfl) (of_decide_eq_true (by kernel_rfl)) k1 bel lt1) trodAll_mk0)), rfl, bel.frame _, fun h => by cases h⟩
set_option maxRecDepth 100000 in
theorem laid_met (os : Os) : laidMet Tryd.prog Rows.ruleReadsRow.laid ((World.laidAll Tryd.prog os Rows.ruleReadsRow.laid).forCall (fun _ _ => 0) ⟨#[], #[.string ByteArray.empty, .string ByteArray.empty], []⟩).memory :=
  laidMet_laidAll _ (by kernel_rfl) (by kernel_rfl)
set_option maxRecDepth 100000 in
theorem reads (os : Os) {H : Type} (enc : TypeId × Value → H) : (DataW.whole enc Tryd.prog ((World.laidAll Tryd.prog os Rows.ruleReadsRow.laid).forCall (fun _ _ => 0) ⟨#[], #[.string ByteArray.empty, .string ByteArray.empty], []⟩).memory Tryd.f4.params.toList Rows.ruleReadsSpec.vars false (#[.string ByteArray.empty, .string ByteArray.empty] : Array Value).toList 8).isSome = true := by kernel_rfl
set_option maxRecDepth 100000 in
theorem lifted (os : Os) (started : os.Started) (H : Type) (enc : TypeId × Value → H) (F : Stop.Interp) :
    ReturnsInHanded {} Tryd.checked os 4 .any ((OpenSpec.ofChange Rows.ruleReadsSpec).preRow enc Tryd.prog Tryd.f4 Rows.ruleReadsRow.domain false Rows.ruleReadsRow.laid) (((OpenSpec.ofChange Rows.ruleReadsSpec).at F).post enc Tryd.prog Tryd.f4 false true false false) := by
  obtain ⟨x, hx⟩ := Option.isSome_iff_exists.1 (reads os enc)
  refine returnsInHanded_of_row (C := Tryd.checked) (s := OpenSpec.ofChange Rows.ruleReadsSpec) own started (by kernel_rfl) Tryd.func4
    (witness_row_at (enc := enc) (C := Tryd.checked) false (World.laidAll Tryd.prog os Rows.ruleReadsRow.laid) #[.string ByteArray.empty, .string ByteArray.empty] rfl (by kernel_rfl) (by kernel_rfl) (by kernel_rfl)
      (OpenSpec.preRow_of_cond 8 hx rfl (fun k hk => by cases hk) (by kernel_rfl) (laid_met os))) ?_
  intro W base args ds gs before hval0 hW _ _ hsz0 _ _ _
  exact core W base args ds gs before hval0 hW hsz0
theorem said : Rows.RuleReadsSaid :=
  OpenClaim.holds_of_cond 4 Tryd.f4 rfl rfl rfl rfl rfl rfl rfl ⟨rfl, rfl, rfl, rfl, rfl⟩ rfl rfl rfl rfl rfl (by kernel_rfl) Tryd.func4 (by kernel_rfl)
    (of_decide_eq_true (by kernel_rfl)) (by unfold Func.isWrapper; first | (rw [if_pos (by decide +kernel)]; kernel_rfl) | (rw [if_neg (by decide +kernel)]; exact ⟨rfl, rfl⟩))
    (fun os started H enc _ F => by rw [OpenClaim.pre_eq_preRow]; exact lifted os started H enc F)
theorem plain (f : FuncId) (fn : Func) (hf : Tryd.pinned.checked.prog.funcNamed "aumbry/aumbrylaw06.RuleReads" = some f) (hfn : Tryd.pinned.checked.prog.funcs[f]? = some fn) :
    true = Tryd.pinned.checked.prog.looks [] ∧ ∀ (j : Nat) t, fn.params[j]? = some t → Tryd.pinned.checked.prog.wantsStandIn t = false := by
  obtain rfl : f = 4 := Option.some.inj ((show Tryd.prog.funcNamed "aumbry/aumbrylaw06.RuleReads" = some 4 by kernel_rfl).symm.trans hf) |>.symm
  obtain rfl : fn = Tryd.f4 := (Option.some.inj (Tryd.func4.symm.trans hfn)).symm
  refine ⟨by kernel_rfl, fun j t ht => ?_⟩
  rw [Tryd.params4] at ht
  have hm := Array.mem_of_getElem? ht
  obtain rfl : t = 9 := by simpa using hm
  exact (show Tryd.prog.wantsStandIn 9 = false by kernel_rfl)
theorem card : Rows.RuleReadsCardSaid :=
  Claim7.holds_tied_plain_at .later [] _ _ _ _ said (fun _ h => by cases h) (by kernel_rfl) (fun _ h => by cases h) ruleReads_row_tie rfl ⟨rfl, rfl⟩ (by kernel_rfl) rfl plain (by kernel_rfl)
end Go.Proofs.YtpnamhplhdaphaaDoor.ruleReads
namespace Go.Proofs.YtpnamhplhdaphaaDoor
/-- The card, under a short name, for the claim. -/
theorem ruleReads_holds : Rows.RuleReadsCardSaid := ruleReads.card
#print axioms ruleReads_holds
end Go.Proofs.YtpnamhplhdaphaaDoor
