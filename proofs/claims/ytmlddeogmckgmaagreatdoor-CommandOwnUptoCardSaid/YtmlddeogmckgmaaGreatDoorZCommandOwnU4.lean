/- CommandOwn: the law answers true at every input that the given row speaks of. Conditions: those of the given row, none besides. (Part 5 of 5; written by programs of this session, which drive the kit's print, and by hand.) -/
import Derived.KernelRfl
import Derived.Lib.ParseIntBCases
import Derived.Lib.ItoaMem
import Derived.Test.YtmlddeogmckgmaaGreatDoorCards
import Derived.Test.YtmlddeogmckgmaaGreatDoorTie
import Derived.Deep.DeepWitnessRowRef
import Derived.Lay
import Derived.SevenTiedAt
import Derived.Test.YtmlddeogmckgmaaGreatDoorRows
import Derived.WalkKit
import Derived.ProofKit
import Derived.OpenShut
import Derived.ShutString
import Derived.ChangeOld
import Derived.Below
import Derived.Carry
import Derived.SizedLaws
import Derived.Test.YtmlddeogmckgmaaGreatDoorZCommandOwnU0
import Derived.Test.YtmlddeogmckgmaaGreatDoorZCommandOwnU1
import Derived.Test.YtmlddeogmckgmaaGreatDoorZCommandOwnU2
import Derived.Test.YtmlddeogmckgmaaGreatDoorZCommandOwnU3
set_option maxHeartbeats 8000000
set_option maxRecDepth 100000
set_option linter.unusedVariables false
set_option linter.unusedSimpArgs false
-- ==== PL4x
/- Plain laws of chapter 4: a text's signs, its words. -/
namespace Go.Proofs.YtmlddeogmckgmaaGreatDoor.P
open Go.RowKit Go.Proofs.YtmlddeogmckgmaaGreatDoorW.PrintWords
def signI (c : Int) : Bool := (decide (97 ≤ c) && decide (c ≤ 122)) || (decide (65 ≤ c) && decide (c ≤ 90)) || (decide (48 ≤ c) && decide (c ≤ 57))
def signU (x : UInt8) : Bool := signI (x.toNat : Int)
abbrev bl (s : ByteArray) : List UInt8 := s.data.toList
theorem bl_len (s : ByteArray) : (bl s).length = s.size := data_length s
theorem bl_inj {a b : ByteArray} (h : bl a = bl b) : a = b := by
 cases a; cases b
 simp only [ByteArray.mk.injEq]
 exact Array.toList_inj.1 h
theorem bt_drop {s : ByteArray} {j : Nat} {x : UInt8} {r : List UInt8} (h : (bl s).drop j = x :: r) : j < s.size ∧ bt s (j : Int) = (x.toNat : Int) ∧ (bl s).drop (j + 1) = r := by
 obtain ⟨h1, h2, h3⟩ := drop_cons h
 rw [bl_len] at h1
 refine ⟨h1, ?_, h3⟩
 unfold bt
 simp only [Int.toNat_natCast]
 rw [dif_pos h1]
 have := h2 0
 rw [List.getD_eq_getElem?_getD, List.getElem?_eq_getElem (by rw [bl_len]; exact h1)] at this
 simp only [Option.getD_some] at this
 rw [← this]
 simp [bl, ByteArray.getElem_eq_getElem_data]
theorem bl_drop_nil {s : ByteArray} {j : Nat} (h : j ≤ s.size) (h1 : (bl s).drop j = []) : j = s.size := by
 have := drop_nil_len (by rw [bl_len]; exact h) h1
 rw [bl_len] at this
 exact this
theorem bl_extract (s : ByteArray) (i j : Nat) : bl (s.extract i j) = ((bl s).drop i).take (j - i) := by
 unfold bl
 rw [ByteArray.data_extract, Array.toList_extract]
theorem sign_eq (c : Int) : aumbryref04_sign.f c = some (signI c) := by
 unfold aumbryref04_sign.f signI
 by_cases c1 : c ≥ 48 <;> by_cases c2 : c ≤ 57 <;> by_cases c3 : c ≥ 97 <;> by_cases c4 : c ≤ 122 <;> by_cases c5 : c ≥ 65 <;> by_cases c6 : c ≤ 90 <;> first | (exfalso; omega) | (simp [c1, c2, c3, c4, c5, c6])
def wdL (s : ByteArray) (i : Nat) : List UInt8 := ((bl s).drop i).takeWhile signU
theorem wdL_cons {s : ByteArray} {j : Nat} {x : UInt8} {r : List UInt8} (h : (bl s).drop j = x :: r) (hx : signU x = true) : wdL s j = x :: wdL s (j + 1) := by
 unfold wdL
 rw [h, List.takeWhile_cons_of_pos hx, (bt_drop h).2.2]
theorem wdL_stop {s : ByteArray} {j : Nat} {x : UInt8} {r : List UInt8} (h : (bl s).drop j = x :: r) (hx : ¬ signU x = true) : wdL s j = [] := by
 unfold wdL
 rw [h, List.takeWhile_cons_of_neg hx]
theorem wdL_end {s : ByteArray} {j : Nat} (h : (bl s).drop j = []) : wdL s j = [] := by
 unfold wdL
 rw [h]
 rfl
theorem wdL_bound {s : ByteArray} {j : Nat} (h : j ≤ s.size) : j + (wdL s j).length ≤ s.size := by
 have h1 : (wdL s j).length ≤ ((bl s).drop j).length := by
  unfold wdL
  exact (List.takeWhile_sublist _).length_le
 rw [List.length_drop, bl_len] at h1
 omega
def wdT (s : ByteArray) (i : Nat) : ByteArray := s.extract i (i + (wdL s i).length)
theorem wdT_bl (s : ByteArray) (i : Nat) : bl (wdT s i) = wdL s i := by
 unfold wdT
 rw [bl_extract, show i + (wdL s i).length - i = (wdL s i).length by omega]
 have : wdL s i <+: (bl s).drop i := List.takeWhile_prefix _
 exact (List.prefix_iff_eq_take.1 this).symm
theorem wd_behind (s : ByteArray) (i : Nat) : (bl s).drop (i + (wdL s i).length) = ((bl s).drop i).dropWhile signU := by
 rw [← List.drop_drop]
 have : ∀ l : List UInt8, l.drop (l.takeWhile signU).length = l.dropWhile signU := by
  intro l
  induction l with
  | nil => rfl
  | cons x l ih =>
   by_cases hx : signU x = true
   ·
    rw [List.takeWhile_cons_of_pos hx, List.dropWhile_cons_of_pos hx]
    simpa using ih
   ·
    rw [List.takeWhile_cons_of_neg hx, List.dropWhile_cons_of_neg hx]
    rfl
 exact this _
def nxL (s : ByteArray) (i : Nat) : Int := match (bl s).drop i with
 | [] => 0
 | x :: _ => (x.toNat : Int)
theorem nxS_eq (s : ByteArray) (i : Nat) (h : i ≤ s.size) : nxS s (i : Int) = nxL s i := by
 unfold nxS nxL
 cases hd : (bl s).drop i with
 | nil =>
  have := bl_drop_nil h hd
  rw [if_neg (by omega)]
 | cons x r =>
  have := bt_drop hd
  rw [if_pos (by omega), this.2.1]
theorem word_step (k : Nat) (from_ c : Int) (s : ByteArray) (i : Int) (v : Value) : term_reader_word.l0 (k + 1) from_ c s i v =
 if signI c = true then ((term_reader_next.f s (wrap64 (i + 1)) v).bind fun b => term_reader_word.l0 k from_ b.1 b.2.1 b.2.2 v)
 else (if 0 ≤ from_ then (if from_ ≤ i then (if i ≤ (s.size : Int) then some (s.extract from_.toNat i.toNat, s, i) else none) else none) else none) := by
 rw [term_reader_word.l0]
 unfold signI
 by_cases c1 : c ≥ 48 <;> by_cases c2 : c ≤ 57 <;> by_cases c3 : c ≥ 97 <;> by_cases c4 : c ≤ 122 <;> by_cases c5 : c ≥ 65 <;> by_cases c6 : c ≤ 90 <;> first | (exfalso; omega) | (simp [c1, c2, c3, c4, c5, c6])
theorem ev_word_loop (s : ByteArray) (v : Value) (hs : s.size ≤ 100000) (from_ : Nat) : ∀ (l : List UInt8) (j : Nat), from_ ≤ j → j ≤ s.size → (bl s).drop j = l →
 Ev (fun k => term_reader_word.l0 k (from_ : Int) (nxL s j) s (j : Int) v) (s.extract from_ (j + (wdL s j).length), s, ((j + (wdL s j).length : Nat) : Int))
 | [], j, hf, hj, hd => by
  have h0 : nxL s j = 0 := by unfold nxL; rw [hd]
  refine Ev.step (fun k => word_step k _ _ s _ v) ?_
  rw [h0, wdL_end hd]
  refine evIfn (by decide) (evIfp (by omega) (evIfp (by omega) (evIfp (by omega) ?_)))
  simp only [Int.toNat_natCast, List.length_nil, Nat.add_zero]
  exact Ev.now _
 | x :: r, j, hf, hj, hd => by
  obtain ⟨h1, h2, h3⟩ := bt_drop hd
  have h0 : nxL s j = (x.toNat : Int) := by unfold nxL; rw [hd]
  refine Ev.step (fun k => word_step k _ _ s _ v) ?_
  rw [h0]
  by_cases hx : signU x = true
  ·
   refine evIfp hx ?_
   rw [wrap_up (by omega) (by omega)]
   have hn : term_reader_next.f s ((j : Int) + 1) v = some (nxL s (j + 1), s, ((j + 1 : Nat) : Int)) := by
    rw [next_at s _ v (by omega), show (j : Int) + 1 = ((j + 1 : Nat) : Int) by omega, nxS_eq s (j + 1) (by omega)]
   refine Ev.bind (evIs hn) ?_
   rw [wdL_cons hd hx]
   have := ev_word_loop s v hs from_ r (j + 1) (by omega) (by omega) h3
   simp only [List.length_cons]
   rw [show j + ((wdL s (j + 1)).length + 1) = j + 1 + (wdL s (j + 1)).length by omega]
   exact this
  ·
   refine evIfn hx (evIfp (by omega) (evIfp (by omega) (evIfp (by omega) ?_)))
   rw [wdL_stop hd hx]
   simp only [Int.toNat_natCast, List.length_nil, Nat.add_zero]
   exact Ev.now _
theorem ev_word (s : ByteArray) (v : Value) (hs : s.size ≤ 100000) (i : Nat) (hi : i ≤ s.size) : Ev (fun k => term_reader_word.f k s (i : Int) v) (wdT s i, s, ((i + (wdL s i).length : Nat) : Int)) := by
 unfold term_reader_word.f
 have hn : term_reader_next.f s (i : Int) v = some (nxL s i, s, (i : Int)) := by
  rw [next_at s _ v (by omega), nxS_eq s i hi]
 refine Ev.bind (evIs hn) ?_
 exact ev_word_loop s v hs i _ i (by omega) hi rfl
theorem kindS_signs {w : ByteArray} (h : kindS w ≠ 0) : ∀ x ∈ bl w, signU x = true := by
 have hsz := kindS_size h
 have key : ∀ (p : Int → Bool), (∀ j : Int, p j = true → signI (bt w j) = true) → ∀ (d : Nat) (i : Nat), i + d = w.size → allN p d (i : Int) = true → ∀ x ∈ (bl w).drop i, signU x = true := by
  intro p hp d
  induction d with
  | zero =>
   intro i hi _ x hx
   rw [List.drop_eq_nil_of_le (by rw [bl_len]; omega)] at hx
   cases hx
  | succ d ih =>
   intro i hi ha x hx
   cases hd : (bl w).drop i with
   | nil =>
    rw [hd] at hx
    cases hx
   | cons y r =>
    rw [hd] at hx
    obtain ⟨h1, h2, h3⟩ := bt_drop hd
    simp only [allN, Bool.and_eq_true] at ha
    rcases List.mem_cons.1 hx with rfl | hx
    ·
     have := hp _ ha.1
     rw [h2] at this
     exact this
    ·
     exact ih (i + 1) (by omega) ha.2 x (by rw [h3]; exact hx)
 have hl : ∀ j : Int, lowB w j = true → signI (bt w j) = true := by
  intro j hj
  unfold lowB at hj
  unfold signI
  simp only [Bool.or_eq_true, Bool.and_eq_true, decide_eq_true_eq] at hj ⊢
  omega
 have hu : ∀ j : Int, upB w j = true → signI (bt w j) = true := by
  intro j hj
  unfold upB at hj
  unfold signI
  simp only [Bool.or_eq_true, Bool.and_eq_true, decide_eq_true_eq] at hj ⊢
  omega
 rw [kindS_good hsz.1 hsz.2] at h
 intro x hx
 by_cases h1 : allN (lowB w) w.size 0 = true
 ·
  exact key _ hl w.size 0 (by omega) h1 x (by simpa using hx)
 ·
  rw [if_neg h1] at h
  by_cases h2 : allN (upB w) w.size 0 = true
  ·
   exact key _ hu w.size 0 (by omega) h2 x (by simpa using hx)
  ·
   rw [if_neg h2] at h
   exact absurd rfl h
theorem wdL_name {s w : ByteArray} {i : Nat} {q : List UInt8} (h : (bl s).drop i = bl w ++ q) (hw : ∀ x ∈ bl w, signU x = true) (hq : ∀ x r, q = x :: r → signU x = false) : wdL s i = bl w := by
 unfold wdL
 rw [h, List.takeWhile_append_of_pos hw]
 cases q with
 | nil => simp
 | cons x r => rw [List.takeWhile_cons_of_neg (by rw [hq x r rfl]; decide)]; simp
end Go.Proofs.YtmlddeogmckgmaaGreatDoor.P

-- ==== PL4t
/- Plain laws of chapter 4: a term's text. -/
namespace Go.Proofs.YtmlddeogmckgmaaGreatDoor.P
open Go.RowKit Go.Proofs.YtmlddeogmckgmaaGreatDoorW.PrintWords
def closeB (n : Nat) : List UInt8 := if n = 0 then [] else [41]
def sepB (i : Nat) : UInt8 := if i = 0 then 40 else 44
inductive Tx : Nat → Nat → List Cel → List UInt8 → Nat → Prop
 | done (n : Nat) : Tx n n [] [] 0
 | arg {i n : Nat} {c : Cel} {l1 l2 : List Cel} {b1 b2 : List UInt8} {d1 d2 : Nat} (h : i < n) (h1 : Tx 0 (ar c) l1 b1 d1) (h2 : Tx (i + 1) n l2 b2 d2) :
  Tx i n (c :: (l1 ++ l2)) (sepB i :: (bl c.f0 ++ b1 ++ closeB (ar c) ++ b2)) (max (d1 + 1) d2)
theorem tx_le {i n : Nat} {l : List Cel} {b : List UInt8} {d : Nat} (h : Tx i n l b d) : i ≤ n := by
 cases h with
 | done => exact Nat.le_refl _
 | arg h _ _ => omega
theorem tx_seg {i n : Nat} {l : List Cel} {b : List UInt8} {d : Nat} (h : Tx i n l b d) : segN l (n - i) = some [] := by
 induction h with
 | done n => rw [Nat.sub_self]; rfl
 | @arg i n c l1 l2 b1 b2 d1 d2 h h1 h2 ih1 ih2 =>
  rw [show n - i = (n - (i + 1)) + 1 by omega]
  show segN (l1 ++ l2) (n - (i + 1) + ar c) = some []
  rw [Nat.add_comm, segN_add]
  have := segN_append l2 ih1
  rw [Nat.sub_zero] at this
  rw [this]
  exact ih2
theorem tx_of : ∀ (m : Nat) (l : List Cel) (i n : Nat), l.length ≤ m → i ≤ n → segN l (n - i) = some [] → ∃ b d, Tx i n l b d := by
 intro m
 induction m with
 | zero =>
  intro l i n hl hi h
  have : l = [] := List.eq_nil_of_length_eq_zero (by omega)
  subst this
  have := segN_nil_pos h
  have : i = n := by omega
  subst this
  exact ⟨[], 0, .done i⟩
 | succ m ih =>
  intro l i n hl hi h
  cases l with
  | nil =>
   have := segN_nil_pos h
   have : i = n := by omega
   subst this
   exact ⟨[], 0, .done i⟩
  | cons c l =>
   have hin : i < n := by
    rcases Nat.lt_or_ge i n with h1 | h1
    ·
     exact h1
    ·
     rw [show n - i = 0 by omega] at h
     cases h
   rw [show n - i = (n - (i + 1)) + 1 by omega] at h
   have h' : segN l (n - (i + 1) + ar c) = some [] := h
   rw [Nat.add_comm, segN_add] at h'
   cases hr : segN l (ar c) with
   | none => rw [hr] at h'; cases h'
   | some r =>
    rw [hr] at h'
    obtain ⟨e, hs⟩ := segN_fst hr
    have hrl := (segN_len hr).1
    simp at hl
    obtain ⟨b1, d1, t1⟩ := ih (fstT l r) 0 (ar c) (by unfold fstT; rw [List.length_take]; omega) (Nat.zero_le _) (by rw [Nat.sub_zero]; exact hs)
    obtain ⟨b2, d2, t2⟩ := ih r (i + 1) n (by omega) (by omega) h'
    have ht := Tx.arg (c := c) hin t1 t2
    rw [← e] at ht
    exact ⟨_, _, ht⟩
theorem tx_len {i n : Nat} {l : List Cel} {b : List UInt8} {d : Nat} (h : Tx i n l b d) (hc : ∀ c ∈ l, Okc c) : b.length ≤ 10 * l.length ∧ d ≤ l.length := by
 induction h with
 | done n => simp
 | @arg i n c l1 l2 b1 b2 d1 d2 h h1 h2 ih1 ih2 =>
  have i1 := ih1 fun x hx => hc x (List.mem_cons_of_mem _ (List.mem_append_left _ hx))
  have i2 := ih2 fun x hx => hc x (List.mem_cons_of_mem _ (List.mem_append_right _ hx))
  have hk := kindS_size (hc c (List.mem_cons_self ..)).kind
  have hb : (bl c.f0).length ≤ 8 := by rw [bl_len]; exact hk.2
  have hcl : (closeB (ar c)).length ≤ 1 := by unfold closeB; split <;> simp
  simp only [List.length_cons, List.length_append]
  omega
theorem ar_eq {c : Cel} (h : Okc c) : c.f1 = ((ar c : Nat) : Int) := by
 have := h.lo
 unfold ar
 omega
theorem ar_le {c : Cel} (h : Okc c) : ar c ≤ 4 := by
 have := h.hi
 unfold ar
 omega
theorem ev_wrL (t : List Cel) (ht : t.length ≤ 64) {i n : Nat} {l : List Cel} {b : List UInt8} {d : Nat} (h : Tx i n l b d) : ∀ (pos : Nat) (q : List Cel) (acc : List UInt8), n ≤ 4 → pos ≤ t.length → t.drop pos = l ++ q → (∀ c ∈ l, Okc c) → acc.length + b.length + 1 ≤ 4000 →
 Ev (fun k => wrL k t (n : Int) (i : Int) (pos : Int) acc) (acc ++ b, ((pos + l.length : Nat) : Int)) := by
 induction h with
 | done n =>
  intro pos q acc hn hp hd hc hl
  refine Ev.step (fun k => (show wrL (k + 1) t (n : Int) (n : Int) (pos : Int) acc = _ from by rw [wrL])) ?_
  refine evIfn (by omega) ?_
  rw [List.append_nil]
  exact Ev.now _
 | @arg i n c l1 l2 b1 b2 d1 d2 h h1 h2 ih1 ih2 =>
  intro pos q acc hn hp hd hc hl
  have hcc := hc c (List.mem_cons_self ..)
  obtain ⟨p1, p2, p3⟩ := drop_cons (show t.drop pos = c :: (l1 ++ l2 ++ q) from hd)
  simp only [List.length_cons, List.length_append] at hl
  have hsz := bl_len c.f0
  refine Ev.step (fun k => (show wrL (k + 1) t (n : Int) (i : Int) (pos : Int) acc = _ from by rw [wrL])) ?_
  refine evIfp (by omega) (evIfp (by omega) (evIfp (by omega) ?_))
  have hsep : (if (i : Int) = 0 then (40 : UInt8) else 44) = sepB i := by
   unfold sepB
   by_cases hi : i = 0
   ·
    rw [if_pos (by omega), if_pos hi]
   ·
    rw [if_neg (by omega), if_neg hi]
  rw [hsep]
  have hr : Ev (fun k => wrT k t (pos : Int) (acc ++ [sepB i])) (acc ++ (sepB i :: (bl c.f0 ++ b1 ++ closeB (ar c))), ((pos + 1 + l1.length : Nat) : Int)) := by
   refine Ev.step (fun k => (show wrT (k + 1) t (pos : Int) (acc ++ [sepB i]) = _ from by rw [wrT])) ?_
   simp only [rd_cel hd]
   refine evIfp (by omega) (evIfp (by omega) (evIfp (by simp only [List.length_append, List.length_cons, List.length_nil]; omega) ?_))
   have e1 := ih1 (pos + 1) (l2 ++ q) (acc ++ [sepB i] ++ bl c.f0) (ar_le hcc) (by omega) (by rw [p3]; simp) (fun x hx => hc x (List.mem_cons_of_mem _ (List.mem_append_left _ hx))) (by simp only [List.length_append, List.length_cons, List.length_nil]; omega)
   rw [ar_eq hcc]
   rw [wrap_up (i := (pos : Int)) (by omega) (by omega)]
   refine Ev.bind e1 ?_
   by_cases ha : ar c = 0
   ·
    refine evIfn (by omega) ?_
    have : closeB (ar c) = [] := by unfold closeB; exact if_pos ha
    rw [this]
    simp only [List.append_assoc, List.cons_append, List.nil_append, List.append_nil]
    exact Ev.now _
   ·
    have hcl : closeB (ar c) = [41] := by unfold closeB; exact if_neg ha
    rw [hcl] at hl ⊢
    refine evIfp (by omega) (evIfp (by simp only [List.length_append, List.length_cons, List.length_nil] at hl ⊢; omega) ?_)
    simp only [List.append_assoc, List.cons_append, List.nil_append, List.append_nil]
    exact Ev.now _
  refine Ev.bind hr ?_
  rw [wrap_up (i := (i : Int)) (by omega) (by omega)]
  have hpl : t.drop (pos + 1 + l1.length) = l2 ++ q := by
   rw [← List.drop_drop, p3, List.append_assoc, List.drop_left]
  have hpn : pos + 1 + l1.length ≤ t.length := by
   have := congrArg List.length p3
   simp only [List.length_drop, List.length_append] at this
   omega
  have e2 := ih2 (pos + 1 + l1.length) q (acc ++ (sepB i :: (bl c.f0 ++ b1 ++ closeB (ar c)))) hn hpn hpl (fun x hx => hc x (List.mem_cons_of_mem _ (List.mem_append_right _ hx))) (by simp only [List.length_append, List.length_cons]; omega)
  have g1 : acc ++ sepB i :: (bl c.f0 ++ b1 ++ closeB (ar c) ++ b2) = acc ++ sepB i :: (bl c.f0 ++ b1 ++ closeB (ar c)) ++ b2 := by simp
  have g2 : pos + (c :: (l1 ++ l2)).length = pos + 1 + l1.length + l2.length := by simp; omega
  rw [g1, g2]
  exact e2
theorem tx_term {t : List Cel} (h : checkS t = 0) : ∃ c l b d, t = c :: l ∧ Tx 0 (ar c) l b d ∧ (∀ x ∈ c :: l, Okc x) ∧ (c :: l).length ≤ 64 := by
 obtain ⟨h1, h2, h3⟩ := checkS_ok h
 rcases t with _ | ⟨c, l⟩
 ·
  cases h3
 have h4 : segN l (0 + ar c) = some [] := h3
 rw [Nat.zero_add] at h4
 obtain ⟨b, d, ht⟩ := tx_of l.length l 0 (ar c) (Nat.le_refl _) (Nat.zero_le _) h4
 exact ⟨c, l, b, d, rfl, ht, h2, h1⟩
def txtL (c : Cel) (b : List UInt8) : List UInt8 := bl c.f0 ++ b ++ closeB (ar c)
def txtB (c : Cel) (b : List UInt8) : ByteArray := ⟨(txtL c b).toArray⟩
theorem txt_bl (c : Cel) (b : List UInt8) : bl (txtB c b) = txtL c b := rfl
theorem txt_len {c : Cel} {l : List Cel} {b : List UInt8} {d : Nat} (h : Tx 0 (ar c) l b d) (ho : ∀ x ∈ c :: l, Okc x) (hl : (c :: l).length ≤ 64) : (txtL c b).length ≤ 640 ∧ txtL c b ≠ [] := by
 have h1 := tx_len h fun x hx => ho x (List.mem_cons_of_mem _ hx)
 have hk := kindS_size (ho c (List.mem_cons_self ..)).kind
 have hb := bl_len c.f0
 have hcl : (closeB (ar c)).length ≤ 1 := by unfold closeB; split <;> simp
 unfold txtL
 simp only [List.length_cons] at hl
 refine ⟨by simp only [List.length_append]; omega, fun he => ?_⟩
 have := congrArg List.length he
 simp only [List.length_append, List.length_nil] at this
 omega
theorem ev_print {c : Cel} {l : List Cel} {b : List UInt8} {d : Nat} (h : Tx 0 (ar c) l b d) (ho : ∀ x ∈ c :: l, Okc x) (hl : (c :: l).length ≤ 64) : Ev (fun k => term_Print.f k (c :: l)) (txtB c b, 0) := by
 have hck : checkS (c :: l) = 0 := by
  refine checkS_of hl ho ?_
  show segN l (0 + ar c) = some []
  have := tx_seg h
  rw [Nat.zero_add]
  exact this
 have hlen := txt_len h ho hl
 have hcc := ho c (List.mem_cons_self ..)
 have h1 := tx_len h fun x hx => ho x (List.mem_cons_of_mem _ hx)
 have hk := kindS_size hcc.kind
 have hb := bl_len c.f0
 simp only [List.length_cons] at hl
 unfold term_Print.f printF
 refine Ev.bind (ev_check _) ?_
 refine evIfp hck ?_
 have hr : Ev (fun k => wrT k (c :: l) 0 []) (txtL c b, ((1 + l.length : Nat) : Int)) := by
  refine Ev.step (fun k => (show wrT (k + 1) (c :: l) 0 [] = _ from by rw [wrT])) ?_
  have hrd : rd_T48 (c :: l) 0 = c := rd_cel (t := c :: l) (n := 0) (c := c) (s := l) rfl
  simp only [hrd]
  refine evIfp (by omega) (evIfp (by simp) (evIfp (by simp only [List.length_nil]; omega) ?_))
  have e1 := ev_wrL (c :: l) (by simp; omega) h 1 [] ([] ++ bl c.f0) (ar_le hcc) (by simp) (by simp) (fun x hx => ho x (List.mem_cons_of_mem _ hx)) (by simp only [List.length_append, List.length_nil]; omega)
  rw [ar_eq hcc, show wrap64 (0 + 1) = ((1 : Nat) : Int) from up_cast 0 (by omega)]
  refine Ev.bind e1 ?_
  by_cases ha : ar c = 0
  ·
   refine evIfn (by omega) ?_
   have : closeB (ar c) = [] := by unfold closeB; exact if_pos ha
   unfold txtL
   rw [this]
   simp only [List.nil_append, List.append_nil]
   exact Ev.now _
  ·
   have hcl : closeB (ar c) = [41] := by unfold closeB; exact if_neg ha
   refine evIfp (by omega) (evIfp (by simp only [List.length_append, List.length_nil]; omega) ?_)
   unfold txtL
   rw [hcl]
   simp only [List.nil_append]
   exact Ev.now _
 refine Ev.bind hr ?_
 refine evIfn hlen.2 (evIfp (by simp only; omega) ?_)
 exact Ev.now _
theorem ev_print_no {t : List Cel} (h : ¬ checkS t = 0) : Ev (fun k => term_Print.f k t) (⟨#[]⟩, checkS t) := by
 unfold term_Print.f printF
 refine Ev.bind (ev_check t) ?_
 exact evIfn h (Ev.now _)
end Go.Proofs.YtmlddeogmckgmaaGreatDoor.P

-- ==== PLv
/- Plain laws: a term's variables, its arguments and its text: the program's answers and the document's. -/
namespace Go.Proofs.YtmlddeogmckgmaaGreatDoor.P
open Go.RowKit Go.Proofs.YtmlddeogmckgmaaGreatDoorW.PrintWords
instance txtMem (a : ByteArray) (l : List ByteArray) : Decidable (a ∈ l) :=
 if h : l.any (fun b => decide (a = b)) = true then isTrue (by obtain ⟨b, h1, h2⟩ := List.any_eq_true.1 h; rw [of_decide_eq_true h2]; exact h1) else isFalse (fun h1 => h (List.any_eq_true.2 ⟨a, h1, decide_eq_true rfl⟩))
theorem rd_txt {t : List ByteArray} {n : Nat} {c : ByteArray} {s : List ByteArray} (h : t.drop n = c :: s) : rdOf ByteArray.empty t (n : Int) = c := by
 unfold rdOf
 exact (drop_cons h).2.1 _
theorem ev_index_loop (l : List ByteArray) (a : ByteArray) (hl : l.length ≤ 9223372036854775806) : ∀ (u : List ByteArray) (i : Nat), i ≤ l.length → l.drop i = u →
 ∃ r, Ev (fun k => slices_Index_string_string.l0 k l a (l.length : Int) (i : Int)) r ∧ decide (r ≥ 0) = decide (a ∈ u)
 | [], i, hi, hu => by
  have h1 := drop_nil_len hi hu
  refine ⟨-1, Ev.step (fun k => (show slices_Index_string_string.l0 (k + 1) l a (l.length : Int) (i : Int) = _ from by rw [slices_Index_string_string.l0])) ?_, by simp⟩
  exact evIfn (by omega) (Ev.now _)
 | b :: u, i, hi, hu => by
  obtain ⟨h1, _, h3⟩ := drop_cons hu
  by_cases hab : a.toList = b.toList
  ·
   refine ⟨(i : Int), Ev.step (fun k => (show slices_Index_string_string.l0 (k + 1) l a (l.length : Int) (i : Int) = _ from by rw [slices_Index_string_string.l0])) ?_, ?_⟩
   ·
    refine evIfp (by omega) (evIfp (by omega) (evIfp (by omega) ?_))
    rw [rd_txt hu]
    exact evIfp hab (Ev.now _)
   ·
    rw [(bytes_eq a b).1 hab]
    simp
  ·
   obtain ⟨r, hr, he⟩ := ev_index_loop l a hl u (i + 1) (by omega) h3
   refine ⟨r, Ev.step (fun k => (show slices_Index_string_string.l0 (k + 1) l a (l.length : Int) (i : Int) = _ from by rw [slices_Index_string_string.l0])) ?_, ?_⟩
   ·
    refine evIfp (by omega) (evIfp (by omega) (evIfp (by omega) ?_))
    rw [rd_txt hu]
    refine evIfn hab ?_
    rw [up_cast i (by omega)]
    exact hr
   ·
    rw [he]
    have : a ≠ b := fun h => hab (by rw [h])
    simp [this]
theorem ev_contains (l : List ByteArray) (a : ByteArray) (hl : l.length ≤ 9223372036854775806) : Ev (fun k => slices_Contains_string_string.f k l a) (decide (a ∈ l)) := by
 unfold slices_Contains_string_string.f slices_Index_string_string.f
 obtain ⟨r, hr, he⟩ := ev_index_loop l a hl l 0 (by omega) rfl
 refine Ev.bind hr ?_
 rw [he]
 exact Ev.now _
theorem ev_has_loop (l : List ByteArray) (a : ByteArray) (hl : l.length ≤ 9223372036854775806) : ∀ (u : List ByteArray) (i : Nat), i ≤ l.length → l.drop i = u →
 Ev (fun k => aumbryref03_Has.l0 k l a (l.length : Int) (i : Int)) (decide (a ∈ u))
 | [], i, hi, hu => by
  have h1 := drop_nil_len hi hu
  refine Ev.step (fun k => (show aumbryref03_Has.l0 (k + 1) l a (l.length : Int) (i : Int) = _ from by rw [aumbryref03_Has.l0])) ?_
  exact evIfn (by omega) (Ev.now _)
 | b :: u, i, hi, hu => by
  obtain ⟨h1, _, h3⟩ := drop_cons hu
  refine Ev.step (fun k => (show aumbryref03_Has.l0 (k + 1) l a (l.length : Int) (i : Int) = _ from by rw [aumbryref03_Has.l0])) ?_
  refine evIfp (by omega) (evIfp (by omega) (evIfp (by omega) ?_))
  rw [rd_txt hu]
  by_cases hab : b.toList = a.toList
  ·
   have : decide (a ∈ b :: u) = true := by rw [(bytes_eq b a).1 hab]; simp
   rw [this]
   exact evIfp hab (Ev.now _)
  ·
   have : decide (a ∈ b :: u) = decide (a ∈ u) := by
    have : a ≠ b := fun h => hab (by rw [h])
    simp [this]
   rw [this]
   refine evIfn hab ?_
   rw [up_cast i (by omega)]
   exact ev_has_loop l a hl u (i + 1) (by omega) h3
theorem ev_has (l : List ByteArray) (a : ByteArray) (hl : l.length ≤ 9223372036854775806) : Ev (fun k => aumbryref03_Has.f k l a) (decide (a ∈ l)) := by
 unfold aumbryref03_Has.f
 exact ev_has_loop l a hl l 0 (by omega) rfl
def varsS : List ByteArray → List Cel → List ByteArray
 | out, [] => out
 | out, c :: l => if kindS c.f0 = 2 then (if c.f0 ∈ out then varsS out l else varsS (out ++ [c.f0]) l) else varsS out l
theorem ev_vars_loop (t : List Cel) (ht : t.length ≤ 1000) : ∀ (u : List Cel) (i : Nat) (out : List ByteArray), i ≤ t.length → t.drop i = u → out.length ≤ i →
 Ev (fun k => term_Vars.l0 k out t (t.length : Int) (i : Int)) (varsS out u, 0)
 | [], i, out, hi, hu, ho => by
  have h1 := drop_nil_len hi hu
  refine Ev.step (fun k => (show term_Vars.l0 (k + 1) out t (t.length : Int) (i : Int) = _ from by rw [term_Vars.l0])) ?_
  exact evIfn (by omega) (Ev.now _)
 | c :: u, i, out, hi, hu, ho => by
  obtain ⟨h1, _, h3⟩ := drop_cons hu
  refine Ev.step (fun k => (show term_Vars.l0 (k + 1) out t (t.length : Int) (i : Int) = _ from by rw [term_Vars.l0])) ?_
  refine evIfp (by omega) (evIfp (by omega) (evIfp (by omega) ?_))
  simp only [rd_cel hu, up_cast i (by omega)]
  refine Ev.bind (ev_kind c.f0) ?_
  have hv : varsS out (c :: u) = if kindS c.f0 = 2 then (if c.f0 ∈ out then varsS out u else varsS (out ++ [c.f0]) u) else varsS out u := rfl
  by_cases hk : kindS c.f0 = 2
  ·
   refine evIfp hk ?_
   rw [hv, if_pos hk]
   refine Ev.bind (ev_contains out c.f0 (by omega)) ?_
   by_cases hm : c.f0 ∈ out
   ·
    rw [if_pos hm]
    exact evIfp (decide_eq_true hm) (ev_vars_loop t ht u (i + 1) out (by omega) h3 (by omega))
   ·
    rw [if_neg hm]
    exact evIfn (by simpa using hm) (evIfp (by omega) (ev_vars_loop t ht u (i + 1) (out ++ [c.f0]) (by omega) h3 (by simp; omega)))
  ·
   refine evIfn hk ?_
   rw [hv, if_neg hk]
   exact ev_vars_loop t ht u (i + 1) out (by omega) h3 (by omega)
theorem ev_rvars_loop (t : List Cel) (ht : t.length ≤ 1000) : ∀ (u : List Cel) (i : Nat) (out : List ByteArray), i ≤ t.length → t.drop i = u → out.length ≤ i →
 Ev (fun k => aumbryref04_Vars.l0 k t out (t.length : Int) (i : Int)) (varsS out u)
 | [], i, out, hi, hu, ho => by
  have h1 := drop_nil_len hi hu
  refine Ev.step (fun k => (show aumbryref04_Vars.l0 (k + 1) t out (t.length : Int) (i : Int) = _ from by rw [aumbryref04_Vars.l0])) ?_
  exact evIfn (by omega) (Ev.now _)
 | c :: u, i, out, hi, hu, ho => by
  obtain ⟨h1, _, h3⟩ := drop_cons hu
  refine Ev.step (fun k => (show aumbryref04_Vars.l0 (k + 1) t out (t.length : Int) (i : Int) = _ from by rw [aumbryref04_Vars.l0])) ?_
  refine evIfp (by omega) (evIfp (by omega) (evIfp (by omega) ?_))
  simp only [rd_cel hu, up_cast i (by omega)]
  refine Ev.bind (ev_refKind c.f0) ?_
  have hv : varsS out (c :: u) = if kindS c.f0 = 2 then (if c.f0 ∈ out then varsS out u else varsS (out ++ [c.f0]) u) else varsS out u := rfl
  by_cases hk : kindS c.f0 = 2
  ·
   refine evIfp hk ?_
   rw [hv, if_pos hk]
   refine Ev.bind (ev_has out c.f0 (by omega)) ?_
   by_cases hm : c.f0 ∈ out
   ·
    rw [if_pos hm]
    exact evIfp (decide_eq_true hm) (ev_rvars_loop t ht u (i + 1) out (by omega) h3 (by omega))
   ·
    rw [if_neg hm]
    exact evIfn (by simpa using hm) (evIfp (by omega) (ev_rvars_loop t ht u (i + 1) (out ++ [c.f0]) (by omega) h3 (by simp; omega)))
  ·
   refine evIfn hk ?_
   rw [hv, if_neg hk]
   exact ev_rvars_loop t ht u (i + 1) out (by omega) h3 (by omega)
theorem ev_vars {t : List Cel} (h : checkS t = 0) : Ev (fun k => term_Vars.f k t) (varsS [] t, 0) := by
 have := checkS_len h
 unfold term_Vars.f
 refine Ev.bind (ev_check t) (evIfp h ?_)
 exact ev_vars_loop t (by omega) t 0 [] (by omega) rfl (by simp)
theorem ev_vars_no {t : List Cel} (h : ¬ checkS t = 0) : Ev (fun k => term_Vars.f k t) ([], checkS t) := by
 unfold term_Vars.f
 exact Ev.bind (ev_check t) (evIfn h (Ev.now _))
theorem ev_rvars {t : List Cel} (h : t.length ≤ 1000) : Ev (fun k => aumbryref04_Vars.f k t) (varsS [] t) := by
 unfold aumbryref04_Vars.f
 exact ev_rvars_loop t h t 0 [] (by omega) rfl (by simp)
theorem varsS_len : ∀ (u : List Cel) (out : List ByteArray), (varsS out u).length ≤ out.length + u.length
 | [], out => by simp [varsS]
 | c :: u, out => by
  have hv : varsS out (c :: u) = if kindS c.f0 = 2 then (if c.f0 ∈ out then varsS out u else varsS (out ++ [c.f0]) u) else varsS out u := rfl
  have h1 := varsS_len u out
  have h2 := varsS_len u (out ++ [c.f0])
  rw [hv]
  simp only [List.length_append, List.length_cons, List.length_nil] at h2 ⊢
  split
  ·
   split <;> omega
  ·
   omega
theorem bl_append (a b : ByteArray) : bl (a ++ b) = bl a ++ bl b := by
 unfold bl
 rw [ByteArray.data_append, Array.toList_append]
end Go.Proofs.YtmlddeogmckgmaaGreatDoor.P

-- ==== PL6
/- Plain laws of chapter 6: whether a rule may be: the program's answer and the document's come to one function. -/
namespace Go.Proofs.YtmlddeogmckgmaaGreatDoor.P
open Go.RowKit Go.Proofs.YtmlddeogmckgmaaGreatDoorW.PrintWords
abbrev zc : Cel := z48
def ruleS (id : Int) (l r : List Cel) : Int := if id < 0 then 1 else if id > 65535 then 1 else if checkS l = 0 then (if checkS r = 0 then (if l.length > 8 then 6 else if r.length > 8 then 6 else
 if kindS (l.getD 0 zc).f0 = 2 then 20 else if (varsS [] r).all (fun v => decide (v ∈ varsS [] l)) = true then 0 else 7) else checkS r) else checkS l
theorem ev_strF (vl : List ByteArray) (hl : vl.length ≤ 9223372036854775806) : ∀ vr : List ByteArray, Ev (fun k => strF k vl vr) (!(vr.all (fun v => decide (v ∈ vl))))
 | [] => Ev.now _
 | v :: u => by
  have e : (fun k => strF k vl (v :: u)) = (fun k => (slices_Contains_string_string.f k vl v).bind fun b => if b = true then strF k vl u else some true) := rfl
  rw [e]
  refine Ev.bind (ev_contains vl v hl) ?_
  by_cases hv : v ∈ vl
  ·
   refine evIfp (decide_eq_true hv) ?_
   have : (v :: u).all (fun v => decide (v ∈ vl)) = u.all (fun v => decide (v ∈ vl)) := by simp [hv]
   rw [this]
   exact ev_strF vl hl u
  ·
   refine evIfn (by simpa using hv) ?_
   have : (v :: u).all (fun v => decide (v ∈ vl)) = false := by simp [hv]
   rw [this]
   exact Ev.now _
theorem ok_pos {l : List Cel} (h : checkS l = 0) : 0 < l.length := by
 obtain ⟨c, u, _, _, rfl, _⟩ := tx_term h
 simp
theorem vars_len {l : List Cel} (h : checkS l = 0) : (varsS [] l).length ≤ 64 := by
 have := varsS_len l []
 have := checkS_len h
 simp only [List.length_nil] at *
 omega
theorem ev_rch (id : Int) (l r : List Cel) : Ev (fun k => rule_Check.f k id l r) (ruleS id l r) := by
 unfold rule_Check.f rchF ruleS
 by_cases h1 : id < 0
 ·
  simp only [if_pos h1]; exact Ev.now _
 simp only [if_neg h1]
 by_cases h2 : id > 65535
 ·
  simp only [if_pos h2]; exact Ev.now _
 simp only [if_neg h2]
 refine Ev.bind (ev_check l) ?_
 by_cases h3 : checkS l = 0
 case neg =>
  refine evIfn h3 ?_
  rw [if_neg h3]
  exact Ev.now _
 refine evIfp h3 ?_
 rw [if_pos h3]
 refine Ev.bind (ev_check r) ?_
 by_cases h4 : checkS r = 0
 case neg =>
  refine evIfn h4 ?_
  rw [if_neg h4]
  exact Ev.now _
 refine evIfp h4 ?_
 rw [if_pos h4]
 by_cases h5 : l.length > 8
 ·
  simp only [if_pos h5]; exact Ev.now _
 simp only [if_neg h5]
 by_cases h6 : r.length > 8
 ·
  simp only [if_pos h6]; exact Ev.now _
 simp only [if_neg h6]
 refine evIfp (ok_pos h3) ?_
 refine Ev.bind (ev_kind _) ?_
 have e : rd_T48 l 0 = l.getD 0 zc := rfl
 rw [e]
 by_cases h7 : kindS (l.getD 0 zc).f0 = 2
 ·
  refine evIfp h7 ?_
  rw [if_pos h7]
  exact Ev.now _
 refine evIfn h7 ?_
 rw [if_neg h7]
 refine Ev.bind (ev_vars h3) (Ev.bind (ev_vars h4) ?_)
 refine Ev.bind (ev_strF (varsS [] l) (by have := vars_len h3; omega) (varsS [] r)) ?_
 by_cases h8 : (varsS [] r).all (fun v => decide (v ∈ varsS [] l)) = true
 ·
  rw [if_pos h8, h8]
  exact Ev.now _
 ·
  have h9 : (varsS [] r).all (fun v => decide (v ∈ varsS [] l)) = false := by simpa using h8
  rw [if_neg h8, h9]
  exact Ev.now _
theorem one_var {l : List Cel} (h : checkS l = 0) (hk : kindS (l.getD 0 zc).f0 = 2) : l.length = 1 := by
 obtain ⟨c, u, b, d, rfl, h1, h2, _⟩ := tx_term h
 have hc := h2 c (List.mem_cons_self ..)
 have ha : ar c = 0 := by unfold ar; rw [hc.var hk]; rfl
 rw [ha] at h1
 have := tx_seg h1
 rw [Nat.sub_zero, segN_zero] at this
 injection this with this
 rw [this]
 rfl
theorem ev_rcheck_loop (vl vr : List ByteArray) (hl : vl.length ≤ 9223372036854775806) (hr : vr.length ≤ 9223372036854775806) : ∀ (u : List ByteArray) (i : Nat), i ≤ vr.length → vr.drop i = u →
 Ev (fun k => aumbryref06_Check.l0 k vl vr (vr.length : Int) (i : Int)) (if u.all (fun v => decide (v ∈ vl)) = true then 0 else 7)
 | [], i, hi, hu => by
  have h1 := drop_nil_len hi hu
  refine Ev.step (fun k => (show aumbryref06_Check.l0 (k + 1) vl vr (vr.length : Int) (i : Int) = _ from by rw [aumbryref06_Check.l0])) ?_
  exact evIfn (by omega) (Ev.now _)
 | v :: u, i, hi, hu => by
  obtain ⟨h1, _, h3⟩ := drop_cons hu
  refine Ev.step (fun k => (show aumbryref06_Check.l0 (k + 1) vl vr (vr.length : Int) (i : Int) = _ from by rw [aumbryref06_Check.l0])) ?_
  refine evIfp (by omega) (evIfp (by omega) (evIfp (by omega) ?_))
  rw [rd_txt hu, up_cast i (by omega)]
  refine Ev.bind (ev_has vl v hl) ?_
  by_cases hv : v ∈ vl
  ·
   refine evIfp (decide_eq_true hv) ?_
   have : (v :: u).all (fun v => decide (v ∈ vl)) = u.all (fun v => decide (v ∈ vl)) := by simp [hv]
   rw [this]
   exact ev_rcheck_loop vl vr hl hr u (i + 1) (by omega) h3
  ·
   refine evIfn (by simpa using hv) ?_
   have : (v :: u).all (fun v => decide (v ∈ vl)) = false := by simp [hv]
   rw [this]
   exact Ev.now _
theorem ev_rcheck (id : Int) (l r : List Cel) : Ev (fun k => aumbryref06_Check.f k id l r) (ruleS id l r) := by
 have hj0t : ∀ q : Int, q = 1 → Ev (fun k => aumbryref06_Check.j0 k true id l r) q := fun q hq => by
  subst hq
  refine Ev.step (fun k => (show aumbryref06_Check.j0 (k + 1) true id l r = _ from by rw [aumbryref06_Check.j0])) ?_
  exact evIfp rfl (Ev.now _)
 have hj1t : ∀ q : Int, q = 6 → Ev (fun k => aumbryref06_Check.j1 k true id l r) q := fun q hq => by
  subst hq
  refine Ev.step (fun k => (show aumbryref06_Check.j1 (k + 1) true id l r = _ from by rw [aumbryref06_Check.j1])) ?_
  exact evIfp rfl (Ev.now _)
 unfold aumbryref06_Check.f ruleS
 by_cases h1 : id < 0
 ·
  rw [if_pos h1]
  exact evIfp h1 (hj0t _ rfl)
 rw [if_neg h1]
 refine evIfn h1 ?_
 by_cases h2 : id > 65535
 ·
  rw [if_pos h2, decide_eq_true h2]
  exact hj0t _ rfl
 rw [if_neg h2, decide_eq_false h2]
 refine Ev.step (fun k => (show aumbryref06_Check.j0 (k + 1) false id l r = _ from by rw [aumbryref06_Check.j0])) ?_
 refine evIfn (by simp) ?_
 refine Ev.bind (ev_refCheck l) ?_
 by_cases h3 : checkS l = 0
 case neg =>
  refine evIfn h3 ?_
  rw [if_neg h3]
  exact Ev.now _
 refine evIfp h3 ?_
 rw [if_pos h3]
 refine Ev.bind (ev_refCheck r) ?_
 by_cases h4 : checkS r = 0
 case neg =>
  refine evIfn h4 ?_
  rw [if_neg h4]
  exact Ev.now _
 refine evIfp h4 ?_
 rw [if_pos h4]
 have hl64 := checkS_len h3
 have hr64 := checkS_len h4
 by_cases h5 : l.length > 8
 ·
  rw [if_pos h5]
  exact evIfp (by omega) (hj1t _ rfl)
 rw [if_neg h5]
 refine evIfn (by omega) ?_
 by_cases h6 : r.length > 8
 ·
  rw [if_pos h6, decide_eq_true (show (r.length : Int) > 8 by omega)]
  exact hj1t _ rfl
 rw [if_neg h6, decide_eq_false (show ¬ (r.length : Int) > 8 by omega)]
 refine Ev.step (fun k => (show aumbryref06_Check.j1 (k + 1) false id l r = _ from by rw [aumbryref06_Check.j1])) ?_
 refine evIfn (by simp) ?_
 have hvar : Ev (fun k => aumbryref05_Var.f k l) (decide (kindS (l.getD 0 zc).f0 = 2)) := by
  unfold aumbryref05_Var.f
  by_cases h7 : (l.length : Int) = 1
  ·
   refine evIfp h7 (evIfp (by omega) ?_)
   refine Ev.bind (ev_refKind _) ?_
   have e : rd_T48 l 0 = l.getD 0 zc := rfl
   rw [e]
   exact Ev.now _
  ·
   refine evIfn h7 ?_
   have : ¬ kindS (l.getD 0 zc).f0 = 2 := fun hk => h7 (by have := one_var h3 hk; omega)
   rw [decide_eq_false this]
   exact Ev.now _
 refine Ev.bind hvar ?_
 by_cases h7 : kindS (l.getD 0 zc).f0 = 2
 ·
  rw [if_pos h7]
  exact evIfp (decide_eq_true h7) (Ev.now _)
 rw [if_neg h7]
 refine evIfn (by simpa using h7) ?_
 refine Ev.bind (ev_rvars (by omega)) (Ev.bind (ev_rvars (by omega)) ?_)
 exact ev_rcheck_loop _ _ (by have := vars_len h3; omega) (by have := vars_len h4; omega) _ 0 (by omega) rfl
theorem ruleS_ok {id : Int} {l r : List Cel} (h : ruleS id l r = 0) : checkS l = 0 ∧ checkS r = 0 ∧ l.length ≤ 8 ∧ r.length ≤ 8 ∧ kindS (l.getD 0 zc).f0 ≠ 2 ∧ (∀ v ∈ varsS [] r, v ∈ varsS [] l) ∧ 0 ≤ id ∧ id ≤ 65535 := by
 unfold ruleS at h
 by_cases h1 : id < 0
 ·
  rw [if_pos h1] at h; cases h
 rw [if_neg h1] at h
 by_cases h2 : id > 65535
 ·
  rw [if_pos h2] at h; cases h
 rw [if_neg h2] at h
 by_cases h3 : checkS l = 0
 case neg => rw [if_neg h3] at h; exact absurd h h3
 rw [if_pos h3] at h
 by_cases h4 : checkS r = 0
 case neg => rw [if_neg h4] at h; exact absurd h h4
 rw [if_pos h4] at h
 by_cases h5 : l.length > 8
 ·
  rw [if_pos h5] at h; cases h
 rw [if_neg h5] at h
 by_cases h6 : r.length > 8
 ·
  rw [if_pos h6] at h; cases h
 rw [if_neg h6] at h
 by_cases h7 : kindS (l.getD 0 zc).f0 = 2
 ·
  rw [if_pos h7] at h; cases h
 rw [if_neg h7] at h
 by_cases h8 : (varsS [] r).all (fun v => decide (v ∈ varsS [] l)) = true
 case neg => rw [if_neg h8] at h; cases h
 exact ⟨h3, h4, by omega, by omega, h7, fun v hv => of_decide_eq_true (List.all_eq_true.1 h8 v hv), by omega, by omega⟩
end Go.Proofs.YtmlddeogmckgmaaGreatDoor.P

-- ==== PL4r
/- Plain laws of chapter 4: reading: what the program's reader and the document's come to, for every text; a term's text is read as the term. -/
namespace Go.Proofs.YtmlddeogmckgmaaGreatDoor.P
open Go.RowKit Go.Proofs.YtmlddeogmckgmaaGreatDoorW.PrintWords
abbrev RdR := Sum (Int × Int) (Int × List Cel)
theorem nxL_cons {s : ByteArray} {j : Nat} {x : UInt8} {r : List UInt8} (h : (bl s).drop j = x :: r) : nxL s j = (x.toNat : Int) := by
 unfold nxL
 rw [h]
theorem nxL_pos {s : ByteArray} {j : Nat} {c : Int} (h : nxL s j = c) (hc : c ≠ 0) : ∃ x r, (bl s).drop j = x :: r ∧ (x.toNat : Int) = c := by
 unfold nxL at h
 cases hd : (bl s).drop j with
 | nil => rw [hd] at h; exact absurd h.symm hc
 | cons x r => rw [hd] at h; exact ⟨x, r, rfl, h⟩
theorem u8_of {x : UInt8} {n : Nat} (h : (x.toNat : Int) = (n : Int)) (hn : n < 256) : x = UInt8.ofNat n := by
 apply UInt8.toNat_inj.1
 rw [UInt8.toNat_ofNat']
 omega
theorem wdT_empty (s : ByteArray) (i : Nat) : (wdT s i).toList = [] ↔ wdL s i = [] := by
 rw [toList_nil, ← bl_len, wdT_bl]
 exact List.length_eq_zero_iff
theorem drop_word (s : ByteArray) (i : Nat) : (bl s).drop i = wdL s i ++ (bl s).drop (i + (wdL s i).length) := by
 rw [wd_behind]
 exact (List.takeWhile_append_dropWhile).symm
theorem ev_rdTerm_at {s : ByteArray} {l : List Cel} {i : Nat} {r : RdR} (hs : s.size ≤ 100000) (hi : i ≤ s.size)
 (h : Ev (fun k => if (wdT s i).toList = [] then some (.inl ((i : Int), (3 : Int))) else if kindS (wdT s i) = 0 then some (.inl ((i : Int), (4 : Int))) else if (l.length : Int) = 64 then some (.inl ((i : Int), (6 : Int)))
  else if nxL s (i + (wdL s i).length) = 40 then (if kindS (wdT s i) = 2 then some (.inl (((i + (wdL s i).length : Nat) : Int), (5 : Int))) else rdArgs k s ((i + (wdL s i).length : Nat) : Int) (l ++ [⟨wdT s i, 0⟩]) l.length 1) else some (.inr (((i + (wdL s i).length : Nat) : Int), l ++ [⟨wdT s i, 0⟩]))) r) :
 Ev (fun k => rdTerm k s (i : Int) l) r := by
 refine Ev.step (fun k => (show rdTerm (k + 1) s (i : Int) l = _ from by rw [rdTerm])) ?_
 refine Ev.bind (ev_word s .nilIface hs i hi) ?_
 refine Ev.bind (ev_kind (wdT s i)) ?_
 simp only [nxS_eq s (i + (wdL s i).length) (wdL_bound hi)]
 exact h
theorem ev_rdArgs_inl {s : ByteArray} {l : List Cel} {i c : Nat} {n : Int} {x : Int × Int} (hi : i < 100000) (h : Ev (fun k => rdTerm k s ((i + 1 : Nat) : Int) l) (.inl x)) : Ev (fun k => rdArgs k s (i : Int) l c n) (.inl x) := by
 refine Ev.step (fun k => (show rdArgs (k + 1) s (i : Int) l c n = _ from by rw [rdArgs])) ?_
 rw [up_cast i (by omega)]
 exact Ev.bind h (Ev.now _)
theorem ev_rdArgs_inr {s : ByteArray} {l m : List Cel} {i c j : Nat} {n : Int} {r : RdR} (hi : i < 100000) (hj : j ≤ s.size) (hs : s.size ≤ 100000) (h : Ev (fun k => rdTerm k s ((i + 1 : Nat) : Int) l) (.inr ((j : Int), m))) (hc : c < m.length)
 (h2 : Ev (fun k => if nxL s j = 41 then some (.inr (((j + 1 : Nat) : Int), m.set c ⟨(rd_T48 m (c : Int)).f0, n⟩))
  else if nxL s j = 44 then (if n = 4 then some (.inl ((j : Int), (5 : Int))) else rdArgs k s (j : Int) (m.set c ⟨(rd_T48 m (c : Int)).f0, n⟩) c (wrap64 (n + 1))) else some (.inl ((j : Int), (3 : Int)))) r) :
 Ev (fun k => rdArgs k s (i : Int) l c n) r := by
 refine Ev.step (fun k => (show rdArgs (k + 1) s (i : Int) l c n = _ from by rw [rdArgs])) ?_
 rw [up_cast i (by omega)]
 refine Ev.bind h ?_
 refine evIfp hc ?_
 simp only [nxS_eq s j hj, up_cast j (by omega)]
 exact h2
theorem ev_read_scan {s : ByteArray} {l : List Cel} {i : Nat} {r : List Cel × Int × Int} (hs : s.size ≤ 100000) : ∀ (q : List UInt8) (j : Nat), j ≤ s.size → (bl s).drop j = q →
 Ev (fun k => aumbryref04_Read.j1 k s (i : Int) l ((j + (wdL s j).length : Nat) : Int)) r → Ev (fun k => aumbryref04_Read.l0 k s (i : Int) l (j : Int)) r
 | [], j, hj, hd, h => by
  have := bl_drop_nil hj hd
  rw [wdL_end hd] at h
  refine Ev.step (fun k => (show aumbryref04_Read.l0 (k + 1) s (i : Int) l (j : Int) = _ from by rw [aumbryref04_Read.l0])) ?_
  exact evIfn (by omega) h
 | x :: q, j, hj, hd, h => by
  obtain ⟨h1, h2, h3⟩ := bt_drop hd
  refine Ev.step (fun k => (show aumbryref04_Read.l0 (k + 1) s (i : Int) l (j : Int) = _ from by rw [aumbryref04_Read.l0])) ?_
  refine evIfp (by omega) (evIfp (by omega) ?_)
  refine Ev.bind (evIs (sign_eq _)) ?_
  rw [h2, up_cast j (by omega)]
  by_cases hx : signU x = true
  ·
   refine evIfp hx ?_
   rw [wdL_cons hd hx] at h
   refine ev_read_scan hs q (j + 1) (by omega) h3 ?_
   simp only [List.length_cons] at h
   rw [show j + 1 + (wdL s (j + 1)).length = j + ((wdL s (j + 1)).length + 1) by omega]
   exact h
  ·
   refine evIfn hx ?_
   rw [wdL_stop hd hx] at h
   exact h
theorem ev_Read_at {s : ByteArray} {l : List Cel} {i : Nat} {r : List Cel × Int × Int} (hs : s.size ≤ 100000) (hi : i ≤ s.size) (hl : l.length ≤ 64)
 (h : Ev (fun k => if (wdT s i).toList = [] then some (([] : List Cel), (i : Int), (3 : Int)) else if kindS (wdT s i) = 0 then some (([] : List Cel), (i : Int), (4 : Int)) else if (l.length : Int) = 64 then some (([] : List Cel), (i : Int), (6 : Int))
  else if nxL s (i + (wdL s i).length) = 40 then (if kindS (wdT s i) = 2 then some (([] : List Cel), ((i + (wdL s i).length : Nat) : Int), (5 : Int)) else aumbryref04_Read.l1 k s (l ++ [⟨wdT s i, 0⟩]) ((i + (wdL s i).length : Nat) : Int) (l.length : Int) 1) else some (l ++ [⟨wdT s i, 0⟩], ((i + (wdL s i).length : Nat) : Int), (0 : Int))) r) :
 Ev (fun k => aumbryref04_Read.f k s (i : Int) l) r := by
 have hb := wdL_bound (s := s) hi
 refine Ev.step (fun k => (show aumbryref04_Read.f (k + 1) s (i : Int) l = _ from by rw [aumbryref04_Read.f])) ?_
 refine ev_read_scan hs _ i hi rfl ?_
 refine Ev.step (fun k => (show aumbryref04_Read.j1 (k + 1) s (i : Int) l ((i + (wdL s i).length : Nat) : Int) = _ from by rw [aumbryref04_Read.j1])) ?_
 refine evIfp (by omega) (evIfp (by omega) (evIfp (by omega) ?_))
 have hw : s.extract ((i : Int)).toNat (((i + (wdL s i).length : Nat) : Int)).toNat = wdT s i := rfl
 simp only [hw]
 by_cases h1 : (wdT s i).toList = []
 ·
  simp only [if_pos h1] at h ⊢
  exact h
 ·
  simp only [if_neg h1] at h ⊢
  refine Ev.bind (ev_refKind _) ?_
  by_cases h2 : kindS (wdT s i) = 0
  ·
   simp only [if_pos h2] at h ⊢
   exact h
  ·
   simp only [if_neg h2] at h ⊢
   by_cases h3 : (l.length : Int) = 64
   ·
    simp only [if_pos h3] at h ⊢
    exact h
   ·
    simp only [if_neg h3] at h ⊢
    refine evIfp (by omega) ?_
    simp only [Option.bind_some]
    have hj2 : ∀ fl : Bool, Ev (fun k => if fl = true then some (l ++ [(⟨wdT s i, 0⟩ : Cel)], ((i + (wdL s i).length : Nat) : Int), (0 : Int)) else (if kindS (wdT s i) = 2 then some (([] : List Cel), ((i + (wdL s i).length : Nat) : Int), (5 : Int)) else aumbryref04_Read.l1 k s (l ++ [⟨wdT s i, 0⟩]) ((i + (wdL s i).length : Nat) : Int) (l.length : Int) 1)) r →
     Ev (fun k => aumbryref04_Read.j2 k s (l ++ [⟨wdT s i, 0⟩]) ((i + (wdL s i).length : Nat) : Int) (kindS (wdT s i)) (l.length : Int) fl) r := by
     intro fl hf
     refine Ev.step (fun k => (show aumbryref04_Read.j2 (k + 1) s (l ++ [⟨wdT s i, 0⟩]) ((i + (wdL s i).length : Nat) : Int) (kindS (wdT s i)) (l.length : Int) fl = _ from by rw [aumbryref04_Read.j2])) ?_
     exact hf
    cases hd : (bl s).drop (i + (wdL s i).length) with
    | nil =>
     have := bl_drop_nil hb hd
     have hn : nxL s (i + (wdL s i).length) = 0 := by unfold nxL; rw [hd]
     rw [hn] at h
     refine evIfp (by omega) (hj2 true ?_)
     simp only [if_true]
     simpa using h
    | cons x q =>
     obtain ⟨g1, g2, g3⟩ := bt_drop hd
     have hn := nxL_cons hd
     rw [hn] at h
     refine evIfn (by omega) (evIfp (by omega) (evIfp (by omega) ?_))
     rw [g2]
     refine hj2 _ ?_
     by_cases hx : (x.toNat : Int) = 40
     ·
      have e : ((x.toNat : Int) != 40) = false := by simp [hx]
      simp only [if_pos hx] at h
      rw [e]
      simpa using h
     ·
      have e : ((x.toNat : Int) != 40) = true := by simpa using hx
      simp only [if_neg hx] at h
      rw [e]
      simpa using h
theorem ev_Readl1_inl {s : ByteArray} {l : List Cel} {i c : Nat} {n p e : Int} (hi : i < 100000) (he : e ≠ 0) (h : Ev (fun k => aumbryref04_Read.f k s ((i + 1 : Nat) : Int) l) ([], p, e)) : Ev (fun k => aumbryref04_Read.l1 k s l (i : Int) (c : Int) n) ([], p, e) := by
 refine Ev.step (fun k => (show aumbryref04_Read.l1 (k + 1) s l (i : Int) (c : Int) n = _ from by rw [aumbryref04_Read.l1])) ?_
 rw [up_cast i (by omega)]
 refine Ev.bind h ?_
 exact evIfn he (Ev.now _)
theorem ev_Readl1_inr {s : ByteArray} {l m : List Cel} {i c j : Nat} {n : Int} {r : List Cel × Int × Int} (hi : i < 100000) (hj : j ≤ s.size) (hs : s.size ≤ 100000) (h : Ev (fun k => aumbryref04_Read.f k s ((i + 1 : Nat) : Int) l) (m, (j : Int), 0)) (hc : c < m.length)
 (h2 : Ev (fun k => if nxL s j = 41 then some (m.set c ⟨(rd_T48 m (c : Int)).f0, n⟩, ((j + 1 : Nat) : Int), (0 : Int))
  else if nxL s j = 44 then (if n = 4 then some (([] : List Cel), (j : Int), (5 : Int)) else aumbryref04_Read.l1 k s (m.set c ⟨(rd_T48 m (c : Int)).f0, n⟩) (j : Int) (c : Int) (wrap64 (n + 1))) else some (([] : List Cel), (j : Int), (3 : Int))) r) :
 Ev (fun k => aumbryref04_Read.l1 k s l (i : Int) (c : Int) n) r := by
 refine Ev.step (fun k => (show aumbryref04_Read.l1 (k + 1) s l (i : Int) (c : Int) n = _ from by rw [aumbryref04_Read.l1])) ?_
 rw [up_cast i (by omega)]
 refine Ev.bind h ?_
 refine evIfp rfl (evIfp (by omega) (evIfp (by simp only; omega) ?_))
 simp only [Option.bind_some, Int.toNat_natCast]
 generalize m.set c ⟨(rd_T48 m (c : Int)).f0, n⟩ = m' at h2 ⊢
 have hj5 : ∀ fl : Bool, Ev (fun k => if fl = true then some (([] : List Cel), (j : Int), (3 : Int)) else (if n = 4 then some (([] : List Cel), (j : Int), (5 : Int)) else aumbryref04_Read.l1 k s m' (j : Int) (c : Int) (wrap64 (n + 1)))) r →
  Ev (fun k => aumbryref04_Read.j5 k s m' (j : Int) (c : Int) n fl) r := by
  intro fl hf
  refine Ev.step (fun k => (show aumbryref04_Read.j5 (k + 1) s m' (j : Int) (c : Int) n fl = _ from by rw [aumbryref04_Read.j5])) ?_
  exact hf
 have hj4 : ∀ fl : Bool, Ev (fun k => if fl = true then some (m', ((j + 1 : Nat) : Int), (0 : Int)) else (if (j : Int) = (s.size : Int) then (aumbryref04_Read.j5 k s m' (j : Int) (c : Int) n true) else (if 0 ≤ (j : Int) then (if (j : Int) < (s.size : Int) then (aumbryref04_Read.j5 k s m' (j : Int) (c : Int) n ((bt s (j : Int)) != 44)) else none) else none))) r →
  Ev (fun k => aumbryref04_Read.j4 k s m' (j : Int) (c : Int) n fl) r := by
  intro fl hf
  refine Ev.step (fun k => (show aumbryref04_Read.j4 (k + 1) s m' (j : Int) (c : Int) n fl = _ from by rw [aumbryref04_Read.j4])) ?_
  rw [up_cast j (by omega)]
  exact hf
 cases hd : (bl s).drop j with
 | nil =>
  have := bl_drop_nil hj hd
  have hn : nxL s j = 0 := by unfold nxL; rw [hd]
  rw [hn] at h2
  refine evIfn (by omega) (hj4 false ?_)
  refine evIfn (by simp) (evIfp (by omega) (hj5 true ?_))
  simpa using h2
 | cons x q =>
  obtain ⟨g1, g2, g3⟩ := bt_drop hd
  have hn := nxL_cons hd
  rw [hn] at h2
  refine evIfp (by omega) (evIfp (by omega) ?_)
  rw [g2]
  refine hj4 _ ?_
  by_cases hx : (x.toNat : Int) = 41
  ·
   have e : ((x.toNat : Int) == 41) = true := by simp [hx]
   simp only [if_pos hx] at h2
   rw [e]
   simpa using h2
  ·
   have e : ((x.toNat : Int) == 41) = false := by simpa using hx
   simp only [if_neg hx] at h2
   rw [e]
   refine evIfn (by simp) (evIfn (by omega) (evIfp (by omega) (evIfp (by omega) ?_)))
   rw [g2]
   refine hj5 _ ?_
   by_cases hy : (x.toNat : Int) = 44
   ·
    have e : ((x.toNat : Int) != 44) = false := by simp [hy]
    simp only [if_pos hy] at h2
    rw [e]
    simpa using h2
   ·
    have e : ((x.toNat : Int) != 44) = true := by simpa using hy
    simp only [if_neg hy] at h2
    rw [e]
    simpa using h2
def cA : Sum (Nat × Int) (Nat × List Cel) → RdR
 | .inl x => .inl ((x.1 : Int), x.2)
 | .inr y => .inr ((y.1 : Int), y.2)
def cR : Sum (Nat × Int) (Nat × List Cel) → List Cel × Int × Int
 | .inl x => ([], (x.1 : Int), x.2)
 | .inr y => (y.2, (y.1 : Int), 0)
def RdOk (s : ByteArray) (pos : Nat) (acc : List Cel) : Sum (Nat × Int) (Nat × List Cel) → Prop
 | .inl x => x.1 ≤ s.size ∧ x.2 ≠ 0
 | .inr y => ∃ c l b d, y.2 = acc ++ c :: l ∧ Tx 0 (ar c) l b d ∧ (∀ x ∈ c :: l, Okc x) ∧ y.2.length ≤ 64 ∧ y.1 ≤ s.size ∧ pos < y.1 ∧ (bl s).drop pos = txtL c b ++ (bl s).drop y.1
def ArOk (s : ByteArray) (pos : Nat) (acc : List Cel) (cI i : Nat) : Sum (Nat × Int) (Nat × List Cel) → Prop
 | .inl x => x.1 ≤ s.size ∧ x.2 ≠ 0
 | .inr y => ∃ (N : Nat) (l : List Cel) (b : List UInt8) (d : Nat), i < N ∧ N ≤ 4 ∧ y.2 = acc.set cI ⟨(acc.getD cI z48).f0, (N : Int)⟩ ++ l ∧ Tx i N l b d ∧ (∀ x ∈ l, Okc x) ∧ y.2.length ≤ 64 ∧ y.1 ≤ s.size ∧ pos < y.1 ∧ (bl s).drop pos = b ++ 41 :: (bl s).drop y.1
theorem rd_getD (m : List Cel) (c : Nat) : rd_T48 m (c : Int) = m.getD c z48 := rfl
theorem getD_app {acc q : List Cel} {c : Nat} (h : c < acc.length) (z : Cel) : (acc ++ q).getD c z = acc.getD c z := by
 rw [List.getD_eq_getElem?_getD, List.getD_eq_getElem?_getD, List.getElem?_append_left h]
theorem getD_set {m : List Cel} {c : Nat} {x : Cel} (h : c < m.length) (z : Cel) : (m.set c x).getD c z = x := by
 rw [List.getD_eq_getElem?_getD, List.getElem?_set_self h]
 rfl
theorem set_app {acc q : List Cel} {c : Nat} {x : Cel} (h : c < acc.length) : (acc ++ q).set c x = acc.set c x ++ q := List.set_append_left c x h
theorem rd_sound (s : ByteArray) (hs : s.size ≤ 100000) : ∀ D : Nat,
 (∀ (pos : Nat) (acc : List Cel), s.size - pos < D → pos ≤ s.size → acc.length ≤ 64 → ∃ r, Ev (fun k => rdTerm k s (pos : Int) acc) (cA r) ∧ Ev (fun k => aumbryref04_Read.f k s (pos : Int) acc) (cR r) ∧ RdOk s pos acc r) ∧
 (∀ (pos : Nat) (acc : List Cel) (cI i : Nat) (q : List UInt8), s.size - pos < D → (bl s).drop pos = sepB i :: q → cI < acc.length → acc.length ≤ 64 → i < 4 → ∃ r, Ev (fun k => rdArgs k s (pos : Int) acc cI ((i + 1 : Nat) : Int)) (cA r) ∧ Ev (fun k => aumbryref04_Read.l1 k s acc (pos : Int) (cI : Int) ((i + 1 : Nat) : Int)) (cR r) ∧ ArOk s pos acc cI i r)
 | 0 => ⟨fun _ _ h => absurd h (Nat.not_lt_zero _), fun _ _ _ _ _ h => absurd h (Nat.not_lt_zero _)⟩
 | D + 1 => by
  obtain ⟨ihT, ihA⟩ := rd_sound s hs D
  constructor
  ·
   intro pos acc hD hp hl
   have hb := wdL_bound (s := s) hp
   have hdw := drop_word s pos
   by_cases h1 : (wdT s pos).toList = []
   ·
    refine ⟨.inl (pos, 3), ev_rdTerm_at hs hp (evIfp h1 (Ev.now _)), ev_Read_at hs hp hl (evIfp h1 (Ev.now _)), hp, show (3 : Int) ≠ 0 by decide⟩
   have h1' : wdL s pos ≠ [] := fun h => h1 ((wdT_empty s pos).2 h)
   have hw0 : 0 < (wdL s pos).length := List.length_pos_iff.2 h1'
   by_cases h2 : kindS (wdT s pos) = 0
   ·
    refine ⟨.inl (pos, 4), ev_rdTerm_at hs hp (evIfn h1 (evIfp h2 (Ev.now _))), ev_Read_at hs hp hl (evIfn h1 (evIfp h2 (Ev.now _))), hp, show (4 : Int) ≠ 0 by decide⟩
   by_cases h3 : (acc.length : Int) = 64
   ·
    refine ⟨.inl (pos, 6), ev_rdTerm_at hs hp (evIfn h1 (evIfn h2 (evIfp h3 (Ev.now _)))), ev_Read_at hs hp hl (evIfn h1 (evIfn h2 (evIfp h3 (Ev.now _)))), hp, show (6 : Int) ≠ 0 by decide⟩
   by_cases h4 : nxL s (pos + (wdL s pos).length) = 40
   ·
    by_cases h5 : kindS (wdT s pos) = 2
    ·
     refine ⟨.inl (pos + (wdL s pos).length, 5), ev_rdTerm_at hs hp (evIfn h1 (evIfn h2 (evIfn h3 (evIfp h4 (evIfp h5 (Ev.now _)))))), ev_Read_at hs hp hl (evIfn h1 (evIfn h2 (evIfn h3 (evIfp h4 (evIfp h5 (Ev.now _)))))), hb, show (5 : Int) ≠ 0 by decide⟩
    ·
     obtain ⟨x, q, hq, hx⟩ := nxL_pos h4 (by decide)
     have hx' : x = sepB 0 := u8_of (n := 40) hx (by decide)
     rw [hx'] at hq
     obtain ⟨r, e1, e2, e3⟩ := ihA (pos + (wdL s pos).length) (acc ++ [⟨wdT s pos, 0⟩]) acc.length 0 q (by have := (bt_drop hq).1; omega) hq (by simp) (by simp; omega) (by decide)
     refine ⟨r, ev_rdTerm_at hs hp (evIfn h1 (evIfn h2 (evIfn h3 (evIfp h4 (evIfn h5 e1))))), ev_Read_at hs hp hl (evIfn h1 (evIfn h2 (evIfn h3 (evIfp h4 (evIfn h5 e2))))), ?_⟩
     rcases r with ⟨p, e⟩ | ⟨j, m⟩
     ·
      exact e3
     ·
      obtain ⟨N, l, b, d, g1, g2, g3, g4, g5, g6, g7, g8, g9⟩ := e3
      have hcell : (acc ++ [(⟨wdT s pos, 0⟩ : Cel)]).getD acc.length z48 = ⟨wdT s pos, 0⟩ := by
       rw [List.getD_eq_getElem?_getD, List.getElem?_append_right (Nat.le_refl _), Nat.sub_self]
       rfl
      rw [hcell] at g3
      have hset : (acc ++ [(⟨wdT s pos, 0⟩ : Cel)]).set acc.length ⟨wdT s pos, (N : Int)⟩ = acc ++ [⟨wdT s pos, (N : Int)⟩] := by
       rw [List.set_append_right _ _ (Nat.le_refl _), Nat.sub_self]
       rfl
      have harN : ar (⟨wdT s pos, (N : Int)⟩ : Cel) = N := by unfold ar; simp
      refine ⟨⟨wdT s pos, (N : Int)⟩, l, b, d, ?_, by rw [harN]; exact g4, ?_, g6, g7, by simp only at g8; omega, ?_⟩
      ·
       rw [g3]
       simp only
       rw [hset]
       simp
      ·
       intro y hy
       rcases List.mem_cons.1 hy with rfl | hy
       ·
        exact ⟨h2, by simp only; omega, by simp only; omega, fun hk => absurd hk h5⟩
       ·
        exact g5 y hy
      ·
       rw [hdw, g9]
       unfold txtL closeB
       rw [harN, if_neg (by omega), wdT_bl]
       simp
   ·
    refine ⟨.inr (pos + (wdL s pos).length, acc ++ [⟨wdT s pos, 0⟩]), ev_rdTerm_at hs hp (evIfn h1 (evIfn h2 (evIfn h3 (evIfn h4 (Ev.now _))))), ev_Read_at hs hp hl (evIfn h1 (evIfn h2 (evIfn h3 (evIfn h4 (Ev.now _))))), ?_⟩
    refine ⟨⟨wdT s pos, 0⟩, [], [], 0, rfl, .done 0, ?_, by simp; omega, hb, by simp only; omega, ?_⟩
    ·
     intro y hy
     rw [List.mem_singleton.1 hy]
     exact ⟨h2, Int.le_refl _, show (0 : Int) ≤ 4 by decide, fun _ => rfl⟩
    ·
     rw [hdw]
     unfold txtL closeB
     rw [show ar (⟨wdT s pos, 0⟩ : Cel) = 0 from rfl, if_pos rfl, wdT_bl]
     simp
  ·
   intro pos acc cI i q hD hd hc hl hi
   obtain ⟨p1, p2, p3⟩ := bt_drop hd
   obtain ⟨r, e1, e2, e3⟩ := ihT (pos + 1) acc (by omega) (by omega) hl
   rcases r with ⟨p, e⟩ | ⟨j, m⟩
   ·
    exact ⟨.inl (p, e), ev_rdArgs_inl (by omega) e1, ev_Readl1_inl (by omega) e3.2 e2, e3⟩
   ·
    obtain ⟨c, l1, b1, d1, g1, g2, g3, g4, g5, g6, g7⟩ := e3
    simp only at g1 g4 g5 g6 g7
    have hcm : cI < m.length := by rw [g1, List.length_append]; omega
    have hnm : (rd_T48 m (cI : Int)).f0 = (acc.getD cI z48).f0 := by rw [rd_getD, g1, getD_app hc]
    have hset : ∀ N : Int, m.set cI ⟨(rd_T48 m (cI : Int)).f0, N⟩ = acc.set cI ⟨(acc.getD cI z48).f0, N⟩ ++ c :: l1 := by
     intro N
     rw [hnm, g1, set_app hc]
    have hdp : (bl s).drop pos = sepB i :: (txtL c b1 ++ (bl s).drop j) := by rw [hd, ← p3, g7]
    by_cases k1 : nxL s j = 41
    ·
     obtain ⟨x, q', hq, hx⟩ := nxL_pos k1 (by decide)
     have hx' : x = 41 := u8_of (n := 41) hx (by decide)
     rw [hx'] at hq
     have hj := bt_drop hq
     refine ⟨.inr (j + 1, m.set cI ⟨(rd_T48 m (cI : Int)).f0, ((i + 1 : Nat) : Int)⟩), ev_rdArgs_inr (by omega) g5 hs e1 hcm (evIfp k1 (Ev.now _)), ev_Readl1_inr (by omega) g5 hs e2 hcm (evIfp k1 (Ev.now _)), ?_⟩
     refine ⟨i + 1, c :: (l1 ++ []), _, _, by omega, by omega, ?_, Tx.arg (by omega) g2 (.done _), ?_, ?_, by simp only; omega, by simp only; omega, ?_⟩
     ·
      rw [hset]
      simp
     ·
      rw [List.append_nil]
      exact g3
     ·
      simp only [List.length_set]
      exact g4
     ·
      rw [hdp, hq, hj.2.2]
      unfold txtL
      simp
    ·
     by_cases k2 : nxL s j = 44
     ·
      by_cases k3 : ((i + 1 : Nat) : Int) = 4
      ·
       exact ⟨.inl (j, 5), ev_rdArgs_inr (by omega) g5 hs e1 hcm (evIfn k1 (evIfp k2 (evIfp k3 (Ev.now _)))), ev_Readl1_inr (by omega) g5 hs e2 hcm (evIfn k1 (evIfp k2 (evIfp k3 (Ev.now _)))), g5, show (5 : Int) ≠ 0 by decide⟩
      ·
       obtain ⟨x, q', hq, hx⟩ := nxL_pos k2 (by decide)
       have hx' : x = sepB (i + 1) := u8_of (n := 44) hx (by decide)
       rw [hx'] at hq
       have hj := bt_drop hq
       obtain ⟨r2, f1, f2, f3⟩ := ihA j (m.set cI ⟨(rd_T48 m (cI : Int)).f0, ((i + 1 : Nat) : Int)⟩) cI (i + 1) q' (by omega) hq (by rw [List.length_set]; exact hcm) (by rw [List.length_set]; exact g4) (by omega)
       have hup : wrap64 (((i + 1 : Nat) : Int) + 1) = ((i + 1 + 1 : Nat) : Int) := up_cast (i + 1) (by omega)
       refine ⟨r2, ev_rdArgs_inr (by omega) g5 hs e1 hcm (evIfn k1 (evIfp k2 (evIfn k3 (by rw [hup]; exact f1)))), ev_Readl1_inr (by omega) g5 hs e2 hcm (evIfn k1 (evIfp k2 (evIfn k3 (by rw [hup]; exact f2)))), ?_⟩
       rcases r2 with ⟨p, e⟩ | ⟨j2, m2⟩
       ·
        exact f3
       ·
        obtain ⟨N, l2, b2, d2, u1, u2, u3, u4, u5, u6, u7, u8, u9⟩ := f3
        simp only at u3 u6 u7 u8 u9
        clear hup
        rw [getD_set hcm, List.set_set, hset] at u3
        refine ⟨N, c :: (l1 ++ l2), _, _, by omega, u2, ?_, Tx.arg (by omega) g2 u4, ?_, u6, u7, by simp only; omega, ?_⟩
        ·
         rw [u3]
         simp
        ·
         intro y hy
         rcases List.mem_cons.1 hy with rfl | hy
         ·
          exact g3 _ (List.mem_cons_self ..)
         ·
          rcases List.mem_append.1 hy with hy | hy
          ·
           exact g3 _ (List.mem_cons_of_mem _ hy)
          ·
           exact u5 y hy
        ·
         rw [hdp, u9]
         unfold txtL
         simp
     ·
      exact ⟨.inl (j, 3), ev_rdArgs_inr (by omega) g5 hs e1 hcm (evIfn k1 (evIfn k2 (Ev.now _))), ev_Readl1_inr (by omega) g5 hs e2 hcm (evIfn k1 (evIfn k2 (Ev.now _))), g5, show (3 : Int) ≠ 0 by decide⟩
theorem parse_sound (s : ByteArray) : ∃ u at_ e, Ev (fun k => term_Parse.f k s) (u, at_, e) ∧ Ev (fun k => aumbryref04_Parse.f k s) (u, at_, e) ∧ u.length ≤ 64 ∧
 ((e ≠ 0 ∧ u = [] ∧ 0 ≤ at_ ∧ at_ ≤ (s.size : Int)) ∨ (e = 0 ∧ at_ = 0 ∧ ∃ c l b d, u = c :: l ∧ Tx 0 (ar c) l b d ∧ (∀ x ∈ c :: l, Okc x) ∧ bl s = txtL c b)) := by
 have hj0 : ∀ (u : List Cel) (a e : Int) (fl : Bool), Ev (fun k => aumbryref04_Parse.j0 k u a e fl) (if fl = true then ([], a, 3) else if e = 0 then (u, 0, 0) else ([], a, e)) := by
  intro u a e fl
  refine Ev.step (fun k => (show aumbryref04_Parse.j0 (k + 1) u a e fl = _ from by rw [aumbryref04_Parse.j0])) ?_
  cases fl
  ·
   refine evIfn (by simp) ?_
   by_cases he : e = 0
   ·
    simp only [if_pos he]; exact Ev.now _
   ·
    simp only [if_neg he]; exact Ev.now _
  ·
   exact evIfp rfl (Ev.now _)
 by_cases hs : (s.size : Int) > 1024
 ·
  refine ⟨[], 0, 2, ?_, ?_, by simp, .inl ⟨by decide, rfl, by decide, by omega⟩⟩
  ·
   unfold term_Parse.f parseF
   exact evIfp hs (Ev.now _)
  ·
   unfold aumbryref04_Parse.f
   exact evIfp hs (Ev.now _)
 ·
  obtain ⟨r, e1, e2, e3⟩ := (rd_sound s (by omega) (s.size + 1)).1 0 [] (by omega) (by omega) (by simp)
  rcases r with ⟨p, e⟩ | ⟨j, m⟩
  ·
   refine ⟨[], (p : Int), e, ?_, ?_, by simp, .inl ⟨e3.2, rfl, by omega, by have := e3.1; simp only at this; omega⟩⟩
   ·
    unfold term_Parse.f parseF
    exact evIfn hs (Ev.bind e1 (Ev.now _))
   ·
    unfold aumbryref04_Parse.f
    refine evIfn hs (Ev.bind e2 (evIfn e3.2 ?_))
    have := hj0 [] (p : Int) e false
    rw [if_neg (by simp), if_neg e3.2] at this
    exact this
  ·
   obtain ⟨c, l, b, d, g1, g2, g3, g4, g5, g6, g7⟩ := e3
   simp only [List.nil_append] at g1 g4 g5 g6 g7
   by_cases hj : (j : Int) < (s.size : Int)
   ·
    refine ⟨[], (j : Int), 3, ?_, ?_, by simp, .inl ⟨by decide, rfl, by omega, by omega⟩⟩
    ·
     unfold term_Parse.f parseF
     exact evIfn hs (Ev.bind e1 (evIfp hj (Ev.now _)))
    ·
     unfold aumbryref04_Parse.f
     refine evIfn hs (Ev.bind e2 (evIfp rfl ?_))
     have := hj0 m (j : Int) 0 true
     rw [if_pos rfl] at this
     have hdj : decide ((j : Int) < (s.size : Int)) = true := decide_eq_true hj
     rw [show (cR (.inr (j, m))).2.1 = (j : Int) from rfl, hdj]
     exact this
   ·
    refine ⟨m, 0, 0, ?_, ?_, g4, .inr ⟨rfl, rfl, c, l, b, d, g1, g2, g3, ?_⟩⟩
    ·
     unfold term_Parse.f parseF
     exact evIfn hs (Ev.bind e1 (evIfn hj (Ev.now _)))
    ·
     unfold aumbryref04_Parse.f
     refine evIfn hs (Ev.bind e2 (evIfp rfl ?_))
     have := hj0 m (j : Int) 0 false
     rw [if_neg (by simp), if_pos rfl] at this
     have hdj : decide ((j : Int) < (s.size : Int)) = false := decide_eq_false hj
     rw [show (cR (.inr (j, m))).2.1 = (j : Int) from rfl, hdj]
     exact this
    ·
     rw [List.drop_zero] at g7
     have : j = s.size := by omega
     rw [g7, this, List.drop_eq_nil_of_le (by rw [bl_len]; omega), List.append_nil]
theorem tx_self {n : Nat} {l : List Cel} {b : List UInt8} {d : Nat} (h : Tx n n l b d) : l = [] ∧ b = [] := by
 cases h with
 | done => exact ⟨rfl, rfl⟩
 | arg h _ _ => omega
theorem tx_first {i n : Nat} {l : List Cel} {b : List UInt8} {d : Nat} (h : Tx i n l b d) (hi : i < n) : ∃ b', b = sepB i :: b' := by
 cases h with
 | done => omega
 | arg _ _ _ => exact ⟨_, rfl⟩
theorem ev_rdTerm_text {s : ByteArray} (hs : s.size ≤ 100000) {c : Cel} {l : List Cel} {b : List UInt8} {d : Nat} (h : Tx 0 (ar c) l b d)
 (ih : 0 < ar c → ∀ (pos : Nat) (acc : List Cel) (cI : Nat) (q : List UInt8), pos ≤ s.size → (bl s).drop pos = b ++ 41 :: q → acc.length + l.length ≤ 64 → cI < acc.length → Ev (fun k => rdArgs k s (pos : Int) acc cI 1) (.inr (((pos + b.length + 1 : Nat) : Int), acc.set cI ⟨(acc.getD cI z48).f0, (ar c : Int)⟩ ++ l)))
 (hc : Okc c) {pos : Nat} {acc : List Cel} {q : List UInt8} (hp : pos ≤ s.size) (hd : (bl s).drop pos = txtL c b ++ q) (hq : ∀ x r, q = x :: r → signU x = false ∧ x ≠ 40) (hl : acc.length + 1 + l.length ≤ 64) :
 Ev (fun k => rdTerm k s (pos : Int) acc) (.inr (((pos + (txtL c b).length : Nat) : Int), acc ++ c :: l)) := by
 have hsg := kindS_signs hc.kind
 have hd' : (bl s).drop pos = bl c.f0 ++ (b ++ closeB (ar c) ++ q) := by rw [hd]; unfold txtL; simp
 have hcf1 : (⟨c.f0, ((ar c : Nat) : Int)⟩ : Cel) = c := by rw [← ar_eq hc]
 have hnext : ∀ x r, b ++ closeB (ar c) ++ q = x :: r → signU x = false := by
  intro x r he
  by_cases ha : ar c = 0
  ·
   rw [ha] at h
   obtain ⟨_, rfl⟩ := tx_self h
   rw [ha] at he
   exact (hq x r he).1
  ·
   obtain ⟨b', rfl⟩ := tx_first h (by omega)
   rw [List.cons_append, List.cons_append] at he
   injection he with he _
   rw [← he]
   rfl
 have hw := wdL_name hd' hsg hnext
 have hwt : wdT s pos = c.f0 := bl_inj (by rw [wdT_bl, hw])
 have hne : ¬ (wdT s pos).toList = [] := by
  rw [wdT_empty, hw]
  intro h0
  have := kindS_size hc.kind
  have h1 := bl_len c.f0
  rw [h0] at h1
  simp at h1
  omega
 have hnx : (bl s).drop (pos + (wdL s pos).length) = b ++ closeB (ar c) ++ q := by
  have := drop_word s pos
  rw [hd', hw] at this
  rw [hw]
  exact (List.append_cancel_left this).symm
 refine ev_rdTerm_at hs hp (evIfn hne (evIfn (by rw [hwt]; exact hc.kind) (evIfn (by omega) ?_)))
 have hwl : (wdL s pos).length = (bl c.f0).length := by rw [hw]
 by_cases ha : ar c = 0
 ·
  rw [ha] at h
  obtain ⟨rfl, rfl⟩ := tx_self h
  have hcl : closeB (ar c) = [] := by unfold closeB; exact if_pos ha
  rw [hcl] at hnx
  refine evIfn ?_ ?_
  ·
   intro h40
   obtain ⟨x, r, hx1, hx2⟩ := nxL_pos h40 (by decide)
   rw [hnx] at hx1
   exact (hq x r hx1).2 (u8_of (n := 40) hx2 (by decide))
  ·
   have e1 : (txtL c []).length = (wdL s pos).length := by unfold txtL; rw [hcl, hwl]; simp
   rw [e1, hwt]
   have : (⟨c.f0, 0⟩ : Cel) = c := by rw [← hcf1, ha]; rfl
   rw [this]
   exact Ev.now _
 ·
  obtain ⟨b', hb'⟩ := tx_first h (by omega)
  have hcl : closeB (ar c) = [41] := by unfold closeB; exact if_neg ha
  refine evIfp ?_ (evIfn ?_ ?_)
  ·
   refine nxL_cons (x := 40) (r := b' ++ closeB (ar c) ++ q) ?_
   rw [hnx, hb']
   rfl
  ·
   rw [hwt]
   intro hk
   have := hc.var hk
   unfold ar at ha
   omega
  ·
   rw [hcl] at hnx
   have := ih (by omega) (pos + (wdL s pos).length) (acc ++ [⟨wdT s pos, 0⟩]) acc.length q (wdL_bound hp) (by rw [hnx]; simp) (by simp; omega) (by simp)
   have hcell : (acc ++ [(⟨wdT s pos, 0⟩ : Cel)]).getD acc.length z48 = ⟨wdT s pos, 0⟩ := by
    rw [List.getD_eq_getElem?_getD, List.getElem?_append_right (Nat.le_refl _), Nat.sub_self]
    rfl
   rw [hcell, List.set_append_right _ _ (Nat.le_refl _), Nat.sub_self] at this
   have e1 : pos + (txtL c b).length = pos + (wdL s pos).length + b.length + 1 := by unfold txtL; rw [hcl, hwl]; simp; omega
   have e2 : acc ++ [(⟨wdT s pos, 0⟩ : Cel)].set 0 ⟨wdT s pos, ((ar c : Nat) : Int)⟩ ++ l = acc ++ c :: l := by
    rw [hwt]
    show acc ++ [(⟨c.f0, ((ar c : Nat) : Int)⟩ : Cel)] ++ l = _
    rw [hcf1]
    simp
   rw [e1]
   simp only at this
   rw [e2] at this
   exact this
theorem ev_rdArgs_text {s : ByteArray} (hs : s.size ≤ 100000) {i n : Nat} {l : List Cel} {b : List UInt8} {d : Nat} (h : Tx i n l b d) : i < n → n ≤ 4 → (∀ c ∈ l, Okc c) → ∀ (pos : Nat) (acc : List Cel) (cI : Nat) (q : List UInt8), pos ≤ s.size → (bl s).drop pos = b ++ 41 :: q → acc.length + l.length ≤ 64 → cI < acc.length →
 Ev (fun k => rdArgs k s (pos : Int) acc cI ((i + 1 : Nat) : Int)) (.inr (((pos + b.length + 1 : Nat) : Int), acc.set cI ⟨(acc.getD cI z48).f0, (n : Int)⟩ ++ l)) := by
 induction h with
 | done n => intro h; omega
 | @arg i n c l1 l2 b1 b2 d1 d2 h h1 h2 ih1 ih2 =>
  intro _ hn hc pos acc cI q hp hd hl hcI
  have hcc := hc c (List.mem_cons_self ..)
  have hd' : (bl s).drop pos = sepB i :: (txtL c b1 ++ (b2 ++ 41 :: q)) := by rw [hd]; unfold txtL; simp
  obtain ⟨p1, p2, p3⟩ := bt_drop hd'
  have hle := tx_le h2
  simp only [List.length_cons, List.length_append] at hl
  have hT := ev_rdTerm_text hs h1 (fun ha pos acc cI q hp hd hl hcI => ih1 ha (ar_le hcc) (fun x hx => hc x (List.mem_cons_of_mem _ (List.mem_append_left _ hx))) pos acc cI q hp hd hl hcI) hcc (pos := pos + 1) (acc := acc) (q := b2 ++ 41 :: q) (by omega) p3 (by
   intro x r he
   by_cases hin : i + 1 < n
   ·
    obtain ⟨b', rfl⟩ := tx_first h2 hin
    injection he with he _
    rw [← he]
    refine ⟨rfl, ?_⟩
    unfold sepB
    rw [if_neg (by omega)]
    decide
   ·
    have : i + 1 = n := by omega
    subst this
    obtain ⟨_, rfl⟩ := tx_self h2
    injection he with he _
    rw [← he]
    exact ⟨rfl, by decide⟩) (by omega)
  have hj : pos + 1 + (txtL c b1).length ≤ s.size := by
   have := congrArg List.length p3
   rw [List.length_drop, bl_len, List.length_append] at this
   simp only [List.length_append, List.length_cons] at this
   omega
  have hdj : (bl s).drop (pos + 1 + (txtL c b1).length) = b2 ++ 41 :: q := by rw [← List.drop_drop, p3, List.drop_left]
  have hcm : cI < (acc ++ c :: l1).length := by rw [List.length_append]; omega
  have hnm : (rd_T48 (acc ++ c :: l1) (cI : Int)).f0 = (acc.getD cI z48).f0 := by rw [rd_getD, getD_app hcI]
  have elen : (sepB i :: (bl c.f0 ++ b1 ++ closeB (ar c) ++ b2)).length = 1 + (txtL c b1).length + b2.length := by unfold txtL; simp; omega
  refine ev_rdArgs_inr (by omega) hj hs hT hcm ?_
  rw [hnm]
  by_cases hin : i + 1 < n
  ·
   obtain ⟨b', hb'⟩ := tx_first h2 hin
   have hnx : nxL s (pos + 1 + (txtL c b1).length) = 44 := by
    refine nxL_cons (x := 44) (r := b' ++ 41 :: q) ?_
    rw [hdj, hb']
    unfold sepB
    rw [if_neg (by omega)]
    rfl
   refine evIfn (by rw [hnx]; decide) (evIfp hnx (evIfn (by omega) ?_))
   have hup : wrap64 (((i + 1 : Nat) : Int) + 1) = ((i + 1 + 1 : Nat) : Int) := up_cast (i + 1) (by omega)
   rw [hup]
   have := ih2 hin hn (fun x hx => hc x (List.mem_cons_of_mem _ (List.mem_append_right _ hx))) (pos + 1 + (txtL c b1).length) ((acc ++ c :: l1).set cI ⟨(acc.getD cI z48).f0, ((i + 1 : Nat) : Int)⟩) cI q hj hdj (by simp; omega) (by rw [List.length_set]; exact hcm)
   rw [getD_set hcm, List.set_set, set_app hcI, set_app hcI] at this
   simp only at this
   rw [set_app hcI, elen, show pos + (1 + (txtL c b1).length + b2.length) + 1 = pos + 1 + (txtL c b1).length + b2.length + 1 by omega]
   clear hup
   simpa using this
  ·
   have hin' : i + 1 = n := by omega
   subst hin'
   obtain ⟨rfl, rfl⟩ := tx_self h2
   have hnx : nxL s (pos + 1 + (txtL c b1).length) = 41 := nxL_cons (x := 41) (r := q) (by rw [hdj]; rfl)
   refine evIfp hnx ?_
   rw [set_app hcI, elen, List.length_nil, List.append_nil, show pos + (1 + (txtL c b1).length + 0) + 1 = pos + 1 + (txtL c b1).length + 1 by omega]
   exact Ev.now _
theorem ev_parse_text {c : Cel} {l : List Cel} {b : List UInt8} {d : Nat} (h : Tx 0 (ar c) l b d) (ho : ∀ x ∈ c :: l, Okc x) (hl : (c :: l).length ≤ 64) : Ev (fun k => term_Parse.f k (txtB c b)) (c :: l, 0, 0) := by
 have hlen := txt_len h ho hl
 have hsz : (txtB c b).size = (txtL c b).length := by rw [← bl_len, txt_bl]
 have hcc := ho c (List.mem_cons_self ..)
 unfold term_Parse.f parseF
 refine evIfn (by omega) ?_
 have hT := ev_rdTerm_text (s := txtB c b) (by omega) h (fun ha pos acc cI q hp hd hl hcI => ev_rdArgs_text (by omega) h ha (ar_le hcc) (fun x hx => ho x (List.mem_cons_of_mem _ hx)) pos acc cI q hp hd hl hcI) hcc (pos := 0) (acc := []) (q := []) (by omega) (by rw [txt_bl]; simp) (by intro x r h; cases h) (by simp at hl ⊢; omega)
 refine Ev.bind hT ?_
 refine evIfn (by omega) ?_
 rw [List.nil_append]
 exact Ev.now _
end Go.Proofs.YtmlddeogmckgmaaGreatDoor.P

-- ==== PL6r
/- Plain laws of chapter 6: reading two texts as a rule; writing a rule. -/
namespace Go.Proofs.YtmlddeogmckgmaaGreatDoor.P
open Go.RowKit Go.Proofs.YtmlddeogmckgmaaGreatDoorW.PrintWords
theorem ev_rparse (s1 s2 : ByteArray) : ∃ l r e, Ev (fun k => rule_Parse.f k s1 s2) (0, l, r, e) ∧ Ev (fun k => aumbryref06_Parse.f k s1 s2) (0, l, r, e) ∧ l.length ≤ 64 ∧ r.length ≤ 64 ∧
 ((e ≠ 0 ∧ l = [] ∧ r = []) ∨ (e = 0 ∧ ruleS 0 l r = 0 ∧ ∃ c1 l1 b1 d1 c2 l2 b2 d2, l = c1 :: l1 ∧ r = c2 :: l2 ∧ Tx 0 (ar c1) l1 b1 d1 ∧ (∀ x ∈ c1 :: l1, Okc x) ∧ bl s1 = txtL c1 b1 ∧ Tx 0 (ar c2) l2 b2 d2 ∧ (∀ x ∈ c2 :: l2, Okc x) ∧ bl s2 = txtL c2 b2)) := by
 obtain ⟨u, a, e, h1, h1', h1l, h1c⟩ := parse_sound s1
 obtain ⟨v, b, f, h2, h2', h2l, h2c⟩ := parse_sound s2
 by_cases he : e = 0
 case neg =>
  refine ⟨[], [], e, ?_, ?_, by simp, by simp, .inl ⟨he, rfl, rfl⟩⟩
  ·
   unfold rule_Parse.f
   exact Ev.bind h1 (evIfn he (Ev.now _))
  ·
   unfold aumbryref06_Parse.f
   exact Ev.bind h1' (evIfn he (Ev.now _))
 by_cases hf : f = 0
 case neg =>
  refine ⟨[], [], f, ?_, ?_, by simp, by simp, .inl ⟨hf, rfl, rfl⟩⟩
  ·
   unfold rule_Parse.f
   exact Ev.bind h1 (evIfp he (Ev.bind h2 (evIfn hf (Ev.now _))))
  ·
   unfold aumbryref06_Parse.f
   exact Ev.bind h1' (evIfp he (Ev.bind h2' (evIfn hf (Ev.now _))))
 by_cases hr : ruleS 0 u v = 0
 case neg =>
  refine ⟨[], [], ruleS 0 u v, ?_, ?_, by simp, by simp, .inl ⟨hr, rfl, rfl⟩⟩
  ·
   unfold rule_Parse.f
   exact Ev.bind h1 (evIfp he (Ev.bind h2 (evIfp hf (Ev.bind (ev_rch 0 u v) (evIfn hr (Ev.now _))))))
  ·
   unfold aumbryref06_Parse.f
   exact Ev.bind h1' (evIfp he (Ev.bind h2' (evIfp hf (Ev.bind (ev_rcheck 0 u v) (evIfn hr (Ev.now _))))))
 refine ⟨u, v, 0, ?_, ?_, h1l, h2l, .inr ⟨rfl, hr, ?_⟩⟩
 ·
  unfold rule_Parse.f
  exact Ev.bind h1 (evIfp he (Ev.bind h2 (evIfp hf (Ev.bind (ev_rch 0 u v) (evIfp hr (Ev.now _))))))
 ·
  unfold aumbryref06_Parse.f
  exact Ev.bind h1' (evIfp he (Ev.bind h2' (evIfp hf (Ev.bind (ev_rcheck 0 u v) (evIfp hr (Ev.now _))))))
 rcases h1c with ⟨hx, _⟩ | ⟨_, _, c1, l1, b1, d1, e1, p1, p2, p3⟩
 ·
  exact absurd he hx
 rcases h2c with ⟨hx, _⟩ | ⟨_, _, c2, l2, b2, d2, e2, q1, q2, q3⟩
 ·
  exact absurd hf hx
 exact ⟨c1, l1, b1, d1, c2, l2, b2, d2, e1, e2, p1, p2, p3, q1, q2, q3⟩
section
variable {id : Int} {c1 c2 : Cel} {l1 l2 : List Cel} {b1 b2 : List UInt8} {d1 d2 : Nat} (h1 : Tx 0 (ar c1) l1 b1 d1) (o1 : ∀ x ∈ c1 :: l1, Okc x) (h2 : Tx 0 (ar c2) l2 b2 d2) (o2 : ∀ x ∈ c2 :: l2, Okc x)
include h1 o1 h2 o2
end
end Go.Proofs.YtmlddeogmckgmaaGreatDoor.P

-- ==== PL3s
/- Plain laws of chapter 3: the words of a line: the program's and the document's. -/
namespace Go.Proofs.YtmlddeogmckgmaaGreatDoor.P
open Go.RowKit Go.Proofs.YtmlddeogmckgmaaGreatDoorW.PrintWords
def wsL : List UInt8 → List UInt8 → List (List UInt8)
 | [], w => if w = [] then [] else [w]
 | c :: l, w => if c = 32 then (if w = [] then wsL l [] else w :: wsL l []) else wsL l (w ++ [c])
def baL (l : List UInt8) : ByteArray := ⟨l.toArray⟩
theorem bl_ba (l : List UInt8) : bl (baL l) = l := rfl
theorem baL_nil (w : List UInt8) : (baL w).toList = [] ↔ w = [] := by
 rw [ByteArray.toList_eq]
 show bl (baL w) = [] ↔ _
 rw [bl_ba]
theorem c32 (c : UInt8) : ((c.toNat : Int) = 32) ↔ c = 32 := by
 constructor
 ·
  intro h
  exact UInt8.toNat_inj.1 (show c.toNat = (32 : UInt8).toNat from by have : (32 : UInt8).toNat = 32 := rfl; omega)
 ·
  rintro rfl
  rfl
theorem wdsF_eq (s : ByteArray) : ∀ (l : List UInt8) (m f i : Nat), (bl s).drop i = l → i ≤ s.size → m + i = s.size + 1 → f ≤ i → wdsF s m f i = (wsL l (((bl s).drop f).take (i - f))).map baL
 | [], m, f, i, hd, hi, hm, hf => by
  have hs := bl_drop_nil hi hd
  obtain rfl : m = 1 := by omega
  simp only [wdsF, wsL]
  rw [if_neg (by omega)]
  have hlen : (((bl s).drop f).take (i - f)).length = i - f := by
   rw [List.length_take, List.length_drop, bl_len]
   omega
  by_cases h : f < i
  ·
   rw [if_pos h, if_neg (fun e => by rw [e] at hlen; simp at hlen; omega)]
   have e : s.extract f i = baL (((bl s).drop f).take (i - f)) := bl_inj (by rw [bl_extract, bl_ba])
   rw [e]
   rfl
  ·
   rw [if_neg h, if_pos (List.length_eq_zero_iff.1 (by rw [hlen]; omega))]
   rfl
 | c :: l, m, f, i, hd, hi, hm, hf => by
  obtain ⟨g1, g2, g3⟩ := bt_drop hd
  obtain ⟨m, rfl⟩ : ∃ q, m = q + 1 := ⟨m - 1, by omega⟩
  have hlen : (((bl s).drop f).take (i - f)).length = i - f := by
   rw [List.length_take, List.length_drop, bl_len]
   omega
  simp only [wdsF, wsL]
  rw [g2]
  by_cases hc : c = 32
  ·
   rw [if_pos hc, if_neg (fun h => h.2 ((c32 c).2 hc))]
   have ih := wdsF_eq s l m (i + 1) (i + 1) g3 (by omega) (by omega) (Nat.le_refl _)
   rw [Nat.sub_self, List.take_zero] at ih
   by_cases h : f < i
   ·
    rw [if_pos h, if_neg (fun e => by rw [e] at hlen; simp at hlen; omega), ih]
    have e : s.extract f i = baL (((bl s).drop f).take (i - f)) := bl_inj (by rw [bl_extract, bl_ba])
    rw [e]
    rfl
   ·
    rw [if_neg h, if_pos (List.length_eq_zero_iff.1 (by rw [hlen]; omega)), ih]
  ·
   rw [if_neg hc, if_pos ⟨g1, fun h => hc ((c32 c).1 h)⟩]
   rw [wdsF_eq s l m f (i + 1) g3 (by omega) (by omega) (by omega)]
   congr 2
   have e1 : i + 1 - f = (i - f) + 1 := by omega
   rw [e1, List.take_add_one]
   congr 1
   rw [List.getElem?_drop]
   have e2 : f + (i - f) = i := by omega
   rw [e2]
   have := congrArg List.head? hd
   rw [List.head?_drop] at this
   rw [this]
   rfl
theorem wdsS_eq (s : ByteArray) : wdsS s = (wsL (bl s) []).map baL := by
 have := wdsF_eq s (bl s) (s.size + 1) 0 0 rfl (by omega) (by omega) (Nat.le_refl _)
 exact this
theorem ev_refWords_loop (s : ByteArray) (hs : s.size ≤ 5864062014805) : ∀ (l : List UInt8) (i : Nat) (out : List ByteArray) (w : List UInt8), (bl s).drop i = l → i ≤ s.size → out.length ≤ i → w.length ≤ i →
 Ev (fun k => aumbryref03_Words.l0 k s out (baL w) (i : Int)) (out ++ (wsL l w).map baL)
 | [], i, out, w, hd, hi, ho, hw => by
  have h1 := bl_drop_nil hi hd
  refine Ev.step (fun k => (show aumbryref03_Words.l0 (k + 1) s out (baL w) (i : Int) = _ from by rw [aumbryref03_Words.l0])) ?_
  refine evIfn (by omega) ?_
  simp only [wsL]
  by_cases h : w = []
  ·
   rw [if_pos h]
   refine evIfp ((baL_nil w).2 h) ?_
   simp only [List.map_nil, List.append_nil]
   exact Ev.now _
  ·
   rw [if_neg h]
   exact evIfn (fun e => h ((baL_nil w).1 e)) (evIfp (by omega) (Ev.now _))
 | c :: l, i, out, w, hd, hi, ho, hw => by
  obtain ⟨g1, g2, g3⟩ := bt_drop hd
  refine Ev.step (fun k => (show aumbryref03_Words.l0 (k + 1) s out (baL w) (i : Int) = _ from by rw [aumbryref03_Words.l0])) ?_
  refine evIfp (by omega) (evIfp (by omega) ?_)
  rw [g2, up_cast i (by omega)]
  simp only [wsL]
  by_cases hc : c = 32
  ·
   rw [if_pos hc]
   refine evIfp ((c32 c).2 hc) ?_
   by_cases h : w = []
   ·
    rw [if_pos h]
    refine evIfp ((baL_nil w).2 h) ?_
    exact ev_refWords_loop s hs l (i + 1) out [] g3 (by omega) (by omega) (by simp)
   ·
    rw [if_neg h]
    refine evIfn (fun e => h ((baL_nil w).1 e)) (evIfp (by omega) ?_)
    have := ev_refWords_loop s hs l (i + 1) (out ++ [baL w]) [] g3 (by omega) (by simp; omega) (by simp)
    rw [List.append_assoc] at this
    exact this
  ·
   rw [if_neg hc]
   refine evIfn (fun h => hc ((c32 c).1 h)) (evIfp (by omega) (evIfp (by omega) ?_))
   rw [Int.toNat_natCast, Int.toNat_natCast]
   have e : s.extract i (i + 1) = baL [c] := bl_inj (by
    rw [bl_extract, bl_ba, hd]
    have : i + 1 - i = 1 := by omega
    rw [this]
    rfl)
   have e2 : baL w ++ baL [c] = baL (w ++ [c]) := bl_inj (by rw [bl_append]; rfl)
   rw [e, e2]
   refine evIfp ?_ ?_
   ·
    have h1 := bl_len (baL w)
    have h2 := bl_len (baL [c])
    rw [bl_ba] at h1 h2
    rw [← h1, ← h2]
    simp only [List.length_cons, List.length_nil]
    omega
   ·
    exact ev_refWords_loop s hs l (i + 1) out (w ++ [c]) g3 (by omega) (by omega) (by simp; omega)
theorem ev_refWords (s : ByteArray) (hs : s.size ≤ 5864062014805) : Ev (fun k => aumbryref03_Words.f k s) (wdsS s) := by
 rw [wdsS_eq]
 unfold aumbryref03_Words.f
 exact ev_refWords_loop s hs (bl s) 0 [] [] rfl (by omega) (by simp) (by simp)
theorem words_at (s : ByteArray) (h : s.size < 5864062014805) : name_Words.f s = some (wdsS s) := by
 unfold name_Words.f
 rw [if_pos h]
end Go.Proofs.YtmlddeogmckgmaaGreatDoor.P

-- ==== PL3j
/- Plain laws of chapter 3: words with blanks between them are these words again. -/
namespace Go.Proofs.YtmlddeogmckgmaaGreatDoor.P
open Go.RowKit Go.Proofs.YtmlddeogmckgmaaGreatDoorW.PrintWords
theorem wsL_cons (c : UInt8) (l w : List UInt8) : wsL (c :: l) w = if c = 32 then (if w = [] then wsL l [] else w :: wsL l []) else wsL l (w ++ [c]) := rfl
theorem not_in_snoc {w : List UInt8} {c : UInt8} (hw : (32 : UInt8) ∉ w) (hc : ¬ c = 32) : (32 : UInt8) ∉ w ++ [c] := by
 intro e
 rcases List.mem_append.1 e with e | e
 ·
  exact hw e
 ·
  exact hc (List.mem_singleton.1 e).symm
theorem wsL_good : ∀ (l w : List UInt8), (32 : UInt8) ∉ w → ∀ x ∈ wsL l w, x ≠ [] ∧ (32 : UInt8) ∉ x ∧ x.length ≤ l.length + w.length
 | [], w, hw, x, hx => by
  simp only [wsL] at hx
  split at hx
  ·
   cases hx
  ·
   rename_i h
   rw [List.mem_singleton.1 hx]
   exact ⟨h, hw, by simp⟩
 | c :: l, w, hw, x, hx => by
  rw [wsL_cons] at hx
  by_cases hc : c = 32
  ·
   rw [if_pos hc] at hx
   by_cases h : w = []
   ·
    rw [if_pos h] at hx
    obtain ⟨h1, h2, h3⟩ := wsL_good l [] (by simp) x hx
    exact ⟨h1, h2, by simp at h3 ⊢; omega⟩
   ·
    rw [if_neg h] at hx
    rcases List.mem_cons.1 hx with rfl | hx
    ·
     exact ⟨h, hw, by simp <;> omega⟩
    ·
     obtain ⟨h1, h2, h3⟩ := wsL_good l [] (by simp) x hx
     exact ⟨h1, h2, by simp at h3 ⊢; omega⟩
  ·
   rw [if_neg hc] at hx
   obtain ⟨h1, h2, h3⟩ := wsL_good l (w ++ [c]) (not_in_snoc hw hc) x hx
   exact ⟨h1, h2, by simp at h3 ⊢; omega⟩
theorem words_good (s : ByteArray) : ∀ x ∈ wdsS s, bl x ≠ [] ∧ (32 : UInt8) ∉ bl x ∧ x.size ≤ s.size := by
 intro x hx
 rw [wdsS_eq] at hx
 obtain ⟨y, hy, rfl⟩ := List.mem_map.1 hx
 obtain ⟨h1, h2, h3⟩ := wsL_good (bl s) [] (by simp) y hy
 refine ⟨by rw [bl_ba]; exact h1, by rw [bl_ba]; exact h2, ?_⟩
 rw [← bl_len, ← bl_len s, bl_ba]
 simpa using h3
end Go.Proofs.YtmlddeogmckgmaaGreatDoor.P

-- ==== PL3d
/- Plain laws of chapter 3: numbers and their digits (no program in sight). -/
namespace Go.Proofs.YtmlddeogmckgmaaGreatDoor.P
open Go.RowKit Go.Proofs.YtmlddeogmckgmaaGreatDoorW.PrintWords
def dgt (c : UInt8) : Prop := 48 ≤ c.toNat ∧ c.toNat ≤ 57
instance (c : UInt8) : Decidable (dgt c) := inferInstanceAs (Decidable (_ ∧ _))
def vl (a : Nat) (l : List UInt8) : Nat := l.foldl (fun a c => a * 10 + (c.toNat - 48)) a
theorem vl_nil (a : Nat) : vl a [] = a := rfl
theorem vl_cons (a : Nat) (c : UInt8) (l : List UInt8) : vl a (c :: l) = vl (a * 10 + (c.toNat - 48)) l := by unfold vl; rw [List.foldl_cons]
theorem vl_snoc (a : Nat) (l : List UInt8) (c : UInt8) : vl a (l ++ [c]) = vl a l * 10 + (c.toNat - 48) := by simp [vl]
theorem vl_ge : ∀ (l : List UInt8) (a : Nat), a * 10 ^ l.length ≤ vl a l
 | [], a => by simp [vl]
 | c :: l, a => by
  have := vl_ge l (a * 10 + (c.toNat - 48))
  rw [vl_cons, List.length_cons, Nat.pow_succ]
  have h : a * (10 ^ l.length * 10) ≤ (a * 10 + (c.toNat - 48)) * 10 ^ l.length := by
   rw [Nat.mul_comm (10 ^ l.length) 10, ← Nat.mul_assoc]
   exact Nat.mul_le_mul_right _ (by omega)
  omega
theorem dig_toNat {n : Nat} (h : n < 10) : (UInt8.ofNat (48 + n)).toNat = 48 + n := by
 rw [UInt8.toNat_ofNat']
 omega
theorem dig_back {c : UInt8} (h : dgt c) : UInt8.ofNat (48 + (c.toNat - 48)) = c := by
 unfold dgt at h
 have : 48 + (c.toNat - 48) = c.toNat := by omega
 rw [this]
 exact UInt8.ofNat_toNat
theorem dec_step (u : Nat) : Lib.decDigits u = if u < 10 then [UInt8.ofNat (48 + u)] else Lib.decDigits (u / 10) ++ [UInt8.ofNat (48 + u % 10)] := by
 rw [Lib.decDigits]
 split <;> rfl
theorem dec_facts : ∀ (n u : Nat), u ≤ n → Lib.decDigits u ≠ [] ∧ (∀ c ∈ Lib.decDigits u, dgt c) ∧ vl 0 (Lib.decDigits u) = u ∧ (0 < u → ∃ c r, Lib.decDigits u = c :: r ∧ 49 ≤ c.toNat)
 | n, u, h => by
  rw [dec_step]
  by_cases hu : u < 10
  ·
   rw [if_pos hu]
   refine ⟨by simp, fun c hc => ?_, ?_, fun h0 => ⟨_, _, rfl, by rw [dig_toNat hu]; omega⟩⟩
   ·
    rw [List.mem_singleton.1 hc]
    unfold dgt
    rw [dig_toNat hu]
    omega
   ·
    rw [vl_cons, vl_nil, dig_toNat hu]
    omega
  ·
   rw [if_neg hu]
   cases n with
   | zero => omega
   | succ n =>
    obtain ⟨h1, h2, h3, h4⟩ := dec_facts n (u / 10) (by omega)
    have hm : u % 10 < 10 := Nat.mod_lt _ (by omega)
    refine ⟨by simp, fun c hc => ?_, ?_, fun _ => ?_⟩
    ·
     rcases List.mem_append.1 hc with hc | hc
     ·
      exact h2 c hc
     ·
      rw [List.mem_singleton.1 hc]
      unfold dgt
      rw [dig_toNat hm]
      omega
    ·
     rw [vl_snoc, h3, dig_toNat hm]
     omega
    ·
     obtain ⟨c, r, h5, h6⟩ := h4 (by omega)
     exact ⟨c, r ++ [UInt8.ofNat (48 + u % 10)], by rw [h5]; rfl, h6⟩
theorem dec_ne (u : Nat) : Lib.decDigits u ≠ [] := (dec_facts u u (Nat.le_refl _)).1
theorem dec_dig (u : Nat) : ∀ c ∈ Lib.decDigits u, dgt c := (dec_facts u u (Nat.le_refl _)).2.1
theorem dec_vl (u : Nat) : vl 0 (Lib.decDigits u) = u := (dec_facts u u (Nat.le_refl _)).2.2.1
theorem dec_head {u : Nat} (h : 0 < u) : ∃ c r, Lib.decDigits u = c :: r ∧ 49 ≤ c.toNat := (dec_facts u u (Nat.le_refl _)).2.2.2 h
theorem dec_len {u k : Nat} (h : u < 10 ^ k) (hk : 0 < k) : (Lib.decDigits u).length ≤ k := by
 rcases Nat.eq_zero_or_pos u with rfl | h0
 ·
  rw [dec_step, if_pos (by omega)]
  simp
  omega
 ·
  obtain ⟨c, r, h1, h2⟩ := dec_head h0
  have h3 := vl_ge r (c.toNat - 48)
  have h4 := dec_vl u
  rw [h1, vl_cons, Nat.zero_mul, Nat.zero_add] at h4
  rw [h4] at h3
  have h5 : 10 ^ r.length ≤ u := Nat.le_trans (by have := Nat.mul_le_mul_right (10 ^ r.length) (show 1 ≤ c.toNat - 48 by omega); omega) h3
  rw [h1, List.length_cons]
  rcases Nat.lt_or_ge r.length k with h6 | h6
  ·
   omega
  ·
   have := Nat.pow_le_pow_right (show 0 < 10 by omega) h6
   omega
theorem dec_back : ∀ (n : Nat) (l : List UInt8), l.length ≤ n → l ≠ [] → (∀ c ∈ l, dgt c) → (∀ c r, l = c :: r → c.toNat = 48 → r = []) → Lib.decDigits (vl 0 l) = l
 | 0, l, hn, h0, _, _ => by
  cases l with
  | nil => exact absurd rfl h0
  | cons c r => simp at hn
 | n + 1, l, hn, h0, hd, hz => by
  obtain ⟨i, c, rfl⟩ : ∃ i c, l = i ++ [c] := ⟨l.dropLast, l.getLast h0, (List.dropLast_concat_getLast h0).symm⟩
  have hc := hd c (by simp)
  have hc' := hc
  unfold dgt at hc'
  rw [vl_snoc, dec_step]
  cases i with
  | nil =>
   rw [vl_nil, if_pos (by omega)]
   have : 0 * 10 + (c.toNat - 48) = c.toNat - 48 := by omega
   rw [this, dig_back hc]
   rfl
  | cons a r =>
   have ha : ¬ a.toNat = 48 := fun h => by
    have := hz a (r ++ [c]) rfl h
    simp at this
   have ha' := hd a (by simp)
   unfold dgt at ha'
   have h1 : 1 ≤ vl 0 (a :: r) := by
    have := vl_ge r (0 * 10 + (a.toNat - 48))
    rw [vl_cons]
    have h2 : 1 ≤ 10 ^ r.length := Nat.one_le_pow _ _ (by omega)
    have h3 : 1 * 1 ≤ (0 * 10 + (a.toNat - 48)) * 10 ^ r.length := Nat.mul_le_mul (by omega) h2
    omega
   rw [if_neg (by omega)]
   have e1 : (vl 0 (a :: r) * 10 + (c.toNat - 48)) / 10 = vl 0 (a :: r) := by omega
   have e2 : (vl 0 (a :: r) * 10 + (c.toNat - 48)) % 10 = c.toNat - 48 := by omega
   rw [e1, e2, dig_back hc, dec_back n (a :: r) (by simp at hn ⊢; omega) (by simp) (fun d hd' => hd d (by simp at hd' ⊢; rcases hd' with h | h <;> simp [h])) (fun x y h hx => by
    injection h with h _
    subst h
    exact absurd hx ha)]
theorem parseM_ok {M : Nat} (hM : M ≤ 18446744073709551615) : ∀ (l : List UInt8) (a : Nat), (∀ c ∈ l, dgt c) → vl a l ≤ M → Lib.parseUintM M a l = .ok (vl a l)
 | [], a, _, h => rfl
 | c :: l, a, hd, h => by
  have hc := hd c (List.mem_cons_self ..)
  have hc' := hc
  unfold dgt at hc
  rw [vl_cons] at h ⊢
  have h1 := vl_ge l (a * 10 + (c.toNat - 48))
  have h2 : 1 ≤ 10 ^ l.length := Nat.one_le_pow _ _ (by omega)
  have h3 := Nat.mul_le_mul_left (a * 10 + (c.toNat - 48)) h2
  unfold Lib.parseUintM
  rw [if_pos hc, if_neg (by omega), if_neg (by omega)]
  exact parseM_ok hM l _ (fun d hd' => hd d (List.mem_cons_of_mem _ hd')) h
theorem parseU_dec {m : Nat} (h : m ≤ 18446744073709551615) : Lib.parseUintB 64 (Lib.decDigits m) = .ok m := by
 unfold Lib.parseUintB
 rw [if_neg (dec_ne m), parseM_ok (by decide) _ _ (dec_dig m) (by rw [dec_vl]; exact h), dec_vl]
theorem parseI_itoa {v : Int} (h0 : -9223372036854775808 ≤ v) (h1 : v ≤ 9223372036854775807) : Lib.parseIntB 64 (Lib.itoa v) = .ok v := by
 unfold Lib.itoa
 by_cases hv : v < 0
 ·
  rw [if_pos hv, Lib.parseIntB_minus, parseU_dec (by omega)]
  unfold Lib.signedC
  simp only
  rw [if_neg (by show ¬ (9223372036854775808 : Nat) < _; omega)]
  congr 1
  omega
 ·
  rw [if_neg hv]
  obtain ⟨c, r, hcr⟩ : ∃ c r, Lib.decDigits v.toNat = c :: r := by
   cases h : Lib.decDigits v.toNat with
   | nil => exact absurd h (dec_ne _)
   | cons c r => exact ⟨c, r, rfl⟩
  have hc := dec_dig v.toNat c (by rw [hcr]; exact List.mem_cons_self ..)
  unfold dgt at hc
  have hp := parseU_dec (m := v.toNat) (by omega)
  rw [hcr] at hp ⊢
  rw [Lib.parseIntB_plain 64 c r (by omega) (by omega), hp]
  unfold Lib.signlessC
  simp only
  rw [if_neg (by show ¬ (9223372036854775808 : Nat) ≤ _; omega)]
  congr 1
  omega
end Go.Proofs.YtmlddeogmckgmaaGreatDoor.P

-- ==== PL3n
/- Plain laws of chapter 3: numbers: what is written, what is read. -/
namespace Go.Proofs.YtmlddeogmckgmaaGreatDoor.P
open Go.RowKit Go.Proofs.YtmlddeogmckgmaaGreatDoorW.PrintWords
def minL : List UInt8 := [57, 50, 50, 51, 51, 55, 50, 48, 51, 54, 56, 53, 52, 55, 55, 53, 56, 48, 56]
theorem dec_min : Lib.decDigits 9223372036854775808 = minL := by
 have h := dec_back 19 minL (by decide) (by decide) (by decide) (fun c r h hc => by
  injection h with h _
  subst h
  exact absurd hc (by decide))
 have e : vl 0 minL = 9223372036854775808 := by decide
 rw [e] at h
 exact h
theorem wrS_itoa {v : Int} (h0 : -9223372036854775808 ≤ v) (h1 : v ≤ 9223372036854775807) : bl (wrS v) = Lib.itoa v := by
 unfold wrS
 by_cases h : v = -9223372036854775808
 ·
  rw [if_pos h]
  subst h
  unfold Lib.itoa
  rw [if_pos (by decide)]
  show _ = 45 :: Lib.decDigits 9223372036854775808
  rw [dec_min]
  rfl
 ·
  rw [if_neg h]
theorem wr_iff {v : Int} (h0 : -9223372036854775808 ≤ v) (h1 : v ≤ 9223372036854775807) (s : ByteArray) : wrS v = s ↔ bl s = Lib.itoa v := by
 rw [← wrS_itoa h0 h1]
 exact ⟨fun h => by rw [h], fun h => bl_inj h.symm⟩
theorem numS_ok {s : ByteArray} {v : Int} (h0 : -9223372036854775808 ≤ v) (h1 : v ≤ 9223372036854775807) (h : bl s = Lib.itoa v) : numS s = (v, 0) := by
 unfold numS
 have e : Lib.parseIntB 64 s.data.toList = .ok v := by
  show Lib.parseIntB 64 (bl s) = _
  rw [h]
  exact parseI_itoa h0 h1
 rw [e]
 simp only
 rw [if_pos ((wr_iff h0 h1 s).2 h)]
theorem numS_no {s : ByteArray} (h : ∀ v : Int, -9223372036854775808 ≤ v → v ≤ 9223372036854775807 → bl s ≠ Lib.itoa v) : numS s = (0, 13) := by
 unfold numS
 cases hp : Lib.parseIntB 64 s.data.toList with
 | ok v =>
  obtain ⟨b0, b1⟩ := Lib.parseIntB_bounds hp
  have b0' : -9223372036854775808 ≤ v := by simpa using b0
  have b1' : v ≤ 9223372036854775807 := by
   have : v < 9223372036854775808 := by simpa using b1
   omega
  simp only
  rw [if_neg (fun e => h v b0' b1' ((wr_iff b0' b1' s).1 e))]
 | «syntax» => rfl
 | range => rfl
theorem numS_cases (s : ByteArray) : (∃ v : Int, -9223372036854775808 ≤ v ∧ v ≤ 9223372036854775807 ∧ bl s = Lib.itoa v ∧ numS s = (v, 0)) ∨ ((∀ v : Int, -9223372036854775808 ≤ v → v ≤ 9223372036854775807 → bl s ≠ Lib.itoa v) ∧ numS s = (0, 13)) := by
 by_cases h : ∃ v : Int, -9223372036854775808 ≤ v ∧ v ≤ 9223372036854775807 ∧ bl s = Lib.itoa v
 ·
  obtain ⟨v, h0, h1, h2⟩ := h
  exact .inl ⟨v, h0, h1, h2, numS_ok h0 h1 h2⟩
 ·
  have h' : ∀ v : Int, -9223372036854775808 ≤ v → v ≤ 9223372036854775807 → bl s ≠ Lib.itoa v := fun v h0 h1 h2 => h ⟨v, h0, h1, h2⟩
  exact .inr ⟨h', numS_no h'⟩
theorem lt19 {u : Nat} (h : u ≤ 9999999999999999999) : u < 10 ^ 19 := Nat.lt_of_le_of_lt h (by decide)
end Go.Proofs.YtmlddeogmckgmaaGreatDoor.P

-- ==== PL3m
/- Plain laws of chapter 3: the document's Number reads just what is a number's own text. -/
namespace Go.Proofs.YtmlddeogmckgmaaGreatDoor.P
open Go.RowKit Go.Proofs.YtmlddeogmckgmaaGreatDoorW.PrintWords
def digs (l : List UInt8) : Bool := l.all (fun c => decide (dgt c))
theorem digs_iff {l : List UInt8} : digs l = true ↔ ∀ c ∈ l, dgt c := by simp [digs]
def endP (n : Nat) : Int × Int := if n > 9223372036854775807 then (0, 13) else ((n : Int), 0)
def endM (n : Nat) : Int × Int := if n > 9223372036854775808 then (0, 13) else (-(n : Int), 0)
def negL (r : List UInt8) : Int × Int := if r = [] then (0, 13) else if r.length > 19 then (0, 13) else if r.head? = some 48 then (0, 13) else if digs r = true then endM (vl 0 r) else (0, 13)
def posL (l : List UInt8) : Int × Int := if l = [] then (0, 13) else if l.length > 19 then (0, 13) else if l.head? = some 48 ∧ 1 < l.length then (0, 13) else if digs l = true then endP (vl 0 l) else (0, 13)
def refL (l : List UInt8) : Int × Int := if l.head? = some 45 then negL l.tail else posL l
theorem dgt_ne {c : UInt8} {n : Nat} (h : dgt c) (hn : n < 48) : c ≠ UInt8.ofNat n := by
 rintro rfl
 unfold dgt at h
 rw [UInt8.toNat_ofNat'] at h
 omega
theorem big_ne {c : UInt8} (h : 49 ≤ c.toNat) : c ≠ 48 := by
 rintro rfl
 exact absurd h (by decide)
theorem le63 {m : Nat} (h : m ≤ 9223372036854775808) : m < 10 ^ 19 := lt19 (by omega)
theorem refL_itoa {v : Int} (h0 : -9223372036854775808 ≤ v) (h1 : v ≤ 9223372036854775807) : refL (Lib.itoa v) = (v, 0) := by
 unfold Lib.itoa
 by_cases hv : v < 0
 ·
  rw [if_pos hv]
  have hm : v.natAbs ≤ 9223372036854775808 := by omega
  have hp : 0 < v.natAbs := by omega
  have hl := dec_len (u := v.natAbs) (k := 19) (le63 hm) (by decide)
  obtain ⟨c, r, hcr, hc⟩ := dec_head hp
  unfold refL
  rw [if_pos (by rfl)]
  show negL (Lib.decDigits v.natAbs) = _
  unfold negL
  rw [if_neg (dec_ne _), if_neg (by omega), if_neg (by rw [hcr]; simp only [List.head?_cons, Option.some.injEq]; exact big_ne hc), if_pos (digs_iff.2 (dec_dig _)), dec_vl]
  unfold endM
  rw [if_neg (by omega)]
  have : -((v.natAbs : Nat) : Int) = v := by omega
  rw [this]
 ·
  rw [if_neg hv]
  have hm : v.toNat ≤ 9223372036854775807 := by omega
  have hl := dec_len (u := v.toNat) (k := 19) (le63 (by omega)) (by decide)
  have hd := dec_dig v.toNat
  have hv0 := dec_vl v.toNat
  unfold refL
  have hh : ¬ (Lib.decDigits v.toNat).head? = some 45 := by
   cases hcr : Lib.decDigits v.toNat with
   | nil => simp
   | cons c r =>
    simp only [List.head?_cons, Option.some.injEq]
    exact dgt_ne (n := 45) (hd c (by rw [hcr]; exact List.mem_cons_self ..)) (by decide)
  rw [if_neg hh]
  unfold posL
  have hz : ¬ ((Lib.decDigits v.toNat).head? = some 48 ∧ 1 < (Lib.decDigits v.toNat).length) := by
   rintro ⟨h2, h3⟩
   rcases Nat.eq_zero_or_pos v.toNat with h4 | h4
   ·
    rw [h4, dec_step, if_pos (by decide)] at h3
    simp at h3
   ·
    obtain ⟨c, r, hcr, hc⟩ := dec_head h4
    rw [hcr] at h2
    simp only [List.head?_cons, Option.some.injEq] at h2
    exact big_ne hc h2
  rw [if_neg (dec_ne _), if_neg (by omega), if_neg hz, if_pos (digs_iff.2 hd), hv0]
  unfold endP
  rw [if_neg (by omega)]
  have : ((v.toNat : Nat) : Int) = v := by omega
  rw [this]
theorem itoa_neg' {m : Nat} (h : 1 ≤ m) : Lib.itoa (-(m : Int)) = 45 :: Lib.decDigits m := Lib.itoa_neg m h
theorem refL_inv (l : List UInt8) : refL l = (0, 13) ∨ ∃ v : Int, -9223372036854775808 ≤ v ∧ v ≤ 9223372036854775807 ∧ l = Lib.itoa v := by
 unfold refL
 by_cases hh : l.head? = some 45
 ·
  rw [if_pos hh]
  obtain ⟨r, rfl⟩ : ∃ r, l = 45 :: r := by
   cases l with
   | nil => simp at hh
   | cons c r =>
    simp only [List.head?_cons, Option.some.injEq] at hh
    exact ⟨r, by rw [hh]⟩
  show negL r = _ ∨ _
  unfold negL
  by_cases h1 : r = []
  ·
   exact .inl (if_pos h1)
  rw [if_neg h1]
  by_cases h2 : r.length > 19
  ·
   exact .inl (if_pos h2)
  rw [if_neg h2]
  by_cases h3 : r.head? = some 48
  ·
   exact .inl (if_pos h3)
  rw [if_neg h3]
  by_cases h4 : digs r = true
  ·
   rw [if_pos h4]
   unfold endM
   by_cases h5 : vl 0 r > 9223372036854775808
   ·
    exact .inl (if_pos h5)
   ·
    have hz : ∀ c q, r = c :: q → c.toNat = 48 → q = [] := fun c q hr hc => by
     exfalso
     apply h3
     rw [hr]
     simp only [List.head?_cons, Option.some.injEq]
     exact UInt8.toNat_inj.1 hc
    have hb := dec_back r.length r (Nat.le_refl _) h1 (digs_iff.1 h4) hz
    have hp : 1 ≤ vl 0 r := by
     rcases Nat.eq_zero_or_pos (vl 0 r) with h6 | h6
     ·
      exfalso
      rw [h6, dec_step, if_pos (by decide)] at hb
      apply h3
      rw [← hb]
      rfl
     ·
      exact h6
    exact .inr ⟨-((vl 0 r : Nat) : Int), by omega, by omega, by rw [itoa_neg' hp, hb]⟩
  ·
   exact .inl (if_neg h4)
 ·
  rw [if_neg hh]
  unfold posL
  by_cases h1 : l = []
  ·
   exact .inl (if_pos h1)
  rw [if_neg h1]
  by_cases h2 : l.length > 19
  ·
   exact .inl (if_pos h2)
  rw [if_neg h2]
  by_cases h3 : l.head? = some 48 ∧ 1 < l.length
  ·
   exact .inl (if_pos h3)
  rw [if_neg h3]
  by_cases h4 : digs l = true
  ·
   rw [if_pos h4]
   unfold endP
   by_cases h5 : vl 0 l > 9223372036854775807
   ·
    exact .inl (if_pos h5)
   ·
    have hz : ∀ c q, l = c :: q → c.toNat = 48 → q = [] := fun c q hr hc => by
     rcases Nat.eq_zero_or_pos q.length with h6 | h6
     ·
      exact List.length_eq_zero_iff.1 h6
     ·
      exfalso
      apply h3
      rw [hr]
      refine ⟨?_, by simp; omega⟩
      simp only [List.head?_cons, Option.some.injEq]
      exact UInt8.toNat_inj.1 hc
    have hb := dec_back l.length l (Nat.le_refl _) h1 (digs_iff.1 h4) hz
    exact .inr ⟨((vl 0 l : Nat) : Int), by omega, by omega, by rw [Lib.itoa_nonneg, hb]⟩
  ·
   exact .inl (if_neg h4)
theorem numS_refL (s : ByteArray) : numS s = refL (bl s) := by
 rcases numS_cases s with ⟨v, h0, h1, h2, h3⟩ | ⟨h1, h2⟩
 ·
  rw [h3, h2, refL_itoa h0 h1]
 ·
  rw [h2]
  rcases refL_inv (bl s) with h | ⟨v, h3, h4, h5⟩
  ·
   exact h.symm
  ·
   exact absurd h5 (h1 v h3 h4)
end Go.Proofs.YtmlddeogmckgmaaGreatDoor.P

-- ==== PL3r
/- Plain laws of chapter 3: the document's Number, run. -/
namespace Go.Proofs.YtmlddeogmckgmaaGreatDoor.P
open Go.RowKit Go.Proofs.YtmlddeogmckgmaaGreatDoorW.PrintWords
theorem u64_id {x : Int} (h0 : 0 ≤ x) (h1 : x < 18446744073709551616) : IntKind.u64.wrap x = x := by
 have e : IntKind.u64.wrap x = x % 18446744073709551616 := rfl
 rw [e]
 exact Int.emod_eq_of_lt h0 h1
theorem num_step {n : Nat} {c : UInt8} (hc : dgt c) (hn : n < 1844674407370955161) : IntKind.u64.wrap (IntKind.u64.wrap ((n : Int) * 10) + (((c.toNat : Int) - 48) % 256)) = ((n * 10 + (c.toNat - 48) : Nat) : Int) := by
 unfold dgt at hc
 rw [u64_id (x := (n : Int) * 10) (by omega) (by omega)]
 have e : ((c.toNat : Int) - 48) % 256 = ((c.toNat - 48 : Nat) : Int) := by omega
 rw [e, u64_id (by omega) (by omega)]
 omega
theorem neg_end {n : Nat} (h0 : 1 ≤ n) (h1 : n ≤ 9223372036854775808) : wrap64 ((wrap64 (-(wrap64 (IntKind.u64.wrap ((n : Int) - 1))))) - 1) = -(n : Int) := by
 rw [u64_id (by omega) (by omega), wrap_id (i := (n : Int) - 1) (by omega) (by omega), wrap_id (i := -((n : Int) - 1)) (by omega) (by omega), wrap_id (by omega) (by omega)]
 omega
theorem ev_j4t (a n : Int) : Ev (fun k => aumbryref03_Number.j4 k a n true) (0, 13) := by
 refine Ev.step (fun k => (show aumbryref03_Number.j4 (k + 1) a n true = _ from by rw [aumbryref03_Number.j4])) ?_
 exact evIfp rfl (Ev.now _)
theorem ev_j4p {n : Nat} (h : n ≤ 9223372036854775807) : Ev (fun k => aumbryref03_Number.j4 k 0 (n : Int) false) ((n : Int), 0) := by
 refine Ev.step (fun k => (show aumbryref03_Number.j4 (k + 1) 0 (n : Int) false = _ from by rw [aumbryref03_Number.j4])) ?_
 refine evIfn (by decide) (evIfn (by decide) ?_)
 rw [wrap_id (by omega) (by omega)]
 exact Ev.now _
theorem ev_j4m {n : Nat} (h0 : 1 ≤ n) (h : n ≤ 9223372036854775808) : Ev (fun k => aumbryref03_Number.j4 k 1 (n : Int) false) (-(n : Int), 0) := by
 refine Ev.step (fun k => (show aumbryref03_Number.j4 (k + 1) 1 (n : Int) false = _ from by rw [aumbryref03_Number.j4])) ?_
 refine evIfn (by decide) (evIfp rfl ?_)
 rw [neg_end h0 h]
 exact Ev.now _
def finN (a : Nat) (n : Nat) : Int × Int := if a = 1 then endM n else endP n
theorem ev_num_loop (s : ByteArray) (a : Nat) (ha : a = 0 ∨ a = 1) (hs : s.size ≤ 1000000) : ∀ (u : List UInt8) (i n : Nat), i ≤ s.size → (bl s).drop i = u → (n + 1) * 10 ^ u.length ≤ 10000000000000000000 → (a = 1 → digs u = true → 1 ≤ vl n u) →
 Ev (fun k => aumbryref03_Number.l0 k s (a : Int) (n : Int) (i : Int)) (if digs u = true then finN a (vl n u) else (0, 13))
 | [], i, n, hi, hu, hn, h1 => by
  have hsz := bl_drop_nil hi hu
  refine Ev.step (fun k => (show aumbryref03_Number.l0 (k + 1) s (a : Int) (n : Int) (i : Int) = _ from by rw [aumbryref03_Number.l0])) ?_
  refine evIfn (by omega) ?_
  rw [if_pos (by rfl)]
  show Ev _ (finN a n)
  have hv : a = 1 → 1 ≤ n := fun e => h1 e rfl
  unfold finN
  rcases ha with rfl | rfl
  ·
   rw [if_neg (by decide)]
   unfold endP
   by_cases h2 : n > 9223372036854775808
   ·
    rw [if_pos (by omega)]
    exact evIfp (by omega) (ev_j4t _ _)
   ·
    refine evIfn (by omega) ?_
    by_cases h3 : n = 9223372036854775808
    ·
     rw [if_pos (by omega)]
     exact evIfp (by omega) (ev_j4t _ _)
    ·
     rw [if_neg (by omega)]
     exact evIfn (by omega) (ev_j4p (by omega))
  ·
   rw [if_pos rfl]
   unfold endM
   by_cases h2 : n > 9223372036854775808
   ·
    rw [if_pos h2]
    exact evIfp (by omega) (ev_j4t _ _)
   ·
    refine evIfn (by omega) ?_
    rw [if_neg h2]
    by_cases h3 : n = 9223372036854775808
    ·
     exact evIfp (by omega) (ev_j4m (hv rfl) (by omega))
    ·
     exact evIfn (by omega) (ev_j4m (hv rfl) (by omega))
 | c :: u, i, n, hi, hu, hn, h1 => by
  obtain ⟨g1, g2, g3⟩ := bt_drop hu
  refine Ev.step (fun k => (show aumbryref03_Number.l0 (k + 1) s (a : Int) (n : Int) (i : Int) = _ from by rw [aumbryref03_Number.l0])) ?_
  refine evIfp (by omega) (evIfp (by omega) ?_)
  rw [g2]
  by_cases hc : dgt c
  ·
   have hc' := hc
   unfold dgt at hc'
   refine evIfn (by omega) (evIfn (by omega) ?_)
   have hp : 1 ≤ 10 ^ u.length := Nat.one_le_pow _ _ (by decide)
   rw [List.length_cons, Nat.pow_succ] at hn
   have hn1 : (n + 1) * 10 * 10 ^ u.length ≤ 10000000000000000000 := by rw [Nat.mul_assoc, Nat.mul_comm 10]; exact hn
   have hn2 : (n + 1) * 10 * 1 ≤ (n + 1) * 10 * 10 ^ u.length := Nat.mul_le_mul_left _ hp
   have hn3 : n < 1000000000000000000 := by omega
   rw [num_step hc (by omega), up_cast i (by omega)]
   have e : digs (c :: u) = digs u := by simp [digs, hc]
   rw [e, vl_cons]
   refine ev_num_loop s a ha hs u (i + 1) _ (by omega) g3 ?_ (fun e1 e2 => h1 e1 (by rw [e]; exact e2))
   exact Nat.le_trans (Nat.mul_le_mul_right _ (by omega)) hn1
  ·
   have e : digs (c :: u) = false := by simp [digs, hc]
   rw [e, if_neg (by decide)]
   unfold dgt at hc
   by_cases h2 : (c.toNat : Int) < 48
   ·
    exact evIfp h2 (Ev.now _)
   ·
    exact evIfn h2 (evIfp (by omega) (Ev.now _))
theorem ev_j2t (s : ByteArray) (a : Int) : Ev (fun k => aumbryref03_Number.j2 k s a true) (0, 13) := by
 refine Ev.step (fun k => (show aumbryref03_Number.j2 (k + 1) s a true = _ from by rw [aumbryref03_Number.j2])) ?_
 exact evIfp rfl (Ev.now _)
theorem ev_j2f (s : ByteArray) (a : Nat) (ha : a = 0 ∨ a = 1) (hs : s.size ≤ 1000000) {u : List UInt8} (hi : a ≤ s.size) (hu : (bl s).drop a = u) (hn : u.length ≤ 19) (h1 : a = 1 → digs u = true → 1 ≤ vl 0 u) : Ev (fun k => aumbryref03_Number.j2 k s (a : Int) false) (if digs u = true then finN a (vl 0 u) else (0, 13)) := by
 refine Ev.step (fun k => (show aumbryref03_Number.j2 (k + 1) s (a : Int) false = _ from by rw [aumbryref03_Number.j2])) ?_
 refine evIfn (by decide) ?_
 refine ev_num_loop s a ha hs u a 0 hi hu ?_ h1
 rw [Nat.zero_add, Nat.one_mul]
 exact Nat.le_trans (Nat.pow_le_pow_right (by decide) hn) (by decide)
theorem ev_j1n (s : ByteArray) (hs : s.size ≤ 281474976710656) {r : List UInt8} (h : bl s = 45 :: r) : Ev (fun k => aumbryref03_Number.j1 k s 1) (negL r) := by
 have hlen := bl_len s
 rw [h, List.length_cons] at hlen
 refine Ev.step (fun k => (show aumbryref03_Number.j1 (k + 1) s 1 = _ from by rw [aumbryref03_Number.j1])) ?_
 have hd : (bl s).drop 1 = r := by rw [h]; rfl
 unfold negL
 cases r with
 | nil =>
  rw [if_pos rfl]
  refine evIfp ?_ (ev_j2t _ _)
  simp only [List.length_nil] at hlen
  omega
 | cons c q =>
  rw [List.length_cons] at hlen
  rw [if_neg (by simp), List.length_cons]
  refine evIfn (by omega) ?_
  rw [wrap_id (by omega) (by omega)]
  by_cases h2 : q.length + 1 > 19
  ·
   rw [if_pos h2]
   exact evIfp (by omega) (ev_j2t _ _)
  ·
   rw [if_neg h2]
   refine evIfn (by omega) (evIfp (by decide) (evIfp (by omega) ?_))
   obtain ⟨g1, g2, g3⟩ := bt_drop hd
   have g2' : bt s 1 = (c.toNat : Int) := g2
   rw [g2']
   simp only [List.head?_cons, Option.some.injEq]
   by_cases h3 : c = 48
   ·
    rw [if_pos h3]
    subst h3
    refine evIfp (by decide) ?_
    rw [decide_eq_true (show (s.size : Int) > 1 by omega)]
    exact ev_j2t _ _
   ·
    rw [if_neg h3]
    refine evIfn (fun e => h3 (UInt8.toNat_inj.1 (show c.toNat = (48 : UInt8).toNat from by have h48 : (48 : UInt8).toNat = 48 := rfl; omega))) ?_
    have hp : digs (c :: q) = true → 1 ≤ vl 0 (c :: q) := fun h4 => by
     have hc := digs_iff.1 h4 c (List.mem_cons_self ..)
     unfold dgt at hc
     have hc48 : ¬ c.toNat = 48 := fun e => h3 (UInt8.toNat_inj.1 e)
     have := vl_ge q (0 * 10 + (c.toNat - 48))
     have h5 : 1 ≤ 10 ^ q.length := Nat.one_le_pow _ _ (by decide)
     have h6 : 1 * 1 ≤ (0 * 10 + (c.toNat - 48)) * 10 ^ q.length := Nat.mul_le_mul (by omega) h5
     rw [vl_cons]
     omega
    exact ev_j2f s 1 (.inr rfl) (by omega) (by omega) hd (by rw [List.length_cons]; omega) (fun _ => hp)
theorem ev_j1p (s : ByteArray) (hs : s.size ≤ 281474976710656) : Ev (fun k => aumbryref03_Number.j1 k s 0) (posL (bl s)) := by
 have hlen := bl_len s
 refine Ev.step (fun k => (show aumbryref03_Number.j1 (k + 1) s 0 = _ from by rw [aumbryref03_Number.j1])) ?_
 have hd : (bl s).drop 0 = bl s := rfl
 unfold posL
 cases hb : bl s with
 | nil =>
  rw [if_pos rfl]
  refine evIfp ?_ (ev_j2t _ _)
  rw [hb] at hlen
  simp only [List.length_nil] at hlen
  omega
 | cons c q =>
  rw [hb] at hd
  rw [hb, List.length_cons] at hlen
  rw [if_neg (by simp), List.length_cons]
  refine evIfn (by omega) ?_
  rw [wrap_id (by omega) (by omega)]
  by_cases h2 : q.length + 1 > 19
  ·
   rw [if_pos h2]
   exact evIfp (by omega) (ev_j2t _ _)
  ·
   rw [if_neg h2]
   refine evIfn (by omega) (evIfp (by decide) (evIfp (by omega) ?_))
   have hd' : (bl s).drop 0 = c :: q := by rw [hb]; rfl
   obtain ⟨g1, g2, g3⟩ := bt_drop hd'
   have g2' : bt s 0 = (c.toNat : Int) := g2
   rw [g2']
   simp only [List.head?_cons, Option.some.injEq]
   have fin := ev_j2f s 0 (.inl rfl) (by omega) (by omega) hd' (by rw [List.length_cons]; omega) (fun e => by cases e)
   have e0 : finN 0 (vl 0 (c :: q)) = endP (vl 0 (c :: q)) := rfl
   rw [e0] at fin
   by_cases h3 : c = 48
   ·
    have h48 : (48 : UInt8).toNat = 48 := rfl
    refine evIfp (by rw [h3]; rfl) ?_
    by_cases h4 : 1 < q.length + 1
    ·
     rw [if_pos ⟨h3, h4⟩, decide_eq_true (show (s.size : Int) > 1 by omega)]
     exact ev_j2t _ _
    ·
     rw [if_neg (fun h => h4 h.2), decide_eq_false (show ¬ (s.size : Int) > 1 by omega)]
     exact fin
   ·
    rw [if_neg (fun h => h3 h.1)]
    refine evIfn (fun e => h3 (UInt8.toNat_inj.1 (show c.toNat = (48 : UInt8).toNat from by have h48 : (48 : UInt8).toNat = 48 := rfl; omega))) ?_
    exact fin
theorem ev_refNumber (s : ByteArray) (hs : s.size ≤ 281474976710656) : Ev (fun k => aumbryref03_Number.f k s) (numS s) := by
 have hlen := bl_len s
 rw [numS_refL]
 unfold aumbryref03_Number.f refL
 cases hb : bl s with
 | nil =>
  rw [hb] at hlen
  simp only [List.length_nil] at hlen
  refine evIfn (by omega) ?_
  refine Ev.step (fun k => (show aumbryref03_Number.j0 (k + 1) s 0 false = _ from by rw [aumbryref03_Number.j0])) ?_
  refine evIfn (by decide) ?_
  have := ev_j1p s hs
  rw [hb] at this
  exact this
 | cons c q =>
  rw [hb, List.length_cons] at hlen
  have hd' : (bl s).drop 0 = c :: q := by rw [hb]; rfl
  obtain ⟨g1, g2, g3⟩ := bt_drop hd'
  have g2' : bt s 0 = (c.toNat : Int) := g2
  refine evIfp (by omega) (evIfp (by omega) ?_)
  rw [g2']
  simp only [List.head?_cons, Option.some.injEq]
  by_cases h3 : c = 45
  ·
   have e : ((c.toNat : Int) == 45) = true := by rw [h3]; rfl
   rw [e, if_pos h3]
   refine Ev.step (fun k => (show aumbryref03_Number.j0 (k + 1) s 0 true = _ from by rw [aumbryref03_Number.j0])) ?_
   refine evIfp rfl ?_
   have e2 : (c :: q).tail = q := rfl
   rw [e2]
   exact ev_j1n s hs (by rw [hb, h3])
  ·
   have e : ((c.toNat : Int) == 45) = false := by
    rw [beq_eq_false_iff_ne]
    exact fun e => h3 (UInt8.toNat_inj.1 (show c.toNat = (45 : UInt8).toNat from by have h45 : (45 : UInt8).toNat = 45 := rfl; omega))
   rw [e, if_neg h3]
   refine Ev.step (fun k => (show aumbryref03_Number.j0 (k + 1) s 0 false = _ from by rw [aumbryref03_Number.j0])) ?_
   refine evIfn (by decide) ?_
   have := ev_j1p s hs
   rw [hb] at this
   exact this
end Go.Proofs.YtmlddeogmckgmaaGreatDoor.P

-- ==== PC1
/- Plain laws of chapter 22: any line's words are read; two commands are alike. -/
namespace Go.Proofs.YtmlddeogmckgmaaGreatDoor.P
open Go.RowKit Go.Proofs.YtmlddeogmckgmaaGreatDoorW.PrintWords
def smDr (x : Dr) : Prop := x.tm.length ≤ 64 ∧ x.lf.length ≤ 64 ∧ x.rt.length ≤ 64
theorem smDr0 (kd : Int) : smDr (dr0 kd) := ⟨Nat.zero_le _, Nat.zero_le _, Nat.zero_le _⟩
theorem num_ev (s : ByteArray) (h : s.size ≤ 281474976710656) : command_number.f s = some ((numS s).1, (numS s).2) := by
 unfold command_number.f name_Number.f
 rw [if_pos h]
 rfl
def isSign (w : ByteArray) : Prop := w.toList = [87] ∨ w.toList = [78] ∨ w.toList = [73] ∨ w.toList = [84] ∨ w.toList = [76] ∨ w.toList = [82] ∨ w.toList = [79]
theorem words_sz (s : ByteArray) (hs : s.size ≤ 256) : ∀ x ∈ wdsS s, x.size ≤ 281474976710656 := fun x hx => by have := (words_good s x hx).2.2; omega
structure SameDr (x y : Dr) : Prop where
 kd : x.kd = y.kd
 nm : x.nm = y.nm
 n : x.n = y.n
 id : x.id = y.id
 on : x.on = y.on
 tm : x.tm = y.tm
 rid : x.rid = y.rid
 lf : x.lf = y.lf
 rt : x.rt = y.rt
theorem toL_iff {a b : ByteArray} : a.toList = b.toList ↔ a = b := ⟨toL_injC, fun h => by rw [h]⟩
theorem ev_rsameG (id id' : Int) (l r l' r' : List Cel) (hl : l.length ≤ 9223372036854775806 ∨ l'.length ≤ 9223372036854775806) (hr : r.length ≤ 9223372036854775806 ∨ r'.length ≤ 9223372036854775806) : ∃ b, Ev (fun k => aumbryref06_Same.f k id l r id' l' r') b ∧ (b = true ↔ id = id' ∧ l = l' ∧ r = r') := by
 unfold aumbryref06_Same.f
 by_cases c1 : id = id'
 ·
  by_cases c2 : l = l'
  ·
   exact ⟨_, evIfp c1 (Ev.bind (ev_refSame4 l l' hl) (evIfp (decide_eq_true c2) (Ev.bind (ev_refSame4 r r' hr) (Ev.now _)))), by simp [c1, c2]⟩
  ·
   exact ⟨_, evIfp c1 (Ev.bind (ev_refSame4 l l' hl) (evIfn (by simp [c2]) (Ev.now _))), by simp [c1, c2]⟩
 ·
  exact ⟨_, evIfn c1 (Ev.now _), by simp [c1]⟩
def SmallDr (x : Dr) : Prop := x.tm.length ≤ 9223372036854775806 ∧ x.lf.length ≤ 9223372036854775806 ∧ x.rt.length ≤ 9223372036854775806
theorem smDr.small {x : Dr} (h : smDr x) : SmallDr x := ⟨by have := h.1; omega, by have := h.2.1; omega, by have := h.2.2; omega⟩
theorem ev_same22 (x y : Dr) (hb : SmallDr x ∨ SmallDr y) : ∃ b, Ev (fun k => sameG k x y) b ∧ (b = true ↔ SameDr x y) := by
 have e : SameDr x y ↔ x.kd = y.kd ∧ x.nm = y.nm ∧ x.n = y.n ∧ x.id = y.id ∧ x.on = y.on ∧ x.tm = y.tm ∧ x.rid = y.rid ∧ x.lf = y.lf ∧ x.rt = y.rt := ⟨fun h => ⟨h.1, h.2, h.3, h.4, h.5, h.6, h.7, h.8, h.9⟩, fun ⟨h1, h2, h3, h4, h5, h6, h7, h8, h9⟩ => ⟨h1, h2, h3, h4, h5, h6, h7, h8, h9⟩⟩
 rw [e]
 unfold sameG
 by_cases c1 : x.kd = y.kd
 case neg => exact ⟨_, evIfn c1 (Ev.now _), by simp [c1]⟩
 by_cases c2 : x.nm = y.nm
 case neg => exact ⟨_, evIfp c1 (evIfn (fun h => c2 (toL_iff.1 h)) (Ev.now _)), by simp [c2]⟩
 by_cases c3 : x.n = y.n
 case neg => exact ⟨_, evIfp c1 (evIfp (toL_iff.2 c2) (evIfn c3 (Ev.now _))), by simp [c3]⟩
 by_cases c4 : x.id = y.id
 case neg => exact ⟨_, evIfp c1 (evIfp (toL_iff.2 c2) (evIfp c3 (evIfn c4 (Ev.now _)))), by simp [c4]⟩
 by_cases c5 : x.on = y.on
 case neg => exact ⟨_, evIfp c1 (evIfp (toL_iff.2 c2) (evIfp c3 (evIfp c4 (evIfn (by simpa using c5) (Ev.now _))))), by simp [c5]⟩
 by_cases c6 : x.tm = y.tm
 case neg => exact ⟨_, evIfp c1 (evIfp (toL_iff.2 c2) (evIfp c3 (evIfp c4 (evIfp (by simpa using c5) (Ev.bind (ev_refSame4 x.tm y.tm (hb.imp (·.1) (·.1))) (evIfn (by simp [c6]) (Ev.now _))))))), by simp [c6]⟩
 obtain ⟨b, h, hb2⟩ := ev_rsameG x.rid y.rid x.lf x.rt y.lf y.rt (hb.imp (·.2.1) (·.2.1)) (hb.imp (·.2.2) (·.2.2))
 exact ⟨_, evIfp c1 (evIfp (toL_iff.2 c2) (evIfp c3 (evIfp c4 (evIfp (by simpa using c5) (Ev.bind (ev_refSame4 x.tm y.tm (hb.imp (·.1) (·.1))) (evIfp (decide_eq_true c6) h)))))), by rw [hb2]; simp [c1, c2, c3, c4, c5, c6]⟩
end Go.Proofs.YtmlddeogmckgmaaGreatDoor.P

-- ==== PC2
/- Plain laws of chapter 22: what the statements ask ahead (wakes). -/
namespace Go.Proofs.YtmlddeogmckgmaaGreatDoor.P
open Go.RowKit Go.Proofs.YtmlddeogmckgmaaGreatDoorW.PrintWords
theorem ev_wakes22 : Ev (fun k => wakesF k) true := Ev.of (g := fun k => wakesF k) wakesF_mono (k := 40) (by kernel_rfl)
end Go.Proofs.YtmlddeogmckgmaaGreatDoor.P

-- ==== PC3
/- Plain laws of chapter 22: keys of commands; a command that is read, and one whose key is the same. -/
namespace Go.Proofs.YtmlddeogmckgmaaGreatDoor.P
open Go.RowKit Go.Proofs.YtmlddeogmckgmaaGreatDoorW.PrintWords
theorem ev_det {α : Type} {g : Nat → Option α} {a b : α} (h1 : Ev g a) (h2 : Ev g b) : a = b := by
 obtain ⟨K1, h1⟩ := h1
 obtain ⟨K2, h2⟩ := h2
 exact Option.some.inj ((h1 (max K1 K2) (Nat.le_max_left _ _)).symm.trans (h2 _ (Nat.le_max_right _ _)))
def noB (s : ByteArray) : Prop := (32 : UInt8) ∉ bl s
theorem kind_noB {s : ByteArray} (h : kindS s ≠ 0) : noB s := fun hm => absurd (kindS_signs h 32 hm) (by decide)
theorem sep_ne (i : Nat) : (32 : UInt8) ≠ sepB i := by unfold sepB; split <;> decide
theorem close_noB (n : Nat) : (32 : UInt8) ∉ closeB n := by unfold closeB; split <;> decide
theorem tx_noB {i n : Nat} {l : List Cel} {b : List UInt8} {d : Nat} (h : Tx i n l b d) (hc : ∀ c ∈ l, Okc c) : (32 : UInt8) ∉ b := by
 induction h with
 | done n => simp
 | @arg i n c l1 l2 b1 b2 d1 d2 h h1 h2 ih1 ih2 =>
  have k0 := kind_noB (hc c List.mem_cons_self).kind
  have k1 := ih1 (fun x hx => hc x (List.mem_cons_of_mem _ (List.mem_append_left _ hx)))
  have k2 := ih2 (fun x hx => hc x (List.mem_cons_of_mem _ (List.mem_append_right _ hx)))
  simp only [List.mem_cons, List.mem_append, not_or]
  exact ⟨sep_ne i, ⟨⟨k0, k1⟩, close_noB _⟩, k2⟩
theorem txt_noB {c : Cel} {l : List Cel} {b : List UInt8} {d : Nat} (h : Tx 0 (ar c) l b d) (ho : ∀ x ∈ c :: l, Okc x) : noB (txtB c b) := by
 show (32 : UInt8) ∉ txtL c b
 unfold txtL
 simp only [List.mem_append, not_or]
 exact ⟨⟨kind_noB (ho c List.mem_cons_self).kind, tx_noB h fun x hx => ho x (List.mem_cons_of_mem _ hx)⟩, close_noB _⟩
def TextIs (t : List Cel) (s : ByteArray) : Prop := (checkS t ≠ 0 ∧ s = ⟨#[]⟩) ∨ (checkS t = 0 ∧ ∃ c l b d, t = c :: l ∧ Tx 0 (ar c) l b d ∧ (∀ x ∈ c :: l, Okc x) ∧ (c :: l).length ≤ 64 ∧ s = txtB c b)
theorem text_ev (t : List Cel) : ∃ s, Ev (fun k => textF k t) s ∧ noB s ∧ s.size ≤ 640 ∧ TextIs t s := by
 by_cases h : checkS t = 0
 ·
  obtain ⟨c, l, b, d, rfl, h1, h2, h3⟩ := tx_term h
  exact ⟨txtB c b, Ev.bind (ev_print h1 h2 h3) (Ev.now _), txt_noB h1 h2, by have := (txt_len h1 h2 h3).1; rw [← bl_len]; exact this, .inr ⟨h, c, l, b, d, rfl, h1, h2, h3, rfl⟩⟩
 ·
  exact ⟨⟨#[]⟩, Ev.bind (ev_print_no h) (Ev.now _), by simp [noB], by decide, .inl ⟨h, rfl⟩⟩
theorem txtB_ne {c : Cel} {l : List Cel} {b : List UInt8} {d : Nat} (h : Tx 0 (ar c) l b d) (ho : ∀ x ∈ c :: l, Okc x) (hl : (c :: l).length ≤ 64) : txtB c b ≠ ⟨#[]⟩ := fun e => (txt_len h ho hl).2 (by have := congrArg bl e; rw [txt_bl] at this; exact this)
theorem text_inj {t u : List Cel} {s : ByteArray} (ht : TextIs t s) (hu : TextIs u s) (hl : t.length = u.length) (ok : u = [] ∨ checkS u = 0) : t = u := by
 rcases ht with ⟨h1, e1⟩ | ⟨h1, c, l, b, d, e1, p1, p2, p3, e2⟩
 ·
  rcases hu with ⟨h2, e3⟩ | ⟨h2, c', l', b', d', e3, q1, q2, q3, e4⟩
  ·
   rcases ok with rfl | ok
   ·
    exact List.eq_nil_of_length_eq_zero hl
   ·
    exact absurd ok h2
  ·
   exact absurd (e4.symm.trans e1) (txtB_ne q1 q2 q3)
 ·
  rcases hu with ⟨h2, e3⟩ | ⟨h2, c', l', b', d', e3, q1, q2, q3, e4⟩
  ·
   exact absurd (e2.symm.trans e3) (txtB_ne p1 p2 p3)
  ·
   have r1 := ev_parse_text p1 p2 p3
   have r2 := ev_parse_text q1 q2 q3
   rw [← e2] at r1
   rw [← e4] at r2
   have := ev_det r1 r2
   rw [e1, e3]
   exact (Prod.mk.inj this).1
theorem itoa_noB (v : Int) : (32 : UInt8) ∉ Lib.itoa v := by
 have hd : ∀ u : Nat, (32 : UInt8) ∉ Lib.decDigits u := fun u hm => by
  have := dec_dig u 32 hm
  revert this
  unfold dgt
  decide
 rcases Int.lt_or_le v 0 with h | h
 ·
  obtain ⟨u, hu⟩ : ∃ u : Nat, v = -(u : Int) := ⟨v.natAbs, by omega⟩
  rw [hu, Lib.itoa_neg u (by omega)]
  simp only [List.mem_cons, not_or]
  exact ⟨by decide, hd u⟩
 ·
  obtain ⟨u, rfl⟩ := Int.eq_ofNat_of_zero_le h
  rw [Lib.itoa_nonneg]
  exact hd u
def i64R (v : Int) : Prop := -9223372036854775808 ≤ v ∧ v ≤ 9223372036854775807
theorem wr_at {v : Int} (h : i64R v) : name_Write.f v = some (wrS v) := by
 unfold name_Write.f
 rw [if_pos h.1, if_pos h.2]
theorem wr_noB {v : Int} (h : i64R v) : noB (wrS v) := by
 show (32 : UInt8) ∉ bl (wrS v)
 rw [wrS_itoa h.1 h.2]
 exact itoa_noB v
theorem wr_inj {v u : Int} (h : i64R v) (h' : i64R u) (e : wrS v = wrS u) : v = u := by
 have h1 := numS_ok h.1 h.2 (wrS_itoa h.1 h.2)
 have h2 := numS_ok h'.1 h'.2 (wrS_itoa h'.1 h'.2)
 rw [e] at h1
 exact (Prod.mk.inj (h1.symm.trans h2)).1
theorem wr_size {v : Int} (h : i64R v) : (wrS v).size ≤ 21 := by
 rw [← bl_len, wrS_itoa h.1 h.2]
 have hd : ∀ u : Nat, u < 10 ^ 20 → (Lib.decDigits u).length ≤ 20 := fun u hu => dec_len hu (by omega)
 rcases Int.lt_or_le v 0 with hv | hv
 ·
  obtain ⟨u, hu⟩ : ∃ u : Nat, v = -(u : Int) := ⟨v.natAbs, by omega⟩
  rw [hu, Lib.itoa_neg u (by omega)]
  have h1 := h.1
  have := hd u (by have : (10 : Nat) ^ 20 = 100000000000000000000 := (by decide); omega)
  simp only [List.length_cons]
  omega
 ·
  obtain ⟨u, rfl⟩ := Int.eq_ofNat_of_zero_le hv
  rw [Lib.itoa_nonneg]
  have h1 := h.2
  have := hd u (by have : (10 : Nat) ^ 20 = 100000000000000000000 := (by decide); omega)
  omega
end Go.Proofs.YtmlddeogmckgmaaGreatDoor.P

-- ==== PC4
/- Plain laws of chapter 22: keys tell commands apart. -/
namespace Go.Proofs.YtmlddeogmckgmaaGreatDoor.P
open Go.RowKit Go.Proofs.YtmlddeogmckgmaaGreatDoorW.PrintWords
theorem split1 : ∀ (x y T1 T2 : List UInt8), (32 : UInt8) ∉ x → (32 : UInt8) ∉ y → (T1 = [] ∨ ∃ t, T1 = 32 :: t) → (T2 = [] ∨ ∃ t, T2 = 32 :: t) → x ++ T1 = y ++ T2 → x = y ∧ T1 = T2
 | [], [], _, _, _, _, _, _, h => ⟨rfl, h⟩
 | [], b :: y, T1, T2, _, hy, h1, _, h => by
  rcases h1 with rfl | ⟨t, rfl⟩
  ·
   cases h
  ·
   obtain ⟨e, _⟩ := List.cons.inj h
   exact absurd List.mem_cons_self (e ▸ hy)
 | a :: x, [], T1, T2, hx, _, _, h2, h => by
  rcases h2 with rfl | ⟨t, rfl⟩
  ·
   cases h
  ·
   obtain ⟨e, _⟩ := List.cons.inj h
   exact absurd List.mem_cons_self (e ▸ hx)
 | a :: x, b :: y, T1, T2, hx, hy, h1, h2, h => by
  obtain ⟨e, h⟩ := List.cons.inj h
  obtain ⟨e1, e2⟩ := split1 x y T1 T2 (fun m => hx (List.mem_cons_of_mem _ m)) (fun m => hy (List.mem_cons_of_mem _ m)) h1 h2 h
  exact ⟨by rw [e, e1], e2⟩
def tlL : List (List UInt8) → List UInt8
 | [] => []
 | x :: r => 32 :: (x ++ tlL r)
theorem joinTail_tl : ∀ r : List (List UInt8), Lib.joinTail [32] r = tlL r
 | [] => rfl
 | x :: r => by
  rw [tlL, ← joinTail_tl r]
  rfl
theorem joinL_cons (x : ByteArray) (r : List ByteArray) : joinL (x :: r) = bl x ++ tlL (r.map bl) := by
 unfold joinL
 rw [List.map_cons, Lib.join_cons, joinTail_tl]
theorem tlL_form (r : List (List UInt8)) : tlL r = [] ∨ ∃ t, tlL r = 32 :: t := by
 cases r with
 | nil => exact .inl rfl
 | cons x r => exact .inr ⟨_, rfl⟩
theorem tlL_inj : ∀ (xs ys : List (List UInt8)), xs.length = ys.length → (∀ x ∈ xs, (32 : UInt8) ∉ x) → (∀ y ∈ ys, (32 : UInt8) ∉ y) → tlL xs = tlL ys → xs = ys
 | [], [], _, _, _, _ => rfl
 | [], _ :: _, h, _, _, _ => by simp at h
 | _ :: _, [], h, _, _, _ => by simp at h
 | x :: xs, y :: ys, h, hx, hy, e => by
  obtain ⟨_, e⟩ := List.cons.inj e
  obtain ⟨e1, e2⟩ := split1 x y _ _ (hx x List.mem_cons_self) (hy y List.mem_cons_self) (tlL_form xs) (tlL_form ys) e
  rw [e1, tlL_inj xs ys (by simpa using h) (fun z hz => hx z (List.mem_cons_of_mem _ hz)) (fun z hz => hy z (List.mem_cons_of_mem _ hz)) e2]
theorem tlL_count : ∀ xs : List (List UInt8), (∀ x ∈ xs, (32 : UInt8) ∉ x) → (tlL xs).count 32 = xs.length
 | [], _ => rfl
 | x :: xs, hx => by
  rw [tlL, List.count_cons_self, List.count_append, List.count_eq_zero_of_not_mem (hx x List.mem_cons_self), tlL_count xs (fun z hz => hx z (List.mem_cons_of_mem _ hz)), List.length_cons]
  omega
theorem joinL_inj {x y : ByteArray} {xs ys : List ByteArray} (hl : xs.length = ys.length) (hx : ∀ z ∈ xs, noB z) (hy0 : noB y) (hy : ∀ z ∈ ys, noB z) (h : joinL (x :: xs) = joinL (y :: ys)) : x = y ∧ xs = ys := by
 rw [joinL_cons, joinL_cons] at h
 have mx : ∀ z ∈ xs.map bl, (32 : UInt8) ∉ z := fun z hz => by obtain ⟨u, hu, rfl⟩ := List.mem_map.1 hz; exact hx u hu
 have my : ∀ z ∈ ys.map bl, (32 : UInt8) ∉ z := fun z hz => by obtain ⟨u, hu, rfl⟩ := List.mem_map.1 hz; exact hy u hu
 have hc := congrArg (List.count 32) h
 rw [List.count_append, List.count_append, tlL_count _ mx, tlL_count _ my, List.length_map, List.length_map, List.count_eq_zero_of_not_mem hy0] at hc
 have hx0 : (32 : UInt8) ∉ bl x := List.count_eq_zero.1 (by omega)
 obtain ⟨e1, e2⟩ := split1 _ _ _ _ hx0 hy0 (tlL_form _) (tlL_form _) h
 have e3 := tlL_inj _ _ (by simpa using hl) mx my e2
 have hinj : ∀ (a b : List ByteArray), a.map bl = b.map bl → a = b := by
  intro a
  induction a with
  | nil => intro b h; cases b with | nil => rfl | cons _ _ => cases h
  | cons u a ih =>
   intro b h
   cases b with
   | nil => cases h
   | cons w b =>
    obtain ⟨p, q⟩ := List.cons.inj h
    rw [bl_inj p, ih b q]
 exact ⟨bl_inj e1, hinj _ _ e3⟩
def ooS (b : Bool) : ByteArray := if b = true then ⟨#[111, 110]⟩ else ⟨#[111, 102, 102]⟩
theorem oo_noB (b : Bool) : noB (ooS b) := by cases b <;> simp [noB, ooS]
structure rngD (x : Dr) : Prop where
 nm : x.nm.size ≤ 1048576
 n : i64R x.n
 id : i64R x.id
structure okD (x : Dr) : Prop where
 nm : noB x.nm
 rng : rngD x
 tm : x.tm = [] ∨ checkS x.tm = 0
 lf : x.lf = [] ∨ checkS x.lf = 0
 rt : x.rt = [] ∨ checkS x.rt = 0
theorem tl_lit (l : List UInt8) : (⟨l.toArray⟩ : ByteArray).toList = l := by rw [ByteArray.toList_eq]
section
variable (x : Dr)
theorem w87 : Ev (fun k => wordF k x ⟨#[87]⟩) x.nm := evIfp (tl_lit [87]) (Ev.now _)
theorem w78 (h : i64R x.n) : Ev (fun k => wordF k x ⟨#[78]⟩) (wrS x.n) := evIfn (by rw [tl_lit [78]]; decide) (evIfp (tl_lit [78]) (evIs (wr_at h)))
theorem w73 (h : i64R x.id) : Ev (fun k => wordF k x ⟨#[73]⟩) (wrS x.id) := evIfn (by rw [tl_lit [73]]; decide) (evIfn (by rw [tl_lit [73]]; decide) (evIfp (tl_lit [73]) (evIs (wr_at h))))
theorem w84 {s : ByteArray} (h : Ev (fun k => textF k x.tm) s) : Ev (fun k => wordF k x ⟨#[84]⟩) s := evIfn (by rw [tl_lit [84]]; decide) (evIfn (by rw [tl_lit [84]]; decide) (evIfn (by rw [tl_lit [84]]; decide) (evIfp (tl_lit [84]) h)))
theorem w76 {s : ByteArray} (h : Ev (fun k => textF k x.lf) s) : Ev (fun k => wordF k x ⟨#[76]⟩) s := evIfn (by rw [tl_lit [76]]; decide) (evIfn (by rw [tl_lit [76]]; decide) (evIfn (by rw [tl_lit [76]]; decide) (evIfn (by rw [tl_lit [76]]; decide) (evIfp (tl_lit [76]) h))))
theorem w82 {s : ByteArray} (h : Ev (fun k => textF k x.rt) s) : Ev (fun k => wordF k x ⟨#[82]⟩) s := evIfn (by rw [tl_lit [82]]; decide) (evIfn (by rw [tl_lit [82]]; decide) (evIfn (by rw [tl_lit [82]]; decide) (evIfn (by rw [tl_lit [82]]; decide) (evIfn (by rw [tl_lit [82]]; decide) (evIfp (tl_lit [82]) h)))))
theorem w79 : Ev (fun k => wordF k x ⟨#[79]⟩) (ooS x.on) := evIfn (by rw [tl_lit [79]]; decide) (evIfn (by rw [tl_lit [79]]; decide) (evIfn (by rw [tl_lit [79]]; decide) (evIfn (by rw [tl_lit [79]]; decide) (evIfn (by rw [tl_lit [79]]; decide) (evIfn (by rw [tl_lit [79]]; decide) (evIfp (tl_lit [79]) (Ev.now _)))))))
end
theorem ev_words_cons {x : Dr} {w : ByteArray} {ws : List ByteArray} {a : ByteArray} {r : List ByteArray} (h1 : Ev (fun k => wordF k x w) a) (h2 : Ev (fun k => wordsF k x ws) r) : Ev (fun k => wordsF k x (w :: ws)) (a :: r) := Ev.bind h1 (Ev.bind h2 (Ev.now _))
theorem key_ev {x : Dr} (h : rngD x) {t1 t2 t3 : ByteArray} (h1 : Ev (fun k => textF k x.tm) t1) (h2 : Ev (fun k => textF k x.lf) t2) (h3 : Ev (fun k => textF k x.rt) t3) (s1 : t1.size ≤ 640) (s2 : t2.size ≤ 640) (s3 : t3.size ≤ 640) :
 Ev (fun k => keyF k x) (joinS [x.nm, wrS x.n, wrS x.id, t1, t2, t3, ooS x.on]) := by
 unfold keyF
 refine Ev.bind (a := [x.nm, wrS x.n, wrS x.id, t1, t2, t3, ooS x.on]) (ev_words_cons (w87 x) (ev_words_cons (w78 x h.n) (ev_words_cons (w73 x h.id) (ev_words_cons (w84 x h1) (ev_words_cons (w76 x h2) (ev_words_cons (w82 x h3) (ev_words_cons (w79 x) (Ev.now _)))))))) (evIfp ?_ (Ev.now _))
 have n1 := h.nm
 have n2 := wr_size h.n
 have n3 := wr_size h.id
 have n4 : (ooS x.on).size ≤ 3 := by cases x.on <;> decide
 rw [joinL_cons]
 simp only [List.map_cons, List.map_nil, tlL, List.length_append, List.length_cons, List.length_nil, bl_len]
 omega
theorem joinS_bl (l : List ByteArray) : bl (joinS l) = joinL l := rfl
theorem same_ev {c p : Dr} (hc : rngD c) (ok : okD p) : ∃ b, Ev (fun k => sameF k c p) b ∧ (b = true ↔ SameDr c p) := by
 obtain ⟨t1, a1, n1, z1, i1⟩ := text_ev c.tm
 obtain ⟨t2, a2, n2, z2, i2⟩ := text_ev c.lf
 obtain ⟨t3, a3, n3, z3, i3⟩ := text_ev c.rt
 obtain ⟨u1, b1, m1, y1, j1⟩ := text_ev p.tm
 obtain ⟨u2, b2, m2, y2, j2⟩ := text_ev p.lf
 obtain ⟨u3, b3, m3, y3, j3⟩ := text_ev p.rt
 have kc := key_ev hc a1 a2 a3 z1 z2 z3
 have kp := key_ev ok.rng b1 b2 b3 y1 y2 y3
 unfold sameF
 by_cases e1 : c.kd = p.kd
 case neg => exact ⟨false, evIfn e1 (Ev.now _), by simp only [Bool.false_eq_true, false_iff]; exact fun h => e1 h.kd⟩
 by_cases e2 : c.rid = p.rid
 case neg => exact ⟨false, evIfp e1 (evIfn e2 (Ev.now _)), by simp only [Bool.false_eq_true, false_iff]; exact fun h => e2 h.rid⟩
 by_cases e3 : (joinS [c.nm, wrS c.n, wrS c.id, t1, t2, t3, ooS c.on]).toList = (joinS [p.nm, wrS p.n, wrS p.id, u1, u2, u3, ooS p.on]).toList
 case neg =>
  refine ⟨false, evIfp e1 (evIfp e2 (Ev.bind kc (Ev.bind kp (evIfn e3 (Ev.now _))))), ?_⟩
  simp only [Bool.false_eq_true, false_iff]
  intro h
  apply e3
  rw [h.tm] at a1
  rw [h.lf] at a2
  rw [h.rt] at a3
  rw [h.nm, h.n, h.id, h.on, ev_det a1 b1, ev_det a2 b2, ev_det a3 b3]
 refine ⟨_, evIfp e1 (evIfp e2 (Ev.bind kc (Ev.bind kp (evIfp e3 (Ev.now _))))), ?_⟩
 have e4 := congrArg bl (toL_injC e3)
 rw [joinS_bl, joinS_bl] at e4
 have hx : ∀ z ∈ [wrS c.n, wrS c.id, t1, t2, t3, ooS c.on], noB z := by
  intro z hz
  simp only [List.mem_cons, List.not_mem_nil, or_false] at hz
  rcases hz with rfl | rfl | rfl | rfl | rfl | rfl
  ·
   exact wr_noB hc.n
  ·
   exact wr_noB hc.id
  ·
   exact n1
  ·
   exact n2
  ·
   exact n3
  ·
   exact oo_noB _
 have hy : ∀ z ∈ [wrS p.n, wrS p.id, u1, u2, u3, ooS p.on], noB z := by
  intro z hz
  simp only [List.mem_cons, List.not_mem_nil, or_false] at hz
  rcases hz with rfl | rfl | rfl | rfl | rfl | rfl
  ·
   exact wr_noB ok.rng.n
  ·
   exact wr_noB ok.rng.id
  ·
   exact m1
  ·
   exact m2
  ·
   exact m3
  ·
   exact oo_noB _
 obtain ⟨f1, f2⟩ := joinL_inj (xs := [wrS c.n, wrS c.id, t1, t2, t3, ooS c.on]) (ys := [wrS p.n, wrS p.id, u1, u2, u3, ooS p.on]) rfl hx ok.nm hy e4
 simp only [List.cons.injEq, and_true] at f2
 obtain ⟨g1, g2, g3, g4, g5, g6⟩ := f2
 have on : c.on = p.on := by
  cases hco : c.on <;> cases hpo : p.on <;> rw [hco, hpo] at g6 <;> first | rfl | exact absurd g6 (by decide)
 simp only [Bool.and_eq_true, beq_iff_eq]
 constructor
 ·
  rintro ⟨l1, l2, l3⟩
  subst g3 g4 g5
  exact ⟨e1, f1, wr_inj hc.n ok.rng.n g1, wr_inj hc.id ok.rng.id g2, on, text_inj i1 j1 (by omega) ok.tm, e2, text_inj i2 j2 (by omega) ok.lf, text_inj i3 j3 (by omega) ok.rt⟩
 ·
  intro h
  rw [h.tm, h.lf, h.rt]
  exact ⟨rfl, rfl, rfl⟩
end Go.Proofs.YtmlddeogmckgmaaGreatDoor.P

-- ==== PC5
/- Plain laws of chapter 22: what is read is written as it was. -/
namespace Go.Proofs.YtmlddeogmckgmaaGreatDoor.P
open Go.RowKit Go.Proofs.YtmlddeogmckgmaaGreatDoorW.PrintWords
def plSign (w : ByteArray) : Prop := w.toList = [87] ∨ w.toList = [78] ∨ w.toList = [73] ∨ w.toList = [84] ∨ w.toList = [79]
theorem plSign.sign {w : ByteArray} (h : plSign w) : isSign w := by
 rcases h with h | h | h | h | h
 ·
  exact .inl h
 ·
  exact .inr (.inl h)
 ·
  exact .inr (.inr (.inl h))
 ·
  exact .inr (.inr (.inr (.inl h)))
 ·
  exact .inr (.inr (.inr (.inr (.inr (.inr h)))))
theorem size_toL (w : ByteArray) : w.toList.length = w.size := by rw [ByteArray.toList_eq]; simp
def Keeps (w : ByteArray) (x y : Dr) : Prop := ∀ w', isSign w' → w'.toList ≠ w.toList → ∀ k, wordF k y w' = wordF k x w'
theorem okD.dr0 (kd : Int) : okD (dr0 kd) := ⟨by simp [noB, P.dr0], ⟨by show (0 : Nat) ≤ _; omega, ⟨by show (-9223372036854775808 : Int) ≤ 0; decide, by show (0 : Int) ≤ 9223372036854775807; decide⟩, ⟨by show (-9223372036854775808 : Int) ≤ 0; decide, by show (0 : Int) ≤ 9223372036854775807; decide⟩⟩, .inl rfl, .inl rfl, .inl rfl⟩
theorem fitW_lit {w s : ByteArray} (h1 : 1 < w.size) (h : fitW w s = true) : s = w := by
 unfold fitW at h
 have hw : w.toList ≠ [79] := fun e => by have := size_toL w; rw [e] at this; simp at this; omega
 rw [if_neg (fun c => hw c.1)] at h
 by_cases c : s.toList = w.toList
 ·
  exact toL_injC c
 ·
  rw [if_pos ⟨h1, c⟩] at h
  cases h
theorem fitW_on {w s : ByteArray} (h1 : w.toList = [79]) (h : fitW w s = true) : s = ⟨#[111, 110]⟩ ∨ s = ⟨#[111, 102, 102]⟩ := by
 unfold fitW at h
 by_cases c1 : s.toList = [111, 110]
 ·
  exact .inl (toL_injC (by rw [c1, tl_lit [111, 110]]))
 ·
  by_cases c2 : s.toList = [111, 102, 102]
  ·
   exact .inr (toL_injC (by rw [c2, tl_lit [111, 102, 102]]))
  ·
   rw [if_pos ⟨h1, c1, c2⟩] at h
   cases h
theorem readF_full (w s : ByteArray) (x : Dr) (hw : plSign w) (hs : s.size ≤ 256) (ok : okD x) : ∃ y e, Ev (fun k => readF k w s x) (y, e) ∧ (e = 0 → okD y ∧ y.kd = x.kd ∧ (fitW w s = true → Ev (fun k => wordF k y w) s) ∧ Keeps w x y) := by
 unfold readF
 by_cases c1 : w.toList = [87]
 ·
  obtain rfl := byte1 c1
  by_cases ck : kindS s = 1
  ·
   refine ⟨_, _, evIfp c1 (Ev.bind (ev_kind s) (evIfp ck (Ev.now _))), fun _ => ⟨⟨kind_noB (by rw [ck]; decide), ⟨by show s.size ≤ _; omega, ok.rng.n, ok.rng.id⟩, ok.tm, ok.lf, ok.rt⟩, rfl, fun _ => w87 _, fun w' h1 h2 k => ?_⟩⟩
   rw [c1] at h2
   unfold wordF
   rw [if_neg h2, if_neg h2]
  ·
   exact ⟨_, _, evIfp c1 (Ev.bind (ev_kind s) (evIfn ck (Ev.now _))), fun h => absurd h (by decide)⟩
 by_cases c2 : w.toList = [78]
 ·
  obtain rfl := byte1 c2
  refine ⟨_, _, evIfn c1 (evIfp c2 (Ev.bind (evIs (num_ev s (by omega))) (Ev.now _))), fun he => ?_⟩
  rcases numS_cases s with ⟨v, v0, v1, e1, e2⟩ | ⟨_, e2⟩
  ·
   rw [e2]
   have hv : i64R v := ⟨v0, v1⟩
   refine ⟨⟨ok.nm, ⟨ok.rng.nm, hv, ok.rng.id⟩, ok.tm, ok.lf, ok.rt⟩, rfl, fun _ => ?_, fun w' h1 h2 k => ?_⟩
   ·
    have := w78 { x with n := v } hv
    rwa [(wr_iff v0 v1 s).2 e1] at this
   ·
    rw [c2] at h2
    unfold wordF
    rw [if_neg h2, if_neg h2]
  ·
   rw [e2] at he
   exact absurd he (by decide)
 by_cases c3 : w.toList = [73]
 ·
  obtain rfl := byte1 c3
  refine ⟨_, _, evIfn c1 (evIfn c2 (evIfp c3 (Ev.bind (evIs (num_ev s (by omega))) (Ev.now _)))), fun he => ?_⟩
  rcases numS_cases s with ⟨v, v0, v1, e1, e2⟩ | ⟨_, e2⟩
  ·
   rw [e2]
   have hv : i64R v := ⟨v0, v1⟩
   refine ⟨⟨ok.nm, ⟨ok.rng.nm, ok.rng.n, hv⟩, ok.tm, ok.lf, ok.rt⟩, rfl, fun _ => ?_, fun w' h1 h2 k => ?_⟩
   ·
    have := w73 { x with id := v } hv
    rwa [(wr_iff v0 v1 s).2 e1] at this
   ·
    rw [c3] at h2
    unfold wordF
    rw [if_neg h2, if_neg h2]
  ·
   rw [e2] at he
   exact absurd he (by decide)
 by_cases c4 : w.toList = [84]
 ·
  obtain rfl := byte1 c4
  obtain ⟨u, a, e, h1, _, hl, hc⟩ := parse_sound s
  have hv : ∃ v, Ev (fun k => term_Vars.f k u) v := by
   by_cases hu : checkS u = 0
   ·
    exact ⟨_, ev_vars hu⟩
   ·
    exact ⟨_, ev_vars_no hu⟩
  obtain ⟨v, hv⟩ := hv
  refine ⟨_, _, evIfn c1 (evIfn c2 (evIfn c3 (evIfp c4 (Ev.bind h1 (Ev.bind hv (Ev.now _)))))), fun he => ?_⟩
  simp only at he
  rcases hc with ⟨h0, _⟩ | ⟨h0, _, c, l, b, d, e1, p1, p2, e2⟩
  ·
   rw [if_neg h0] at he
   exact absurd he h0
  ·
   have hck : checkS u = 0 := by
    rw [e1]
    refine checkS_of (by rw [← e1]; exact hl) p2 ?_
    show segN l (0 + ar c) = some []
    have := tx_seg p1
    rw [Nat.zero_add]
    exact this
   refine ⟨⟨ok.nm, ⟨ok.rng.nm, ok.rng.n, ok.rng.id⟩, .inr hck, ok.lf, ok.rt⟩, rfl, fun _ => ?_, fun w' h1 h2 k => ?_⟩
   ·
    refine w84 { x with tm := u } ?_
    have hp := ev_print p1 p2 (by rw [← e1]; exact hl)
    have hs2 : txtB c b = s := bl_inj (by rw [txt_bl, e2])
    rw [hs2, ← e1] at hp
    exact Ev.bind hp (Ev.now _)
   ·
    rw [c4] at h2
    unfold wordF
    rw [if_neg h2, if_neg h2]
 by_cases c5 : w.toList = [79]
 ·
  obtain rfl := byte1 c5
  refine ⟨_, _, evIfn c1 (evIfn c2 (evIfn c3 (evIfn c4 (evIfn (by rw [tl_lit [79]]; decide) (evIfn (by rw [tl_lit [79]]; decide) (evIfp c5 (Ev.now _))))))), fun _ => ⟨⟨ok.nm, ⟨ok.rng.nm, ok.rng.n, ok.rng.id⟩, ok.tm, ok.lf, ok.rt⟩, rfl, fun hf => ?_, fun w' h1 h2 k => ?_⟩⟩
  ·
   have := w79 { x with on := s.toList == [111, 110] }
   rcases fitW_on c5 hf with rfl | rfl
   ·
    have e : ((⟨#[111, 110]⟩ : ByteArray).toList == [111, 110]) = true := by rw [tl_lit [111, 110]]; rfl
    rw [e] at this ⊢
    exact this
   ·
    have e : ((⟨#[111, 102, 102]⟩ : ByteArray).toList == [111, 110]) = false := by rw [tl_lit [111, 102, 102]]; rfl
    rw [e] at this ⊢
    exact this
  ·
   rw [c5] at h2
   unfold wordF
   rw [if_neg h2, if_neg h2]
 rcases hw with h | h | h | h | h
 ·
  exact absurd h c1
 ·
  exact absurd h c2
 ·
  exact absurd h c3
 ·
  exact absurd h c4
 ·
  exact absurd h c5
theorem word_lit (x : Dr) {w : ByteArray} (h : 1 < w.size) : Ev (fun k => wordF k x w) w := by
 have hn : ∀ c : UInt8, ¬ w.toList = [c] := fun c e => by have := size_toL w; rw [e] at this; simp at this; omega
 exact evIfn (hn _) (evIfn (hn _) (evIfn (hn _) (evIfn (hn _) (evIfn (hn _) (evIfn (hn _) (evIfn (hn _) (Ev.now _)))))))
theorem readL_full : ∀ (ws l : List ByteArray) (x : Dr), (∀ w ∈ ws, 1 < w.size ∨ plSign w) → ws.Pairwise (fun a b => a.toList ≠ b.toList) → (∀ s ∈ l, s.size ≤ 256) → l.length = ws.length → okD x →
 ∃ y e, Ev (fun k => readL k ws l x) (y, e) ∧ (e ≠ 0 → y = dr0 0) ∧ (e = 0 → okD y ∧ y.kd = x.kd ∧ (fitL ws l = true → Ev (fun k => wordsF k y ws) l) ∧ (∀ w', isSign w' → (∀ w ∈ ws, w'.toList ≠ w.toList) → ∀ k, wordF k y w' = wordF k x w'))
 | [], [], x, _, _, _, _, ok => ⟨x, 0, by unfold readL; exact Ev.now _, fun h => absurd rfl h, fun _ => ⟨ok, rfl, fun _ => Ev.now _, fun _ _ _ _ => rfl⟩⟩
 | [], _ :: _, _, _, _, _, hl, _ => by simp at hl
 | _ :: _, [], _, _, _, _, hl, _ => by simp at hl
 | w :: ws, s :: l, x, hw, hp, hs, hl, ok => by
  have hw2 : ∀ w ∈ ws, 1 < w.size ∨ plSign w := fun w h => hw w (List.mem_cons_of_mem _ h)
  have hs2 : ∀ s ∈ l, s.size ≤ 256 := fun s h => hs s (List.mem_cons_of_mem _ h)
  have hl2 : l.length = ws.length := by simpa using hl
  obtain ⟨hp1, hp2⟩ := List.pairwise_cons.1 hp
  unfold readL
  by_cases c : 1 < w.size
  ·
   obtain ⟨y, e, h1, h2, h3⟩ := readL_full ws l x hw2 hp2 hs2 hl2 ok
   refine ⟨y, e, evIfp c h1, h2, fun he => ?_⟩
   obtain ⟨g1, g2, g3, g4⟩ := h3 he
   refine ⟨g1, g2, fun hf => ?_, fun w' hs' hne => g4 w' hs' fun v hv => hne v (List.mem_cons_of_mem _ hv)⟩
   rw [fitL, Bool.and_eq_true] at hf
   have := fitW_lit c hf.1
   subst this
   exact ev_words_cons (word_lit y c) (g3 hf.2)
  ·
   have hpl := (hw w List.mem_cons_self).resolve_left c
   obtain ⟨y1, e1, h1, h3⟩ := readF_full w s x hpl (hs s List.mem_cons_self) ok
   by_cases ce : e1 = 0
   ·
    obtain ⟨g1, g2, g3, g4⟩ := h3 ce
    obtain ⟨y, e, f1, f2, f3⟩ := readL_full ws l y1 hw2 hp2 hs2 hl2 g1
    refine ⟨y, e, evIfn c (Ev.bind h1 (evIfp ce f1)), f2, fun he => ?_⟩
    obtain ⟨k1, k2, k3, k4⟩ := f3 he
    refine ⟨k1, k2.trans g2, fun hf => ?_, fun w' hs' hne k => ?_⟩
    ·
     rw [fitL, Bool.and_eq_true] at hf
     have hwk := g3 hf.1
     refine ev_words_cons (Ev.congr (fun k => ?_) hwk) (k3 hf.2)
     exact k4 w hpl.sign (fun v hv => hp1 v hv) k
    ·
     exact (k4 w' hs' (fun v hv => hne v (List.mem_cons_of_mem _ hv)) k).trans (g4 w' hs' (hne w List.mem_cons_self) k)
   ·
    exact ⟨dr0 0, e1, evIfn c (Ev.bind h1 (evIfn ce (Ev.now _))), fun _ => rfl, fun he => absurd he ce⟩
abbrev ruleWs : List ByteArray := [⟨#[114, 117, 108, 101]⟩, ⟨#[76]⟩, ⟨#[45, 62]⟩, ⟨#[82]⟩]
theorem readL_rule (l : List ByteArray) (x : Dr) (hl : l.length = 4) (ok : okD x) :
 ∃ y e, Ev (fun k => readL k ruleWs l x) (y, e) ∧ (e ≠ 0 → y = dr0 0) ∧ (e = 0 → okD y ∧ y.kd = x.kd ∧ (fitL ruleWs l = true → Ev (fun k => wordsF k y ruleWs) l)) := by
 obtain ⟨a, b, c, d, rfl⟩ : ∃ a b c d, l = [a, b, c, d] := by
  match l, hl with
  | [a, b, c, d], _ => exact ⟨a, b, c, d, rfl⟩
 obtain ⟨lf, rt, e, h1, _, _, _, hc⟩ := ev_rparse b d
 have r3 : ∀ x : Dr, x.left = b → Ev (fun k => readF k ⟨#[82]⟩ d x) ({ x with rid := 0, lf := lf, rt := rt }, e) := fun x hx => by
  unfold readF
  refine evIfn (by rw [tl_lit [82]]; decide) (evIfn (by rw [tl_lit [82]]; decide) (evIfn (by rw [tl_lit [82]]; decide) (evIfn (by rw [tl_lit [82]]; decide) (evIfn (by rw [tl_lit [82]]; decide) (evIfp (tl_lit [82]) (Ev.bind (a := (0, lf, rt, e)) ?_ (Ev.now _)))))))
  rw [hx]
  exact h1
 have r1 : ∀ x : Dr, Ev (fun k => readF k ⟨#[76]⟩ b x) ({ x with left := b }, 0) := fun x => by
  unfold readF
  exact evIfn (by rw [tl_lit [76]]; decide) (evIfn (by rw [tl_lit [76]]; decide) (evIfn (by rw [tl_lit [76]]; decide) (evIfn (by rw [tl_lit [76]]; decide) (evIfp (tl_lit [76]) (Ev.now _)))))
 have z1 : 1 < (⟨#[114, 117, 108, 101]⟩ : ByteArray).size := by decide
 have z2 : ¬ 1 < (⟨#[76]⟩ : ByteArray).size := by decide
 have z3 : 1 < (⟨#[45, 62]⟩ : ByteArray).size := by decide
 have z4 : ¬ 1 < (⟨#[82]⟩ : ByteArray).size := by decide
 by_cases he : e = 0
 ·
  refine ⟨{ x with left := b, rid := 0, lf := lf, rt := rt }, 0, ?_, fun h => absurd rfl h, fun _ => ?_⟩
  ·
   unfold readL
   refine evIfp z1 ?_
   unfold readL
   refine evIfn z2 (Ev.bind (r1 x) (evIfp rfl ?_))
   unfold readL
   refine evIfp z3 ?_
   unfold readL
   refine evIfn z4 (Ev.bind (r3 { x with left := b } rfl) (evIfp he ?_))
   unfold readL
   exact Ev.now _
  ·
   rcases hc with ⟨h0, _⟩ | ⟨_, hr, c1, l1, b1, d1, c2, l2, b2, d2, e1, e2, p1, p2, p3, q1, q2, q3⟩
   ·
    exact absurd he h0
   obtain ⟨k1, k2, k3, k4, _⟩ := ruleS_ok hr
   refine ⟨⟨ok.nm, ⟨ok.rng.nm, ok.rng.n, ok.rng.id⟩, ok.tm, .inr k1, .inr k2⟩, rfl, fun hf => ?_⟩
   simp only [fitL, Bool.and_eq_true, Bool.and_true] at hf
   obtain ⟨f1, f2, f3, f4⟩ := hf
   have ha := fitW_lit z1 f1
   have hc := fitW_lit z3 f3
   subst ha hc
   have hb : txtB c1 b1 = b := bl_inj (by rw [txt_bl, p3])
   have hd : txtB c2 b2 = d := bl_inj (by rw [txt_bl, q3])
   have t1 : Ev (fun k => textF k lf) b := by
    have := ev_print p1 p2 (by rw [← e1]; omega)
    rw [hb, ← e1] at this
    exact Ev.bind this (Ev.now _)
   have t2 : Ev (fun k => textF k rt) d := by
    have := ev_print q1 q2 (by rw [← e2]; omega)
    rw [hd, ← e2] at this
    exact Ev.bind this (Ev.now _)
   exact ev_words_cons (word_lit _ z1) (ev_words_cons (w76 _ t1) (ev_words_cons (word_lit _ z3) (ev_words_cons (w82 _ t2) (Ev.now _))))
 ·
  refine ⟨dr0 0, e, ?_, fun _ => rfl, fun h => absurd h he⟩
  unfold readL
  refine evIfp z1 ?_
  unfold readL
  refine evIfn z2 (Ev.bind (r1 x) (evIfp rfl ?_))
  unfold readL
  refine evIfp z3 ?_
  unfold readL
  exact evIfn z4 (Ev.bind (r3 { x with left := b } rfl) (evIfn he (Ev.now _)))
end Go.Proofs.YtmlddeogmckgmaaGreatDoor.P

-- ==== PC6
/- Plain laws of chapter 22: lines, and what is written as a line. -/
namespace Go.Proofs.YtmlddeogmckgmaaGreatDoor.P
open Go.RowKit Go.Proofs.YtmlddeogmckgmaaGreatDoorW.PrintWords
def plB (w : ByteArray) : Bool := decide (1 < w.size) || (w.data.toList == [87] || w.data.toList == [78] || w.data.toList == [73] || w.data.toList == [84] || w.data.toList == [79])
theorem plB_ok {w : ByteArray} (h : plB w = true) : 1 < w.size ∨ plSign w := by
 unfold plB at h
 simp only [Bool.or_eq_true, decide_eq_true_eq, beq_iff_eq] at h
 unfold plSign
 rcases h with h | (((h | h) | h) | h) | h
 ·
  exact .inl h
 all_goals
  rw [ByteArray.toList_eq, h]
  simp
def pwB : List ByteArray → Bool
 | [] => true
 | a :: r => r.all (fun b => !(a.data.toList == b.data.toList)) && pwB r
theorem pwB_ok : ∀ {l : List ByteArray}, pwB l = true → l.Pairwise (fun a b => a.toList ≠ b.toList)
 | [], _ => List.Pairwise.nil
 | a :: r, h => by
  unfold pwB at h
  rw [Bool.and_eq_true, List.all_eq_true] at h
  refine List.pairwise_cons.2 ⟨fun b hb e => ?_, pwB_ok h.2⟩
  have := h.1 b hb
  rw [ByteArray.toList_eq, ByteArray.toList_eq] at e
  rw [e] at this
  simp at this
def formB (f : ByteArray × Int) : Bool := ((wordsOf f.1).all plB && pwB (wordsOf f.1)) || (wordsOf f.1).map (·.data.toList) == ruleWs.map (·.data.toList)
theorem forms_plain : ∀ f ∈ formsL, ((∀ w ∈ wordsOf f.1, 1 < w.size ∨ plSign w) ∧ (wordsOf f.1).Pairwise (fun a b => a.toList ≠ b.toList)) ∨ wordsOf f.1 = ruleWs := by
 have h : formsL.all formB = true := by decide +kernel
 have hinj : ∀ (a b : List ByteArray), a.map (·.data.toList) = b.map (·.data.toList) → a = b := by
  intro a
  induction a with
  | nil => intro b h; cases b with | nil => rfl | cons _ _ => cases h
  | cons u a ih =>
   intro b h
   cases b with
   | nil => cases h
   | cons w b =>
    obtain ⟨p, q⟩ := List.cons.inj h
    rw [bl_inj p, ih b q]
 intro f hf
 have := List.all_eq_true.1 h f hf
 unfold formB at this
 rw [Bool.or_eq_true, Bool.and_eq_true, List.all_eq_true, beq_iff_eq] at this
 rcases this with ⟨h1, h2⟩ | h1
 ·
  exact .inl ⟨fun w hw => plB_ok (h1 w hw), pwB_ok h2⟩
 ·
  exact .inr (hinj _ _ h1)
theorem forms_words : ∀ f ∈ formsL, (wordsOf f.1).length ≤ 4 ∧ ∀ w ∈ wordsOf f.1, w.size ≤ 100 := by
 have h : formsL.all (fun f => decide ((wordsOf f.1).length ≤ 4) && (wordsOf f.1).all fun w => decide (w.size ≤ 100)) = true := by decide +kernel
 intro f hf
 have := List.all_eq_true.1 h f hf
 rw [Bool.and_eq_true, decide_eq_true_eq, List.all_eq_true] at this
 exact ⟨this.1, fun w hw => by simpa using this.2 w hw⟩
theorem cmdL_full (l : List ByteArray) (hs : ∀ s ∈ l, s.size ≤ 256) : ∀ fs : List (ByteArray × Int), (∀ f ∈ fs, f ∈ formsL) → ∃ y e, Ev (fun k => cmdL k l fs) (y, e) ∧ (e ≠ 0 → y = dr0 0) ∧ (e = 0 → okD y ∧ ∃ f ∈ formsL, y.kd = f.2 ∧ Ev (fun k => wordsF k y (wordsOf f.1)) l)
 | [], _ => ⟨dr0 0, 12, by unfold cmdL; exact Ev.now _, fun _ => rfl, fun h => absurd h (by decide)⟩
 | f :: fs, hf => by
  unfold cmdL
  by_cases c : fitsF (wordsOf f.1) l = true
  ·
   have hlen : l.length = (wordsOf f.1).length ∧ fitL (wordsOf f.1) l = true := by
    unfold fitsF at c
    split at c
    ·
     rename_i h; exact ⟨h, c⟩
    ·
     cases c
   rcases forms_plain f (hf f List.mem_cons_self) with ⟨h1, h2⟩ | h1
   ·
    obtain ⟨y, e, g1, g2, g3⟩ := readL_full (wordsOf f.1) l (dr0 f.2) h1 h2 hs hlen.1 (okD.dr0 _)
    exact ⟨y, e, evIfp c g1, g2, fun he => ⟨(g3 he).1, f, hf f List.mem_cons_self, (g3 he).2.1, (g3 he).2.2.1 hlen.2⟩⟩
   ·
    rw [h1] at hlen
    obtain ⟨y, e, g1, g2, g3⟩ := readL_rule l (dr0 f.2) hlen.1 (okD.dr0 _)
    exact ⟨y, e, evIfp c (by rw [h1]; exact g1), g2, fun he => ⟨(g3 he).1, f, hf f List.mem_cons_self, (g3 he).2.1, by rw [h1]; exact (g3 he).2.2 hlen.2⟩⟩
  ·
   obtain ⟨y, e, h1, h2, h3⟩ := cmdL_full l hs fs (fun g h => hf g (List.mem_cons_of_mem _ h))
   exact ⟨y, e, evIfn c h1, h2, h3⟩
theorem cmdF_full (s : ByteArray) : ∃ y e, Ev (fun k => cmdF k s) (y, e) ∧ okD y ∧ (e ≠ 0 → y = dr0 0) ∧ (e = 0 → s.size ≤ 256 ∧ (∃ f ∈ formsL, y.kd = f.2 ∧ Ev (fun k => wordsF k y (wordsOf f.1)) (wdsS s)) ∧ ∀ s' : ByteArray, s'.size ≤ 256 → wdsS s' = wdsS s → Ev (fun k => cmdF k s') (y, e)) := by
 unfold cmdF
 by_cases h : (s.size : Int) > 256
 ·
  exact ⟨dr0 0, 2, evIfp h (Ev.now _), okD.dr0 0, fun _ => rfl, fun h => absurd h (by decide)⟩
 ·
  obtain ⟨y, e, h1, h2, h3⟩ := cmdL_full (wdsS s) (fun x hx => by have := (words_good s x hx).2.2; omega) formsL (fun _ h => h)
  refine ⟨y, e, evIfn h (Ev.bind (evIs (words_at s (by omega))) h1), ?_, h2, fun he => ⟨by omega, (h3 he).2, fun s' hs' hw => ?_⟩⟩
  ·
   by_cases he : e = 0
   ·
    exact (h3 he).1
   ·
    rw [h2 he]; exact okD.dr0 0
  ·
   exact evIfn (by omega) (Ev.bind (evIs ((words_at s' (by omega)).trans (by rw [hw]))) h1)
theorem word_tot {x : Dr} (h : rngD x) (w : ByteArray) (hw : w.size ≤ 100) : ∃ a, Ev (fun k => wordF k x w) a ∧ a.size ≤ 1048576 := by
 obtain ⟨t1, a1, _, z1, _⟩ := text_ev x.tm
 obtain ⟨t2, a2, _, z2, _⟩ := text_ev x.lf
 obtain ⟨t3, a3, _, z3, _⟩ := text_ev x.rt
 by_cases c1 : w.toList = [87]
 ·
  rw [byte1 c1]; exact ⟨_, w87 x, h.nm⟩
 by_cases c2 : w.toList = [78]
 ·
  rw [byte1 c2]; exact ⟨_, w78 x h.n, by have := wr_size h.n; omega⟩
 by_cases c3 : w.toList = [73]
 ·
  rw [byte1 c3]; exact ⟨_, w73 x h.id, by have := wr_size h.id; omega⟩
 by_cases c4 : w.toList = [84]
 ·
  rw [byte1 c4]; exact ⟨_, w84 x a1, by omega⟩
 by_cases c5 : w.toList = [76]
 ·
  rw [byte1 c5]; exact ⟨_, w76 x a2, by omega⟩
 by_cases c6 : w.toList = [82]
 ·
  rw [byte1 c6]; exact ⟨_, w82 x a3, by omega⟩
 by_cases c7 : w.toList = [79]
 ·
  rw [byte1 c7]; exact ⟨_, w79 x, by have : (ooS x.on).size ≤ 3 := (by cases x.on <;> decide); omega⟩
 exact ⟨w, evIfn c1 (evIfn c2 (evIfn c3 (evIfn c4 (evIfn c5 (evIfn c6 (evIfn c7 (Ev.now _))))))), by omega⟩
theorem words_tot {x : Dr} (h : rngD x) : ∀ ws : List ByteArray, (∀ w ∈ ws, w.size ≤ 100) → ∃ L, Ev (fun k => wordsF k x ws) L ∧ L.length = ws.length ∧ (tlL (L.map bl)).length ≤ ws.length * 1048577
 | [], _ => ⟨[], Ev.now _, rfl, by simp [tlL]⟩
 | w :: ws, hw => by
  obtain ⟨a, h1, h2⟩ := word_tot h w (hw w List.mem_cons_self)
  obtain ⟨L, h3, h4, h5⟩ := words_tot h ws (fun v hv => hw v (List.mem_cons_of_mem _ hv))
  refine ⟨a :: L, ev_words_cons h1 h3, by simp [h4], ?_⟩
  simp only [List.map_cons, tlL, List.length_cons, List.length_append, bl_len]
  rw [Nat.add_mul]
  omega
theorem joinL_le (L : List ByteArray) : (joinL L).length ≤ (tlL (L.map bl)).length := by
 cases L with
 | nil => simp [joinL, Lib.join_nil]
 | cons x r =>
  rw [joinL_cons]
  simp only [List.map_cons, tlL, List.length_cons, List.length_append]
  omega
theorem printL_full {c : Dr} (hc : rngD c) : ∀ fs : List (ByteArray × Int), (∀ f ∈ fs, f ∈ formsL) → ∃ s e, Ev (fun k => printL k c fs) (s, e) ∧ (e = 0 → ∃ p, Ev (fun k => cmdF k s) (p, 0) ∧ SameDr c p)
 | [], _ => ⟨⟨#[]⟩, 12, by unfold printL; exact Ev.now _, fun h => absurd h (by decide)⟩
 | f :: fs, hf => by
  obtain ⟨s2, e2, h1, h2⟩ := printL_full hc fs (fun g h => hf g (List.mem_cons_of_mem _ h))
  unfold printL
  by_cases ck : f.2 = c.kd
  ·
   obtain ⟨w1, w2⟩ := forms_words f (hf f List.mem_cons_self)
   obtain ⟨L, l1, l2, l3⟩ := words_tot hc (wordsOf f.1) w2
   have hj : (joinL L).length ≤ 140737488355328 := by have := joinL_le L; omega
   obtain ⟨y, e, g1, g2, g3, g4⟩ := cmdF_full (joinS L)
   by_cases he : e = 0
   ·
    obtain ⟨b, b1, b2⟩ := same_ev hc g2
    cases b
    ·
     exact ⟨s2, e2, evIfp ck (Ev.bind l1 (evIfp hj (Ev.bind g1 (evIfp he (Ev.bind b1 (evIfn (by simp) h1)))))), h2⟩
    ·
     exact ⟨joinS L, 0, evIfp ck (Ev.bind l1 (evIfp hj (Ev.bind g1 (evIfp he (Ev.bind b1 (evIfp rfl (Ev.now _))))))), fun _ => ⟨y, by rw [he] at g1; exact g1, b2.1 rfl⟩⟩
   ·
    exact ⟨s2, e2, evIfp ck (Ev.bind l1 (evIfp hj (Ev.bind g1 (evIfn he h1)))), h2⟩
  ·
   exact ⟨s2, e2, evIfn ck h1, h2⟩
end Go.Proofs.YtmlddeogmckgmaaGreatDoor.P

-- ==== PC7
/- Plain laws of chapter 22: the program and the document read any line alike. -/
namespace Go.Proofs.YtmlddeogmckgmaaGreatDoor.P
open Go.RowKit Go.Proofs.YtmlddeogmckgmaaGreatDoorW.PrintWords
theorem SameDr.rfl' (x : Dr) : SameDr x x := ⟨rfl, rfl, rfl, rfl, rfl, rfl, rfl, rfl, rfl⟩
def cmdW (k : Nat) (l : List ByteArray) : List (List ByteArray × Int) → Option (Dr × Int)
 | [] => some (dr0 0, 12)
 | f :: fs => if fitsF f.1 l = true then readL k f.1 l (dr0 f.2) else cmdW k l fs
theorem cmdL_W (k : Nat) (l : List ByteArray) : ∀ fs : List (ByteArray × Int), cmdL k l fs = cmdW k l (fs.map fun f => (wordsOf f.1, f.2))
 | [] => rfl
 | f :: fs => by rw [List.map_cons, cmdL, cmdW, cmdL_W k l fs]
theorem cmdW_len (k : Nat) (l : List ByteArray) : ∀ fs : List (List ByteArray × Int), cmdW k l fs = cmdW k l (fs.filter fun f => f.1.length == l.length)
 | [] => rfl
 | f :: fs => by
  by_cases c : f.1.length = l.length
  ·
   rw [List.filter_cons_of_pos (by simpa using c), cmdW, cmdW, cmdW_len k l fs]
  ·
   rw [List.filter_cons_of_neg (by simpa using c), cmdW, if_neg, cmdW_len k l fs]
   unfold fitsF
   rw [if_neg (fun h => c h.symm)]
   simp
abbrev wsA : List (List ByteArray × Int) := formsL.map fun f => (wordsOf f.1, f.2)
abbrev ws1 : List (List ByteArray × Int) := [([(⟨#[110, 97, 109, 101, 115]⟩ : ByteArray)], 5), ([(⟨#[115, 121, 109, 98, 111, 108, 115]⟩ : ByteArray)], 6), ([(⟨#[114, 117, 108, 101, 115]⟩ : ByteArray)], 9), ([(⟨#[109, 101, 109, 111, 115]⟩ : ByteArray)], 12), ([(⟨#[106, 111, 98, 115]⟩ : ByteArray)], 17), ([(⟨#[118, 101, 114, 115, 105, 111, 110]⟩ : ByteArray)], 19)]
theorem ws1_ok : (wsA.filter fun f => f.1.length == 1) = ws1 := by decide +kernel
abbrev ws2 : List (List ByteArray × Int) := [([(⟨#[102, 111, 114, 103, 101, 116]⟩ : ByteArray), (⟨#[87]⟩ : ByteArray)], 3), ([(⟨#[115, 104, 111, 119]⟩ : ByteArray), (⟨#[87]⟩ : ByteArray)], 4), ([(⟨#[117, 110, 114, 117, 108, 101]⟩ : ByteArray), (⟨#[73]⟩ : ByteArray)], 8), ([(⟨#[109, 101, 109, 111]⟩ : ByteArray), (⟨#[79]⟩ : ByteArray)], 11), ([(⟨#[106, 111, 98]⟩ : ByteArray), (⟨#[84]⟩ : ByteArray)], 13), ([(⟨#[108, 111, 111, 107]⟩ : ByteArray), (⟨#[73]⟩ : ByteArray)], 15), ([(⟨#[100, 114, 111, 112]⟩ : ByteArray), (⟨#[73]⟩ : ByteArray)], 16), ([(⟨#[114, 101, 99, 108, 97, 105, 109]⟩ : ByteArray), (⟨#[78]⟩ : ByteArray)], 18)]
theorem ws2_ok : (wsA.filter fun f => f.1.length == 2) = ws2 := by decide +kernel
abbrev ws3 : List (List ByteArray × Int) := [([(⟨#[115, 121, 109, 98, 111, 108]⟩ : ByteArray), (⟨#[87]⟩ : ByteArray), (⟨#[78]⟩ : ByteArray)], 1), ([(⟨#[110, 97, 109, 101]⟩ : ByteArray), (⟨#[87]⟩ : ByteArray), (⟨#[84]⟩ : ByteArray)], 2), ([(⟨#[110, 111, 114, 109]⟩ : ByteArray), (⟨#[84]⟩ : ByteArray), (⟨#[78]⟩ : ByteArray)], 10), ([(⟨#[114, 117, 110]⟩ : ByteArray), (⟨#[73]⟩ : ByteArray), (⟨#[78]⟩ : ByteArray)], 14)]
theorem ws3_ok : (wsA.filter fun f => f.1.length == 3) = ws3 := by decide +kernel
abbrev ws4 : List (List ByteArray × Int) := [([(⟨#[114, 117, 108, 101]⟩ : ByteArray), (⟨#[76]⟩ : ByteArray), (⟨#[45, 62]⟩ : ByteArray), (⟨#[82]⟩ : ByteArray)], 7)]
theorem ws4_ok : (wsA.filter fun f => f.1.length == 4) = ws4 := by decide +kernel
theorem ws_no : ∀ f ∈ wsA, f.1.length = 1 ∨ f.1.length = 2 ∨ f.1.length = 3 ∨ f.1.length = 4 := by decide +kernel
theorem lit_iff {a : ByteArray} (l : List UInt8) : a.toList = l ↔ a = ⟨l.toArray⟩ := ⟨fun h => toL_injC (by rw [h, tl_lit]), fun h => by rw [h, tl_lit]⟩
def sgn (w : ByteArray) : Prop := w.size = 1 ∧ w ≠ ⟨#[79]⟩
theorem fitW_l {w x : ByteArray} (h : 1 < w.size) : fitW w x = true ↔ x = w := by
 have h0 : ¬ w.toList = [79] := fun e => by have := size_toL w; rw [e] at this; simp only [List.length_cons, List.length_nil] at this; omega
 unfold fitW
 rw [if_neg (fun e => h0 e.1)]
 by_cases c : x = w
 ·
  rw [if_neg (fun e => e.2 (by rw [c]))]
  simp [c]
 ·
  rw [if_pos ⟨h, fun e => c (toL_injC e)⟩]
  simp [c]
theorem fitW_s {w x : ByteArray} (h : sgn w) : fitW w x = true := by
 unfold fitW
 rw [if_neg (fun e => h.2 ((lit_iff [79]).1 e.1)), if_neg (fun e => by have := h.1; omega)]
theorem fitW_O {x : ByteArray} : fitW ⟨#[79]⟩ x = true ↔ x = ⟨#[111, 110]⟩ ∨ x = ⟨#[111, 102, 102]⟩ := by
 unfold fitW
 by_cases c1 : x = ⟨#[111, 110]⟩
 ·
  rw [if_neg (fun e => e.2.1 ((lit_iff [111, 110]).2 c1)), if_neg (fun e => absurd e.1 (by decide))]
  simp [c1]
 by_cases c2 : x = ⟨#[111, 102, 102]⟩
 ·
  rw [if_neg (fun e => e.2.2 ((lit_iff [111, 102, 102]).2 c2)), if_neg (fun e => absurd e.1 (by decide))]
  simp [c2]
 rw [if_pos ⟨tl_lit [79], fun e => c1 ((lit_iff [111, 110]).1 e), fun e => c2 ((lit_iff [111, 102, 102]).1 e)⟩]
 simp [c1, c2]
theorem fits1 {w a : ByteArray} (h : 1 < w.size) : fitsF [w] [a] = true ↔ a = w := by
 unfold fitsF
 rw [if_pos (show [a].length = [w].length from rfl), fitL, fitL, Bool.and_true, fitW_l h]
 all_goals (intros; simp_all)
theorem fits2 {w v a b : ByteArray} (h : 1 < w.size) (hv : sgn v) : fitsF [w, v] [a, b] = true ↔ a = w := by
 unfold fitsF
 rw [if_pos (show [a, b].length = [w, v].length from rfl), fitL, fitL, fitL, fitW_s hv, Bool.and_true, Bool.and_true, fitW_l h]
 all_goals (intros; simp_all)
theorem fits2O {w a b : ByteArray} (h : 1 < w.size) : fitsF [w, ⟨#[79]⟩] [a, b] = true ↔ a = w ∧ (b = ⟨#[111, 110]⟩ ∨ b = ⟨#[111, 102, 102]⟩) := by
 unfold fitsF
 rw [if_pos (show [a, b].length = [w, (⟨#[79]⟩ : ByteArray)].length from rfl), fitL, fitL, fitL, Bool.and_true, Bool.and_eq_true, fitW_l h, fitW_O]
 all_goals (intros; simp_all)
theorem fits3 {w v u a b c : ByteArray} (h : 1 < w.size) (hv : sgn v) (hu : sgn u) : fitsF [w, v, u] [a, b, c] = true ↔ a = w := by
 unfold fitsF
 rw [if_pos (show [a, b, c].length = [w, v, u].length from rfl), fitL, fitL, fitL, fitL, fitW_s hv, fitW_s hu, Bool.and_true, Bool.and_true, Bool.and_true, fitW_l h]
 all_goals (intros; simp_all)
theorem fits4 {w v u z a b c d : ByteArray} (h : 1 < w.size) (hv : sgn v) (hu : 1 < u.size) (hz : sgn z) : fitsF [w, v, u, z] [a, b, c, d] = true ↔ a = w ∧ c = u := by
 unfold fitsF
 rw [if_pos (show [a, b, c, d].length = [w, v, u, z].length from rfl), fitL, fitL, fitL, fitL, fitL, fitW_s hv, fitW_s hz, Bool.and_true, Bool.true_and, Bool.and_true, Bool.and_eq_true, fitW_l h, fitW_l hu]
 all_goals (intros; simp_all)
theorem r87 (s : ByteArray) (x : Dr) : Ev (fun k => readF k ⟨#[87]⟩ s x) (if kindS s = 1 then ({ x with nm := s }, 0) else (x, 4)) := by
 unfold readF
 refine evIfp (tl_lit [87]) (Ev.bind (ev_kind s) ?_)
 by_cases c : kindS s = 1
 ·
  rw [if_pos c, if_pos c]; exact Ev.now _
 ·
  rw [if_neg c, if_neg c]; exact Ev.now _
theorem r78 (s : ByteArray) (x : Dr) (hs : s.size ≤ 281474976710656) : Ev (fun k => readF k ⟨#[78]⟩ s x) ({ x with n := (numS s).1 }, (numS s).2) := by
 unfold readF
 exact evIfn (by rw [tl_lit [78]]; decide) (evIfp (tl_lit [78]) (Ev.bind (evIs (num_ev s hs)) (Ev.now _)))
theorem r73 (s : ByteArray) (x : Dr) (hs : s.size ≤ 281474976710656) : Ev (fun k => readF k ⟨#[73]⟩ s x) ({ x with id := (numS s).1 }, (numS s).2) := by
 unfold readF
 exact evIfn (by rw [tl_lit [73]]; decide) (evIfn (by rw [tl_lit [73]]; decide) (evIfp (tl_lit [73]) (Ev.bind (evIs (num_ev s hs)) (Ev.now _))))
theorem r84 (s : ByteArray) : ∃ u v e, (∀ x : Dr, Ev (fun k => readF k ⟨#[84]⟩ s x) ({ x with tm := u }, e)) ∧ Ev (fun k => aumbryref22_ground.f k s) (v, e) ∧ (e = 0 → v = u) ∧ u.length ≤ 64 := by
 obtain ⟨u, a, e, h1, h1', hl, hc⟩ := parse_sound s
 have rd : ∀ (q : List ByteArray × Int), Ev (fun k => term_Vars.f k u) q → ∀ x : Dr, Ev (fun k => readF k ⟨#[84]⟩ s x) ({ x with tm := u }, if e = 0 then (if 0 < q.1.length then 7 else e) else e) := fun q hq x => by
  unfold readF
  exact evIfn (by rw [tl_lit [84]]; decide) (evIfn (by rw [tl_lit [84]]; decide) (evIfn (by rw [tl_lit [84]]; decide) (evIfp (tl_lit [84]) (Ev.bind h1 (Ev.bind hq (Ev.now _))))))
 rcases hc with ⟨h0, hu, _⟩ | ⟨h0, _, c, l, b, d, e1, p1, p2, e2⟩
 ·
  have hv : ∃ v, Ev (fun k => term_Vars.f k u) v := by
   by_cases hu : checkS u = 0
   ·
    exact ⟨_, ev_vars hu⟩
   ·
    exact ⟨_, ev_vars_no hu⟩
  obtain ⟨q, hq⟩ := hv
  refine ⟨u, [], e, fun x => ?_, ?_, fun h => absurd h h0, hl⟩
  ·
   have := rd q hq x
   rwa [if_neg h0] at this
  ·
   unfold aumbryref22_ground.f
   exact Ev.bind h1' (evIfn h0 (Ev.now _))
 ·
  have hck : checkS u = 0 := by
   rw [e1]
   refine checkS_of (by rw [← e1]; exact hl) p2 ?_
   show segN l (0 + ar c) = some []
   have := tx_seg p1
   rw [Nat.zero_add]
   exact this
  subst h0
  have hr := rd _ (ev_vars hck)
  by_cases hv : 0 < (varsS [] u).length
  ·
   refine ⟨u, [], 7, fun x => ?_, ?_, fun h => absurd h (by decide), hl⟩
   ·
    have := hr x
    rw [if_pos rfl, if_pos hv] at this
    exact this
   ·
    unfold aumbryref22_ground.f
    exact Ev.bind h1' (evIfp rfl (Ev.bind (ev_rvars (show u.length ≤ 1000 by omega)) (evIfp (show ((varsS [] u).length : Int) > 0 by omega) (Ev.now _))))
  ·
   refine ⟨u, u, 0, fun x => ?_, ?_, fun _ => rfl, hl⟩
   ·
    have := hr x
    rw [if_pos rfl, if_neg hv] at this
    exact this
   ·
    unfold aumbryref22_ground.f
    exact Ev.bind h1' (evIfp rfl (Ev.bind (ev_rvars (show u.length ≤ 1000 by omega)) (evIfn (show ¬ ((varsS [] u).length : Int) > 0 by omega) (Ev.now _))))
theorem rl_lit {k : Nat} {w s : ByteArray} {ws l : List ByteArray} {x : Dr} (h : 1 < w.size) : readL k (w :: ws) (s :: l) x = readL k ws l x := by rw [readL, if_pos h]
theorem rd2 {w s : ByteArray} {ws l : List ByteArray} {x y : Dr} {e : Int} {r : Dr × Int} (hw : ¬ 1 < w.size) (h : Ev (fun k => readF k w s x) (y, e)) (h2 : e = 0 → Ev (fun k => readL k ws l y) r) : Ev (fun k => readL k (w :: ws) (s :: l) x) (if e = 0 then r else (dr0 0, e)) := by
 refine Ev.congr (fun k => (show readL k (w :: ws) (s :: l) x = (if 1 < w.size then readL k ws l x else (readF k w s x).bind fun r => if r.2 = 0 then readL k ws l r.1 else some (dr0 0, r.2)) from by rw [readL])) ?_
 refine evIfn hw (Ev.bind h ?_)
 by_cases c : e = 0
 ·
  rw [if_pos c]; exact evIfp c (h2 c)
 ·
  rw [if_neg c]; exact evIfn c (Ev.now _)
theorem rd1 {w s : ByteArray} {x y : Dr} {e : Int} (hw : ¬ 1 < w.size) (h : Ev (fun k => readF k w s x) (y, e)) : Ev (fun k => readL k [w] [s] x) (if e = 0 then (y, 0) else (dr0 0, e)) := rd2 hw h fun _ => Ev.congr (fun k => (show readL k [] [] y = some (y, 0) from rfl)) (Ev.now _)
def PF (g h : Nat → Option (Dr × Int)) : Prop := ∃ y z e, Ev g (y, e) ∧ Ev h (z, e) ∧ smDr y ∧ (e = 0 → SameDr y z) ∧ (e ≠ 0 → y = dr0 0)
theorem PF.no : PF (fun _ => some (dr0 0, 12)) (fun _ => some (dr0 0, 12)) := ⟨_, _, _, Ev.now _, Ev.now _, smDr0 0, fun _ => .rfl' _, fun _ => rfl⟩
theorem PF.step {l : List ByteArray} {f : List ByteArray × Int} {fs : List (List ByteArray × Int)} {P c : Prop} [Decidable c] {h h' : Nat → Option (Dr × Int)} (hf : fitsF f.1 l = true ↔ P) (hc : c ↔ P) (h1 : P → PF (fun k => readL k f.1 l (dr0 f.2)) h) (h2 : ¬ P → PF (fun k => cmdW k l fs) h') : PF (fun k => cmdW k l (f :: fs)) (fun k => if c then h k else h' k) := by
 by_cases cp : P
 ·
  obtain ⟨y, z, e, g1, g2, g3⟩ := h1 cp
  exact ⟨y, z, e, evIfp (hf.2 cp) g1, evIfp (hc.2 cp) g2, g3⟩
 ·
  obtain ⟨y, z, e, g1, g2, g3⟩ := h2 cp
  exact ⟨y, z, e, evIfn (fun h => cp (hf.1 h)) g1, evIfn (fun h => cp (hc.1 h)) g2, g3⟩
theorem PF.of {g h : Nat → Option (Dr × Int)} {y z : Dr} {e : Int} (hg : Ev g (if e = 0 then (y, 0) else (dr0 0, e))) (hh : Ev h (z, e)) (hs : smDr y) (hz : e = 0 → SameDr y z) : PF g h := by
 by_cases c : e = 0
 ·
  subst c
  rw [if_pos rfl] at hg
  exact ⟨y, z, 0, hg, hh, hs, fun _ => hz rfl, fun h => absurd rfl h⟩
 ·
  rw [if_neg c] at hg
  exact ⟨dr0 0, z, e, hg, hh, smDr0 0, fun h => absurd h c, fun _ => rfl⟩
theorem PF.kind {b : ByteArray} (kd : Int) : PF (fun k => readL k [⟨#[87]⟩] [b] (dr0 kd)) (fun k => kindR k b kd) := by
 by_cases c : kindS b = 1
 ·
  refine PF.of (y := { dr0 kd with nm := b }) (z := { dr0 kd with nm := b }) (e := 0) ?_ ?_ (smDr0 kd) (fun _ => .rfl' _)
  ·
   have := r87 b (dr0 kd)
   rw [if_pos c] at this
   exact rd1 (by decide) this
  ·
   unfold kindR
   refine Ev.bind (ev_refKind b) ?_
   rw [if_pos c]
   exact Ev.now _
 ·
  refine PF.of (y := dr0 kd) (z := { dr0 kd with nm := b }) (e := 4) ?_ ?_ (smDr0 kd) (fun h => absurd h (by decide))
  ·
   have := r87 b (dr0 kd)
   rw [if_neg c] at this
   exact rd1 (by decide) this
  ·
   unfold kindR
   refine Ev.bind (ev_refKind b) ?_
   rw [if_neg c]
   exact Ev.now _
theorem num22 (b : ByteArray) (hb : b.size ≤ 281474976710656) : Ev (fun k => aumbryref22_number.f k b) (numS b) := by
 unfold aumbryref22_number.f
 exact Ev.bind (ev_refNumber b hb) (Ev.now _)
theorem PF.num {b : ByteArray} {x : Dr} (hx : smDr x) (hb : b.size ≤ 281474976710656) : PF (fun k => readL k [⟨#[78]⟩] [b] x) (fun k => numR k b fun i => { x with n := i }) :=
 PF.of (rd1 (by decide) (r78 b x hb)) (by unfold numR; exact Ev.bind (num22 b hb) (Ev.now _)) hx (fun _ => .rfl' _)
theorem PF.idn {b : ByteArray} {x : Dr} (hx : smDr x) (hb : b.size ≤ 281474976710656) : PF (fun k => readL k [⟨#[73]⟩] [b] x) (fun k => numR k b fun i => { x with id := i }) :=
 PF.of (rd1 (by decide) (r73 b x hb)) (by unfold numR; exact Ev.bind (num22 b hb) (Ev.now _)) hx (fun _ => .rfl' _)
theorem PF.gro {b : ByteArray} {x : Dr} (hx : smDr x) : PF (fun k => readL k [⟨#[84]⟩] [b] x) (fun k => groR k b fun t => { x with tm := t }) := by
 obtain ⟨u, v, e, h1, h2, h3, h4⟩ := r84 b
 exact PF.of (rd1 (by decide) (h1 x)) (by unfold groR; exact Ev.bind h2 (Ev.now _)) ⟨h4, hx.2⟩ (fun h => by rw [h3 h]; exact .rfl' _)
theorem PF.then {w s : ByteArray} {ws l : List ByteArray} {x y : Dr} {e : Int} {g h : Nat → Option (Dr × Int)} (hw : ¬ 1 < w.size) (h1 : Ev (fun k => readF k w s x) (y, e)) (he : e ≠ 0 → ∃ z, Ev h (z, e)) (h2 : e = 0 → PF (fun k => readL k ws l y) h) : PF (fun k => readL k (w :: ws) (s :: l) x) h := by
 by_cases c : e = 0
 ·
  obtain ⟨y', z, e', g1, g2, g3, g4⟩ := h2 c
  have := rd2 hw h1 (fun _ => g1)
  rw [if_pos c] at this
  exact ⟨y', z, e', this, g2, g3, g4⟩
 ·
  obtain ⟨z, hz⟩ := he c
  have := rd2 (ws := ws) (l := l) (r := (dr0 0, 0)) hw h1 (fun h => absurd h c)
  rw [if_neg c] at this
  exact ⟨_, z, e, this, hz, smDr0 0, fun h => absurd h c, fun _ => rfl⟩
theorem PF.lit {w a : ByteArray} {ws l : List ByteArray} {x : Dr} {h : Nat → Option (Dr × Int)} (hw : 1 < w.size) (h1 : PF (fun k => readL k ws l x) h) : PF (fun k => readL k (w :: ws) (a :: l) x) h := by
 obtain ⟨y, z, e, g1, g2⟩ := h1
 exact ⟨y, z, e, Ev.congr (fun k => rl_lit hw) g1, g2⟩
theorem bare_like (a : ByteArray) : PF (fun k => cmdW k [a] ws1) (fun _ => some (bareF a (bareL.zip bareK))) := by
 have e : ∀ (w : ByteArray) (kd : Int) (ps : List (ByteArray × Int)) (l : List UInt8), w = ⟨l.toArray⟩ → (fun _ : Nat => some (bareF a ((w, kd) :: ps))) = fun _ => if a.toList = l then some (dr0 kd, 0) else some (bareF a ps) := by
  intro w kd ps l hw
  funext k
  rw [bareF]
  by_cases c : a.toList = w.toList
  ·
   rw [if_pos c, if_pos (by rw [c, hw, tl_lit])]
  ·
   rw [if_neg c, if_neg (fun h => c (by rw [h, hw, tl_lit]))]
 have g : ∀ (w : ByteArray) (kd : Int), 1 < w.size → PF (fun k => readL k [w] [a] (dr0 kd)) (fun _ => some (dr0 kd, 0)) := fun w kd hw => PF.lit hw ⟨_, _, 0, Ev.congr (fun k => (show readL k [] [] (dr0 kd) = some (dr0 kd, (0 : Int)) from rfl)) (Ev.now _), Ev.now _, smDr0 kd, fun _ => .rfl' _, fun h => absurd rfl h⟩
 unfold bareL bareK
 simp only [List.zip_cons_cons, List.zip_nil_left]
 rw [e _ _ _ [110, 97, 109, 101, 115] rfl]
 refine PF.step (fits1 (by decide)) (lit_iff [110, 97, 109, 101, 115]) (fun _ => g _ _ (by decide)) (fun _ => ?_)
 rw [e _ _ _ [115, 121, 109, 98, 111, 108, 115] rfl]
 refine PF.step (fits1 (by decide)) (lit_iff [115, 121, 109, 98, 111, 108, 115]) (fun _ => g _ _ (by decide)) (fun _ => ?_)
 rw [e _ _ _ [114, 117, 108, 101, 115] rfl]
 refine PF.step (fits1 (by decide)) (lit_iff [114, 117, 108, 101, 115]) (fun _ => g _ _ (by decide)) (fun _ => ?_)
 rw [e _ _ _ [109, 101, 109, 111, 115] rfl]
 refine PF.step (fits1 (by decide)) (lit_iff [109, 101, 109, 111, 115]) (fun _ => g _ _ (by decide)) (fun _ => ?_)
 rw [e _ _ _ [106, 111, 98, 115] rfl]
 refine PF.step (fits1 (by decide)) (lit_iff [106, 111, 98, 115]) (fun _ => g _ _ (by decide)) (fun _ => ?_)
 rw [e _ _ _ [118, 101, 114, 115, 105, 111, 110] rfl]
 refine PF.step (fits1 (by decide)) (lit_iff [118, 101, 114, 115, 105, 111, 110]) (fun _ => g _ _ (by decide)) (fun _ => ?_)
 exact PF.no
theorem one_like (a b : ByteArray) (hb : b.size ≤ 281474976710656) : PF (fun k => cmdW k [a, b] ws2) (fun k => oneR k a b) := by
 unfold oneR
 refine PF.step (fits2 (by decide) ⟨by decide, by decide⟩) (lit_iff [102, 111, 114, 103, 101, 116]) (fun _ => PF.lit (by decide) (PF.kind _)) (fun _ => ?_)
 refine PF.step (fits2 (by decide) ⟨by decide, by decide⟩) (lit_iff [115, 104, 111, 119]) (fun _ => PF.lit (by decide) (PF.kind _)) (fun _ => ?_)
 refine PF.step (fits2 (by decide) ⟨by decide, by decide⟩) (lit_iff [117, 110, 114, 117, 108, 101]) (fun _ => PF.lit (by decide) (PF.idn (smDr0 _) hb)) (fun _ => ?_)
 by_cases cm : a = (⟨#[109, 101, 109, 111]⟩ : ByteArray)
 ·
  subst cm
  by_cases cb : b = (⟨#[111, 110]⟩ : ByteArray) ∨ b = (⟨#[111, 102, 102]⟩ : ByteArray)
  ·
   refine PF.step (P := True) ((fits2O (by decide)).trans ⟨fun _ => trivial, fun _ => ⟨rfl, cb⟩⟩) ((lit_iff [109, 101, 109, 111]).trans ⟨fun _ => trivial, fun _ => rfl⟩) (fun _ => PF.lit (by decide) ?_) (fun h => absurd trivial h)
   refine PF.of (y := { dr0 11 with on := b.toList == [111, 110] }) (z := { dr0 11 with on := b.toList == [111, 110] }) (e := 0) (rd1 (by decide) ?_) ?_ (smDr0 11) (fun _ => .rfl' _)
   ·
    unfold readF
    exact evIfn (by rw [tl_lit [79]]; decide) (evIfn (by rw [tl_lit [79]]; decide) (evIfn (by rw [tl_lit [79]]; decide) (evIfn (by rw [tl_lit [79]]; decide) (evIfn (by rw [tl_lit [79]]; decide) (evIfn (by rw [tl_lit [79]]; decide) (evIfp (tl_lit [79]) (Ev.now _)))))))
   ·
    rcases cb with rfl | rfl
    ·
     rw [if_pos (tl_lit [111, 110])]
     exact Ev.now _
    ·
     rw [if_neg (by rw [tl_lit [111, 102, 102]]; decide), if_pos (tl_lit [111, 102, 102])]
     exact Ev.now _
  ·
   have hb1 : ¬ b.toList = [111, 110] := fun h => cb (.inl ((lit_iff [111, 110]).1 h))
   have hb2 : ¬ b.toList = [111, 102, 102] := fun h => cb (.inr ((lit_iff [111, 102, 102]).1 h))
   rw [if_neg hb1, if_neg hb2]
   refine ⟨dr0 0, _, 12, ?_, evIfp (tl_lit [109, 101, 109, 111]) (Ev.now _), smDr0 0, fun h => absurd h (by decide), fun _ => rfl⟩
   refine evIfn (fun h => cb ((fits2O (by decide)).1 h).2) ?_
   refine evIfn (fun h => absurd ((fits2 (by decide) ⟨by decide, by decide⟩).1 h) (by decide)) ?_
   refine evIfn (fun h => absurd ((fits2 (by decide) ⟨by decide, by decide⟩).1 h) (by decide)) ?_
   refine evIfn (fun h => absurd ((fits2 (by decide) ⟨by decide, by decide⟩).1 h) (by decide)) ?_
   refine evIfn (fun h => absurd ((fits2 (by decide) ⟨by decide, by decide⟩).1 h) (by decide)) ?_
   exact Ev.now _
 refine PF.step (P := False) ((fits2O (by decide)).trans ⟨fun h => cm h.1, False.elim⟩) ((lit_iff [109, 101, 109, 111]).trans ⟨cm, False.elim⟩) False.elim (fun _ => ?_)
 refine PF.step (fits2 (by decide) ⟨by decide, by decide⟩) (lit_iff [106, 111, 98]) (fun _ => PF.lit (by decide) (PF.gro (smDr0 _))) (fun _ => ?_)
 refine PF.step (fits2 (by decide) ⟨by decide, by decide⟩) (lit_iff [108, 111, 111, 107]) (fun _ => PF.lit (by decide) (PF.idn (smDr0 _) hb)) (fun _ => ?_)
 refine PF.step (fits2 (by decide) ⟨by decide, by decide⟩) (lit_iff [100, 114, 111, 112]) (fun _ => PF.lit (by decide) (PF.idn (smDr0 _) hb)) (fun _ => ?_)
 refine PF.step (fits2 (by decide) ⟨by decide, by decide⟩) (lit_iff [114, 101, 99, 108, 97, 105, 109]) (fun _ => PF.lit (by decide) (PF.num (smDr0 _) hb)) (fun _ => ?_)
 exact PF.no
theorem two_like (a b c : ByteArray) (hb : b.size ≤ 281474976710656) (hc : c.size ≤ 281474976710656) : PF (fun k => cmdW k [a, b, c] ws3) (fun k => twoR k a b c) := by
 unfold twoR
 refine PF.step (fits3 (by decide) ⟨by decide, by decide⟩ ⟨by decide, by decide⟩) (lit_iff [115, 121, 109, 98, 111, 108]) (fun _ => PF.lit (by decide) ?_) (fun _ => ?_)
 ·
  by_cases ck : kindS b = 1
  ·
   have h1 := r87 b (dr0 1)
   rw [if_pos ck] at h1
   obtain ⟨y, z, e, g1, g2, g3⟩ := PF.num (b := c) (x := { dr0 1 with nm := b }) ⟨Nat.zero_le _, Nat.zero_le _, Nat.zero_le _⟩ hc
   exact PF.then (g := fun _ => none) (by decide) h1 (fun h => absurd rfl h) (fun _ => ⟨y, z, e, g1, Ev.bind (ev_refKind b) (evIfp ck g2), g3⟩)
  ·
   have h1 := r87 b (dr0 1)
   rw [if_neg ck] at h1
   exact PF.then (g := fun _ => none) (by decide) h1 (fun _ => ⟨_, Ev.bind (ev_refKind b) (evIfn ck (Ev.now _))⟩) (fun h => absurd h (by decide))
 refine PF.step (fits3 (by decide) ⟨by decide, by decide⟩ ⟨by decide, by decide⟩) (lit_iff [110, 97, 109, 101]) (fun _ => PF.lit (by decide) ?_) (fun _ => ?_)
 ·
  by_cases ck : kindS b = 1
  ·
   have h1 := r87 b (dr0 2)
   rw [if_pos ck] at h1
   obtain ⟨y, z, e, g1, g2, g3⟩ := PF.gro (b := c) (x := { dr0 2 with nm := b }) ⟨Nat.zero_le _, Nat.zero_le _, Nat.zero_le _⟩
   exact PF.then (g := fun _ => none) (by decide) h1 (fun h => absurd rfl h) (fun _ => ⟨y, z, e, g1, Ev.bind (ev_refKind b) (evIfp ck g2), g3⟩)
  ·
   have h1 := r87 b (dr0 2)
   rw [if_neg ck] at h1
   exact PF.then (g := fun _ => none) (by decide) h1 (fun _ => ⟨_, Ev.bind (ev_refKind b) (evIfn ck (Ev.now _))⟩) (fun h => absurd h (by decide))
 refine PF.step (fits3 (by decide) ⟨by decide, by decide⟩ ⟨by decide, by decide⟩) (lit_iff [110, 111, 114, 109]) (fun _ => PF.lit (by decide) ?_) (fun _ => ?_)
 ·
  obtain ⟨u, v, e, h1, h2, h3, h4⟩ := r84 b
  refine PF.then (g := fun _ => none) (by decide) (h1 (dr0 10)) (fun he => ⟨_, Ev.bind h2 (evIfn he (Ev.now _))⟩) (fun he => ?_)
  obtain ⟨y, z, e', g1, g2, g3⟩ := PF.num (b := c) (x := { dr0 10 with tm := u }) ⟨h4, Nat.zero_le _, Nat.zero_le _⟩ hc
  obtain rfl := h3 he
  exact ⟨y, z, e', g1, Ev.bind h2 (evIfp he g2), g3⟩
 refine PF.step (fits3 (by decide) ⟨by decide, by decide⟩ ⟨by decide, by decide⟩) (lit_iff [114, 117, 110]) (fun _ => PF.lit (by decide) ?_) (fun _ => ?_)
 ·
  refine PF.then (g := fun _ => none) (by decide) (r73 b (dr0 14) hb) (fun he => ⟨_, Ev.bind (num22 b hb) (evIfn he (Ev.now _))⟩) (fun he => ?_)
  obtain ⟨y, z, e', g1, g2, g3⟩ := PF.num (b := c) (x := { dr0 14 with id := (numS b).1 }) ⟨Nat.zero_le _, Nat.zero_le _, Nat.zero_le _⟩ hc
  exact ⟨y, z, e', g1, Ev.bind (num22 b hb) (evIfp he g2), g3⟩
 exact PF.no
theorem rule_like (a b c d : ByteArray) : PF (fun k => cmdW k [a, b, c, d] ws4) (fun k => if a.toList = [114, 117, 108, 101] then (if c.toList = [45, 62] then ruleR k b d else some (dr0 0, 12)) else some (dr0 0, 12)) := by
 have no : ¬ (a = (⟨#[114, 117, 108, 101]⟩ : ByteArray) ∧ c = (⟨#[45, 62]⟩ : ByteArray)) → Ev (fun k => cmdW k [a, b, c, d] ws4) (dr0 0, 12) := fun hn => evIfn (fun h => hn ((fits4 (by decide) ⟨by decide, by decide⟩ (by decide) ⟨by decide, by decide⟩).1 h)) (Ev.now _)
 by_cases c1 : a = (⟨#[114, 117, 108, 101]⟩ : ByteArray)
 case neg => exact ⟨dr0 0, _, 12, no (fun h => c1 h.1), evIfn (fun h => c1 ((lit_iff [114, 117, 108, 101]).1 h)) (Ev.now _), smDr0 0, fun _ => .rfl' _, fun _ => rfl⟩
 by_cases c2 : c = (⟨#[45, 62]⟩ : ByteArray)
 case neg => exact ⟨dr0 0, _, 12, no (fun h => c2 h.2), evIfp ((lit_iff [114, 117, 108, 101]).2 c1) (evIfn (fun h => c2 ((lit_iff [45, 62]).1 h)) (Ev.now _)), smDr0 0, fun _ => .rfl' _, fun _ => rfl⟩
 obtain ⟨l, r, e, h1, h2, h3, h4, _⟩ := ev_rparse b d
 have hr : PF (fun k => readL k [(⟨#[114, 117, 108, 101]⟩ : ByteArray), (⟨#[76]⟩ : ByteArray), (⟨#[45, 62]⟩ : ByteArray), (⟨#[82]⟩ : ByteArray)] [a, b, c, d] (dr0 7)) (fun k => ruleR k b d) := by
  refine PF.lit (by decide) (PF.then (g := fun _ => none) (y := { dr0 7 with left := b }) (e := 0) (by decide) ?_ (fun h => absurd rfl h) (fun _ => PF.lit (by decide) ?_))
  ·
   unfold readF
   exact evIfn (by rw [tl_lit [76]]; decide) (evIfn (by rw [tl_lit [76]]; decide) (evIfn (by rw [tl_lit [76]]; decide) (evIfn (by rw [tl_lit [76]]; decide) (evIfp (tl_lit [76]) (Ev.now _)))))
  ·
   refine PF.of (y := { dr0 7 with left := b, rid := 0, lf := l, rt := r }) (z := { dr0 7 with rid := 0, lf := l, rt := r }) (e := e) (rd1 (by decide) ?_) (by unfold ruleR; exact Ev.bind h2 (Ev.now _)) ⟨Nat.zero_le _, h3, h4⟩ (fun _ => ⟨rfl, rfl, rfl, rfl, rfl, rfl, rfl, rfl, rfl⟩)
   unfold readF
   exact evIfn (by rw [tl_lit [82]]; decide) (evIfn (by rw [tl_lit [82]]; decide) (evIfn (by rw [tl_lit [82]]; decide) (evIfn (by rw [tl_lit [82]]; decide) (evIfn (by rw [tl_lit [82]]; decide) (evIfp (tl_lit [82]) (Ev.bind h1 (Ev.now _)))))))
 obtain ⟨y, z, e', g1, g2, g3⟩ := hr
 exact ⟨y, z, e', evIfp ((fits4 (by decide) ⟨by decide, by decide⟩ (by decide) ⟨by decide, by decide⟩).2 ⟨c1, c2⟩) g1, evIfp ((lit_iff [114, 117, 108, 101]).2 c1) (evIfp ((lit_iff [45, 62]).2 c2) g2), g3⟩
theorem ref_like (s : ByteArray) : ∃ y z e, Ev (fun k => cmdF k s) (y, e) ∧ Ev (fun k => refF k s) (z, e) ∧ SameDr y z ∧ smDr y ∧ (e ≠ 0 → z = dr0 0) := by
 by_cases hs : (s.size : Int) > 256
 ·
  exact ⟨dr0 0, dr0 0, 2, by unfold cmdF; exact evIfp hs (Ev.now _), by unfold refF; exact evIfp hs (Ev.now _), .rfl' _, smDr0 0, fun _ => rfl⟩
 have hw := words_sz s (by omega)
 have fin : ∀ {h : Nat → Option (Dr × Int)} (n : Nat) (ws : List (List ByteArray × Int)), (wdsS s).length = n → (wsA.filter fun f => f.1.length == n) = ws → PF (fun k => cmdW k (wdsS s) ws) h → (∀ r : Dr × Int, Ev h r → Ev (fun k => refB k (wdsS s)) (if r.2 = 0 then (r.1, 0) else (dr0 0, r.2))) →
  ∃ y z e, Ev (fun k => cmdF k s) (y, e) ∧ Ev (fun k => refF k s) (z, e) ∧ SameDr y z ∧ smDr y ∧ (e ≠ 0 → z = dr0 0) := by
  intro h n ws hn hws hp hr
  obtain ⟨y, z, e, g1, g2, g3, g4, g5⟩ := hp
  have hc : Ev (fun k => cmdF k s) (y, e) := by
   unfold cmdF
   refine evIfn hs (Ev.bind (evIs (words_at s (by omega))) ?_)
   exact Ev.congr (fun k => by rw [cmdL_W, cmdW_len, hn, hws]) g1
  have hR := hr _ g2
  have hf : Ev (fun k => refF k s) (if e = 0 then (z, 0) else (dr0 0, e)) := by
   unfold refF
   exact evIfn hs (Ev.bind (ev_refWords s (by omega)) hR)
  by_cases ce : e = 0
  ·
   subst ce
   rw [if_pos rfl] at hf
   exact ⟨y, z, 0, hc, hf, g4 rfl, g3, fun h => absurd rfl h⟩
  ·
   rw [if_neg ce] at hf
   exact ⟨y, dr0 0, e, hc, hf, by rw [g5 ce]; exact .rfl' _, g3, fun _ => rfl⟩
 have fr : ∀ {h : Nat → Option (Dr × Int)} {r : Dr × Int}, Ev h r → Ev (fun k => (h k).bind finR) (if r.2 = 0 then (r.1, 0) else (dr0 0, r.2)) := fun {h r} hr => by
  refine Ev.bind hr ?_
  unfold finR
  by_cases c : r.2 = 0
  ·
   rw [if_pos c, if_pos c]; exact Ev.now _
  ·
   rw [if_neg c, if_neg c]; exact Ev.now _
 match hl : wdsS s with
 | [a] =>
  refine fin 1 ws1 (by rw [hl]; rfl) ws1_ok (by rw [hl]; exact bare_like a) (fun r hr => ?_)
  rw [hl]
  unfold refB
  have : r = bareF a (bareL.zip bareK) := ev_det hr (Ev.now _)
  subst this
  refine evIfp rfl ?_
  have hb : ∀ ps : List (ByteArray × Int), (if (bareF a ps).2 = 0 then ((bareF a ps).1, 0) else (dr0 0, (bareF a ps).2)) = bareF a ps := by
   intro ps
   induction ps with
   | nil => rfl
   | cons q ps ih =>
    rw [bareF]
    split
    ·
     rfl
    ·
     exact ih
  rw [hb]
  exact Ev.now _
 | [a, b] =>
  have hb := hw b (by rw [hl]; simp)
  refine fin 2 ws2 (by rw [hl]; rfl) ws2_ok (by rw [hl]; exact one_like a b hb) (fun r hr => ?_)
  rw [hl]
  unfold refB
  exact evIfn (by simp) (evIfp rfl (fr hr))
 | [a, b, c] =>
  have hb := hw b (by rw [hl]; simp)
  have hc := hw c (by rw [hl]; simp)
  refine fin 3 ws3 (by rw [hl]; rfl) ws3_ok (by rw [hl]; exact two_like a b c hb hc) (fun r hr => ?_)
  rw [hl]
  unfold refB
  exact evIfn (by simp) (evIfn (by simp) (evIfp rfl (fr hr)))
 | [a, b, c, d] =>
  refine fin 4 ws4 (by rw [hl]; rfl) ws4_ok (by rw [hl]; exact rule_like a b c d) (fun r hr => ?_)
  rw [hl]
  unfold refB
  refine evIfn (by simp) (evIfn (by simp) (evIfn (by simp) (evIfp rfl ?_)))
  by_cases c1 : a.toList = [114, 117, 108, 101]
  case neg =>
   obtain rfl := ev_det hr (evIfn c1 (Ev.now _))
   exact evIfn c1 (Ev.now _)
  by_cases c2 : c.toList = [45, 62]
  case neg =>
   obtain rfl := ev_det hr (evIfp c1 (evIfn c2 (Ev.now _)))
   exact evIfp c1 (evIfn c2 (Ev.now _))
  exact evIfp c1 (evIfp c2 (fr (Ev.congr (fun k => (show ruleR k b d = (if a.toList = [114, 117, 108, 101] then (if c.toList = [45, 62] then ruleR k b d else some (dr0 0, 12)) else some (dr0 0, 12)) from by rw [if_pos c1, if_pos c2])) hr)))
 | [] =>
  refine fin (h := fun _ => some (dr0 0, 12)) 0 [] (by rw [hl]; rfl) (by decide +kernel) (by rw [hl]; exact PF.no) (fun r hr => ?_)
  obtain rfl := ev_det hr (Ev.now _)
  rw [hl]
  unfold refB
  exact evIfn (by simp) (evIfn (by simp) (evIfn (by simp) (evIfn (by simp) (Ev.now _))))
 | a :: b :: c :: d :: e :: l =>
  refine fin (h := fun _ => some (dr0 0, 12)) (l.length + 5) [] (by rw [hl]; simp) (List.filter_eq_nil_iff.2 fun f hf h => by
   have h1 := ws_no f hf
   have h2 := beq_iff_eq.1 h
   omega) (by rw [hl]; exact PF.no) (fun r hr => ?_)
  obtain rfl := ev_det hr (Ev.now _)
  rw [hl]
  unfold refB
  exact evIfn (by simp only [List.length_cons]; omega) (evIfn (by simp only [List.length_cons]; omega) (evIfn (by simp only [List.length_cons]; omega) (evIfn (by simp only [List.length_cons]; omega) (Ev.now _))))
end Go.Proofs.YtmlddeogmckgmaaGreatDoor.P

-- ==== PureCommandOwn
/- What is handed in stays, and what is answered is new memory: for every line and command of at most 1048576 values and letters, the law answers true. -/
namespace Go.Proofs.YtmlddeogmckgmaaGreatDoor.Pure
open Go.RowKit Go.Proofs.YtmlddeogmckgmaaGreatDoor.P Go.Proofs.YtmlddeogmckgmaaGreatDoorW.PrintWords
theorem i64_wf {v : Int} (h : (Lit.int .i64 v).wf = true) : i64R v := by
 simp only [Lit.wf, Bool.and_eq_true, decide_eq_true_eq] at h
 have e1 : IntKind.i64.min = -9223372036854775808 := by decide
 have e2 : IntKind.i64.max = 9223372036854775807 := by decide
 rw [e1, e2] at h
 exact h
theorem CommandOwnUpto : aumbrylaw22_CommandOwn.PureUpto := by
 intro line x hl hx hb
 obtain ⟨q0, q1, q2, q3, q4, q5, q6⟩ := hx
 have hbk : bk9 x.f1 ≤ 1048576 := by
  have : bk28 x = (bk3 x.f0 + (bk9 x.f1 + (bk3 x.f2 + (bk3 x.f3 + (bk4 x.f4 + (bk24 x.f5 + bk26 x.f6)))))) + 1 := rfl
  omega
 have hnm : x.f1.size ≤ 1048576 := by
  have : bk9 x.f1 = x.f1.size + 1 := rfl
  omega
 obtain ⟨c, hc⟩ : ∃ c : Dr, c = ⟨x.f0, x.f1, x.f2, x.f3, x.f4, x.f5, x.f6.f0, x.f6.f1, x.f6.f2, ⟨#[]⟩⟩ := ⟨_, rfl⟩
 have hrng : rngD c := by rw [hc]; exact ⟨hnm, i64_wf q2, i64_wf q3⟩
 have hsm : smallC c := by rw [hc]; exact ⟨sz_len q5, sz_len q6.2.1, sz_len q6.2.2⟩
 have hsl : SmallDr c := ⟨by have := hsm.1; omega, by have := hsm.2.1; omega, by have := hsm.2.2; omega⟩
 refine Ev.rounds (g := fun k => aumbrylaw22_CommandOwn.f k line _ _ _ _ _ _ _ _ _) ?_
 unfold aumbrylaw22_CommandOwn.f
 rw [← hc]
 unfold lawOw
 obtain ⟨s, e, h1, _⟩ := printL_full hrng formsL (fun _ h => h)
 obtain ⟨y, z, e', r1, r2, r3, r4, _⟩ := ref_like line
 obtain ⟨b, g1, g2⟩ := ev_same22 c c (.inl hsl)
 obtain rfl : b = true := g2.2 (.rfl' _)
 obtain ⟨b', g3, g4⟩ := ev_same22 y z (.inl r4.small)
 obtain rfl : b' = true := g4.2 r3
 exact @evIfp _ (smallC c) (decSm c) _ _ _ hsm (Ev.bind ev_wakes22 (evIfp rfl (Ev.bind h1 (Ev.bind r1 (Ev.bind r2 (Ev.bind g1 (evIfp rfl (Ev.bind g3 (evIfp rfl (Ev.now _))))))))))
end Go.Proofs.YtmlddeogmckgmaaGreatDoor.Pure

-- ==== RowCommandOwnUpto
namespace Go.Proofs.YtmlddeogmckgmaaGreatDoor.commandOwnUpto
open Go.ChangeShapes Go.WideShapes Go.ChangeAt Go.RowKit Go.Proofs.YtmlddeogmckgmaaGreatDoorW.PrintWords Go.Proofs.YtmlddeogmckgmaaGreatDoor.P Go.Proofs.YtmlddeogmckgmaaGreatDoor.Open
open Go.ChangeMaps (open_string shut_string)
theorem own : ownKnob Tryz.prog.godebug = none := by kernel_rfl
theorem laidOut : laidOutB Tryz.prog = true := by kernel_rfl
theorem bulk_le {H : Type} : ∀ (l r : List (DataW H)), Rows.uptoBulkAll l ≤ Rows.uptoBulkAll (l ++ r)
 | [], r => by simp [Rows.uptoBulkAll]
 | d :: l, r => by
  have := bulk_le l r
  simp only [List.cons_append, Rows.uptoBulkAll]
  omega
theorem core {H : Type} {enc : TypeId × Value → H} (W : World) (base : Nat) (args : Array Value) (ds gs : List (DataW H)) (before : List MemPlace)
 (hval : ∀ (j : Nat) t v, Tryz.f7.params[j]? = some t → args[j]? = some v → Value.okWide Tryz.prog W .any base t v)
 (hW : DataW.Whole enc Tryz.prog Tryz.f7.params.toList Rows.commandOwnSpec.vars false W args.toList ds gs before)
 (hsz : (DataW.weightsEach Tryz.prog (Tryz.f7.params.toList ++ Rows.commandOwnSpec.plain.varTypes Tryz.prog) (ds ++ gs)).all (· ≤ reachBytes) = true)
 (hL : laidMetH Tryz.prog Rows.commandOwnRow.laid W)
 (hbulk : Rows.uptoBulkAll ds ≤ 1048576)
 :
 Calls Tryz.prog 7 args W fun e W' => ∃ v, e = .returned v ∧ Rows.commandOwnSpec.post enc Tryz.prog Tryz.f7 false true false false W args v W' := by
 have hW' := hW
 obtain ⟨p, q, hA, hV, rfl, hfz, hnd⟩ := hW
 rw [Tryz.params7] at hA hval hsz
 obtain ⟨v0, vs0, d0, ds0, p0, q0, hargs, rfl, rfl, h0, r0⟩ := trodAll_cons hA
 obtain ⟨v1, vs1, d1, ds1, p1, q1, rfl, rfl, rfl, h1, r1⟩ := trodAll_cons r0
 obtain ⟨rfl, rfl, rfl⟩ := trodAll_nil r1
 obtain rfl : args = #[v0, v1] := by cases args; simp_all
 obtain ⟨rfl, rfl⟩ := trodVars_none hV
 have k0 := h0
 obtain ⟨n0, hf0⟩ := h0
 obtain ⟨x0, hK0, hS0, hB0⟩ := op9.go hf0 (fun m hm => by have := List.all_eq_true.1 hsz m (DataW.weights_mem_each (j := 0) rfl rfl m hm); simpa using this)
 have lt0 : ∀ z ∈ p0, z.block < W.heap.size := by obtain ⟨m, hm⟩ := k0; exact DataW.trod_lt m _ _ _ hm
 obtain ⟨y0, rfl⟩ := okWide_string Tryz.underlying9 (hval 0 9 v0 rfl rfl)
 have hcs0' : [_] = [_] := hK0
 injection hcs0' with hcs0'
 injection hcs0' with hq0
 subst hq0
 have k1 := h1
 obtain ⟨n1, hf1⟩ := h1
 obtain ⟨x1, hK1, hS1, hB1⟩ := op28.go hf1 (fun m hm => by have := List.all_eq_true.1 hsz m (DataW.weights_mem_each (j := 1) rfl rfl m hm); simpa using this)
 have lt1 : ∀ z ∈ p1, z.block < W.heap.size := by obtain ⟨m, hm⟩ := k1; exact DataW.trod_lt m _ _ _ hm
 obtain ⟨cs1, rfl, hz1⟩ := okWide_struct Tryz.underlying28 (hval 1 28 v1 rfl rfl)
 obtain ⟨A1_5, c1_5, A1_7, c1_7, A1_8, c1_8, hcs1, hc1_5, hr1_5, hc1_7, hr1_7, hc1_8, hr1_8⟩ := k28_open hK1
 have hcs1' : cs1.toList = _ := hcs1
 obtain rfl : cs1 = #[.int .i64 ((x1).f0), .string ((x1).f1), .int .i64 ((x1).f2), .int .i64 ((x1).f3), .bool ((x1).f4), .slice A1_5 (x1).f5.length c1_5, .int .i64 ((x1).f6.f0), .slice A1_7 (x1).f6.f1.length c1_7, .slice A1_8 (x1).f6.f2.length c1_8] := by apply Array.toList_inj.1; exact hcs1'
 obtain ⟨k, h⟩ := Pure.CommandOwnUpto y0 x1 hS0 hS1 (by simp only [Rows.uptoBulkAll] at hbulk; (try dsimp only at hB0); (try dsimp only at hB1); omega)
 refine (aumbrylaw22_CommandOwn.calls k y0 (x1).f0 (x1).f1 (x1).f2 (x1).f3 (x1).f4 _ _ (x1).f5 (x1).f6.f0 _ _ (x1).f6.f1 _ _ (x1).f6.f2 true W hr1_5 hc1_5 hr1_7 hc1_7 hr1_8 hc1_8 h rfl (glob_row hL)).mono ?_
 rintro e W' ⟨rfl, hd⟩
 have bel : Below W.heap.size W W' := hd
 exact ⟨_, rfl, _, _, _, [], _, [], hW', trodAll_mk1 (shut_bool Tryz.underlying4 _), (trodAll_cons_mk (Below.trod laidOut (by kernel_rfl) (of_decide_eq_true (by kernel_rfl)) k0 bel lt0) (trodAll_cons_mk (Below.trod laidOut (by kernel_rfl) (of_decide_eq_true (by kernel_rfl)) k1 bel lt1) trodAll_mk0)), rfl, bel.frame _, fun h => by cases h⟩
theorem laid_met (os : Os) : laidMet Tryz.prog Rows.commandOwnUptoRow.laid ((World.laidAll Tryz.prog os Rows.commandOwnUptoRow.laid).forCall (fun _ _ => 0) ⟨#[], #[.string ByteArray.empty, .agg #[.int .i64 0, .string ByteArray.empty, .int .i64 0, .int .i64 0, .bool false, .slice none 0 0, .int .i64 0, .slice none 0 0, .slice none 0 0]], []⟩).memory :=
 laidMet_laidAll _ (by kernel_rfl) (by kernel_rfl)
theorem reads (os : Os) {H : Type} (enc : TypeId × Value → H) : (DataW.whole enc Tryz.prog ((World.laidAll Tryz.prog os Rows.commandOwnUptoRow.laid).forCall (fun _ _ => 0) ⟨#[], #[.string ByteArray.empty, .agg #[.int .i64 0, .string ByteArray.empty, .int .i64 0, .int .i64 0, .bool false, .slice none 0 0, .int .i64 0, .slice none 0 0, .slice none 0 0]], []⟩).memory Tryz.f7.params.toList Rows.commandOwnSpec.vars false (#[.string ByteArray.empty, .agg #[.int .i64 0, .string ByteArray.empty, .int .i64 0, .int .i64 0, .bool false, .slice none 0 0, .int .i64 0, .slice none 0 0, .slice none 0 0]] : Array Value).toList 8).map (fun x => Rows.uptoSmall H (x.1 ++ x.2.1)) = some true := by kernel_rfl
theorem lifted (os : Os) (started : os.Started) (H : Type) (enc : TypeId × Value → H) (F : Stop.Interp) :
 ReturnsInHanded {} Tryz.checked os 7 .any ((Rows.OpenSpec.upto Rows.commandOwnSpec).preRow enc Tryz.prog Tryz.f7 Rows.commandOwnUptoRow.domain false Rows.commandOwnUptoRow.laid) (((Rows.OpenSpec.upto Rows.commandOwnSpec).at F).post enc Tryz.prog Tryz.f7 false true false false) := by
 obtain ⟨x, hx, hk0⟩ := Option.map_eq_some_iff.1 (reads os enc)
 refine returnsInHanded_of_row (C := Tryz.checked) (s := (Rows.OpenSpec.upto Rows.commandOwnSpec)) own started (by kernel_rfl) Tryz.func7
  (witness_row_atRef (enc := enc) (C := Tryz.checked) false (World.laidAll Tryz.prog os Rows.commandOwnUptoRow.laid) #[.string ByteArray.empty, .agg #[.int .i64 0, .string ByteArray.empty, .int .i64 0, .int .i64 0, .bool false, .slice none 0 0, .int .i64 0, .slice none 0 0, .slice none 0 0]] rfl (by kernel_rfl) (by kernel_rfl) (by kernel_rfl)
   (OpenSpec.preRow_of_cond 8 hx rfl (fun k hk => by cases hk; exact hk0) (by kernel_rfl) (laid_met os))) ?_
 intro W base args ds gs before hval0 hW _ hk hsz0 hL _ _
 exact core W base args ds gs before hval0 hW hsz0 hL (Nat.le_trans (bulk_le ds gs) (of_decide_eq_true (hk _ rfl)))
theorem said : Rows.CommandOwnUptoSaid :=
 OpenClaim.holds_of_cond 7 Tryz.f7 rfl rfl rfl rfl rfl rfl rfl ⟨rfl, rfl, rfl, rfl, rfl⟩ rfl rfl rfl rfl rfl (by kernel_rfl) Tryz.func7 (by kernel_rfl)
  (of_decide_eq_true (by kernel_rfl)) (by unfold Func.isWrapper; first | (rw [if_pos (by decide +kernel)]; kernel_rfl) | (rw [if_neg (by decide +kernel)]; exact ⟨rfl, rfl⟩))
  (fun os started H enc _ F => by rw [OpenClaim.pre_eq_preRow]; exact lifted os started H enc F)
theorem plain (f : FuncId) (fn : Func) (hf : Tryz.pinned.checked.prog.funcNamed "aumbry/aumbrylaw22.CommandOwn" = some f) (hfn : Tryz.pinned.checked.prog.funcs[f]? = some fn) :
 true = Tryz.pinned.checked.prog.looks [] ∧ ∀ (j : Nat) t, fn.params[j]? = some t → Tryz.pinned.checked.prog.wantsStandIn t = false := by
 obtain rfl : f = 7 := Option.some.inj ((show Tryz.prog.funcNamed "aumbry/aumbrylaw22.CommandOwn" = some 7 by kernel_rfl).symm.trans hf) |>.symm
 obtain rfl : fn = Tryz.f7 := (Option.some.inj (Tryz.func7.symm.trans hfn)).symm
 refine ⟨by kernel_rfl, fun j t ht => ?_⟩
 rw [Tryz.params7] at ht
 have hm := Array.mem_of_getElem? ht
 have hm' : t = 9 ∨ t = 28 := by simpa using hm
 rcases hm' with rfl | rfl
 ·
  exact (show Tryz.prog.wantsStandIn 9 = false by kernel_rfl)
 ·
  exact (show Tryz.prog.wantsStandIn 28 = false by kernel_rfl)
theorem card : Rows.CommandOwnUptoCardSaid :=
 Claim7.holds_tied_plain_at .later [] _ _ _ _ said (fun _ h => by cases h) (by kernel_rfl) (fun _ h => by cases h) commandOwnUpto_row_tie rfl ⟨rfl, rfl⟩ (by kernel_rfl) rfl plain (by kernel_rfl)
end Go.Proofs.YtmlddeogmckgmaaGreatDoor.commandOwnUpto
namespace Go.Proofs.YtmlddeogmckgmaaGreatDoor
theorem commandOwnUpto_holds : Rows.CommandOwnUptoCardSaid := commandOwnUpto.card
#print axioms commandOwnUpto_holds
end Go.Proofs.YtmlddeogmckgmaaGreatDoor
