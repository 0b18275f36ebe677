/- TermChecks: the law answers true at every input that the given row speaks of. Conditions: those of the given row, none besides. (Part 3 of 3; written by programs of this session, which drive the kit's print, and by hand.) -/
import Derived.KernelRfl
import Derived.Test.YtcmnpjgmpgjbdaaRows
import Derived.WalkKit
import Derived.ProofKit
import Derived.OpenShut
import Derived.ShutString
import Derived.ChangeOld
import Derived.Below
import Derived.Carry
import Derived.SizedLaws
import Derived.Test.YtcmnpjgmpgjbdaaZTermChecks0
import Derived.Test.YtcmnpjgmpgjbdaaZTermChecks1
-- ==== PLa
/- Plain laws, part a: what kind a text is: the program's way and the document's way come to one function. -/
namespace Go.Proofs.Ytcmnpjgmpgjbdaa.P
open Go.RowKit Go.Proofs.YtcmnpjgmpgjbdaaW.PrintWords
set_option linter.unusedVariables false
set_option linter.unusedSimpArgs false

theorem wrap_up {i : Int} (h0 : 0 ≤ i) (h : i < 9223372036854775807) : wrap64 (i + 1) = i + 1 := by
  unfold wrap64
  omega
theorem wrap_id {i : Int} (h0 : -9223372036854775808 ≤ i) (h : i ≤ 9223372036854775807) : wrap64 i = i := by
  unfold wrap64
  omega

theorem evIfp {α : Type} {c : Prop} [Decidable c] {f g : Nat → Option α} {r : α} (h : c) (hf : Ev f r) : Ev (fun k => if c then f k else g k) r :=
  Ev.congr (fun _ => if_pos h) hf
theorem evIs {α : Type} {x : Option α} {a : α} (h : x = some a) : Ev (fun _ => x) a := ⟨0, fun _ _ => h⟩

def lowB (s : ByteArray) (i : Int) : Bool := (decide (97 ≤ bt s i) && decide (bt s i ≤ 122)) || (decide (48 ≤ bt s i) && decide (bt s i ≤ 57) && decide (0 < i))
def upB (s : ByteArray) (i : Int) : Bool := (decide (65 ≤ bt s i) && decide (bt s i ≤ 90)) || (decide (48 ≤ bt s i) && decide (bt s i ≤ 57) && decide (0 < i))
/-- p holds at i, i + 1, .. (d places). -/
def allN (p : Int → Bool) : Nat → Int → Bool
  | 0, _ => true
  | d + 1, i => p i && allN p d (i + 1)
theorem allN_congr {p q : Int → Bool} : ∀ (d : Nat) (i : Int), (∀ j, i ≤ j → j < i + d → p j = q j) → allN p d i = allN q d i
  | 0, _, _ => rfl
  | d + 1, i, h => by
    simp only [allN]
    rw [h i (Int.le_refl _) (by omega), allN_congr d (i + 1) (fun j h1 h2 => h j (by omega) (by omega))]
def kindS (s : ByteArray) : Int :=
  if s.size < 1 ∨ 8 < s.size then 0 else if allN (lowB s) s.size 0 = true then 1 else if allN (upB s) s.size 0 = true then 2 else 0

theorem kindS_bad {s : ByteArray} (h : s.size < 1 ∨ 8 < s.size) : kindS s = 0 := by
  unfold kindS
  exact if_pos h
theorem kindS_good {s : ByteArray} (h1 : 1 ≤ s.size) (h8 : s.size ≤ 8) : kindS s = (if allN (lowB s) s.size 0 = true then 1 else if allN (upB s) s.size 0 = true then 2 else 0) := by
  unfold kindS
  exact if_neg (by omega)
/-! ### the document's -/
theorem refKind_step (k : Nat) (s : ByteArray) (a b : Bool) (i : Int) (h0 : 0 ≤ i) (h1 : i < (s.size : Int)) :
    aumbryref03_Kind.l0 (k + 1) s a b i = aumbryref03_Kind.l0 k s (a && lowB s i) (b && upB s i) (wrap64 (i + 1)) := by
  simp only [aumbryref03_Kind.l0]
  rw [if_pos h1, if_pos h0]
  unfold lowB upB
  generalize bt s i = c
  by_cases c1 : c ≥ 48 <;> by_cases c2 : c ≤ 57 <;> by_cases c3 : c ≥ 97 <;> by_cases c4 : c ≤ 122 <;> by_cases c5 : c ≥ 65 <;> by_cases c6 : c ≤ 90 <;> first | (exfalso; omega) | (cases a <;> cases b <;> simp [c1, c2, c3, c4, c5, c6])
theorem refKind_end (k : Nat) (s : ByteArray) (a b : Bool) (i : Int) (h1 : ¬ i < (s.size : Int)) :
    aumbryref03_Kind.l0 (k + 1) s a b i = some (if a = true then 1 else if b = true then 2 else 0) := by
  simp only [aumbryref03_Kind.l0]
  rw [if_neg h1]
  cases a <;> cases b <;> rfl
theorem refKind_loop (s : ByteArray) (hs : s.size ≤ 8) : ∀ (d : Nat) (k : Nat) (a b : Bool) (i : Int), 0 ≤ i → (s.size : Int) - i = d → d < k →
    aumbryref03_Kind.l0 k s a b i = some (if (a && allN (lowB s) d i) = true then 1 else if (b && allN (upB s) d i) = true then 2 else 0)
  | 0, k, a, b, i, h0, hd, hk => by
    obtain ⟨k, rfl⟩ : ∃ m, k = m + 1 := ⟨k - 1, by omega⟩
    rw [refKind_end k s a b i (by omega)]
    simp [allN]
  | d + 1, k, a, b, i, h0, hd, hk => by
    obtain ⟨k, rfl⟩ : ∃ m, k = m + 1 := ⟨k - 1, by omega⟩
    rw [refKind_step k s a b i h0 (by omega), wrap_up h0 (by omega), refKind_loop s hs d k _ _ (i + 1) (by omega) (by omega) (by omega)]
    simp [allN, Bool.and_assoc]
theorem ev_refKind (s : ByteArray) : Ev (fun k => aumbryref03_Kind.f k s) (kindS s) := by
  refine ⟨12, fun k hk => ?_⟩
  show aumbryref03_Kind.f k s = _
  unfold aumbryref03_Kind.f
  obtain ⟨k, rfl⟩ : ∃ m, k = m + 1 := ⟨k - 1, by omega⟩
  by_cases h1 : (s.size : Int) < 1
  · rw [if_pos h1]
    simp [aumbryref03_Kind.j0, kindS_bad (s := s) (.inl (by omega))]
  · rw [if_neg h1]
    simp only [aumbryref03_Kind.j0]
    by_cases h2 : (s.size : Int) > 8
    · rw [if_pos (by simpa using h2), kindS_bad (s := s) (.inr (by omega))]
    · rw [kindS_good (s := s) (by omega) (by omega), if_neg (by simpa using h2), refKind_loop s (by omega) s.size k true true 0 (by omega) (by omega) (by omega)]
      simp

/-! ### the program's -/
def signS (c : Int) : Int × Int := if 97 ≤ c ∧ c ≤ 122 then (1, 1) else if 65 ≤ c ∧ c ≤ 90 then (2, 2) else if 48 ≤ c ∧ c ≤ 57 then (0, 3) else (0, 0)
theorem sign_at (c : Int) (k : Nat) (hk : 2 ≤ k) : name_sign.f k c = some (signS c) := by
  obtain ⟨k, rfl⟩ : ∃ m, k = m + 2 := ⟨k - 2, by omega⟩
  unfold name_sign.f signS
  by_cases c1 : c ≥ 48 <;> by_cases c2 : c ≤ 57 <;> by_cases c3 : c ≥ 97 <;> by_cases c4 : c ≤ 122 <;> by_cases c5 : c ≥ 65 <;> by_cases c6 : c ≤ 90 <;> first | (exfalso; omega) | (simp [name_sign.j0, name_sign.j1, c1, c2, c3, c4, c5, c6])
theorem bits_and_ (a b : Int) (ha : a = 0 ∨ a = 1 ∨ a = 2 ∨ a = 3) (hb : b = 0 ∨ b = 1 ∨ b = 2) : (Go.bits .and .i64 a b = 0) ↔ (b = 0 ∨ (b = 1 ∧ (a = 0 ∨ a = 2)) ∨ (b = 2 ∧ (a = 0 ∨ a = 1))) := by
  rcases ha with rfl | rfl | rfl | rfl <;> rcases hb with rfl | rfl | rfl <;> decide
def goesB (s : ByteArray) (b : Int) (i : Int) : Bool := decide (¬ (Go.bits .and .i64 (signS (bt s i)).2 b = 0))
theorem kind_loop (s : ByteArray) (b : Int) (hs : s.size ≤ 8) : ∀ (d : Nat) (k : Nat) (i : Int), 0 ≤ i → (s.size : Int) - i = d → d + 2 < k →
    name_Kind.l0 k s b (s.size : Int) i = some (if allN (goesB s b) d i = true then b else 0)
  | 0, k, i, h0, hd, hk => by
    obtain ⟨k, rfl⟩ : ∃ m, k = m + 1 := ⟨k - 1, by omega⟩
    simp only [name_Kind.l0]
    rw [if_neg (by omega)]
    simp [allN]
  | d + 1, k, i, h0, hd, hk => by
    obtain ⟨k, rfl⟩ : ∃ m, k = m + 1 := ⟨k - 1, by omega⟩
    simp only [name_Kind.l0]
    rw [if_pos (by omega), if_pos h0, if_pos (by omega), sign_at _ _ (by omega)]
    simp only [Option.bind_some]
    by_cases hg : Go.bits .and .i64 (signS (bt s i)).2 b = 0
    · rw [if_pos hg]
      simp [allN, goesB, hg]
    · rw [if_neg hg, wrap_up h0 (by omega), kind_loop s b hs d k (i + 1) (by omega) (by omega) (by omega)]
      simp [allN, goesB, hg]
theorem signS_two (c : Int) : (signS c).2 = 0 ∨ (signS c).2 = 1 ∨ (signS c).2 = 2 ∨ (signS c).2 = 3 := by
  unfold signS
  repeat' split
  all_goals simp
theorem goes_one (s : ByteArray) (i : Int) (hi : 0 < i) : goesB s 1 i = lowB s i := by
  have h := bits_and_ (signS (bt s i)).2 1 (signS_two _) (by simp)
  unfold goesB lowB
  rw [Bool.eq_iff_iff]
  simp only [decide_eq_true_eq, h, Bool.or_eq_true, Bool.and_eq_true]
  unfold signS
  repeat' split
  all_goals simp
  all_goals omega
theorem goes_two (s : ByteArray) (i : Int) (hi : 0 < i) : goesB s 2 i = upB s i := by
  have h := bits_and_ (signS (bt s i)).2 2 (signS_two _) (by simp)
  unfold goesB upB
  rw [Bool.eq_iff_iff]
  simp only [decide_eq_true_eq, h, Bool.or_eq_true, Bool.and_eq_true]
  unfold signS
  repeat' split
  all_goals simp
  all_goals omega
theorem kind_eq (s : ByteArray) (h1 : 1 ≤ s.size) (h8 : s.size ≤ 8) : (if allN (goesB s (signS (bt s 0)).1) s.size 0 = true then (signS (bt s 0)).1 else 0) = kindS s := by
  rw [kindS_good h1 h8]
  obtain ⟨n, hn⟩ : ∃ n, s.size = n + 1 := ⟨s.size - 1, by omega⟩
  have e1 : allN (goesB s 1) n (0 + 1) = allN (lowB s) n (0 + 1) := allN_congr _ _ (fun j h1 _ => goes_one s j (by omega))
  have e2 : allN (goesB s 2) n (0 + 1) = allN (upB s) n (0 + 1) := allN_congr _ _ (fun j h1 _ => goes_two s j (by omega))
  by_cases hl : 97 ≤ bt s 0 ∧ bt s 0 ≤ 122
  · have hs : signS (bt s 0) = (1, 1) := by unfold signS; rw [if_pos hl]
    have g0 : goesB s 1 0 = true := by unfold goesB; rw [hs]; decide
    have l0 : lowB s 0 = true := by unfold lowB; simp [hl]
    have u0 : upB s 0 = false := by unfold upB; simp; omega
    simp only [hn, hs, allN, e1, g0, l0, u0, Bool.true_and, Bool.false_and]
    split <;> simp
  · by_cases hu : 65 ≤ bt s 0 ∧ bt s 0 ≤ 90
    · have hs : signS (bt s 0) = (2, 2) := by unfold signS; rw [if_neg hl, if_pos hu]
      have g0 : goesB s 2 0 = true := by unfold goesB; rw [hs]; decide
      have l0 : lowB s 0 = false := by unfold lowB; simp; omega
      have u0 : upB s 0 = true := by unfold upB; simp [hu]
      simp only [hn, hs, allN, e2, g0, l0, u0, Bool.true_and, Bool.false_and]
      simp
    · have hs : (signS (bt s 0)).1 = 0 := by unfold signS; rw [if_neg hl, if_neg hu]; split <;> rfl
      have l0 : lowB s 0 = false := by unfold lowB; simp; omega
      have u0 : upB s 0 = false := by unfold upB; simp; omega
      simp only [hn, hs, allN, l0, u0, Bool.true_and, Bool.false_and]
      simp
theorem toList_nil (s : ByteArray) : s.toList = ([] : List UInt8) ↔ s.size = 0 := by
  rw [ByteArray.toList_eq]
  constructor
  · intro h
    have := congrArg List.length h
    simpa [data_length] using this
  · intro h
    apply List.eq_nil_of_length_eq_zero
    rw [data_length]
    exact h
theorem ev_kind (s : ByteArray) : Ev (fun k => name_Kind.f k s) (kindS s) := by
  refine ⟨16, fun k hk => ?_⟩
  show name_Kind.f k s = _
  unfold name_Kind.f
  obtain ⟨k, rfl⟩ : ∃ m, k = m + 1 := ⟨k - 1, by omega⟩
  by_cases h1 : s.toList = ([] : List UInt8)
  · rw [if_pos h1]
    have := (toList_nil s).1 h1
    simp [name_Kind.j0, kindS_bad (s := s) (.inl (by omega))]
  · have h1' : s.size ≠ 0 := fun h => h1 ((toList_nil s).2 h)
    rw [if_neg h1]
    simp only [name_Kind.j0]
    by_cases h2 : (s.size : Int) > 8
    · rw [if_pos (by simpa using h2), kindS_bad (s := s) (.inr (by omega))]
    · rw [if_neg (by simpa using h2), if_pos (by omega), sign_at _ _ (by omega)]
      simp only [Option.bind_some]
      rw [kind_loop s _ (by omega) s.size k 0 (by omega) (by omega) (by omega), kind_eq s (by omega) (by omega)]
end Go.Proofs.Ytcmnpjgmpgjbdaa.P

-- ==== PLb
/- Plain laws, part b: a list of cells as terms one behind the other; whether it is a term (both ways come to one function). -/
namespace Go.Proofs.Ytcmnpjgmpgjbdaa.P
open Go.RowKit Go.Proofs.YtcmnpjgmpgjbdaaW.PrintWords
set_option linter.unusedVariables false
set_option linter.unusedSimpArgs false

abbrev Cel := S50
instance celEq : DecidableEq Cel := fun a b =>
  if h : a.f0 = b.f0 ∧ a.f1 = b.f1 then isTrue (by cases a; cases b; simp only at h; rw [h.1, h.2]) else isFalse (fun e => h (by rw [e]; exact ⟨rfl, rfl⟩))
theorem drop_cons {α : Type} {t : List α} {n : Nat} {c : α} {s : List α} (h : t.drop n = c :: s) : n < t.length ∧ (∀ d, t.getD n d = c) ∧ t.drop (n + 1) = s := by
  have h1 : n < t.length := by
    rcases Nat.lt_or_ge n t.length with h1 | h1
    · exact h1
    · rw [List.drop_eq_nil_of_le h1] at h
      cases h
  rw [List.drop_eq_getElem_cons h1] at h
  injection h with h2 h3
  exact ⟨h1, fun d => by rw [List.getD_eq_getElem?_getD, List.getElem?_eq_getElem h1]; exact h2, h3⟩
theorem drop_nil_len {α : Type} {t : List α} {n : Nat} (hn : n ≤ t.length) (h : t.drop n = []) : n = t.length := by
  have := congrArg List.length h
  simp at this
  omega
theorem rd_cel {t : List Cel} {n : Nat} {c : Cel} {s : List Cel} (h : t.drop n = c :: s) : rd_T50 t (n : Int) = c := by
  unfold rd_T50
  exact (drop_cons h).2.1 _

def ar (c : Cel) : Nat := c.f1.toNat
def cellErr (c : Cel) : Int := if kindS c.f0 = 0 then 4 else if c.f1 < 0 then 5 else if c.f1 > 4 then 5 else if kindS c.f0 = 2 then (if c.f1 > 0 then 5 else 0) else 0
def errs : List Cel → Int
  | [] => 0
  | c :: l => if cellErr c = 0 then errs l else cellErr c
/-- What is left behind the first n terms. -/
def segN : List Cel → Nat → Option (List Cel)
  | l, 0 => some l
  | [], _ + 1 => none
  | c :: l, n + 1 => segN l (n + ar c)
def checkS (t : List Cel) : Int := if t.length > 64 then 6 else if errs t = 0 then (if segN t 1 = some [] then 0 else 3) else errs t

theorem segN_zero (l : List Cel) : segN l 0 = some l := by cases l <;> rfl
theorem segN_add : ∀ (l : List Cel) (a b : Nat), segN l (a + b) = (segN l a).bind fun r => segN r b
  | l, 0, b => by rw [segN_zero]; simp
  | [], a + 1, b => by rw [show a + 1 + b = (a + b) + 1 by omega]; rfl
  | c :: l, a + 1, b => by
    rw [show a + 1 + b = (a + b) + 1 by omega]
    show segN l (a + b + ar c) = (segN l (a + ar c)).bind _
    rw [show a + b + ar c = (a + ar c) + b by omega]
    exact segN_add l (a + ar c) b
theorem segN_len : ∀ {l r : List Cel} {n : Nat}, segN l n = some r → r.length ≤ l.length ∧ (0 < n → r.length < l.length)
  | l, r, 0, h => by
    rw [segN_zero] at h
    injection h with h
    subst h
    exact ⟨Nat.le_refl _, fun h => absurd h (by omega)⟩
  | [], r, n + 1, h => by cases h
  | c :: l, r, n + 1, h => by
    have := (segN_len (l := l) (r := r) (n := n + ar c) h).1
    simp only [List.length_cons]
    exact ⟨by omega, fun _ => by omega⟩
theorem segN_suffix : ∀ {l r : List Cel} {n : Nat}, segN l n = some r → ∃ m, m ≤ l.length ∧ l.drop m = r
  | l, r, 0, h => by
    rw [segN_zero] at h
    injection h with h
    exact ⟨0, by omega, h⟩
  | [], r, n + 1, h => by cases h
  | c :: l, r, n + 1, h => by
    obtain ⟨m, h1, h2⟩ := segN_suffix (l := l) (r := r) (n := n + ar c) h
    exact ⟨m + 1, by simp; omega, h2⟩

/-- What the cells of a term that is right are. -/
structure Okc (c : Cel) : Prop where
  kind : kindS c.f0 ≠ 0
  lo : 0 ≤ c.f1
  hi : c.f1 ≤ 4
  var : kindS c.f0 = 2 → c.f1 = 0
theorem okc_of {c : Cel} (h : cellErr c = 0) : Okc c := by
  unfold cellErr at h
  by_cases h1 : kindS c.f0 = 0
  · rw [if_pos h1] at h; cases h
  · rw [if_neg h1] at h
    by_cases h2 : c.f1 < 0
    · rw [if_pos h2] at h; cases h
    · rw [if_neg h2] at h
      by_cases h3 : c.f1 > 4
      · rw [if_pos h3] at h; cases h
      · rw [if_neg h3] at h
        refine ⟨h1, by omega, by omega, fun hk => ?_⟩
        rw [if_pos hk] at h
        by_cases h4 : c.f1 > 0
        · rw [if_pos h4] at h; cases h
        · omega
/-! ### the program's: behind, Check -/
theorem ev_cell (c : Cel) : Ev (fun k => term_cell.f k c.f0 c.f1) (cellErr c) := by
  unfold term_cell.f
  refine Ev.bind (ev_kind c.f0) ?_
  refine Ev.congr (f := fun _ => some (cellErr c)) (fun k => ?_) (Ev.now _)
  unfold cellErr
  simp only [apply_ite some]
/-- The place behind n terms that begin at 'at'; -1: they have no end. -/
def behS (t : List Cel) (a n : Nat) : Int := match segN (t.drop a) n with
  | none => -1
  | some r => ((t.length - r.length : Nat) : Int)
theorem ev_behind_loop (t : List Cel) (ht : t.length ≤ 64) (hok : ∀ c ∈ t, Okc c) : ∀ (s : List Cel) (a n : Nat), a ≤ t.length → t.drop a = s → n ≤ 1 + 4 * a →
    Ev (fun k => term_behind.l0 k t (a : Int) (n : Int)) (behS t a n)
  | s, a, 0, ha, hs, hn => by
    refine Ev.step (f := fun _ => some (a : Int)) (fun k => by simp only [term_behind.l0]; rw [if_neg (by omega)]) ?_
    have : behS t a 0 = (a : Int) := by
      unfold behS
      rw [segN_zero]
      simp only [List.length_drop]
      omega
    rw [this]
    exact Ev.now _
  | [], a, n + 1, ha, hs, hn => by
    have hl := drop_nil_len ha hs
    refine Ev.step (f := fun _ => some (-1 : Int)) (fun k => by simp only [term_behind.l0]; rw [if_pos (by omega), if_pos (by omega)]) ?_
    have : behS t a (n + 1) = -1 := by
      unfold behS
      rw [hs]
      rfl
    rw [this]
    exact Ev.now _
  | c :: s, a, n + 1, ha, hs, hn => by
    obtain ⟨h1, h2, h3⟩ := drop_cons hs
    have hc : Okc c := hok c (List.mem_of_mem_drop (hs ▸ List.mem_cons_self ..))
    have har : (ar c : Int) = c.f1 := by unfold ar; have := hc.lo; omega
    have hh := hc.hi
    have hl0 := hc.lo
    refine Ev.step (f := fun k => term_behind.l0 k t ((a + 1 : Nat) : Int) ((n + ar c : Nat) : Int)) (fun k => ?_) ?_
    · simp only [term_behind.l0]
      rw [if_pos (by omega), if_neg (by omega), if_pos (by omega), if_pos (by omega), rd_cel hs, wrap_up (by omega) (by omega)]
      have e : wrap64 (((n + 1 : Nat) : Int) + wrap64 (c.f1 - 1)) = ((n + ar c : Nat) : Int) := by
        rw [wrap_id (i := c.f1 - 1) (by omega) (by omega), wrap_id (by omega) (by omega)]
        omega
      rw [e]
      rfl
    · have : behS t a (n + 1) = behS t (a + 1) (n + ar c) := by
        unfold behS
        rw [hs, h3]
        rfl
      rw [this]
      exact ev_behind_loop t ht hok s (a + 1) (n + ar c) (by omega) h3 (by omega)
theorem ev_behind (t : List Cel) (ht : t.length ≤ 64) (hok : ∀ c ∈ t, Okc c) (a : Nat) (ha : a ≤ t.length) : Ev (fun k => term_behind.f k t (a : Int)) (behS t a 1) := by
  unfold term_behind.f
  exact ev_behind_loop t ht hok _ a 1 ha rfl (by omega)
theorem behS_whole (t : List Cel) : (behS t 0 1 = (t.length : Int)) ↔ segN t 1 = some [] := by
  unfold behS
  rw [List.drop_zero]
  cases h : segN t 1 with
  | none => simp
  | some r =>
    have := segN_len h
    simp only [Option.some.injEq]
    constructor
    · intro h1
      apply List.eq_nil_of_length_eq_zero
      omega
    · rintro rfl
      simp
theorem ev_check_loop (t : List Cel) (ht : t.length ≤ 64) : ∀ (s : List Cel) (a : Nat), a ≤ t.length → t.drop a = s → (∀ c ∈ t.take a, Okc c) →
    Ev (fun k => term_Check.l0 k t t (t.length : Int) (a : Int)) (if errs s = 0 then (if segN t 1 = some [] then 0 else 3) else errs s)
  | [], a, ha, hs, hok => by
    have hl := drop_nil_len ha hs
    rw [hl, List.take_length] at hok
    refine Ev.step (f := fun k => (term_behind.f k t 0).bind fun r => (if r = (t.length : Int) then (some 0) else (some 3))) (fun k => by simp only [term_Check.l0]; rw [if_neg (by omega)]) ?_
    refine Ev.bind (ev_behind t ht hok 0 (by omega)) ?_
    refine Ev.congr (f := fun _ => some (if segN t 1 = some [] then 0 else 3)) (fun k => ?_) (Ev.now _)
    by_cases h : segN t 1 = some []
    · rw [if_pos ((behS_whole t).2 h), if_pos h]
    · rw [if_neg (fun h' => h ((behS_whole t).1 h')), if_neg h]
  | c :: s, a, ha, hs, hok => by
    obtain ⟨h1, h2, h3⟩ := drop_cons hs
    refine Ev.step (f := fun k => (term_cell.f k c.f0 c.f1).bind fun e => (if e = 0 then (term_Check.l0 k t t (t.length : Int) ((a + 1 : Nat) : Int)) else (some e))) (fun k => ?_) ?_
    · simp only [term_Check.l0]
      rw [if_pos (by omega), if_pos (by omega), if_pos (by omega), rd_cel hs, wrap_up (by omega) (by omega)]
      rfl
    · refine Ev.bind (ev_cell c) ?_
      by_cases he : cellErr c = 0
      · refine Ev.congr (f := fun k => term_Check.l0 k t t (t.length : Int) ((a + 1 : Nat) : Int)) (fun k => by rw [if_pos he]) ?_
        have : errs (c :: s) = errs s := by simp only [errs]; rw [if_pos he]
        rw [this]
        refine ev_check_loop t ht s (a + 1) (by omega) h3 (fun x hx => ?_)
        rw [List.take_succ_eq_append_getElem h1] at hx
        rcases List.mem_append.1 hx with hx | hx
        · exact hok x hx
        · have hce : t[a] = c := by have := h2 c; rw [List.getD_eq_getElem?_getD, List.getElem?_eq_getElem h1] at this; exact this
          rw [List.mem_singleton.1 hx, hce]
          exact okc_of he
      · refine Ev.congr (f := fun _ => some (cellErr c)) (fun k => by rw [if_neg he]) ?_
        have : errs (c :: s) = cellErr c := by simp only [errs]; rw [if_neg he]
        rw [this, if_neg he]
        exact Ev.now _
theorem ev_check (t : List Cel) : Ev (fun k => term_Check.f k t) (checkS t) := by
  unfold term_Check.f checkS
  by_cases h : t.length > 64
  · rw [if_pos h]
    exact Ev.congr (f := fun _ => some 6) (fun k => if_pos (by omega)) (Ev.now _)
  · rw [if_neg h]
    exact Ev.congr (f := fun k => term_Check.l0 k t t (t.length : Int) ((0 : Nat) : Int)) (fun k => if_neg (by omega)) (ev_check_loop t (by omega) t 0 (by omega) rfl (by simp))

/-! ### the document's: Behind, Check -/
theorem ev_refBehind_at : ∀ (d : Nat) (t : List Cel) (ht : t.length ≤ 64) (hok : ∀ c ∈ t, Okc c) (a : Nat), t.length - a = d → a ≤ t.length → Ev (fun k => aumbryref04_Behind.f k t (a : Int)) (behS t a 1) := by
  intro d
  induction d using Nat.strongRecOn with
  | _ d ih =>
  intro t ht hok a hd ha
  rcases hs : t.drop a with _ | ⟨c, s⟩
  · have hl := drop_nil_len ha hs
    refine Ev.step (f := fun k => aumbryref04_Behind.j0 k t (a : Int) true) (fun k => by simp only [aumbryref04_Behind.f]; rw [if_neg (by omega)]; congr 1; simp; omega) ?_
    refine Ev.step (f := fun k => some (-1)) (fun k => by simp only [aumbryref04_Behind.j0]; rfl) ?_
    have : behS t a 1 = -1 := by
      unfold behS
      rw [hs]
      rfl
    rw [this]
    exact Ev.now _
  · obtain ⟨h1, h2, h3⟩ := drop_cons hs
    have hc : Okc c := hok c (List.mem_of_mem_drop (hs ▸ List.mem_cons_self ..))
    have har : (ar c : Int) = c.f1 := by unfold ar; have := hc.lo; omega
    have hh := hc.hi
    have hl0 := hc.lo
    refine Ev.step (f := fun k => aumbryref04_Behind.j0 k t (a : Int) false) (fun k => by simp only [aumbryref04_Behind.f]; rw [if_neg (by omega)]; congr 1; simp; omega) ?_
    refine Ev.step (f := fun k => aumbryref04_Behind.l0 k t ((a + 1 : Nat) : Int) (ar c : Int) 0) (fun k => by
      simp only [aumbryref04_Behind.j0]
      rw [if_neg (by simp), if_pos (by omega), if_pos (by omega), rd_cel hs, wrap_up (by omega) (by omega), har]
      rfl) ?_
    have loop : ∀ (m : Nat) (b i : Nat), t.length - b < d → b ≤ t.length → i + m = ar c → Ev (fun k => aumbryref04_Behind.l0 k t (b : Int) (ar c : Int) (i : Int)) (behS t b m) := by
      intro m
      induction m with
      | zero =>
        intro b i hb hbl hi
        refine Ev.step (f := fun _ => some (b : Int)) (fun k => by simp only [aumbryref04_Behind.l0]; rw [if_neg (by omega)]) ?_
        have : behS t b 0 = (b : Int) := by
          unfold behS
          rw [segN_zero]
          simp only [List.length_drop]
          omega
        rw [this]
        exact Ev.now _
      | succ m ihm =>
        intro b i hb hbl hi
        refine Ev.step (f := fun k => (aumbryref04_Behind.f k t (b : Int)).bind fun r => aumbryref04_Behind.l0 k t r (ar c : Int) ((i + 1 : Nat) : Int)) (fun k => by
          simp only [aumbryref04_Behind.l0]
          rw [if_pos (by omega), if_pos (by omega), wrap_up (by omega) (by omega)]
          rfl) ?_
        refine Ev.bind (ih _ hb t ht hok b rfl hbl) ?_
        have hadd : segN (t.drop b) (m + 1) = (segN (t.drop b) 1).bind fun r => segN r m := by rw [show m + 1 = 1 + m by omega]; exact segN_add _ _ _
        cases hr : segN (t.drop b) 1 with
        | none =>
          have e1 : behS t b 1 = -1 := by unfold behS; rw [hr]
          have e2 : behS t b (m + 1) = -1 := by unfold behS; rw [hadd, hr]; rfl
          rw [e1, e2]
          refine Ev.step (f := fun _ => some (-1 : Int)) (fun k => ?_) (Ev.now _)
          simp only [aumbryref04_Behind.l0]
          split <;> simp
        | some r =>
          obtain ⟨q, hq1, hq2⟩ := segN_suffix hr
          rw [List.drop_drop] at hq2
          have hlen := segN_len hr
          simp only [List.length_drop] at hlen hq1
          have hrl : r.length = t.length - (b + q) := by rw [← hq2, List.length_drop]
          have e1 : behS t b 1 = ((b + q : Nat) : Int) := by unfold behS; rw [hr]; simp only; omega
          have e2 : behS t b (m + 1) = behS t (b + q) m := by unfold behS; rw [hadd, hr, hq2]; rfl
          rw [e1, e2]
          exact ihm (b + q) (i + 1) (by omega) (by omega) (by omega)
    have : behS t a 1 = behS t (a + 1) (ar c) := by
      unfold behS
      rw [hs, h3]
      show (match segN s (0 + ar c) with | none => (-1 : Int) | some r => _) = _
      rw [Nat.zero_add]
    rw [this]
    exact loop (ar c) (a + 1) 0 (by omega) (by omega) (by omega)
theorem ev_refBehind (t : List Cel) (ht : t.length ≤ 64) (hok : ∀ c ∈ t, Okc c) (a : Nat) (ha : a ≤ t.length) : Ev (fun k => aumbryref04_Behind.f k t (a : Int)) (behS t a 1) := ev_refBehind_at _ t ht hok a rfl ha
theorem ev_refCheck_loop (t : List Cel) (ht : t.length ≤ 64) : ∀ (s : List Cel) (a : Nat), a ≤ t.length → t.drop a = s → (∀ c ∈ t.take a, Okc c) →
    Ev (fun k => aumbryref04_Check.l0 k t (t.length : Int) (a : Int)) (if errs s = 0 then (if segN t 1 = some [] then 0 else 3) else errs s)
  | [], a, ha, hs, hok => by
    have hl := drop_nil_len ha hs
    rw [hl, List.take_length] at hok
    refine Ev.step (f := fun k => (aumbryref04_Behind.f k t 0).bind fun r => (if r = (t.length : Int) then (some 0) else (some 3))) (fun k => by simp only [aumbryref04_Check.l0]; rw [if_neg (by omega)]) ?_
    refine Ev.bind (ev_refBehind t ht hok 0 (by omega)) ?_
    refine Ev.congr (f := fun _ => some (if segN t 1 = some [] then 0 else 3)) (fun k => ?_) (Ev.now _)
    by_cases h : segN t 1 = some []
    · rw [if_pos ((behS_whole t).2 h), if_pos h]
    · rw [if_neg (fun h' => h ((behS_whole t).1 h')), if_neg h]
  | c :: s, a, ha, hs, hok => by
    obtain ⟨h1, h2, h3⟩ := drop_cons hs
    refine Ev.step (f := fun k => (aumbryref03_Kind.f k c.f0).bind fun e => (if e = 0 then (some 4) else (if c.f1 < 0 then (some 5) else (if c.f1 > 4 then (some 5) else (if e = 2 then (if c.f1 = 0 then (aumbryref04_Check.l0 k t (t.length : Int) ((a + 1 : Nat) : Int)) else (some 5)) else (aumbryref04_Check.l0 k t (t.length : Int) ((a + 1 : Nat) : Int))))))) (fun k => ?_) ?_
    · simp only [aumbryref04_Check.l0]
      rw [if_pos (by omega), if_pos (by omega), if_pos (by omega), rd_cel hs, wrap_up (by omega) (by omega)]
      rfl
    · refine Ev.bind (ev_refKind c.f0) ?_
      by_cases he : cellErr c = 0
      · have ho := okc_of he
        have h4 := ho.hi
        have h0 := ho.lo
        refine Ev.congr (f := fun k => aumbryref04_Check.l0 k t (t.length : Int) ((a + 1 : Nat) : Int)) (fun k => ?_) ?_
        · rw [if_neg ho.kind, if_neg (by omega), if_neg (by omega)]
          by_cases hv : kindS c.f0 = 2
          · rw [if_pos hv, if_pos (ho.var hv)]
          · rw [if_neg hv]
        have : errs (c :: s) = errs s := by simp only [errs]; rw [if_pos he]
        rw [this]
        refine ev_refCheck_loop t ht s (a + 1) (by omega) h3 (fun x hx => ?_)
        rw [List.take_succ_eq_append_getElem h1] at hx
        rcases List.mem_append.1 hx with hx | hx
        · exact hok x hx
        · have hce : t[a] = c := by have := h2 c; rw [List.getD_eq_getElem?_getD, List.getElem?_eq_getElem h1] at this; exact this
          rw [List.mem_singleton.1 hx, hce]
          exact ho
      · refine Ev.congr (f := fun _ => some (cellErr c)) (fun k => ?_) ?_
        · unfold cellErr at he ⊢
          by_cases e1 : kindS c.f0 = 0
          · rw [if_pos e1, if_pos e1]
          · rw [if_neg e1] at he
            rw [if_neg e1, if_neg e1]
            by_cases e2 : c.f1 < 0
            · rw [if_pos e2, if_pos e2]
            · rw [if_neg e2] at he
              rw [if_neg e2, if_neg e2]
              by_cases e3 : c.f1 > 4
              · rw [if_pos e3, if_pos e3]
              · rw [if_neg e3] at he
                rw [if_neg e3, if_neg e3]
                by_cases e4 : kindS c.f0 = 2
                · rw [if_pos e4] at he
                  rw [if_pos e4, if_pos e4]
                  by_cases e5 : c.f1 > 0
                  · rw [if_pos e5, if_neg (by omega)]
                  · rw [if_neg e5] at he
                    exact absurd rfl he
                · rw [if_neg e4] at he
                  exact absurd rfl he
        · have : errs (c :: s) = cellErr c := by simp only [errs]; rw [if_neg he]
          rw [this, if_neg he]
          exact Ev.now _
theorem ev_refCheck (t : List Cel) : Ev (fun k => aumbryref04_Check.f k t) (checkS t) := by
  unfold aumbryref04_Check.f checkS
  by_cases h : t.length > 64
  · rw [if_pos h]
    exact Ev.congr (f := fun _ => some 6) (fun k => if_pos (by omega)) (Ev.now _)
  · rw [if_neg h]
    exact Ev.congr (f := fun k => aumbryref04_Check.l0 k t (t.length : Int) ((0 : Nat) : Int)) (fun k => if_neg (by omega)) (ev_refCheck_loop t (by omega) t 0 (by omega) rfl (by simp))
end Go.Proofs.Ytcmnpjgmpgjbdaa.P

-- ==== PL4
/- Plain laws of chapter 4: what the statements ask ahead (wakes), and copies. -/
namespace Go.Proofs.Ytcmnpjgmpgjbdaa.P
open Go.RowKit Go.Proofs.YtcmnpjgmpgjbdaaW.PrintWords
set_option linter.unusedVariables false
set_option linter.unusedSimpArgs false

set_option maxRecDepth 100000 in
theorem ev_wakes4 : Ev (fun k => aumbrylaw04_wakes.f k) true := Ev.of (g := fun k => aumbrylaw04_wakes.f k) aumbrylaw04_wakes.mono (k := 40) (by kernel_rfl)
theorem copy_at (x : List Cel) (h : x.length < 5864062014805) : aumbryref04_Copy.f x = some x := by
  unfold aumbryref04_Copy.f
  rw [if_pos (by simpa using h)]
  rfl
theorem sz_len {l : List Cel} (h : sz23 l) : l.length < 5864062014805 := by
  have := h.1
  omega
end Go.Proofs.Ytcmnpjgmpgjbdaa.P

-- ==== PureTermChecks
/- Whether any list of cells is a term, or why not: for every list of cells that can be read as data, the law answers true. -/
namespace Go.Proofs.Ytcmnpjgmpgjbdaa.Pure
open Go.RowKit Go.Proofs.Ytcmnpjgmpgjbdaa.P Go.Proofs.YtcmnpjgmpgjbdaaW.PrintWords
theorem TermChecks : aumbrylaw04_TermChecks.Pure := by
  intro t ht
  have htl := sz_len ht
  refine Ev.rounds ?_
  unfold aumbrylaw04_TermChecks.f
  refine Ev.bind ev_wakes4 ?_
  refine evIfp rfl ?_
  refine Ev.bind (evIs (copy_at t htl)) ?_
  refine Ev.bind (ev_check t) ?_
  refine Ev.bind (ev_refCheck t) ?_
  simp only [beq_self_eq_true]
  exact Ev.now _
end Go.Proofs.Ytcmnpjgmpgjbdaa.Pure

-- ==== RowTermChecks
namespace Go.Proofs.Ytcmnpjgmpgjbdaa.termChecks
open Go.ChangeShapes Go.WideShapes Go.ChangeAt Go.RowKit Go.Proofs.YtcmnpjgmpgjbdaaW.PrintWords Go.Proofs.Ytcmnpjgmpgjbdaa.P Go.Proofs.Ytcmnpjgmpgjbdaa.Open
open Go.ChangeMaps (open_string shut_string)
set_option linter.unusedVariables false
theorem own : ownKnob Try.prog.godebug = none := by kernel_rfl
theorem laidOut : laidOutB Try.prog = true := by kernel_rfl
set_option maxRecDepth 100000 in
theorem core {H : Type} {enc : TypeId × Value → H} (W : World) (base : Nat) (args : Array Value) (ds gs : List (DataW H)) (before : List MemPlace)
    (hval : ∀ (j : Nat) t v, Try.f3.params[j]? = some t → args[j]? = some v → Value.okWide Try.prog W .any base t v)
    (hW : DataW.Whole enc Try.prog Try.f3.params.toList Rows.termChecksSpec.vars false W args.toList ds gs before)
    (hsz : (DataW.weightsEach Try.prog (Try.f3.params.toList ++ Rows.termChecksSpec.plain.varTypes Try.prog) (ds ++ gs)).all (· ≤ reachBytes) = true)
    :
    Calls Try.prog 3 args W fun e W' => ∃ v, e = .returned v ∧ Rows.termChecksSpec.post enc Try.prog Try.f3 false true false false W args v W' := by
  have hW' := hW
  obtain ⟨p, q, hA, hV, rfl, hfz, hnd⟩ := hW
  rw [Try.params3] at hA hval hsz
  obtain ⟨v0, vs0, d0, ds0, p0, q0, hargs, rfl, rfl, h0, r0⟩ := trodAll_cons hA
  obtain ⟨rfl, rfl, rfl⟩ := trodAll_nil r0
  obtain rfl : args = #[v0] := by cases args; simp_all
  obtain ⟨rfl, rfl⟩ := trodVars_none hV
  have k0 := h0
  obtain ⟨n0, hf0⟩ := h0
  obtain ⟨x0, hK0, hS0, hB0⟩ := op23.go hf0 (fun m hm => by have := List.all_eq_true.1 hsz m (DataW.weights_mem_each (j := 0) rfl rfl m hm); simpa using this)
  have lt0 : ∀ z ∈ p0, z.block < W.heap.size := by obtain ⟨m, hm⟩ := k0; exact DataW.trod_lt m _ _ _ hm
  obtain ⟨a0, len0, cap0, rfl⟩ := okWide_slice Try.underlying23 (hval 0 23 v0 rfl rfl)
  obtain ⟨A0, c0, hcs0, hc0, hr0⟩ := hK0
  have hcs0' : [(Value.slice a0 len0 cap0)] = [.slice A0 x0.length c0] := hcs0
  injection hcs0' with hcs0'
  injection hcs0' with ha0 hl0 hk0
  subst ha0 hl0 hk0
  obtain ⟨k, h⟩ := Pure.TermChecks x0 hS0
  refine (aumbrylaw04_TermChecks.calls k _ _ x0 true W hr0 hc0 h).mono ?_
  rintro e W' ⟨rfl, hd⟩
  have bel : Below W.heap.size W W' := hd
  exact ⟨_, rfl, _, _, _, [], _, [], hW', trodAll_mk1 (shut_bool Try.underlying4 _), (trodAll_cons_mk (Below.trod laidOut (by kernel_rfl) (of_decide_eq_true (by kernel_rfl)) k0 bel lt0) trodAll_mk0), rfl, bel.frame _, fun h => by cases h⟩
set_option maxRecDepth 100000 in
theorem lifted (os : Os) (started : os.Started) (H : Type) (enc : TypeId × Value → H) :
    ReturnsInHanded {} Try.checked os 3 .any (Rows.termChecksSpec.pre6 enc Try.prog Try.f3 Rows.termChecksRow.domain false) (Rows.termChecksSpec.post enc Try.prog Try.f3 false true false false) := by
  refine returnsInHanded_of_change_sized (C := Try.checked) own started (by kernel_rfl) Try.func3
    (ChangeSpec.witness6 (enc := enc) (C := Try.checked) false ⟨#[], #[.slice none 0 0], []⟩ 8 (by kernel_rfl) (by kernel_rfl) (by kernel_rfl) (by kernel_rfl)) ?_
  intro W base args ds gs before hval0 hW hcnd hsz0 _
  exact core W base args ds gs before hval0 hW hsz0
theorem over : Rows.termChecksRow.holds Try.pinned (OpenSpec.ofChange Rows.termChecksSpec) :=
  OpenClaim.holds_of_wide 3 Try.f3 rfl rfl rfl rfl rfl rfl rfl ⟨rfl, rfl, rfl, rfl, rfl⟩ rfl rfl rfl rfl rfl (by kernel_rfl) Try.func3 (by kernel_rfl)
    (of_decide_eq_true (by kernel_rfl)) (by unfold Func.isWrapper; first | (rw [if_pos (by decide +kernel)]; kernel_rfl) | (rw [if_neg (by decide +kernel)]; exact ⟨rfl, rfl⟩))
    (fun os started H enc _ => lifted os started H enc)
theorem proved : Rows.TermChecksSaid := over
end Go.Proofs.Ytcmnpjgmpgjbdaa.termChecks
namespace Go.Proofs.Ytcmnpjgmpgjbdaa
/-- The row, under a short name, for the claim. -/
theorem termChecks_holds : Rows.TermChecksSaid := termChecks.proved
#print axioms termChecks_holds
end Go.Proofs.Ytcmnpjgmpgjbdaa
