/- RuleApplies: the law answers true at every input that the given row speaks of. Conditions: those of the given row, none besides. (Part 2 of 6; written by programs of this session, which drive the kit's print, and by hand.) -/
import Derived.WalkLawsBesides
import Derived.Defers
import Derived.Recover
import Derived.Laws.Pointers
import Derived.RegionTactic
import Derived.ChangeAlike
import Derived.Lib.Builder
import Derived.Lib.OthersKept
import Derived.Lib.BufferKept
import Derived.Lib.UnsafeStr
import Derived.Lib.AppendStr
import Derived.Lib.Walk
import Derived.Lib.Slices
import Derived.Lib.Strings
import Derived.Laws.Externs
import Derived.Deep.RegionHeld3
import Derived.Deep.DeepCutAuto
import Derived.KernelRfl
import Derived.Test.YtpnamhplhdaphaaDoorZRuleApplies0
-- ==== PF41
namespace Go.Proofs.YtpnamhplhdaphaaDoor.P
open Go.RowKit Go.Proofs.YtpnamhplhdaphaaDoorW.PrintWords Go.Proofs.YtpnamhplhdaphaaDoorW.PrintLast Go.Proofs.YtpnamhplhdaphaaDoorW.PrintMore
attribute [local go_sem] max2_int min2_int max_two min_two max_three min_three max_four min_four   -- for this text's walks alone
set_option linter.unusedVariables false
set_option linter.unusedSimpArgs false

/-! ### term_Parse: function 41 -/
/-! ### the reader: its state, its calls -/
abbrev RdCell := S33
/-- The reader lies at block g: its text, its place, what it has read (rows made from B on). -/
def IsRd (B : Nat) (W : World) (g : Nat) (s : ByteArray) (i : Int) (l : List RdCell) : Prop :=
 ∃ v, W.heap[g]? = some (.cells #[.string s, .int .i64 i, v] 93 (0, 0)) ∧ B ≤ g ∧ Kd.R k33 33 W B (fun _ => True) v l
def bareW (w : World) : World := { w with heap := #[] }
theorem bare_below (w : World) : Below (bareW w).heap.size (bareW w) w := ⟨rfl, rfl, rfl, Nat.zero_le _, fun k h => absurd h (Nat.not_lt_zero k)⟩
theorem below_of_bare {w w' : World} {g B : Nat} (hb : Below (bareW w).heap.size (bareW w) w') (hk : KeepBut w w' g none) (hg : B ≤ g) (hB : B ≤ w.heap.size) : Below B w w' :=
 ⟨hb.os, hb.tape, hb.output, hk.1, fun k h => hk.2 k (Nat.lt_of_lt_of_le h hB) (by omega) (by simp)⟩
theorem next_any (s : ByteArray) (i : Int) (v v' : Value) : term_reader_next.f s i v = term_reader_next.f s i v' := rfl
theorem word_any_l (v v' : Value) : ∀ (k : Nat) (a b : Int) (s : ByteArray) (i : Int), term_reader_word.l0 k a b s i v = term_reader_word.l0 k a b s i v'
 | 0, _, _, _, _ => rfl
 | k + 1, a, b, s, i => by
  have ih := word_any_l v v' k
  simp only [term_reader_word.l0, next_any _ _ v v', ih]
theorem word_any (k : Nat) (s : ByteArray) (i : Int) (v v' : Value) : term_reader_word.f k s i v = term_reader_word.f k s i v' := by
 unfold term_reader_word.f
 simp only [next_any _ _ v v', word_any_l v v']
def nxS (s : ByteArray) (i : Int) : Int := if i < (s.size : Int) then bt s i else 0
theorem next_at (s : ByteArray) (i : Int) (v : Value) (h : 0 ≤ i) : term_reader_next.f s i v = some (nxS s i, s, i) := by
 unfold term_reader_next.f nxS
 by_cases h1 : i < (s.size : Int)
 ·
  rw [if_pos h1, if_pos h, if_pos h1]
 ·
  rw [if_neg h1, if_neg h1]
theorem isRd_keep {B : Nat} {w w' : World} {g : Nat} {s s' : ByteArray} {i i' : Int} {l : List RdCell} {v : Value} (hg : B ≤ g) (hr : Kd.R k33 33 w B (fun _ => True) v l) (hb0 : w.heap[g]? = some (.cells #[.string s, .int .i64 i, v] 93 (0, 0)))
 (hb : w'.heap[g]? = some (.cells #[.string s', .int .i64 i', v] 93 (0, 0))) (hk : KeepBut w w' g none) : IsRd B w' g s' i' l :=
 ⟨v, hb, hg, Kd.R_mono (Kd.R_keep (Kd.R_types hr hb0 (by decide)) hk (fun _ h => h.2)) (fun _ _ => trivial)⟩

theorem isRd_put {B : Nat} {W : World} {g : Nat} {s : ByteArray} {i : Int} {l : List RdCell} {v v' : Value} (hb : W.heap[g]? = some (.cells #[.string s, .int .i64 i, v] 93 (0, 0))) (hg : B ≤ g) (hr : Kd.R k33 33 W B (fun _ => True) v' l) : IsRd B (W.setCell ⟨g, 2, none⟩ v') g s i l :=
 ⟨v', by simpa using blk_set hb 2 v', hg, Kd.R_set hr hb (by decide) 2 v'⟩
theorem below_tr {B : Nat} {w w1 w2 : World} (h : Below B w w1) (k : Below B w1 w2) : Below B w w2 :=
 ⟨k.os.trans h.os, k.tape.trans h.tape, k.output.trans h.output, Nat.le_trans h.size k.size, fun i hi => (k.block i hi).trans (h.block i hi)⟩
theorem rd_next {B : Nat} {w : World} {g : Nat} {s : ByteArray} {i : Int} {l : List RdCell} (h : IsRd B w g s i l) (hi : 0 ≤ i) :
 Calls Tryd.prog 80 #[.pointer (some ⟨g, 0, none⟩)] w fun e w' => e = .returned (.int .u8 (nxS s i)) ∧ IsRd B w' g s i l ∧ Below B w w' := by
 obtain ⟨v, hb, hg, hr⟩ := h
 have hlt : B ≤ w.heap.size := by have := blk_lt hb; omega
 refine (term_reader_next.calls g s i v _ s i (bareW w) w ⟨none, 0, hb, Nat.zero_le _, trivial⟩ (bare_below w) (next_at s i v hi)).mono ?_
 rintro e w' ⟨rfl, ⟨_, _, hb', _, _⟩, hbw, hk⟩
 exact ⟨rfl, isRd_keep hg hr hb hb' hk, below_of_bare hbw hk hg hlt⟩
theorem rd_word {B k : Nat} {w : World} {g : Nat} {s : ByteArray} {i : Int} {l : List RdCell} {x s' : ByteArray} {j : Int} (h : IsRd B w g s i l) (hw : term_reader_word.f k s i .nilIface = some (x, s', j)) :
 Calls Tryd.prog 79 #[.pointer (some ⟨g, 0, none⟩)] w fun e w' => e = .returned (.string x) ∧ IsRd B w' g s' j l ∧ Below B w w' := by
 obtain ⟨v, hb, hg, hr⟩ := h
 have hlt : B ≤ w.heap.size := by have := blk_lt hb; omega
 refine (term_reader_word.calls k g s i v x s' j (bareW w) w ⟨none, 0, hb, Nat.zero_le _, trivial⟩ (bare_below w) (by rw [word_any k s i v .nilIface]; exact hw)).mono ?_
 rintro e w' ⟨rfl, ⟨_, _, hb', _, _⟩, hbw, hk⟩
 exact ⟨rfl, isRd_keep hg hr hb hb' hk, below_of_bare hbw hk hg hlt⟩
/-- What a fault is, as a panic's value. -/
def faultV (p e : Int) : List PanicEntry := [{ v := .iface 89 (.agg #[.int .i64 p, .int .i64 e]), recovered := false }]
set_option maxHeartbeats 800000 in
theorem rd_give (p : Value) (i x : Int) (w : World) : Calls Tryd.prog 65 #[p, .int .i64 i, .int .i64 x] w fun e w' => e = .panicked (faultV i x) ∧ w' = w := by
 go_enter Tryd.func65, Tryd.ntmps65
 go_wp2
 exact ⟨rfl, rfl, rfl⟩
/-! ### term and args: what they make of the reader, or their fault -/
mutual
def rdTerm : Nat → ByteArray → Int → List RdCell → Option (Sum (Int × Int) (Int × List RdCell))
 | 0, _, _, _ => none
 | k + 1, s, i, l => (term_reader_word.f k s i .nilIface).bind fun b => (name_Kind.f k b.1).bind fun kd =>
  if b.1.toList = [] then some (.inl (i, 3)) else if kd = 0 then some (.inl (i, 4)) else if (l.length : Int) = 64 then some (.inl (i, 6))
  else if nxS s b.2.2 = 40 then (if kd = 2 then some (.inl (b.2.2, 5)) else rdArgs k s b.2.2 (l ++ [⟨b.1, 0⟩]) l.length 1) else some (.inr (b.2.2, l ++ [⟨b.1, 0⟩]))
def rdArgs : Nat → ByteArray → Int → List RdCell → Nat → Int → Option (Sum (Int × Int) (Int × List RdCell))
 | 0, _, _, _, _, _ => none
 | k + 1, s, i, l, c, n => (rdTerm k s (wrap64 (i + 1)) l).bind fun
  | .inl x => some (.inl x)
  | .inr (j, m) => if c < m.length then (
   if nxS s j = 41 then some (.inr (wrap64 (j + 1), m.set c ⟨(rd_T33 m (c : Int)).f0, n⟩))
   else if nxS s j = 44 then (if n = 4 then some (.inl (j, 5)) else rdArgs k s j (m.set c ⟨(rd_T33 m (c : Int)).f0, n⟩) c (wrap64 (n + 1))) else some (.inl (j, 3))) else none
end
/-- How a call of the reader's ends. -/
def RdEnd (B g : Nat) (s : ByteArray) (w : World) (r : Sum (Int × Int) (Int × List RdCell)) (e : Ending) (w' : World) : Prop :=
 match r with
 | .inl x => e = .panicked (faultV x.1 x.2) ∧ Below B w w'
 | .inr y => e = .returned (.tuple #[]) ∧ IsRd B w' g s y.1 y.2 ∧ Below B w w' ∧ y.2.length ≤ 64 ∧ 0 ≤ y.1 ∧ y.1 ≤ (s.size : Int)
theorem next_same {s s2 : ByteArray} {i i2 c : Int} {v : Value} (h1 : term_reader_next.f s i v = some (c, s2, i2)) : s2 = s := by
 unfold term_reader_next.f at h1
 split at h1
 ·
  split at h1
  ·
   injection h1 with h1; injection h1 with _ h1; injection h1 with h1 _; exact h1.symm
  ·
   cases h1
 ·
  injection h1 with h1; injection h1 with _ h1; injection h1 with h1 _; exact h1.symm
theorem word_same_l {v : Value} {x s' : ByteArray} {j : Int} : ∀ {k : Nat} {s : ByteArray} {a b i : Int}, term_reader_word.l0 k a b s i v = some (x, s', j) → s' = s ∧ 0 ≤ j ∧ j ≤ (s.size : Int)
 | 0, s, a, b, i, h => by simp [term_reader_word.l0] at h
 | k + 1, s, a, b, i, h => by
  have rec_ : ∀ {q : Int}, ((term_reader_next.f s q v).bind fun bt => term_reader_word.l0 k a bt.1 bt.2.1 bt.2.2 v) = some (x, s', j) → s' = s ∧ 0 ≤ j ∧ j ≤ (s.size : Int) := fun {q} hq => by
   obtain ⟨⟨c, s2, i2⟩, h1, h2⟩ := zB hq
   have := next_same h1
   subst this
   exact word_same_l h2
  have fin_ : (if 0 ≤ a then (if a ≤ i then (if i ≤ (s.size : Int) then (some (s.extract (a : Int).toNat (i : Int).toNat, s, i)) else none) else none) else none) = some (x, s', j) → s' = s ∧ 0 ≤ j ∧ j ≤ (s.size : Int) := fun hq => by
   split at hq
   ·
    split at hq
    ·
     split at hq
     ·
      injection hq with hq; injection hq with _ hq; injection hq with q1 q2
      subst q1 q2
      exact ⟨rfl, by omega, by omega⟩
     ·
      cases hq
    ·
     cases hq
   ·
    cases hq
  simp only [term_reader_word.l0] at h
  repeat' (first | exact rec_ h | exact fin_ h | split at h)
theorem word_same {k : Nat} {v : Value} {s x s' : ByteArray} {i j : Int} (h : term_reader_word.f k s i v = some (x, s', j)) : s' = s ∧ 0 ≤ j ∧ j ≤ (s.size : Int) := by
 unfold term_reader_word.f at h
 obtain ⟨⟨c, s2, i2⟩, h1, h2⟩ := zB h
 have := next_same h1
 subst this
 exact word_same_l h2
theorem nx_lt {s : ByteArray} {i c : Int} (h : nxS s i = c) (hc : c ≠ 0) : i < (s.size : Int) := by
 unfold nxS at h
 split at h
 ·
  assumption
 ·
  exact absurd h.symm hc
/-- What the two calls come to, as contracts. -/
def TermC (k : Nat) : Prop := ∀ (B g : Nat) (s : ByteArray) (i : Int) (l : List RdCell) (r : Sum (Int × Int) (Int × List RdCell)) (w : World), IsRd B w g s i l → l.length ≤ 64 → 0 ≤ i → s.size ≤ 4096 → rdTerm k s i l = some r →
 Calls Tryd.prog 64 #[.pointer (some ⟨g, 0, none⟩)] w (RdEnd B g s w r)
def ArgsC (k : Nat) : Prop := ∀ (B g : Nat) (s : ByteArray) (i : Int) (l : List RdCell) (c : Nat) (r : Sum (Int × Int) (Int × List RdCell)) (w : World), IsRd B w g s i l → l.length ≤ 64 → 0 ≤ i → i < (s.size : Int) → s.size ≤ 4096 → c < l.length → rdArgs k s i l c 1 = some r →
 Calls Tryd.prog 81 #[.pointer (some ⟨g, 0, none⟩), .int .i64 (c : Int)] w (RdEnd B g s w r)
set_option maxHeartbeats 4000000 in
set_option maxRecDepth 100000 in
theorem rdTerm_step (k : Nat) (ih : ArgsC k) : TermC (k + 1) := by
 intro B g s i l r w hI hl hi hsz h
 have HI0 := zM hI
 obtain ⟨v, hb, hg, hr⟩ := hI
 have hc1 : w.cell? ⟨g, 1, none⟩ = some (.int .i64 i) := (zX hb 1).trans rfl
 simp only [rdTerm] at h
 obtain ⟨⟨x, s', j⟩, hw, h⟩ := zB h
 obtain ⟨kd, hk, h⟩ := zB h
 simp only at h hk
 have Hw := zM hw
 have Hk := zM hk
 clear hw hk hr hb
 have HB := zM (Below.refl B w)
 obtain ⟨hs', hj, hj2⟩ := word_same Hw.out
 subst hs'
 have W1 := fun (W : World) (h : IsRd B W g s' i l) => rd_word (k := k) h Hw.out
 have K1 := fun (W : World) => name_Kind.calls k x kd W Hk.out
 obtain ⟨y, hy⟩ : ∃ y : List RdCell, y = l ++ [⟨x, 0⟩] := ⟨_, rfl⟩
 have hyl : Aside0 (y.length = l.length + 1) := ⟨by rw [hy]; simp⟩
 rw [← hy] at h
 have Hy := zM hy
 clear hy
 have N1 := fun (W : World) (h : IsRd B W g s' j y) => rd_next h hj
 by_cases c1 : x.toList = []
 ·
  rw [if_pos c1] at h
  obtain rfl := zS h
  clear h
  have c1b : decide (x.toList = []) = true := zQ c1
  have c1d : x.toList.isEmpty = true := by simp [c1]
  go_enter Tryd.func64, Tryd.ntmps64
  go_wp2_with (first | (go_at_call 79; (refine (W1 _ ?side1).mono ?_); (case side1 => repeat (first | exact HI0.out | apply isRd_drewN | apply isRd_drew)); rintro e w1 ⟨rfl, ⟨v1, hb1, hg1, hr1⟩, hB1⟩; obtain ⟨A1, c1_, rfl⟩ := Kd.R_slice hr1; have hz1 := (zX hb1 1).trans rfl; have hz2 := (zX hb1 2).trans rfl; have HBL := zM hb1; have HR1 := zM hr1; have HB1 := zM hB1; clear hb1 hr1 hB1) | (go_at_call 34; (refine (K1 _).mono ?_); rintro e w2 ⟨rfl, ⟨nd2, rfl⟩⟩) | (go_at_call 65; (refine (rd_give _ _ _ _).mono ?_); rintro e w3 ⟨rfl, rfl⟩))
  repeat (go_quiet (first | (go_at_call 79; (refine (W1 _ ?side1).mono ?_); (case side1 => repeat (first | exact HI0.out | apply isRd_drewN | apply isRd_drew)); rintro e w1 ⟨rfl, ⟨v1, hb1, hg1, hr1⟩, hB1⟩; obtain ⟨A1, c1_, rfl⟩ := Kd.R_slice hr1; have hz1 := (zX hb1 1).trans rfl; have hz2 := (zX hb1 2).trans rfl; have HBL := zM hb1; have HR1 := zM hr1; have HB1 := zM hB1; clear hb1 hr1 hB1) | (go_at_call 34; (refine (K1 _).mono ?_); rintro e w2 ⟨rfl, ⟨nd2, rfl⟩⟩) | (go_at_call 65; (refine (rd_give _ _ _ _).mono ?_); rintro e w3 ⟨rfl, rfl⟩)); try go_wp2_with (first | (go_at_call 79; (refine (W1 _ ?side1).mono ?_); (case side1 => repeat (first | exact HI0.out | apply isRd_drewN | apply isRd_drew)); rintro e w1 ⟨rfl, ⟨v1, hb1, hg1, hr1⟩, hB1⟩; obtain ⟨A1, c1_, rfl⟩ := Kd.R_slice hr1; have hz1 := (zX hb1 1).trans rfl; have hz2 := (zX hb1 2).trans rfl; have HBL := zM hb1; have HR1 := zM hr1; have HB1 := zM hB1; clear hb1 hr1 hB1) | (go_at_call 34; (refine (K1 _).mono ?_); rintro e w2 ⟨rfl, ⟨nd2, rfl⟩⟩) | (go_at_call 65; (refine (rd_give _ _ _ _).mono ?_); rintro e w3 ⟨rfl, rfl⟩)))
  exact ⟨rfl, rfl, (by repeat (first | exact HB1.out | apply zN | apply zD | apply zA))⟩
 ·
  rw [if_neg c1] at h
  have c1b : decide (x.toList = []) = false := zR c1
  have c1d : x.toList.isEmpty = false := by simpa using c1
  by_cases c2 : kd = 0
  ·
   rw [if_pos c2] at h
   obtain rfl := zS h
   clear h
   have c2b : (kd == 0) = true := zG c2
   clear c1 c2
   go_enter Tryd.func64, Tryd.ntmps64
   go_wp2_with (first | (go_at_call 79; (refine (W1 _ ?side1).mono ?_); (case side1 => repeat (first | exact HI0.out | apply isRd_drewN | apply isRd_drew)); rintro e w1 ⟨rfl, ⟨v1, hb1, hg1, hr1⟩, hB1⟩; obtain ⟨A1, c1_, rfl⟩ := Kd.R_slice hr1; have hz1 := (zX hb1 1).trans rfl; have hz2 := (zX hb1 2).trans rfl; have HBL := zM hb1; have HR1 := zM hr1; have HB1 := zM hB1; clear hb1 hr1 hB1) | (go_at_call 34; (refine (K1 _).mono ?_); rintro e w2 ⟨rfl, ⟨nd2, rfl⟩⟩) | (go_at_call 65; (refine (rd_give _ _ _ _).mono ?_); rintro e w3 ⟨rfl, rfl⟩))
   repeat (go_quiet (first | (go_at_call 79; (refine (W1 _ ?side1).mono ?_); (case side1 => repeat (first | exact HI0.out | apply isRd_drewN | apply isRd_drew)); rintro e w1 ⟨rfl, ⟨v1, hb1, hg1, hr1⟩, hB1⟩; obtain ⟨A1, c1_, rfl⟩ := Kd.R_slice hr1; have hz1 := (zX hb1 1).trans rfl; have hz2 := (zX hb1 2).trans rfl; have HBL := zM hb1; have HR1 := zM hr1; have HB1 := zM hB1; clear hb1 hr1 hB1) | (go_at_call 34; (refine (K1 _).mono ?_); rintro e w2 ⟨rfl, ⟨nd2, rfl⟩⟩) | (go_at_call 65; (refine (rd_give _ _ _ _).mono ?_); rintro e w3 ⟨rfl, rfl⟩)); try go_wp2_with (first | (go_at_call 79; (refine (W1 _ ?side1).mono ?_); (case side1 => repeat (first | exact HI0.out | apply isRd_drewN | apply isRd_drew)); rintro e w1 ⟨rfl, ⟨v1, hb1, hg1, hr1⟩, hB1⟩; obtain ⟨A1, c1_, rfl⟩ := Kd.R_slice hr1; have hz1 := (zX hb1 1).trans rfl; have hz2 := (zX hb1 2).trans rfl; have HBL := zM hb1; have HR1 := zM hr1; have HB1 := zM hB1; clear hb1 hr1 hB1) | (go_at_call 34; (refine (K1 _).mono ?_); rintro e w2 ⟨rfl, ⟨nd2, rfl⟩⟩) | (go_at_call 65; (refine (rd_give _ _ _ _).mono ?_); rintro e w3 ⟨rfl, rfl⟩)))
   exact ⟨rfl, rfl, (by repeat (first | exact HB1.out | apply zN | apply zD | apply zA))⟩
  ·
   rw [if_neg c2] at h
   have c2b : (kd == 0) = false := zE c2
   by_cases c3 : (l.length : Int) = 64
   ·
    rw [if_pos c3] at h
    obtain rfl := zS h
    clear h
    have c3b : ((l.length : Int) == 64) = true := zG c3
    clear c1 c2 c3
    go_enter Tryd.func64, Tryd.ntmps64
    go_wp2_with (first | (go_at_call 79; (refine (W1 _ ?side1).mono ?_); (case side1 => repeat (first | exact HI0.out | apply isRd_drewN | apply isRd_drew)); rintro e w1 ⟨rfl, ⟨v1, hb1, hg1, hr1⟩, hB1⟩; obtain ⟨A1, c1_, rfl⟩ := Kd.R_slice hr1; have hz1 := (zX hb1 1).trans rfl; have hz2 := (zX hb1 2).trans rfl; have HBL := zM hb1; have HR1 := zM hr1; have HB1 := zM hB1; clear hb1 hr1 hB1) | (go_at_call 34; (refine (K1 _).mono ?_); rintro e w2 ⟨rfl, ⟨nd2, rfl⟩⟩) | (go_at_call 65; (refine (rd_give _ _ _ _).mono ?_); rintro e w3 ⟨rfl, rfl⟩))
    repeat (go_quiet (first | (go_at_call 79; (refine (W1 _ ?side1).mono ?_); (case side1 => repeat (first | exact HI0.out | apply isRd_drewN | apply isRd_drew)); rintro e w1 ⟨rfl, ⟨v1, hb1, hg1, hr1⟩, hB1⟩; obtain ⟨A1, c1_, rfl⟩ := Kd.R_slice hr1; have hz1 := (zX hb1 1).trans rfl; have hz2 := (zX hb1 2).trans rfl; have HBL := zM hb1; have HR1 := zM hr1; have HB1 := zM hB1; clear hb1 hr1 hB1) | (go_at_call 34; (refine (K1 _).mono ?_); rintro e w2 ⟨rfl, ⟨nd2, rfl⟩⟩) | (go_at_call 65; (refine (rd_give _ _ _ _).mono ?_); rintro e w3 ⟨rfl, rfl⟩)); try go_wp2_with (first | (go_at_call 79; (refine (W1 _ ?side1).mono ?_); (case side1 => repeat (first | exact HI0.out | apply isRd_drewN | apply isRd_drew)); rintro e w1 ⟨rfl, ⟨v1, hb1, hg1, hr1⟩, hB1⟩; obtain ⟨A1, c1_, rfl⟩ := Kd.R_slice hr1; have hz1 := (zX hb1 1).trans rfl; have hz2 := (zX hb1 2).trans rfl; have HBL := zM hb1; have HR1 := zM hr1; have HB1 := zM hB1; clear hb1 hr1 hB1) | (go_at_call 34; (refine (K1 _).mono ?_); rintro e w2 ⟨rfl, ⟨nd2, rfl⟩⟩) | (go_at_call 65; (refine (rd_give _ _ _ _).mono ?_); rintro e w3 ⟨rfl, rfl⟩)))
    exact ⟨rfl, rfl, (by repeat (first | exact HB1.out | apply zN | apply zD | apply zA))⟩
   ·
    rw [if_neg c3] at h
    have c3b : ((l.length : Int) == 64) = false := zE c3
    have hl2 : l.length + 1 ≤ 64 := by omega
    clear c1 c2 c3
    by_cases c4 : nxS s' j = 40
    ·
     rw [if_pos c4] at h
     have c4b : (nxS s' j == 40) = true := zG c4
     have c4c : (nxS s' j != 40) = false := zH c4
     by_cases c5 : kd = 2
     ·
      rw [if_pos c5] at h
      obtain rfl := zS h
      clear h
      have c5b : (kd == 2) = true := zG c5
      clear c5 c4
      go_enter Tryd.func64, Tryd.ntmps64
      go_wp2_with (first | (go_at_call 79; (refine (W1 _ ?side1).mono ?_); (case side1 => repeat (first | exact HI0.out | apply isRd_drewN | apply isRd_drew)); rintro e w1 ⟨rfl, ⟨v1, hb1, hg1, hr1⟩, hB1⟩; obtain ⟨A1, c1_, rfl⟩ := Kd.R_slice hr1; have hz1 := (zX hb1 1).trans rfl; have hz2 := (zX hb1 2).trans rfl; have HBL := zM hb1; have HR1 := zM hr1; have HB1 := zM hB1; clear hb1 hr1 hB1) | (go_at_call 34; (refine (K1 _).mono ?_); rintro e w2 ⟨rfl, ⟨nd2, rfl⟩⟩) | (at_builtin; go_loud (with_reducible refine gate_builtin (b := .append) (xs := #[.tmp 45, .tmp 48]) rfl ?_); go_loud (refine Kd.R_append k33 (w0 := w) B rfl (.tmp 45) (.tmp 48) 23 33 (.agg #[(.string ⟨#[]⟩), (.int .i64 0)]) 24 rfl Tryd.underlying23 info33 rfl (by decide) (by omega) (.slice A1 l.length c1_) l (⟨x, 0⟩ : RdCell) [.string x, .int .i64 0] (fun _ => True) (fun _ => False) rfl rfl ?aP (fun _ hk => hk.elim) ?aF ?aO ?aB ?aS ?aL ?_); (case aP => exact k33_mkM _ _ _ (⟨x, 0⟩ : RdCell)); (case aF => exact fun _ _ => trivial); (case aO => exact (by repeat (first | exact HR1.out | apply Kd.R_drewN | apply Kd.R_drew))); (case aB => exact (by repeat (first | exact HB1.out | apply zN | apply zD | apply zA))); (case aS => exact Nat.le_trans hg1 (Nat.le_of_lt (blk_lt HBL.out))); (case aL => omega); intro v2 w5 ho hb hg5 hat; rw [← Hy.out] at ho; obtain ⟨A5, c5_, rfl⟩ := Kd.R_slice ho; have hb5 := (hg5.block g (show g < _ from blk_lt HBL.out) (Kd.R_ne HR1.out HBL.out (by decide))).trans HBL.out; have hz5 := (zX hb5 2).trans rfl; have hf5 := zY hb5 2; have HI5 := zM (isRd_put hb5 hg1 ho); have HB5 := zM (hb.setCell (p := ⟨g, 2, none⟩) hg1 (.slice A5 y.length c5_)); clear hat hg5) | (go_at_call 80; (refine (N1 _ ?side1).mono ?_); (case side1 => repeat (first | exact HI5.out | apply isRd_drewN | apply isRd_drew)); rintro e w6 ⟨rfl, hI6, hB6⟩; have HI6 := zM hI6; have HB6 := zM (below_tr (by repeat (first | exact HB5.out | apply zN | apply zD | apply zA)) hB6); obtain ⟨v6, hb6, _, _⟩ := hI6; have hz6 := (zX hb6 1).trans rfl; clear hb6 hB6) | (go_at_call 65; (refine (rd_give _ _ _ _).mono ?_); rintro e w3 ⟨rfl, rfl⟩))
      repeat (go_quiet (first | (go_at_call 79; (refine (W1 _ ?side1).mono ?_); (case side1 => repeat (first | exact HI0.out | apply isRd_drewN | apply isRd_drew)); rintro e w1 ⟨rfl, ⟨v1, hb1, hg1, hr1⟩, hB1⟩; obtain ⟨A1, c1_, rfl⟩ := Kd.R_slice hr1; have hz1 := (zX hb1 1).trans rfl; have hz2 := (zX hb1 2).trans rfl; have HBL := zM hb1; have HR1 := zM hr1; have HB1 := zM hB1; clear hb1 hr1 hB1) | (go_at_call 34; (refine (K1 _).mono ?_); rintro e w2 ⟨rfl, ⟨nd2, rfl⟩⟩) | (at_builtin; go_loud (with_reducible refine gate_builtin (b := .append) (xs := #[.tmp 45, .tmp 48]) rfl ?_); go_loud (refine Kd.R_append k33 (w0 := w) B rfl (.tmp 45) (.tmp 48) 23 33 (.agg #[(.string ⟨#[]⟩), (.int .i64 0)]) 24 rfl Tryd.underlying23 info33 rfl (by decide) (by omega) (.slice A1 l.length c1_) l (⟨x, 0⟩ : RdCell) [.string x, .int .i64 0] (fun _ => True) (fun _ => False) rfl rfl ?aP (fun _ hk => hk.elim) ?aF ?aO ?aB ?aS ?aL ?_); (case aP => exact k33_mkM _ _ _ (⟨x, 0⟩ : RdCell)); (case aF => exact fun _ _ => trivial); (case aO => exact (by repeat (first | exact HR1.out | apply Kd.R_drewN | apply Kd.R_drew))); (case aB => exact (by repeat (first | exact HB1.out | apply zN | apply zD | apply zA))); (case aS => exact Nat.le_trans hg1 (Nat.le_of_lt (blk_lt HBL.out))); (case aL => omega); intro v2 w5 ho hb hg5 hat; rw [← Hy.out] at ho; obtain ⟨A5, c5_, rfl⟩ := Kd.R_slice ho; have hb5 := (hg5.block g (show g < _ from blk_lt HBL.out) (Kd.R_ne HR1.out HBL.out (by decide))).trans HBL.out; have hz5 := (zX hb5 2).trans rfl; have hf5 := zY hb5 2; have HI5 := zM (isRd_put hb5 hg1 ho); have HB5 := zM (hb.setCell (p := ⟨g, 2, none⟩) hg1 (.slice A5 y.length c5_)); clear hat hg5) | (go_at_call 80; (refine (N1 _ ?side1).mono ?_); (case side1 => repeat (first | exact HI5.out | apply isRd_drewN | apply isRd_drew)); rintro e w6 ⟨rfl, hI6, hB6⟩; have HI6 := zM hI6; have HB6 := zM (below_tr (by repeat (first | exact HB5.out | apply zN | apply zD | apply zA)) hB6); obtain ⟨v6, hb6, _, _⟩ := hI6; have hz6 := (zX hb6 1).trans rfl; clear hb6 hB6) | (go_at_call 65; (refine (rd_give _ _ _ _).mono ?_); rintro e w3 ⟨rfl, rfl⟩)); try go_wp2_with (first | (go_at_call 79; (refine (W1 _ ?side1).mono ?_); (case side1 => repeat (first | exact HI0.out | apply isRd_drewN | apply isRd_drew)); rintro e w1 ⟨rfl, ⟨v1, hb1, hg1, hr1⟩, hB1⟩; obtain ⟨A1, c1_, rfl⟩ := Kd.R_slice hr1; have hz1 := (zX hb1 1).trans rfl; have hz2 := (zX hb1 2).trans rfl; have HBL := zM hb1; have HR1 := zM hr1; have HB1 := zM hB1; clear hb1 hr1 hB1) | (go_at_call 34; (refine (K1 _).mono ?_); rintro e w2 ⟨rfl, ⟨nd2, rfl⟩⟩) | (at_builtin; go_loud (with_reducible refine gate_builtin (b := .append) (xs := #[.tmp 45, .tmp 48]) rfl ?_); go_loud (refine Kd.R_append k33 (w0 := w) B rfl (.tmp 45) (.tmp 48) 23 33 (.agg #[(.string ⟨#[]⟩), (.int .i64 0)]) 24 rfl Tryd.underlying23 info33 rfl (by decide) (by omega) (.slice A1 l.length c1_) l (⟨x, 0⟩ : RdCell) [.string x, .int .i64 0] (fun _ => True) (fun _ => False) rfl rfl ?aP (fun _ hk => hk.elim) ?aF ?aO ?aB ?aS ?aL ?_); (case aP => exact k33_mkM _ _ _ (⟨x, 0⟩ : RdCell)); (case aF => exact fun _ _ => trivial); (case aO => exact (by repeat (first | exact HR1.out | apply Kd.R_drewN | apply Kd.R_drew))); (case aB => exact (by repeat (first | exact HB1.out | apply zN | apply zD | apply zA))); (case aS => exact Nat.le_trans hg1 (Nat.le_of_lt (blk_lt HBL.out))); (case aL => omega); intro v2 w5 ho hb hg5 hat; rw [← Hy.out] at ho; obtain ⟨A5, c5_, rfl⟩ := Kd.R_slice ho; have hb5 := (hg5.block g (show g < _ from blk_lt HBL.out) (Kd.R_ne HR1.out HBL.out (by decide))).trans HBL.out; have hz5 := (zX hb5 2).trans rfl; have hf5 := zY hb5 2; have HI5 := zM (isRd_put hb5 hg1 ho); have HB5 := zM (hb.setCell (p := ⟨g, 2, none⟩) hg1 (.slice A5 y.length c5_)); clear hat hg5) | (go_at_call 80; (refine (N1 _ ?side1).mono ?_); (case side1 => repeat (first | exact HI5.out | apply isRd_drewN | apply isRd_drew)); rintro e w6 ⟨rfl, hI6, hB6⟩; have HI6 := zM hI6; have HB6 := zM (below_tr (by repeat (first | exact HB5.out | apply zN | apply zD | apply zA)) hB6); obtain ⟨v6, hb6, _, _⟩ := hI6; have hz6 := (zX hb6 1).trans rfl; clear hb6 hB6) | (go_at_call 65; (refine (rd_give _ _ _ _).mono ?_); rintro e w3 ⟨rfl, rfl⟩)))
      exact ⟨rfl, rfl, (by repeat (first | exact HB6.out | apply zN | apply zD | apply zA))⟩
     ·
      rw [if_neg c5] at h
      have c5b : (kd == 2) = false := zE c5
      clear c5
      have R1 := fun (W : World) (hq : IsRd B W g s' j y) => ih B g s' j y l.length r W hq (by have := hyl.out; omega) hj (nx_lt c4 (by decide)) hsz (by have := hyl.out; omega) h
      clear h c4
      cases r with
      | inl z =>
       go_enter Tryd.func64, Tryd.ntmps64
       go_wp2_with (first | (go_at_call 79; (refine (W1 _ ?side1).mono ?_); (case side1 => repeat (first | exact HI0.out | apply isRd_drewN | apply isRd_drew)); rintro e w1 ⟨rfl, ⟨v1, hb1, hg1, hr1⟩, hB1⟩; obtain ⟨A1, c1_, rfl⟩ := Kd.R_slice hr1; have hz1 := (zX hb1 1).trans rfl; have hz2 := (zX hb1 2).trans rfl; have HBL := zM hb1; have HR1 := zM hr1; have HB1 := zM hB1; clear hb1 hr1 hB1) | (go_at_call 34; (refine (K1 _).mono ?_); rintro e w2 ⟨rfl, ⟨nd2, rfl⟩⟩) | (at_builtin; go_loud (with_reducible refine gate_builtin (b := .append) (xs := #[.tmp 45, .tmp 48]) rfl ?_); go_loud (refine Kd.R_append k33 (w0 := w) B rfl (.tmp 45) (.tmp 48) 23 33 (.agg #[(.string ⟨#[]⟩), (.int .i64 0)]) 24 rfl Tryd.underlying23 info33 rfl (by decide) (by omega) (.slice A1 l.length c1_) l (⟨x, 0⟩ : RdCell) [.string x, .int .i64 0] (fun _ => True) (fun _ => False) rfl rfl ?aP (fun _ hk => hk.elim) ?aF ?aO ?aB ?aS ?aL ?_); (case aP => exact k33_mkM _ _ _ (⟨x, 0⟩ : RdCell)); (case aF => exact fun _ _ => trivial); (case aO => exact (by repeat (first | exact HR1.out | apply Kd.R_drewN | apply Kd.R_drew))); (case aB => exact (by repeat (first | exact HB1.out | apply zN | apply zD | apply zA))); (case aS => exact Nat.le_trans hg1 (Nat.le_of_lt (blk_lt HBL.out))); (case aL => omega); intro v2 w5 ho hb hg5 hat; rw [← Hy.out] at ho; obtain ⟨A5, c5_, rfl⟩ := Kd.R_slice ho; have hb5 := (hg5.block g (show g < _ from blk_lt HBL.out) (Kd.R_ne HR1.out HBL.out (by decide))).trans HBL.out; have hz5 := (zX hb5 2).trans rfl; have hf5 := zY hb5 2; have HI5 := zM (isRd_put hb5 hg1 ho); have HB5 := zM (hb.setCell (p := ⟨g, 2, none⟩) hg1 (.slice A5 y.length c5_)); clear hat hg5) | (go_at_call 80; (refine (N1 _ ?side1).mono ?_); (case side1 => repeat (first | exact HI5.out | apply isRd_drewN | apply isRd_drew)); rintro e w6 ⟨rfl, hI6, hB6⟩; have HI6 := zM hI6; have HB6 := zM (below_tr (by repeat (first | exact HB5.out | apply zN | apply zD | apply zA)) hB6); obtain ⟨v6, hb6, _, _⟩ := hI6; have hz6 := (zX hb6 1).trans rfl; clear hb6 hB6) | (go_at_call 81; (refine (R1 _ ?side1).mono ?_); (case side1 => repeat (first | exact HI6.out | apply isRd_drewN | apply isRd_drew)); rintro e w7 ⟨rfl, hB7⟩; have HB7 := zM (below_tr (by repeat (first | exact HB6.out | apply zN | apply zD | apply zA)) hB7); clear hB7))
       repeat (go_quiet (first | (go_at_call 79; (refine (W1 _ ?side1).mono ?_); (case side1 => repeat (first | exact HI0.out | apply isRd_drewN | apply isRd_drew)); rintro e w1 ⟨rfl, ⟨v1, hb1, hg1, hr1⟩, hB1⟩; obtain ⟨A1, c1_, rfl⟩ := Kd.R_slice hr1; have hz1 := (zX hb1 1).trans rfl; have hz2 := (zX hb1 2).trans rfl; have HBL := zM hb1; have HR1 := zM hr1; have HB1 := zM hB1; clear hb1 hr1 hB1) | (go_at_call 34; (refine (K1 _).mono ?_); rintro e w2 ⟨rfl, ⟨nd2, rfl⟩⟩) | (at_builtin; go_loud (with_reducible refine gate_builtin (b := .append) (xs := #[.tmp 45, .tmp 48]) rfl ?_); go_loud (refine Kd.R_append k33 (w0 := w) B rfl (.tmp 45) (.tmp 48) 23 33 (.agg #[(.string ⟨#[]⟩), (.int .i64 0)]) 24 rfl Tryd.underlying23 info33 rfl (by decide) (by omega) (.slice A1 l.length c1_) l (⟨x, 0⟩ : RdCell) [.string x, .int .i64 0] (fun _ => True) (fun _ => False) rfl rfl ?aP (fun _ hk => hk.elim) ?aF ?aO ?aB ?aS ?aL ?_); (case aP => exact k33_mkM _ _ _ (⟨x, 0⟩ : RdCell)); (case aF => exact fun _ _ => trivial); (case aO => exact (by repeat (first | exact HR1.out | apply Kd.R_drewN | apply Kd.R_drew))); (case aB => exact (by repeat (first | exact HB1.out | apply zN | apply zD | apply zA))); (case aS => exact Nat.le_trans hg1 (Nat.le_of_lt (blk_lt HBL.out))); (case aL => omega); intro v2 w5 ho hb hg5 hat; rw [← Hy.out] at ho; obtain ⟨A5, c5_, rfl⟩ := Kd.R_slice ho; have hb5 := (hg5.block g (show g < _ from blk_lt HBL.out) (Kd.R_ne HR1.out HBL.out (by decide))).trans HBL.out; have hz5 := (zX hb5 2).trans rfl; have hf5 := zY hb5 2; have HI5 := zM (isRd_put hb5 hg1 ho); have HB5 := zM (hb.setCell (p := ⟨g, 2, none⟩) hg1 (.slice A5 y.length c5_)); clear hat hg5) | (go_at_call 80; (refine (N1 _ ?side1).mono ?_); (case side1 => repeat (first | exact HI5.out | apply isRd_drewN | apply isRd_drew)); rintro e w6 ⟨rfl, hI6, hB6⟩; have HI6 := zM hI6; have HB6 := zM (below_tr (by repeat (first | exact HB5.out | apply zN | apply zD | apply zA)) hB6); obtain ⟨v6, hb6, _, _⟩ := hI6; have hz6 := (zX hb6 1).trans rfl; clear hb6 hB6) | (go_at_call 81; (refine (R1 _ ?side1).mono ?_); (case side1 => repeat (first | exact HI6.out | apply isRd_drewN | apply isRd_drew)); rintro e w7 ⟨rfl, hB7⟩; have HB7 := zM (below_tr (by repeat (first | exact HB6.out | apply zN | apply zD | apply zA)) hB7); clear hB7)); try go_wp2_with (first | (go_at_call 79; (refine (W1 _ ?side1).mono ?_); (case side1 => repeat (first | exact HI0.out | apply isRd_drewN | apply isRd_drew)); rintro e w1 ⟨rfl, ⟨v1, hb1, hg1, hr1⟩, hB1⟩; obtain ⟨A1, c1_, rfl⟩ := Kd.R_slice hr1; have hz1 := (zX hb1 1).trans rfl; have hz2 := (zX hb1 2).trans rfl; have HBL := zM hb1; have HR1 := zM hr1; have HB1 := zM hB1; clear hb1 hr1 hB1) | (go_at_call 34; (refine (K1 _).mono ?_); rintro e w2 ⟨rfl, ⟨nd2, rfl⟩⟩) | (at_builtin; go_loud (with_reducible refine gate_builtin (b := .append) (xs := #[.tmp 45, .tmp 48]) rfl ?_); go_loud (refine Kd.R_append k33 (w0 := w) B rfl (.tmp 45) (.tmp 48) 23 33 (.agg #[(.string ⟨#[]⟩), (.int .i64 0)]) 24 rfl Tryd.underlying23 info33 rfl (by decide) (by omega) (.slice A1 l.length c1_) l (⟨x, 0⟩ : RdCell) [.string x, .int .i64 0] (fun _ => True) (fun _ => False) rfl rfl ?aP (fun _ hk => hk.elim) ?aF ?aO ?aB ?aS ?aL ?_); (case aP => exact k33_mkM _ _ _ (⟨x, 0⟩ : RdCell)); (case aF => exact fun _ _ => trivial); (case aO => exact (by repeat (first | exact HR1.out | apply Kd.R_drewN | apply Kd.R_drew))); (case aB => exact (by repeat (first | exact HB1.out | apply zN | apply zD | apply zA))); (case aS => exact Nat.le_trans hg1 (Nat.le_of_lt (blk_lt HBL.out))); (case aL => omega); intro v2 w5 ho hb hg5 hat; rw [← Hy.out] at ho; obtain ⟨A5, c5_, rfl⟩ := Kd.R_slice ho; have hb5 := (hg5.block g (show g < _ from blk_lt HBL.out) (Kd.R_ne HR1.out HBL.out (by decide))).trans HBL.out; have hz5 := (zX hb5 2).trans rfl; have hf5 := zY hb5 2; have HI5 := zM (isRd_put hb5 hg1 ho); have HB5 := zM (hb.setCell (p := ⟨g, 2, none⟩) hg1 (.slice A5 y.length c5_)); clear hat hg5) | (go_at_call 80; (refine (N1 _ ?side1).mono ?_); (case side1 => repeat (first | exact HI5.out | apply isRd_drewN | apply isRd_drew)); rintro e w6 ⟨rfl, hI6, hB6⟩; have HI6 := zM hI6; have HB6 := zM (below_tr (by repeat (first | exact HB5.out | apply zN | apply zD | apply zA)) hB6); obtain ⟨v6, hb6, _, _⟩ := hI6; have hz6 := (zX hb6 1).trans rfl; clear hb6 hB6) | (go_at_call 81; (refine (R1 _ ?side1).mono ?_); (case side1 => repeat (first | exact HI6.out | apply isRd_drewN | apply isRd_drew)); rintro e w7 ⟨rfl, hB7⟩; have HB7 := zM (below_tr (by repeat (first | exact HB6.out | apply zN | apply zD | apply zA)) hB7); clear hB7)))
       exact ⟨rfl, rfl, (by repeat (first | exact HB7.out | apply zN | apply zD | apply zA))⟩
      | inr z =>
       go_enter Tryd.func64, Tryd.ntmps64
       go_wp2_with (first | (go_at_call 79; (refine (W1 _ ?side1).mono ?_); (case side1 => repeat (first | exact HI0.out | apply isRd_drewN | apply isRd_drew)); rintro e w1 ⟨rfl, ⟨v1, hb1, hg1, hr1⟩, hB1⟩; obtain ⟨A1, c1_, rfl⟩ := Kd.R_slice hr1; have hz1 := (zX hb1 1).trans rfl; have hz2 := (zX hb1 2).trans rfl; have HBL := zM hb1; have HR1 := zM hr1; have HB1 := zM hB1; clear hb1 hr1 hB1) | (go_at_call 34; (refine (K1 _).mono ?_); rintro e w2 ⟨rfl, ⟨nd2, rfl⟩⟩) | (at_builtin; go_loud (with_reducible refine gate_builtin (b := .append) (xs := #[.tmp 45, .tmp 48]) rfl ?_); go_loud (refine Kd.R_append k33 (w0 := w) B rfl (.tmp 45) (.tmp 48) 23 33 (.agg #[(.string ⟨#[]⟩), (.int .i64 0)]) 24 rfl Tryd.underlying23 info33 rfl (by decide) (by omega) (.slice A1 l.length c1_) l (⟨x, 0⟩ : RdCell) [.string x, .int .i64 0] (fun _ => True) (fun _ => False) rfl rfl ?aP (fun _ hk => hk.elim) ?aF ?aO ?aB ?aS ?aL ?_); (case aP => exact k33_mkM _ _ _ (⟨x, 0⟩ : RdCell)); (case aF => exact fun _ _ => trivial); (case aO => exact (by repeat (first | exact HR1.out | apply Kd.R_drewN | apply Kd.R_drew))); (case aB => exact (by repeat (first | exact HB1.out | apply zN | apply zD | apply zA))); (case aS => exact Nat.le_trans hg1 (Nat.le_of_lt (blk_lt HBL.out))); (case aL => omega); intro v2 w5 ho hb hg5 hat; rw [← Hy.out] at ho; obtain ⟨A5, c5_, rfl⟩ := Kd.R_slice ho; have hb5 := (hg5.block g (show g < _ from blk_lt HBL.out) (Kd.R_ne HR1.out HBL.out (by decide))).trans HBL.out; have hz5 := (zX hb5 2).trans rfl; have hf5 := zY hb5 2; have HI5 := zM (isRd_put hb5 hg1 ho); have HB5 := zM (hb.setCell (p := ⟨g, 2, none⟩) hg1 (.slice A5 y.length c5_)); clear hat hg5) | (go_at_call 80; (refine (N1 _ ?side1).mono ?_); (case side1 => repeat (first | exact HI5.out | apply isRd_drewN | apply isRd_drew)); rintro e w6 ⟨rfl, hI6, hB6⟩; have HI6 := zM hI6; have HB6 := zM (below_tr (by repeat (first | exact HB5.out | apply zN | apply zD | apply zA)) hB6); obtain ⟨v6, hb6, _, _⟩ := hI6; have hz6 := (zX hb6 1).trans rfl; clear hb6 hB6) | (go_at_call 81; (refine (R1 _ ?side1).mono ?_); (case side1 => repeat (first | exact HI6.out | apply isRd_drewN | apply isRd_drew)); rintro e w7 ⟨rfl, hI7, hB7, hl7, hj7, hk7⟩; have HI7 := zM hI7; have HB7 := zM (below_tr (by repeat (first | exact HB6.out | apply zN | apply zD | apply zA)) hB7); clear hI7 hB7))
       repeat (go_quiet (first | (go_at_call 79; (refine (W1 _ ?side1).mono ?_); (case side1 => repeat (first | exact HI0.out | apply isRd_drewN | apply isRd_drew)); rintro e w1 ⟨rfl, ⟨v1, hb1, hg1, hr1⟩, hB1⟩; obtain ⟨A1, c1_, rfl⟩ := Kd.R_slice hr1; have hz1 := (zX hb1 1).trans rfl; have hz2 := (zX hb1 2).trans rfl; have HBL := zM hb1; have HR1 := zM hr1; have HB1 := zM hB1; clear hb1 hr1 hB1) | (go_at_call 34; (refine (K1 _).mono ?_); rintro e w2 ⟨rfl, ⟨nd2, rfl⟩⟩) | (at_builtin; go_loud (with_reducible refine gate_builtin (b := .append) (xs := #[.tmp 45, .tmp 48]) rfl ?_); go_loud (refine Kd.R_append k33 (w0 := w) B rfl (.tmp 45) (.tmp 48) 23 33 (.agg #[(.string ⟨#[]⟩), (.int .i64 0)]) 24 rfl Tryd.underlying23 info33 rfl (by decide) (by omega) (.slice A1 l.length c1_) l (⟨x, 0⟩ : RdCell) [.string x, .int .i64 0] (fun _ => True) (fun _ => False) rfl rfl ?aP (fun _ hk => hk.elim) ?aF ?aO ?aB ?aS ?aL ?_); (case aP => exact k33_mkM _ _ _ (⟨x, 0⟩ : RdCell)); (case aF => exact fun _ _ => trivial); (case aO => exact (by repeat (first | exact HR1.out | apply Kd.R_drewN | apply Kd.R_drew))); (case aB => exact (by repeat (first | exact HB1.out | apply zN | apply zD | apply zA))); (case aS => exact Nat.le_trans hg1 (Nat.le_of_lt (blk_lt HBL.out))); (case aL => omega); intro v2 w5 ho hb hg5 hat; rw [← Hy.out] at ho; obtain ⟨A5, c5_, rfl⟩ := Kd.R_slice ho; have hb5 := (hg5.block g (show g < _ from blk_lt HBL.out) (Kd.R_ne HR1.out HBL.out (by decide))).trans HBL.out; have hz5 := (zX hb5 2).trans rfl; have hf5 := zY hb5 2; have HI5 := zM (isRd_put hb5 hg1 ho); have HB5 := zM (hb.setCell (p := ⟨g, 2, none⟩) hg1 (.slice A5 y.length c5_)); clear hat hg5) | (go_at_call 80; (refine (N1 _ ?side1).mono ?_); (case side1 => repeat (first | exact HI5.out | apply isRd_drewN | apply isRd_drew)); rintro e w6 ⟨rfl, hI6, hB6⟩; have HI6 := zM hI6; have HB6 := zM (below_tr (by repeat (first | exact HB5.out | apply zN | apply zD | apply zA)) hB6); obtain ⟨v6, hb6, _, _⟩ := hI6; have hz6 := (zX hb6 1).trans rfl; clear hb6 hB6) | (go_at_call 81; (refine (R1 _ ?side1).mono ?_); (case side1 => repeat (first | exact HI6.out | apply isRd_drewN | apply isRd_drew)); rintro e w7 ⟨rfl, hI7, hB7, hl7, hj7, hk7⟩; have HI7 := zM hI7; have HB7 := zM (below_tr (by repeat (first | exact HB6.out | apply zN | apply zD | apply zA)) hB7); clear hI7 hB7)); try go_wp2_with (first | (go_at_call 79; (refine (W1 _ ?side1).mono ?_); (case side1 => repeat (first | exact HI0.out | apply isRd_drewN | apply isRd_drew)); rintro e w1 ⟨rfl, ⟨v1, hb1, hg1, hr1⟩, hB1⟩; obtain ⟨A1, c1_, rfl⟩ := Kd.R_slice hr1; have hz1 := (zX hb1 1).trans rfl; have hz2 := (zX hb1 2).trans rfl; have HBL := zM hb1; have HR1 := zM hr1; have HB1 := zM hB1; clear hb1 hr1 hB1) | (go_at_call 34; (refine (K1 _).mono ?_); rintro e w2 ⟨rfl, ⟨nd2, rfl⟩⟩) | (at_builtin; go_loud (with_reducible refine gate_builtin (b := .append) (xs := #[.tmp 45, .tmp 48]) rfl ?_); go_loud (refine Kd.R_append k33 (w0 := w) B rfl (.tmp 45) (.tmp 48) 23 33 (.agg #[(.string ⟨#[]⟩), (.int .i64 0)]) 24 rfl Tryd.underlying23 info33 rfl (by decide) (by omega) (.slice A1 l.length c1_) l (⟨x, 0⟩ : RdCell) [.string x, .int .i64 0] (fun _ => True) (fun _ => False) rfl rfl ?aP (fun _ hk => hk.elim) ?aF ?aO ?aB ?aS ?aL ?_); (case aP => exact k33_mkM _ _ _ (⟨x, 0⟩ : RdCell)); (case aF => exact fun _ _ => trivial); (case aO => exact (by repeat (first | exact HR1.out | apply Kd.R_drewN | apply Kd.R_drew))); (case aB => exact (by repeat (first | exact HB1.out | apply zN | apply zD | apply zA))); (case aS => exact Nat.le_trans hg1 (Nat.le_of_lt (blk_lt HBL.out))); (case aL => omega); intro v2 w5 ho hb hg5 hat; rw [← Hy.out] at ho; obtain ⟨A5, c5_, rfl⟩ := Kd.R_slice ho; have hb5 := (hg5.block g (show g < _ from blk_lt HBL.out) (Kd.R_ne HR1.out HBL.out (by decide))).trans HBL.out; have hz5 := (zX hb5 2).trans rfl; have hf5 := zY hb5 2; have HI5 := zM (isRd_put hb5 hg1 ho); have HB5 := zM (hb.setCell (p := ⟨g, 2, none⟩) hg1 (.slice A5 y.length c5_)); clear hat hg5) | (go_at_call 80; (refine (N1 _ ?side1).mono ?_); (case side1 => repeat (first | exact HI5.out | apply isRd_drewN | apply isRd_drew)); rintro e w6 ⟨rfl, hI6, hB6⟩; have HI6 := zM hI6; have HB6 := zM (below_tr (by repeat (first | exact HB5.out | apply zN | apply zD | apply zA)) hB6); obtain ⟨v6, hb6, _, _⟩ := hI6; have hz6 := (zX hb6 1).trans rfl; clear hb6 hB6) | (go_at_call 81; (refine (R1 _ ?side1).mono ?_); (case side1 => repeat (first | exact HI6.out | apply isRd_drewN | apply isRd_drew)); rintro e w7 ⟨rfl, hI7, hB7, hl7, hj7, hk7⟩; have HI7 := zM hI7; have HB7 := zM (below_tr (by repeat (first | exact HB6.out | apply zN | apply zD | apply zA)) hB7); clear hI7 hB7)))
       (first | refine bodyPost_ret (results_none rfl _ _ _) rfl ?_ | refine bodyPost_end (results_none rfl _ _ _) rfl ?_); exact ⟨rfl, by repeat (first | exact HI7.out | apply isRd_drewN | apply isRd_drew), (by repeat (first | exact HB7.out | apply zN | apply zD | apply zA)), hl7, hj7, hk7⟩
    ·
     rw [if_neg c4] at h
     have c4b : (nxS s' j == 40) = false := zE c4
     have c4c : (nxS s' j != 40) = true := zF c4
     clear c4
     obtain rfl := zS h
     clear h
     go_enter Tryd.func64, Tryd.ntmps64
     go_wp2_with (first | (go_at_call 79; (refine (W1 _ ?side1).mono ?_); (case side1 => repeat (first | exact HI0.out | apply isRd_drewN | apply isRd_drew)); rintro e w1 ⟨rfl, ⟨v1, hb1, hg1, hr1⟩, hB1⟩; obtain ⟨A1, c1_, rfl⟩ := Kd.R_slice hr1; have hz1 := (zX hb1 1).trans rfl; have hz2 := (zX hb1 2).trans rfl; have HBL := zM hb1; have HR1 := zM hr1; have HB1 := zM hB1; clear hb1 hr1 hB1) | (go_at_call 34; (refine (K1 _).mono ?_); rintro e w2 ⟨rfl, ⟨nd2, rfl⟩⟩) | (at_builtin; go_loud (with_reducible refine gate_builtin (b := .append) (xs := #[.tmp 45, .tmp 48]) rfl ?_); go_loud (refine Kd.R_append k33 (w0 := w) B rfl (.tmp 45) (.tmp 48) 23 33 (.agg #[(.string ⟨#[]⟩), (.int .i64 0)]) 24 rfl Tryd.underlying23 info33 rfl (by decide) (by omega) (.slice A1 l.length c1_) l (⟨x, 0⟩ : RdCell) [.string x, .int .i64 0] (fun _ => True) (fun _ => False) rfl rfl ?aP (fun _ hk => hk.elim) ?aF ?aO ?aB ?aS ?aL ?_); (case aP => exact k33_mkM _ _ _ (⟨x, 0⟩ : RdCell)); (case aF => exact fun _ _ => trivial); (case aO => exact (by repeat (first | exact HR1.out | apply Kd.R_drewN | apply Kd.R_drew))); (case aB => exact (by repeat (first | exact HB1.out | apply zN | apply zD | apply zA))); (case aS => exact Nat.le_trans hg1 (Nat.le_of_lt (blk_lt HBL.out))); (case aL => omega); intro v2 w5 ho hb hg5 hat; rw [← Hy.out] at ho; obtain ⟨A5, c5_, rfl⟩ := Kd.R_slice ho; have hb5 := (hg5.block g (show g < _ from blk_lt HBL.out) (Kd.R_ne HR1.out HBL.out (by decide))).trans HBL.out; have hz5 := (zX hb5 2).trans rfl; have hf5 := zY hb5 2; have HI5 := zM (isRd_put hb5 hg1 ho); have HB5 := zM (hb.setCell (p := ⟨g, 2, none⟩) hg1 (.slice A5 y.length c5_)); clear hat hg5) | (go_at_call 80; (refine (N1 _ ?side1).mono ?_); (case side1 => repeat (first | exact HI5.out | apply isRd_drewN | apply isRd_drew)); rintro e w6 ⟨rfl, hI6, hB6⟩; have HI6 := zM hI6; have HB6 := zM (below_tr (by repeat (first | exact HB5.out | apply zN | apply zD | apply zA)) hB6); obtain ⟨v6, hb6, _, _⟩ := hI6; have hz6 := (zX hb6 1).trans rfl; clear hb6 hB6))
     repeat (go_quiet (first | (go_at_call 79; (refine (W1 _ ?side1).mono ?_); (case side1 => repeat (first | exact HI0.out | apply isRd_drewN | apply isRd_drew)); rintro e w1 ⟨rfl, ⟨v1, hb1, hg1, hr1⟩, hB1⟩; obtain ⟨A1, c1_, rfl⟩ := Kd.R_slice hr1; have hz1 := (zX hb1 1).trans rfl; have hz2 := (zX hb1 2).trans rfl; have HBL := zM hb1; have HR1 := zM hr1; have HB1 := zM hB1; clear hb1 hr1 hB1) | (go_at_call 34; (refine (K1 _).mono ?_); rintro e w2 ⟨rfl, ⟨nd2, rfl⟩⟩) | (at_builtin; go_loud (with_reducible refine gate_builtin (b := .append) (xs := #[.tmp 45, .tmp 48]) rfl ?_); go_loud (refine Kd.R_append k33 (w0 := w) B rfl (.tmp 45) (.tmp 48) 23 33 (.agg #[(.string ⟨#[]⟩), (.int .i64 0)]) 24 rfl Tryd.underlying23 info33 rfl (by decide) (by omega) (.slice A1 l.length c1_) l (⟨x, 0⟩ : RdCell) [.string x, .int .i64 0] (fun _ => True) (fun _ => False) rfl rfl ?aP (fun _ hk => hk.elim) ?aF ?aO ?aB ?aS ?aL ?_); (case aP => exact k33_mkM _ _ _ (⟨x, 0⟩ : RdCell)); (case aF => exact fun _ _ => trivial); (case aO => exact (by repeat (first | exact HR1.out | apply Kd.R_drewN | apply Kd.R_drew))); (case aB => exact (by repeat (first | exact HB1.out | apply zN | apply zD | apply zA))); (case aS => exact Nat.le_trans hg1 (Nat.le_of_lt (blk_lt HBL.out))); (case aL => omega); intro v2 w5 ho hb hg5 hat; rw [← Hy.out] at ho; obtain ⟨A5, c5_, rfl⟩ := Kd.R_slice ho; have hb5 := (hg5.block g (show g < _ from blk_lt HBL.out) (Kd.R_ne HR1.out HBL.out (by decide))).trans HBL.out; have hz5 := (zX hb5 2).trans rfl; have hf5 := zY hb5 2; have HI5 := zM (isRd_put hb5 hg1 ho); have HB5 := zM (hb.setCell (p := ⟨g, 2, none⟩) hg1 (.slice A5 y.length c5_)); clear hat hg5) | (go_at_call 80; (refine (N1 _ ?side1).mono ?_); (case side1 => repeat (first | exact HI5.out | apply isRd_drewN | apply isRd_drew)); rintro e w6 ⟨rfl, hI6, hB6⟩; have HI6 := zM hI6; have HB6 := zM (below_tr (by repeat (first | exact HB5.out | apply zN | apply zD | apply zA)) hB6); obtain ⟨v6, hb6, _, _⟩ := hI6; have hz6 := (zX hb6 1).trans rfl; clear hb6 hB6)); try go_wp2_with (first | (go_at_call 79; (refine (W1 _ ?side1).mono ?_); (case side1 => repeat (first | exact HI0.out | apply isRd_drewN | apply isRd_drew)); rintro e w1 ⟨rfl, ⟨v1, hb1, hg1, hr1⟩, hB1⟩; obtain ⟨A1, c1_, rfl⟩ := Kd.R_slice hr1; have hz1 := (zX hb1 1).trans rfl; have hz2 := (zX hb1 2).trans rfl; have HBL := zM hb1; have HR1 := zM hr1; have HB1 := zM hB1; clear hb1 hr1 hB1) | (go_at_call 34; (refine (K1 _).mono ?_); rintro e w2 ⟨rfl, ⟨nd2, rfl⟩⟩) | (at_builtin; go_loud (with_reducible refine gate_builtin (b := .append) (xs := #[.tmp 45, .tmp 48]) rfl ?_); go_loud (refine Kd.R_append k33 (w0 := w) B rfl (.tmp 45) (.tmp 48) 23 33 (.agg #[(.string ⟨#[]⟩), (.int .i64 0)]) 24 rfl Tryd.underlying23 info33 rfl (by decide) (by omega) (.slice A1 l.length c1_) l (⟨x, 0⟩ : RdCell) [.string x, .int .i64 0] (fun _ => True) (fun _ => False) rfl rfl ?aP (fun _ hk => hk.elim) ?aF ?aO ?aB ?aS ?aL ?_); (case aP => exact k33_mkM _ _ _ (⟨x, 0⟩ : RdCell)); (case aF => exact fun _ _ => trivial); (case aO => exact (by repeat (first | exact HR1.out | apply Kd.R_drewN | apply Kd.R_drew))); (case aB => exact (by repeat (first | exact HB1.out | apply zN | apply zD | apply zA))); (case aS => exact Nat.le_trans hg1 (Nat.le_of_lt (blk_lt HBL.out))); (case aL => omega); intro v2 w5 ho hb hg5 hat; rw [← Hy.out] at ho; obtain ⟨A5, c5_, rfl⟩ := Kd.R_slice ho; have hb5 := (hg5.block g (show g < _ from blk_lt HBL.out) (Kd.R_ne HR1.out HBL.out (by decide))).trans HBL.out; have hz5 := (zX hb5 2).trans rfl; have hf5 := zY hb5 2; have HI5 := zM (isRd_put hb5 hg1 ho); have HB5 := zM (hb.setCell (p := ⟨g, 2, none⟩) hg1 (.slice A5 y.length c5_)); clear hat hg5) | (go_at_call 80; (refine (N1 _ ?side1).mono ?_); (case side1 => repeat (first | exact HI5.out | apply isRd_drewN | apply isRd_drew)); rintro e w6 ⟨rfl, hI6, hB6⟩; have HI6 := zM hI6; have HB6 := zM (below_tr (by repeat (first | exact HB5.out | apply zN | apply zD | apply zA)) hB6); obtain ⟨v6, hb6, _, _⟩ := hI6; have hz6 := (zX hb6 1).trans rfl; clear hb6 hB6)))
     (first | refine bodyPost_ret (results_none rfl _ _ _) rfl ?_ | refine bodyPost_end (results_none rfl _ _ _) rfl ?_); exact ⟨rfl, by repeat (first | exact HI6.out | apply isRd_drewN | apply isRd_drew), (by repeat (first | exact HB6.out | apply zN | apply zD | apply zA)), (show y.length ≤ 64 by have := hyl.out; omega), hj, hj2⟩
theorem wrap_id' {i : Int} (h0 : -9223372036854775808 ≤ i) (h : i ≤ 9223372036854775807) : wrap64 i = i := by
 unfold wrap64
 omega
theorem isRd_at {B : Nat} {W : World} {g : Nat} {s : ByteArray} {i : Int} {l : List RdCell} {v : Value} (hb : W.heap[g]? = some (.cells #[.string s, .int .i64 i, v] 93 (0, 0))) (hg : B ≤ g) (hr : Kd.R k33 33 W B (fun _ => True) v l) (j : Int) : IsRd B (W.setCell ⟨g, 1, none⟩ (.int .i64 j)) g s j l :=
 ⟨v, by simpa using blk_set hb 1 (.int .i64 j), hg, Kd.R_set hr hb (by decide) 1 _⟩
theorem R_some {B : Nat} {W : World} {v : Value} {m : List RdCell} {c : Nat} (hr : Kd.R k33 33 W B (fun _ => True) v m) (hc : c < m.length) : ∃ g5 cap5, v = .slice (some ⟨g5, 0, none⟩) m.length cap5 := by
 obtain ⟨_, inner, ho, h2⟩ := hr
 rcases ho.2 with ⟨rfl, h3⟩ | ⟨g', cap', cur, rfl, _⟩
 ·
  have : inner.length = m.length * 2 := h2.1
  have h4 := ho.1
  simp_all
 ·
  exact ⟨g', cap', rfl⟩
theorem isRd_back {B : Nat} {W : World} {g : Nat} {s : ByteArray} {i : Int} {m y z : List RdCell} {v : Value} (hb : W.heap[g]? = some (.cells #[.string s, .int .i64 i, v] 93 (0, 0))) (hg : B ≤ g) (hy : y.length = m.length ∧ z = y) (hr : Kd.R k33 33 W B (fun _ => True) v z) : IsRd B W g s i y :=
 ⟨v, hb, hg, hy.2 ▸ hr⟩
theorem cell_arity {W : World} {B : Nat} {ok : Nat → Prop} {m : List RdCell} {c : Nat} {ce : List Value} {n : Int} (h : Kd.M k33 W B ok (m.getD (c : Int).toNat z33) ce) : Kd.M k33 W B (fun _ => False) (⟨(rd_T33 m (c : Int)).f0, n⟩ : RdCell) (ce.take 1 ++ [.int .i64 n] ++ ce.drop (1 + 1)) := by
 have e := k33_openM h
 subst e
 exact k33_mkM W B _ (⟨(rd_T33 m (c : Int)).f0, n⟩ : RdCell)
section
variable {P : Program} {ops : Array Oper} {rest : List Oper} {o : Oper} {a : Act} {Q : Exit → Act → World → Prop}
/-- r.out[cell].Arity = n -/
theorem rd_store {w0 W : World} {B g5 cap5 c : Nat} {n : Int} {m : List RdCell} {ce : List Value} {p x : Operand} (hN : o.dst = none) (hgd : o.guard = none) (ho : o.op = .store 3 p x)
 (hp : a.eval p = .pointer (some ⟨g5, c * 2 + 1, none⟩)) (hx : a.eval x = .int .i64 n) (HO : Kd.R k33 33 W B (fun _ => True) (.slice (some ⟨g5, 0, none⟩) m.length cap5) m) (hc : c < m.length)
 (hcl : ce.length = (k33).sz) (hcc : ∀ j u, ce[j]? = some u → W.cell? ⟨g5, (c : Int).toNat * (k33).sz + j, none⟩ = some u) {ok : Nat → Prop} (hM : Kd.M k33 W B ok (m.getD (c : Int).toNat z33) ce) (HB : Below B w0 W)
 (ht : (P.info? 3).map (·.size) = some 1)
 (h : ∀ w1, Kd.R k33 33 w1 B (fun _ => True) (.slice (some ⟨g5, 0, none⟩) m.length cap5) (m.set (c : Int).toNat ⟨(rd_T33 m (c : Int)).f0, n⟩) → Below B w0 w1 → W.grownBy w1 (some g5) → wpList P ops Q rest a w1) : wpList P ops Q (o :: rest) a W :=
 Kd.R_store k33 B hN hgd 3 p x ho 33 (c : Int) 1 m (⟨(rd_T33 m (c : Int)).f0, n⟩ : RdCell) (.int .i64 n) [.int .i64 n] ce (fun _ => True) (fun _ => False) hp rfl hx rfl ht (by simp [Value.oneCell']) HO (by omega) (by omega) hcl hcc (Nat.le_refl _) (cell_arity hM) (fun _ hk => hk.elim) HB h
end
set_option maxHeartbeats 8000000 in
set_option maxRecDepth 100000 in
theorem rdArgs_step (k : Nat) (ih : ∀ k', k' < k → TermC k') : ArgsC k := by
 intro B g s i0 l0 c r w hI hl hi hi2 hsz hcl h
 have HI0 := zM hI
 have HB0 := zM (Below.refl B w)
 have H' := zM h
 clear h hI
 have HL0 := zM (show l0.length ≤ 64 ∧ c < l0.length ∧ 0 ≤ i0 ∧ i0 < (s.size : Int) from ⟨hl, hcl, hi, hi2⟩)
 clear hl hcl hi hi2
 go_enter Tryd.func81, Tryd.ntmps81
 go_wp2
 go_loopg [4] k (fun kq v4 w' => ∃ (n i : Int) (l : List RdCell), v4 = .int .i64 n ∧ Aside0 (rdArgs kq s i l c n = some r) ∧ Aside0 (kq ≤ k) ∧ Aside0 (IsRd B w' g s i l) ∧ Aside0 (Below B w w') ∧ Aside0 (l.length ≤ 64 ∧ c < l.length ∧ 0 ≤ i ∧ i < (s.size : Int)))
 case atStart => exact ⟨1, i0, l0, rfl, H', ⟨Nat.le_refl _⟩, ⟨(by repeat (first | exact HI0.out | apply isRd_drewN | apply isRd_drew))⟩, ⟨(by repeat (first | exact HB0.out | apply zN | apply zD | apply zA))⟩, HL0⟩
 case round =>
  clear HI0 HB0 H' HL0
  obtain ⟨n, i, l, rfl, HA, HK1, HI0, HB0, HL0⟩ := hrel
  cases gk with
  | zero => exact absurd HA.out (by simp [rdArgs])
  | succ k1 =>
   have H := HA.out
   clear HA
   simp only [rdArgs] at H
   obtain ⟨x, hx, H⟩ := zB H
   have hw : wrap64 (i + 1) = i + 1 := wrap_id' (by have := HL0.out; omega) (by have := HL0.out; omega)
   rw [hw] at hx
   have Hw := zM hw
   clear hw
   obtain ⟨v0, hb0, hg0, hr0⟩ := HI0.out
   have hz0 := (zX hb0 1).trans rfl
   have hf0 := zY hb0 1
   have HI0s := zM (isRd_at hb0 hg0 hr0 (wrap64 (i + 1)))
   clear hb0 hr0
   have T1 := fun (W : World) (h : IsRd B W g s (wrap64 (i + 1)) l) => ih k1 (by have := HK1.out; omega) B g s (wrap64 (i + 1)) l x W h HL0.out.1 (by rw [Hw.out]; have := HL0.out; omega) hsz (by rw [Hw.out]; exact hx)
   clear hx
   cases x with
   | inl z =>
    obtain rfl := zS H
    clear H
    go_wp2_with (first | (go_at_call 64; (refine (T1 _ ?side1).mono ?_); (case side1 => exact HI0s.out); rintro e w1 ⟨rfl, hB1⟩; have HB1 := zM (below_tr (HB0.out.setCell (p := ⟨g, 1, none⟩) hg0 _) hB1); clear hB1))
    repeat (go_quiet (first | (go_at_call 64; (refine (T1 _ ?side1).mono ?_); (case side1 => exact HI0s.out); rintro e w1 ⟨rfl, hB1⟩; have HB1 := zM (below_tr (HB0.out.setCell (p := ⟨g, 1, none⟩) hg0 _) hB1); clear hB1)); try go_wp2_with (first | (go_at_call 64; (refine (T1 _ ?side1).mono ?_); (case side1 => exact HI0s.out); rintro e w1 ⟨rfl, hB1⟩; have HB1 := zM (below_tr (HB0.out.setCell (p := ⟨g, 1, none⟩) hg0 _) hB1); clear hB1)))
    exact ⟨rfl, rfl, (by repeat (first | exact HB1.out | apply zN | apply zD | apply zA))⟩
   | inr z =>
    obtain ⟨j, m⟩ := z
    simp only at H
    by_cases hcm : c < m.length
    ·
     rw [if_pos hcm] at H
     obtain ⟨y, hy⟩ : ∃ y : List RdCell, y = m.set c ⟨(rd_T33 m (c : Int)).f0, n⟩ := ⟨_, rfl⟩
     have hml : y.length = m.length ∧ m.set ((c : Int).toNat) ⟨(rd_T33 m (c : Int)).f0, n⟩ = y := ⟨by rw [hy]; simp, by rw [hy]; rfl⟩
     rw [← hy] at H
     clear hy
     have N1 := fun (W : World) (hj : 0 ≤ j) (h : IsRd B W g s j y) => rd_next h hj
     by_cases c4 : nxS s j = 41
     ·
      rw [if_pos c4] at H
      obtain rfl := zS H
      clear H
      have c4b : (nxS s j == 41) = true := zG c4
      have hjs : j < (s.size : Int) := nx_lt c4 (by decide)
      clear c4
      go_wp2_with (first | (go_at_call 64; (refine (T1 _ ?side1).mono ?_); (case side1 => exact HI0s.out); rintro e w1 ⟨rfl, hI1, hB1, hl1, hj1, hk1⟩; replace hI1 : IsRd B w1 g s j m := hI1; have HL1 := zM (show m.length ≤ 64 from hl1); replace hj1 : 0 ≤ j := hj1; replace hk1 : j ≤ (s.size : Int) := hk1; have HI1 := zM hI1; have HB1 := zM (below_tr (HB0.out.setCell (p := ⟨g, 1, none⟩) hg0 _) hB1); obtain ⟨v1, hb1, hg1, hr1⟩ := hI1; obtain ⟨g5, cap5, rfl⟩ := R_some hr1 hcm; have hz1 := (zX hb1 2).trans rfl; have hz1b := (zX hb1 1).trans rfl; have HBL := zM hb1; have HR1 := zM hr1; obtain ⟨ce, hce1, hce2, hce3, hce4⟩ := Kd.R_elem hr1 z33 (c : Int) (by omega) (by omega); have HCE := zM hce3; have HCL := zM hce1; have HCM := zM hce2; clear hb1 hB1 hr1 hce1 hce2 hce3 hce4) | ((with_reducible refine gate_store (t := 3) (p := 23) rfl ?_); refine rd_store (w0 := w) (B := B) (g5 := g5) (cap5 := cap5) (c := c) (n := n) (m := m) (ce := ce) rfl rfl (p := .tmp 23) (x := .tmp 21) rfl rfl rfl ?sR hcm HCL.out HCE.out HCM.out ?sB ?sT ?_; (case sT => kernel_rfl); (case sR => exact (by repeat (first | exact HR1.out | apply Kd.R_drewN | apply Kd.R_drew))); (case sB => exact (by repeat (first | exact HB1.out | apply zN | apply zD | apply zA))); intro w5 ho hb hg5; have hb5 := (hg5.block g (show g < _ from blk_lt HBL.out) (Kd.R_ne HR1.out HBL.out (by decide))).trans HBL.out; have HI5 := zM (isRd_back hb5 hg1 hml ho); have HB5 := zM hb; clear hg5 hb ho hb5) | (go_at_call 80; (refine (N1 _ hj1 ?side1).mono ?_); (case side1 => exact (by repeat (first | exact HI5.out | apply isRd_drewN | apply isRd_drew))); rintro e w6 ⟨rfl, hI6, hB6⟩; have HI6 := zM hI6; have HB6 := zM (below_tr (by repeat (first | exact HB5.out | apply zN | apply zD | apply zA)) hB6); obtain ⟨v6, hb6, hg6, hr6⟩ := hI6; have hz6 := (zX hb6 1).trans rfl; have hf6 := zY hb6 1; have HBL6 := zM hb6; have HR6 := zM hr6; clear hb6 hB6 hr6))
      repeat (go_quiet (first | (go_at_call 64; (refine (T1 _ ?side1).mono ?_); (case side1 => exact HI0s.out); rintro e w1 ⟨rfl, hI1, hB1, hl1, hj1, hk1⟩; replace hI1 : IsRd B w1 g s j m := hI1; have HL1 := zM (show m.length ≤ 64 from hl1); replace hj1 : 0 ≤ j := hj1; replace hk1 : j ≤ (s.size : Int) := hk1; have HI1 := zM hI1; have HB1 := zM (below_tr (HB0.out.setCell (p := ⟨g, 1, none⟩) hg0 _) hB1); obtain ⟨v1, hb1, hg1, hr1⟩ := hI1; obtain ⟨g5, cap5, rfl⟩ := R_some hr1 hcm; have hz1 := (zX hb1 2).trans rfl; have hz1b := (zX hb1 1).trans rfl; have HBL := zM hb1; have HR1 := zM hr1; obtain ⟨ce, hce1, hce2, hce3, hce4⟩ := Kd.R_elem hr1 z33 (c : Int) (by omega) (by omega); have HCE := zM hce3; have HCL := zM hce1; have HCM := zM hce2; clear hb1 hB1 hr1 hce1 hce2 hce3 hce4) | ((with_reducible refine gate_store (t := 3) (p := 23) rfl ?_); refine rd_store (w0 := w) (B := B) (g5 := g5) (cap5 := cap5) (c := c) (n := n) (m := m) (ce := ce) rfl rfl (p := .tmp 23) (x := .tmp 21) rfl rfl rfl ?sR hcm HCL.out HCE.out HCM.out ?sB ?sT ?_; (case sT => kernel_rfl); (case sR => exact (by repeat (first | exact HR1.out | apply Kd.R_drewN | apply Kd.R_drew))); (case sB => exact (by repeat (first | exact HB1.out | apply zN | apply zD | apply zA))); intro w5 ho hb hg5; have hb5 := (hg5.block g (show g < _ from blk_lt HBL.out) (Kd.R_ne HR1.out HBL.out (by decide))).trans HBL.out; have HI5 := zM (isRd_back hb5 hg1 hml ho); have HB5 := zM hb; clear hg5 hb ho hb5) | (go_at_call 80; (refine (N1 _ hj1 ?side1).mono ?_); (case side1 => exact (by repeat (first | exact HI5.out | apply isRd_drewN | apply isRd_drew))); rintro e w6 ⟨rfl, hI6, hB6⟩; have HI6 := zM hI6; have HB6 := zM (below_tr (by repeat (first | exact HB5.out | apply zN | apply zD | apply zA)) hB6); obtain ⟨v6, hb6, hg6, hr6⟩ := hI6; have hz6 := (zX hb6 1).trans rfl; have hf6 := zY hb6 1; have HBL6 := zM hb6; have HR6 := zM hr6; clear hb6 hB6 hr6)); try go_wp2_with (first | (go_at_call 64; (refine (T1 _ ?side1).mono ?_); (case side1 => exact HI0s.out); rintro e w1 ⟨rfl, hI1, hB1, hl1, hj1, hk1⟩; replace hI1 : IsRd B w1 g s j m := hI1; have HL1 := zM (show m.length ≤ 64 from hl1); replace hj1 : 0 ≤ j := hj1; replace hk1 : j ≤ (s.size : Int) := hk1; have HI1 := zM hI1; have HB1 := zM (below_tr (HB0.out.setCell (p := ⟨g, 1, none⟩) hg0 _) hB1); obtain ⟨v1, hb1, hg1, hr1⟩ := hI1; obtain ⟨g5, cap5, rfl⟩ := R_some hr1 hcm; have hz1 := (zX hb1 2).trans rfl; have hz1b := (zX hb1 1).trans rfl; have HBL := zM hb1; have HR1 := zM hr1; obtain ⟨ce, hce1, hce2, hce3, hce4⟩ := Kd.R_elem hr1 z33 (c : Int) (by omega) (by omega); have HCE := zM hce3; have HCL := zM hce1; have HCM := zM hce2; clear hb1 hB1 hr1 hce1 hce2 hce3 hce4) | ((with_reducible refine gate_store (t := 3) (p := 23) rfl ?_); refine rd_store (w0 := w) (B := B) (g5 := g5) (cap5 := cap5) (c := c) (n := n) (m := m) (ce := ce) rfl rfl (p := .tmp 23) (x := .tmp 21) rfl rfl rfl ?sR hcm HCL.out HCE.out HCM.out ?sB ?sT ?_; (case sT => kernel_rfl); (case sR => exact (by repeat (first | exact HR1.out | apply Kd.R_drewN | apply Kd.R_drew))); (case sB => exact (by repeat (first | exact HB1.out | apply zN | apply zD | apply zA))); intro w5 ho hb hg5; have hb5 := (hg5.block g (show g < _ from blk_lt HBL.out) (Kd.R_ne HR1.out HBL.out (by decide))).trans HBL.out; have HI5 := zM (isRd_back hb5 hg1 hml ho); have HB5 := zM hb; clear hg5 hb ho hb5) | (go_at_call 80; (refine (N1 _ hj1 ?side1).mono ?_); (case side1 => exact (by repeat (first | exact HI5.out | apply isRd_drewN | apply isRd_drew))); rintro e w6 ⟨rfl, hI6, hB6⟩; have HI6 := zM hI6; have HB6 := zM (below_tr (by repeat (first | exact HB5.out | apply zN | apply zD | apply zA)) hB6); obtain ⟨v6, hb6, hg6, hr6⟩ := hI6; have hz6 := (zX hb6 1).trans rfl; have hf6 := zY hb6 1; have HBL6 := zM hb6; have HR6 := zM hr6; clear hb6 hB6 hr6)))
      (try simp only [Exit.inBlock, Exit.then])
      (first | refine bodyPost_ret (results_none rfl _ _ _) rfl ?_ | refine bodyPost_end (results_none rfl _ _ _) rfl ?_)
      have hw2 : wrap64 (j + 1) = j + 1 := wrap_id' (by omega) (by omega)
      exact ⟨rfl, by show IsRd B _ g s (wrap64 (j + 1)) y; rw [hw2]; exact isRd_at HBL6.out hg6 HR6.out _, HB6.out.setCell (p := ⟨g, 1, none⟩) hg6 _, by have := HL1.out; have := hml.1; show y.length ≤ 64; omega, by show 0 ≤ wrap64 (j + 1); omega, by show wrap64 (j + 1) ≤ _; omega⟩
     ·
      rw [if_neg c4] at H
      have c4b : (nxS s j == 41) = false := zE c4
      clear c4
      by_cases c6 : nxS s j = 44
      ·
       rw [if_pos c6] at H
       have c6b : (nxS s j == 44) = true := zG c6
       have hjs : j < (s.size : Int) := nx_lt c6 (by decide)
       clear c6
       by_cases c7 : n = 4
       ·
        rw [if_pos c7] at H
        obtain rfl := zS H
        clear H
        have c7b : (n == 4) = true := zG c7
        clear c7
        go_wp2_with (first | (go_at_call 64; (refine (T1 _ ?side1).mono ?_); (case side1 => exact HI0s.out); rintro e w1 ⟨rfl, hI1, hB1, hl1, hj1, hk1⟩; replace hI1 : IsRd B w1 g s j m := hI1; have HL1 := zM (show m.length ≤ 64 from hl1); replace hj1 : 0 ≤ j := hj1; replace hk1 : j ≤ (s.size : Int) := hk1; have HI1 := zM hI1; have HB1 := zM (below_tr (HB0.out.setCell (p := ⟨g, 1, none⟩) hg0 _) hB1); obtain ⟨v1, hb1, hg1, hr1⟩ := hI1; obtain ⟨g5, cap5, rfl⟩ := R_some hr1 hcm; have hz1 := (zX hb1 2).trans rfl; have hz1b := (zX hb1 1).trans rfl; have HBL := zM hb1; have HR1 := zM hr1; obtain ⟨ce, hce1, hce2, hce3, hce4⟩ := Kd.R_elem hr1 z33 (c : Int) (by omega) (by omega); have HCE := zM hce3; have HCL := zM hce1; have HCM := zM hce2; clear hb1 hB1 hr1 hce1 hce2 hce3 hce4) | ((with_reducible refine gate_store (t := 3) (p := 23) rfl ?_); refine rd_store (w0 := w) (B := B) (g5 := g5) (cap5 := cap5) (c := c) (n := n) (m := m) (ce := ce) rfl rfl (p := .tmp 23) (x := .tmp 21) rfl rfl rfl ?sR hcm HCL.out HCE.out HCM.out ?sB ?sT ?_; (case sT => kernel_rfl); (case sR => exact (by repeat (first | exact HR1.out | apply Kd.R_drewN | apply Kd.R_drew))); (case sB => exact (by repeat (first | exact HB1.out | apply zN | apply zD | apply zA))); intro w5 ho hb hg5; have hb5 := (hg5.block g (show g < _ from blk_lt HBL.out) (Kd.R_ne HR1.out HBL.out (by decide))).trans HBL.out; have HI5 := zM (isRd_back hb5 hg1 hml ho); have HB5 := zM hb; clear hg5 hb ho hb5) | (go_at_call 80; (refine (N1 _ hj1 ?side1).mono ?_); (case side1 => exact (by repeat (first | exact HI5.out | apply isRd_drewN | apply isRd_drew))); rintro e w6 ⟨rfl, hI6, hB6⟩; have HI6 := zM hI6; have HB6 := zM (below_tr (by repeat (first | exact HB5.out | apply zN | apply zD | apply zA)) hB6); obtain ⟨v6, hb6, hg6, hr6⟩ := hI6; have hz6 := (zX hb6 1).trans rfl; have hf6 := zY hb6 1; have HBL6 := zM hb6; have HR6 := zM hr6; clear hb6 hB6 hr6) | (go_at_call 65; (refine (rd_give _ _ _ _).mono ?_); rintro e w7 ⟨rfl, rfl⟩))
        repeat (go_quiet (first | (go_at_call 64; (refine (T1 _ ?side1).mono ?_); (case side1 => exact HI0s.out); rintro e w1 ⟨rfl, hI1, hB1, hl1, hj1, hk1⟩; replace hI1 : IsRd B w1 g s j m := hI1; have HL1 := zM (show m.length ≤ 64 from hl1); replace hj1 : 0 ≤ j := hj1; replace hk1 : j ≤ (s.size : Int) := hk1; have HI1 := zM hI1; have HB1 := zM (below_tr (HB0.out.setCell (p := ⟨g, 1, none⟩) hg0 _) hB1); obtain ⟨v1, hb1, hg1, hr1⟩ := hI1; obtain ⟨g5, cap5, rfl⟩ := R_some hr1 hcm; have hz1 := (zX hb1 2).trans rfl; have hz1b := (zX hb1 1).trans rfl; have HBL := zM hb1; have HR1 := zM hr1; obtain ⟨ce, hce1, hce2, hce3, hce4⟩ := Kd.R_elem hr1 z33 (c : Int) (by omega) (by omega); have HCE := zM hce3; have HCL := zM hce1; have HCM := zM hce2; clear hb1 hB1 hr1 hce1 hce2 hce3 hce4) | ((with_reducible refine gate_store (t := 3) (p := 23) rfl ?_); refine rd_store (w0 := w) (B := B) (g5 := g5) (cap5 := cap5) (c := c) (n := n) (m := m) (ce := ce) rfl rfl (p := .tmp 23) (x := .tmp 21) rfl rfl rfl ?sR hcm HCL.out HCE.out HCM.out ?sB ?sT ?_; (case sT => kernel_rfl); (case sR => exact (by repeat (first | exact HR1.out | apply Kd.R_drewN | apply Kd.R_drew))); (case sB => exact (by repeat (first | exact HB1.out | apply zN | apply zD | apply zA))); intro w5 ho hb hg5; have hb5 := (hg5.block g (show g < _ from blk_lt HBL.out) (Kd.R_ne HR1.out HBL.out (by decide))).trans HBL.out; have HI5 := zM (isRd_back hb5 hg1 hml ho); have HB5 := zM hb; clear hg5 hb ho hb5) | (go_at_call 80; (refine (N1 _ hj1 ?side1).mono ?_); (case side1 => exact (by repeat (first | exact HI5.out | apply isRd_drewN | apply isRd_drew))); rintro e w6 ⟨rfl, hI6, hB6⟩; have HI6 := zM hI6; have HB6 := zM (below_tr (by repeat (first | exact HB5.out | apply zN | apply zD | apply zA)) hB6); obtain ⟨v6, hb6, hg6, hr6⟩ := hI6; have hz6 := (zX hb6 1).trans rfl; have hf6 := zY hb6 1; have HBL6 := zM hb6; have HR6 := zM hr6; clear hb6 hB6 hr6) | (go_at_call 65; (refine (rd_give _ _ _ _).mono ?_); rintro e w7 ⟨rfl, rfl⟩)); try go_wp2_with (first | (go_at_call 64; (refine (T1 _ ?side1).mono ?_); (case side1 => exact HI0s.out); rintro e w1 ⟨rfl, hI1, hB1, hl1, hj1, hk1⟩; replace hI1 : IsRd B w1 g s j m := hI1; have HL1 := zM (show m.length ≤ 64 from hl1); replace hj1 : 0 ≤ j := hj1; replace hk1 : j ≤ (s.size : Int) := hk1; have HI1 := zM hI1; have HB1 := zM (below_tr (HB0.out.setCell (p := ⟨g, 1, none⟩) hg0 _) hB1); obtain ⟨v1, hb1, hg1, hr1⟩ := hI1; obtain ⟨g5, cap5, rfl⟩ := R_some hr1 hcm; have hz1 := (zX hb1 2).trans rfl; have hz1b := (zX hb1 1).trans rfl; have HBL := zM hb1; have HR1 := zM hr1; obtain ⟨ce, hce1, hce2, hce3, hce4⟩ := Kd.R_elem hr1 z33 (c : Int) (by omega) (by omega); have HCE := zM hce3; have HCL := zM hce1; have HCM := zM hce2; clear hb1 hB1 hr1 hce1 hce2 hce3 hce4) | ((with_reducible refine gate_store (t := 3) (p := 23) rfl ?_); refine rd_store (w0 := w) (B := B) (g5 := g5) (cap5 := cap5) (c := c) (n := n) (m := m) (ce := ce) rfl rfl (p := .tmp 23) (x := .tmp 21) rfl rfl rfl ?sR hcm HCL.out HCE.out HCM.out ?sB ?sT ?_; (case sT => kernel_rfl); (case sR => exact (by repeat (first | exact HR1.out | apply Kd.R_drewN | apply Kd.R_drew))); (case sB => exact (by repeat (first | exact HB1.out | apply zN | apply zD | apply zA))); intro w5 ho hb hg5; have hb5 := (hg5.block g (show g < _ from blk_lt HBL.out) (Kd.R_ne HR1.out HBL.out (by decide))).trans HBL.out; have HI5 := zM (isRd_back hb5 hg1 hml ho); have HB5 := zM hb; clear hg5 hb ho hb5) | (go_at_call 80; (refine (N1 _ hj1 ?side1).mono ?_); (case side1 => exact (by repeat (first | exact HI5.out | apply isRd_drewN | apply isRd_drew))); rintro e w6 ⟨rfl, hI6, hB6⟩; have HI6 := zM hI6; have HB6 := zM (below_tr (by repeat (first | exact HB5.out | apply zN | apply zD | apply zA)) hB6); obtain ⟨v6, hb6, hg6, hr6⟩ := hI6; have hz6 := (zX hb6 1).trans rfl; have hf6 := zY hb6 1; have HBL6 := zM hb6; have HR6 := zM hr6; clear hb6 hB6 hr6) | (go_at_call 65; (refine (rd_give _ _ _ _).mono ?_); rintro e w7 ⟨rfl, rfl⟩)))
        exact ⟨rfl, rfl, (by repeat (first | exact HB6.out | apply zN | apply zD | apply zA))⟩
       ·
        rw [if_neg c7] at H
        have c7b : (n == 4) = false := zE c7
        clear c7
        have H' := zM H
        clear H
        go_wp2_with (first | (go_at_call 64; (refine (T1 _ ?side1).mono ?_); (case side1 => exact HI0s.out); rintro e w1 ⟨rfl, hI1, hB1, hl1, hj1, hk1⟩; replace hI1 : IsRd B w1 g s j m := hI1; have HL1 := zM (show m.length ≤ 64 from hl1); replace hj1 : 0 ≤ j := hj1; replace hk1 : j ≤ (s.size : Int) := hk1; have HI1 := zM hI1; have HB1 := zM (below_tr (HB0.out.setCell (p := ⟨g, 1, none⟩) hg0 _) hB1); obtain ⟨v1, hb1, hg1, hr1⟩ := hI1; obtain ⟨g5, cap5, rfl⟩ := R_some hr1 hcm; have hz1 := (zX hb1 2).trans rfl; have hz1b := (zX hb1 1).trans rfl; have HBL := zM hb1; have HR1 := zM hr1; obtain ⟨ce, hce1, hce2, hce3, hce4⟩ := Kd.R_elem hr1 z33 (c : Int) (by omega) (by omega); have HCE := zM hce3; have HCL := zM hce1; have HCM := zM hce2; clear hb1 hB1 hr1 hce1 hce2 hce3 hce4) | ((with_reducible refine gate_store (t := 3) (p := 23) rfl ?_); refine rd_store (w0 := w) (B := B) (g5 := g5) (cap5 := cap5) (c := c) (n := n) (m := m) (ce := ce) rfl rfl (p := .tmp 23) (x := .tmp 21) rfl rfl rfl ?sR hcm HCL.out HCE.out HCM.out ?sB ?sT ?_; (case sT => kernel_rfl); (case sR => exact (by repeat (first | exact HR1.out | apply Kd.R_drewN | apply Kd.R_drew))); (case sB => exact (by repeat (first | exact HB1.out | apply zN | apply zD | apply zA))); intro w5 ho hb hg5; have hb5 := (hg5.block g (show g < _ from blk_lt HBL.out) (Kd.R_ne HR1.out HBL.out (by decide))).trans HBL.out; have HI5 := zM (isRd_back hb5 hg1 hml ho); have HB5 := zM hb; clear hg5 hb ho hb5) | (go_at_call 80; (refine (N1 _ hj1 ?side1).mono ?_); (case side1 => exact (by repeat (first | exact HI5.out | apply isRd_drewN | apply isRd_drew))); rintro e w6 ⟨rfl, hI6, hB6⟩; have HI6 := zM hI6; have HB6 := zM (below_tr (by repeat (first | exact HB5.out | apply zN | apply zD | apply zA)) hB6); obtain ⟨v6, hb6, hg6, hr6⟩ := hI6; have hz6 := (zX hb6 1).trans rfl; have hf6 := zY hb6 1; have HBL6 := zM hb6; have HR6 := zM hr6; clear hb6 hB6 hr6))
        repeat (go_quiet (first | (go_at_call 64; (refine (T1 _ ?side1).mono ?_); (case side1 => exact HI0s.out); rintro e w1 ⟨rfl, hI1, hB1, hl1, hj1, hk1⟩; replace hI1 : IsRd B w1 g s j m := hI1; have HL1 := zM (show m.length ≤ 64 from hl1); replace hj1 : 0 ≤ j := hj1; replace hk1 : j ≤ (s.size : Int) := hk1; have HI1 := zM hI1; have HB1 := zM (below_tr (HB0.out.setCell (p := ⟨g, 1, none⟩) hg0 _) hB1); obtain ⟨v1, hb1, hg1, hr1⟩ := hI1; obtain ⟨g5, cap5, rfl⟩ := R_some hr1 hcm; have hz1 := (zX hb1 2).trans rfl; have hz1b := (zX hb1 1).trans rfl; have HBL := zM hb1; have HR1 := zM hr1; obtain ⟨ce, hce1, hce2, hce3, hce4⟩ := Kd.R_elem hr1 z33 (c : Int) (by omega) (by omega); have HCE := zM hce3; have HCL := zM hce1; have HCM := zM hce2; clear hb1 hB1 hr1 hce1 hce2 hce3 hce4) | ((with_reducible refine gate_store (t := 3) (p := 23) rfl ?_); refine rd_store (w0 := w) (B := B) (g5 := g5) (cap5 := cap5) (c := c) (n := n) (m := m) (ce := ce) rfl rfl (p := .tmp 23) (x := .tmp 21) rfl rfl rfl ?sR hcm HCL.out HCE.out HCM.out ?sB ?sT ?_; (case sT => kernel_rfl); (case sR => exact (by repeat (first | exact HR1.out | apply Kd.R_drewN | apply Kd.R_drew))); (case sB => exact (by repeat (first | exact HB1.out | apply zN | apply zD | apply zA))); intro w5 ho hb hg5; have hb5 := (hg5.block g (show g < _ from blk_lt HBL.out) (Kd.R_ne HR1.out HBL.out (by decide))).trans HBL.out; have HI5 := zM (isRd_back hb5 hg1 hml ho); have HB5 := zM hb; clear hg5 hb ho hb5) | (go_at_call 80; (refine (N1 _ hj1 ?side1).mono ?_); (case side1 => exact (by repeat (first | exact HI5.out | apply isRd_drewN | apply isRd_drew))); rintro e w6 ⟨rfl, hI6, hB6⟩; have HI6 := zM hI6; have HB6 := zM (below_tr (by repeat (first | exact HB5.out | apply zN | apply zD | apply zA)) hB6); obtain ⟨v6, hb6, hg6, hr6⟩ := hI6; have hz6 := (zX hb6 1).trans rfl; have hf6 := zY hb6 1; have HBL6 := zM hb6; have HR6 := zM hr6; clear hb6 hB6 hr6)); try go_wp2_with (first | (go_at_call 64; (refine (T1 _ ?side1).mono ?_); (case side1 => exact HI0s.out); rintro e w1 ⟨rfl, hI1, hB1, hl1, hj1, hk1⟩; replace hI1 : IsRd B w1 g s j m := hI1; have HL1 := zM (show m.length ≤ 64 from hl1); replace hj1 : 0 ≤ j := hj1; replace hk1 : j ≤ (s.size : Int) := hk1; have HI1 := zM hI1; have HB1 := zM (below_tr (HB0.out.setCell (p := ⟨g, 1, none⟩) hg0 _) hB1); obtain ⟨v1, hb1, hg1, hr1⟩ := hI1; obtain ⟨g5, cap5, rfl⟩ := R_some hr1 hcm; have hz1 := (zX hb1 2).trans rfl; have hz1b := (zX hb1 1).trans rfl; have HBL := zM hb1; have HR1 := zM hr1; obtain ⟨ce, hce1, hce2, hce3, hce4⟩ := Kd.R_elem hr1 z33 (c : Int) (by omega) (by omega); have HCE := zM hce3; have HCL := zM hce1; have HCM := zM hce2; clear hb1 hB1 hr1 hce1 hce2 hce3 hce4) | ((with_reducible refine gate_store (t := 3) (p := 23) rfl ?_); refine rd_store (w0 := w) (B := B) (g5 := g5) (cap5 := cap5) (c := c) (n := n) (m := m) (ce := ce) rfl rfl (p := .tmp 23) (x := .tmp 21) rfl rfl rfl ?sR hcm HCL.out HCE.out HCM.out ?sB ?sT ?_; (case sT => kernel_rfl); (case sR => exact (by repeat (first | exact HR1.out | apply Kd.R_drewN | apply Kd.R_drew))); (case sB => exact (by repeat (first | exact HB1.out | apply zN | apply zD | apply zA))); intro w5 ho hb hg5; have hb5 := (hg5.block g (show g < _ from blk_lt HBL.out) (Kd.R_ne HR1.out HBL.out (by decide))).trans HBL.out; have HI5 := zM (isRd_back hb5 hg1 hml ho); have HB5 := zM hb; clear hg5 hb ho hb5) | (go_at_call 80; (refine (N1 _ hj1 ?side1).mono ?_); (case side1 => exact (by repeat (first | exact HI5.out | apply isRd_drewN | apply isRd_drew))); rintro e w6 ⟨rfl, hI6, hB6⟩; have HI6 := zM hI6; have HB6 := zM (below_tr (by repeat (first | exact HB5.out | apply zN | apply zD | apply zA)) hB6); obtain ⟨v6, hb6, hg6, hr6⟩ := hI6; have hz6 := (zX hb6 1).trans rfl; have hf6 := zY hb6 1; have HBL6 := zM hb6; have HR6 := zM hr6; clear hb6 hB6 hr6)))
        go_roundg k1
        case measure => have := HK1.out; omega
        case rel => exact ⟨_, j, y, rfl, H', ⟨by have := HK1.out; omega⟩, ⟨(by repeat (first | exact HI6.out | apply isRd_drewN | apply isRd_drew))⟩, ⟨(by repeat (first | exact HB6.out | apply zN | apply zD | apply zA))⟩, ⟨by have := HL1.out; have := hml.1; omega, by have := hml.1; omega, hj1, hjs⟩⟩
      ·
       rw [if_neg c6] at H
       have c6b : (nxS s j == 44) = false := zE c6
       clear c6
       obtain rfl := zS H
       clear H
       go_wp2_with (first | (go_at_call 64; (refine (T1 _ ?side1).mono ?_); (case side1 => exact HI0s.out); rintro e w1 ⟨rfl, hI1, hB1, hl1, hj1, hk1⟩; replace hI1 : IsRd B w1 g s j m := hI1; have HL1 := zM (show m.length ≤ 64 from hl1); replace hj1 : 0 ≤ j := hj1; replace hk1 : j ≤ (s.size : Int) := hk1; have HI1 := zM hI1; have HB1 := zM (below_tr (HB0.out.setCell (p := ⟨g, 1, none⟩) hg0 _) hB1); obtain ⟨v1, hb1, hg1, hr1⟩ := hI1; obtain ⟨g5, cap5, rfl⟩ := R_some hr1 hcm; have hz1 := (zX hb1 2).trans rfl; have hz1b := (zX hb1 1).trans rfl; have HBL := zM hb1; have HR1 := zM hr1; obtain ⟨ce, hce1, hce2, hce3, hce4⟩ := Kd.R_elem hr1 z33 (c : Int) (by omega) (by omega); have HCE := zM hce3; have HCL := zM hce1; have HCM := zM hce2; clear hb1 hB1 hr1 hce1 hce2 hce3 hce4) | ((with_reducible refine gate_store (t := 3) (p := 23) rfl ?_); refine rd_store (w0 := w) (B := B) (g5 := g5) (cap5 := cap5) (c := c) (n := n) (m := m) (ce := ce) rfl rfl (p := .tmp 23) (x := .tmp 21) rfl rfl rfl ?sR hcm HCL.out HCE.out HCM.out ?sB ?sT ?_; (case sT => kernel_rfl); (case sR => exact (by repeat (first | exact HR1.out | apply Kd.R_drewN | apply Kd.R_drew))); (case sB => exact (by repeat (first | exact HB1.out | apply zN | apply zD | apply zA))); intro w5 ho hb hg5; have hb5 := (hg5.block g (show g < _ from blk_lt HBL.out) (Kd.R_ne HR1.out HBL.out (by decide))).trans HBL.out; have HI5 := zM (isRd_back hb5 hg1 hml ho); have HB5 := zM hb; clear hg5 hb ho hb5) | (go_at_call 80; (refine (N1 _ hj1 ?side1).mono ?_); (case side1 => exact (by repeat (first | exact HI5.out | apply isRd_drewN | apply isRd_drew))); rintro e w6 ⟨rfl, hI6, hB6⟩; have HI6 := zM hI6; have HB6 := zM (below_tr (by repeat (first | exact HB5.out | apply zN | apply zD | apply zA)) hB6); obtain ⟨v6, hb6, hg6, hr6⟩ := hI6; have hz6 := (zX hb6 1).trans rfl; have hf6 := zY hb6 1; have HBL6 := zM hb6; have HR6 := zM hr6; clear hb6 hB6 hr6) | (go_at_call 65; (refine (rd_give _ _ _ _).mono ?_); rintro e w7 ⟨rfl, rfl⟩))
       repeat (go_quiet (first | (go_at_call 64; (refine (T1 _ ?side1).mono ?_); (case side1 => exact HI0s.out); rintro e w1 ⟨rfl, hI1, hB1, hl1, hj1, hk1⟩; replace hI1 : IsRd B w1 g s j m := hI1; have HL1 := zM (show m.length ≤ 64 from hl1); replace hj1 : 0 ≤ j := hj1; replace hk1 : j ≤ (s.size : Int) := hk1; have HI1 := zM hI1; have HB1 := zM (below_tr (HB0.out.setCell (p := ⟨g, 1, none⟩) hg0 _) hB1); obtain ⟨v1, hb1, hg1, hr1⟩ := hI1; obtain ⟨g5, cap5, rfl⟩ := R_some hr1 hcm; have hz1 := (zX hb1 2).trans rfl; have hz1b := (zX hb1 1).trans rfl; have HBL := zM hb1; have HR1 := zM hr1; obtain ⟨ce, hce1, hce2, hce3, hce4⟩ := Kd.R_elem hr1 z33 (c : Int) (by omega) (by omega); have HCE := zM hce3; have HCL := zM hce1; have HCM := zM hce2; clear hb1 hB1 hr1 hce1 hce2 hce3 hce4) | ((with_reducible refine gate_store (t := 3) (p := 23) rfl ?_); refine rd_store (w0 := w) (B := B) (g5 := g5) (cap5 := cap5) (c := c) (n := n) (m := m) (ce := ce) rfl rfl (p := .tmp 23) (x := .tmp 21) rfl rfl rfl ?sR hcm HCL.out HCE.out HCM.out ?sB ?sT ?_; (case sT => kernel_rfl); (case sR => exact (by repeat (first | exact HR1.out | apply Kd.R_drewN | apply Kd.R_drew))); (case sB => exact (by repeat (first | exact HB1.out | apply zN | apply zD | apply zA))); intro w5 ho hb hg5; have hb5 := (hg5.block g (show g < _ from blk_lt HBL.out) (Kd.R_ne HR1.out HBL.out (by decide))).trans HBL.out; have HI5 := zM (isRd_back hb5 hg1 hml ho); have HB5 := zM hb; clear hg5 hb ho hb5) | (go_at_call 80; (refine (N1 _ hj1 ?side1).mono ?_); (case side1 => exact (by repeat (first | exact HI5.out | apply isRd_drewN | apply isRd_drew))); rintro e w6 ⟨rfl, hI6, hB6⟩; have HI6 := zM hI6; have HB6 := zM (below_tr (by repeat (first | exact HB5.out | apply zN | apply zD | apply zA)) hB6); obtain ⟨v6, hb6, hg6, hr6⟩ := hI6; have hz6 := (zX hb6 1).trans rfl; have hf6 := zY hb6 1; have HBL6 := zM hb6; have HR6 := zM hr6; clear hb6 hB6 hr6) | (go_at_call 65; (refine (rd_give _ _ _ _).mono ?_); rintro e w7 ⟨rfl, rfl⟩)); try go_wp2_with (first | (go_at_call 64; (refine (T1 _ ?side1).mono ?_); (case side1 => exact HI0s.out); rintro e w1 ⟨rfl, hI1, hB1, hl1, hj1, hk1⟩; replace hI1 : IsRd B w1 g s j m := hI1; have HL1 := zM (show m.length ≤ 64 from hl1); replace hj1 : 0 ≤ j := hj1; replace hk1 : j ≤ (s.size : Int) := hk1; have HI1 := zM hI1; have HB1 := zM (below_tr (HB0.out.setCell (p := ⟨g, 1, none⟩) hg0 _) hB1); obtain ⟨v1, hb1, hg1, hr1⟩ := hI1; obtain ⟨g5, cap5, rfl⟩ := R_some hr1 hcm; have hz1 := (zX hb1 2).trans rfl; have hz1b := (zX hb1 1).trans rfl; have HBL := zM hb1; have HR1 := zM hr1; obtain ⟨ce, hce1, hce2, hce3, hce4⟩ := Kd.R_elem hr1 z33 (c : Int) (by omega) (by omega); have HCE := zM hce3; have HCL := zM hce1; have HCM := zM hce2; clear hb1 hB1 hr1 hce1 hce2 hce3 hce4) | ((with_reducible refine gate_store (t := 3) (p := 23) rfl ?_); refine rd_store (w0 := w) (B := B) (g5 := g5) (cap5 := cap5) (c := c) (n := n) (m := m) (ce := ce) rfl rfl (p := .tmp 23) (x := .tmp 21) rfl rfl rfl ?sR hcm HCL.out HCE.out HCM.out ?sB ?sT ?_; (case sT => kernel_rfl); (case sR => exact (by repeat (first | exact HR1.out | apply Kd.R_drewN | apply Kd.R_drew))); (case sB => exact (by repeat (first | exact HB1.out | apply zN | apply zD | apply zA))); intro w5 ho hb hg5; have hb5 := (hg5.block g (show g < _ from blk_lt HBL.out) (Kd.R_ne HR1.out HBL.out (by decide))).trans HBL.out; have HI5 := zM (isRd_back hb5 hg1 hml ho); have HB5 := zM hb; clear hg5 hb ho hb5) | (go_at_call 80; (refine (N1 _ hj1 ?side1).mono ?_); (case side1 => exact (by repeat (first | exact HI5.out | apply isRd_drewN | apply isRd_drew))); rintro e w6 ⟨rfl, hI6, hB6⟩; have HI6 := zM hI6; have HB6 := zM (below_tr (by repeat (first | exact HB5.out | apply zN | apply zD | apply zA)) hB6); obtain ⟨v6, hb6, hg6, hr6⟩ := hI6; have hz6 := (zX hb6 1).trans rfl; have hf6 := zY hb6 1; have HBL6 := zM hb6; have HR6 := zM hr6; clear hb6 hB6 hr6) | (go_at_call 65; (refine (rd_give _ _ _ _).mono ?_); rintro e w7 ⟨rfl, rfl⟩)))
       exact ⟨rfl, rfl, (by repeat (first | exact HB6.out | apply zN | apply zD | apply zA))⟩
    ·
     rw [if_neg hcm] at H; cases H
theorem rd_all : ∀ k, TermC k ∧ ArgsC k := by
 intro k
 induction k using Nat.strongRecOn with
 | _ k ih =>
  have ha : ArgsC k := rdArgs_step k fun k' h => (ih k' h).1
  refine ⟨?_, ha⟩
  cases k with
  | zero => intro B g s i l r w _ _ _ _ h; simp [rdTerm] at h
  | succ k => exact rdTerm_step k (ih k (Nat.lt_succ_self k)).2

theorem rd_assert (W : World) (v : Value) (xT : TypeId) : (Instr.typeAssert (.iface 89 v) xT 89 true).run Tryd.prog W = .ok (.tuple #[v, .bool true]) W := by kernel_rfl
attribute [local go_sem] rd_assert
set_option maxHeartbeats 4000000 in
set_option maxRecDepth 100000 in
theorem parse_catch (pt pa pe : Nat) (v : Value) (i0 e0 p er : Int) (w : World) (h1 : w.heap[pt]? = some (.cells #[v] 23 (0, 0))) (h2 : w.heap[pa]? = some (.cells #[.int .i64 i0] 3 (0, 0))) (h3 : w.heap[pe]? = some (.cells #[.int .i64 e0] 27 (0, 0))) (n1 : pt ≠ pa) (n2 : pt ≠ pe) (n3 : pa ≠ pe) :
 CallsD Tryd.prog 63 #[.pointer (some ⟨pt, 0, none⟩), .pointer (some ⟨pa, 0, none⟩), .pointer (some ⟨pe, 0, none⟩)] (.panicking (faultV p er)) w fun e u' w' =>
  e = .returned (.tuple #[]) ∧ u' = .panicking [{ v := .iface 89 (.agg #[.int .i64 p, .int .i64 er]), recovered := true }] ∧
   w'.heap = ((((w.setCell ⟨pt, 0, none⟩ (.slice none 0 0)).setCell ⟨pa, 0, none⟩ (.int .i64 p)).setCell ⟨pe, 0, none⟩ (.int .i64 er)).alloc (.cells #[.int .i64 p, .int .i64 er] 89)).heap ∧ w'.os = w.os ∧ w'.tape = w.tape ∧ w'.output = w.output := by
 have c1 := (zX h1 0).trans rfl
 have c2 := (zX h2 0).trans rfl
 have c3 := (zX h3 0).trans rfl
 have f1 := zY h1 0
 have f2 := zY h2 0
 have f3 := zY h3 0
 refine callsD_of_wpS Tryd.func63 rfl fun c₀ cs hu => ?_
 simp only [faultV] at hu
 simp only [Tryd.ntmps63, List.size_toArray, List.length_cons, List.length_nil, Nat.reduceAdd, Nat.reduceSub, Array.replicate_succ, Array.replicate_zero, List.push_toArray, List.append_toArray, List.nil_append, List.cons_append]
 apply wpS_seq
 apply wpS_region
 simp [wpOpsS, go_sem, recoverD, hu, Exit.thenS]
 refine wpS_of_wp ?_
 have l1 := blk_lt h1
 have l2 := blk_lt h2
 have l3 := blk_lt h3
 go_wp2
 go_region
 exact ⟨rfl, _, rfl, .tuple #[], results_none rfl _ _ _, rfl, rfl, rfl, rfl, rfl, rfl⟩
set_option maxHeartbeats 4000000 in
set_option maxRecDepth 100000 in
theorem parse_idle (x y z : Value) (w : World) : CallsD Tryd.prog 63 #[x, y, z] .returning w fun e u' w' => e = .returned (.tuple #[]) ∧ u' = .returning ∧ w' = w := by
 refine callsD_of_wpS Tryd.func63 rfl fun c₀ cs hu => ?_
 simp only [Tryd.ntmps63, List.size_toArray, List.length_cons, List.length_nil, Nat.reduceAdd, Nat.reduceSub, Array.replicate_succ, Array.replicate_zero, List.push_toArray, List.append_toArray, List.nil_append, List.cons_append]
 apply wpS_seq
 apply wpS_region
 simp [wpOpsS, go_sem, recoverD, hu, Exit.thenS]
 refine wpS_of_wp ?_
 go_wp2
 exact ⟨rfl, .returning, by cases c₀; simp_all, .tuple #[], results_none rfl _ _ _, rfl, rfl, rfl⟩

/-! ### Parse -/
def parseF (k : Nat) (s : ByteArray) : Option (List RdCell × Int × Int) :=
 if (s.size : Int) > 1024 then some ([], 0, 2) else (rdTerm k s 0 []).bind fun
  | .inl x => some ([], x.1, x.2)
  | .inr y => if y.1 < (s.size : Int) then some ([], y.1, 3) else some (y.2, 0, 0)
theorem isRd_new {W : World} {B : Nat} (s : ByteArray) (hB : B = W.heap.size) : IsRd B (W.alloc (.cells #[.string s, .int .i64 0, .slice none 0 0] 93)) W.heap.size s 0 [] :=
 ⟨_, by simpa using heap_alloc_new W _, by omega, Kd.R_nil _ _ _ _ _⟩
/-- The three results' cells, and the reader behind them. -/
def parseW (w : World) : World := (((w.alloc (.cells #[.slice none 0 0] 23)).alloc (.cells #[.int .i64 0] 3)).alloc (.cells #[.int .i64 0] 27))
theorem parseW_cells (w : World) : (parseW w).heap[w.heap.size]? = some (.cells #[.slice none 0 0] 23 (0, 0)) ∧ (parseW w).heap[w.heap.size + 1]? = some (.cells #[.int .i64 0] 3 (0, 0)) ∧ (parseW w).heap[w.heap.size + 1 + 1]? = some (.cells #[.int .i64 0] 27 (0, 0)) ∧ (parseW w).heap.size = w.heap.size + 1 + 1 + 1 ∧ Below w.heap.size w (parseW w) := by
 have a1 := heap_alloc_new w (.cells #[.slice none 0 0] 23)
 have a2 := heap_alloc_new (w.alloc (.cells #[.slice none 0 0] 23)) (.cells #[.int .i64 0] 3)
 have a3 := heap_alloc_new ((w.alloc (.cells #[.slice none 0 0] 23)).alloc (.cells #[.int .i64 0] 3)) (.cells #[.int .i64 0] 27)
 have b1 : (w.alloc (.cells #[.slice none 0 0] 23)).heap.size = w.heap.size + 1 := by simp
 have b2 : ((w.alloc (.cells #[.slice none 0 0] 23)).alloc (.cells #[.int .i64 0] 3)).heap.size = w.heap.size + 1 + 1 := by simp
 rw [b1] at a2
 rw [b2] at a3
 have c2 := Below.heap_alloc (w.alloc (.cells #[.slice none 0 0] 23)) (.cells #[.int .i64 0] 3)
 have c3 := Below.heap_alloc ((w.alloc (.cells #[.slice none 0 0] 23)).alloc (.cells #[.int .i64 0] 3)) (.cells #[.int .i64 0] 27)
 refine ⟨?_, ?_, ?_, by unfold parseW; simp, zA (zA (zA (Below.refl _ _) _) _) _⟩
 ·
  exact (c3 _ (by omega)).trans ((c2 _ (by omega)).trans a1)
 ·
  exact (c3 _ (by omega)).trans a2
 ·
  exact a3
theorem R_under {w : World} {b : Nat} {v u : Value} {l : List RdCell} (h : Kd.R k33 33 w b (fun _ => True) v l) {p : Addr} (hp : p.block < b) : Kd.R k33 33 (w.setCell p u) b (fun _ => True) v l :=
 Kd.R_mono (Kd.R_far (Kd.R_bound h) (fun k hk => by have := hk.2.1; omega) u) (fun _ _ => trivial)
theorem clone_same (m : List RdCell) (h : m.length ≤ 64) : api_Cell_46.f m = some m := by
 unfold api_Cell_46.f
 rw [if_pos (by simp; omega)]
 rfl
theorem isRd_first (w : World) (s : ByteArray) : IsRd (w.heap.size + 1 + 1 + 1) ((((w.alloc (.cells #[.slice none 0 0] 23)).alloc (.cells #[.int .i64 0] 3)).alloc (.cells #[.int .i64 0] 27)).alloc (.cells #[.string s, .int .i64 0, .slice none 0 0] 93)) (w.heap.size + 1 + 1 + 1) s 0 [] := by
 have h := isRd_new (W := parseW w) s (parseW_cells w).2.2.2.1.symm
 rw [(parseW_cells w).2.2.2.1] at h
 exact h
theorem below_alloc' {B : Nat} {w : World} (h : w.heap.size = B) (o : Obj) : Below B w (w.alloc o) := by
 subst h
 exact zA (Below.refl _ _) o
theorem parse_kept {w W : World} (hB : Below (w.heap.size + 1 + 1 + 1) (parseW w) W) : W.heap[w.heap.size]? = some (.cells #[.slice none 0 0] 23 (0, 0)) ∧ W.heap[w.heap.size + 1]? = some (.cells #[.int .i64 0] 3 (0, 0)) ∧ W.heap[w.heap.size + 1 + 1]? = some (.cells #[.int .i64 0] 27 (0, 0)) ∧ w.heap.size + 1 + 1 + 1 ≤ W.heap.size ∧ Below w.heap.size w W := by
 obtain ⟨h1, h2, h3, h4, h5⟩ := parseW_cells w
 refine ⟨(hB.block _ (by omega)).trans h1, (hB.block _ (by omega)).trans h2, (hB.block _ (by omega)).trans h3, by rw [← h4]; exact hB.size, ?_⟩
 exact ⟨hB.os.trans h5.os, hB.tape.trans h5.tape, hB.output.trans h5.output, Nat.le_trans h5.size hB.size, fun k hk => (hB.block k (by omega)).trans (h5.block k hk)⟩
/-- A reading that went well, behind its stores. -/
theorem parse_back {w W W8 : World} {A8 : Option Addr} {c8 : Nat} {m : List RdCell} (hB : Below (w.heap.size + 1 + 1 + 1) (parseW w) W) (hB8 : Below W.heap.size W W8) (hr : Kd.R k33 33 W8 W.heap.size (fun _ => True) (.slice A8 m.length c8) m) :
 (((W8.setCell ⟨w.heap.size, 0, none⟩ (.slice A8 m.length c8)).setCell ⟨w.heap.size + 1, 0, none⟩ (.int .i64 0)).setCell ⟨w.heap.size + 1 + 1, 0, none⟩ (.int .i64 0)).cell? ⟨w.heap.size, 0, none⟩ = some (.slice A8 m.length c8) ∧
 (((W8.setCell ⟨w.heap.size, 0, none⟩ (.slice A8 m.length c8)).setCell ⟨w.heap.size + 1, 0, none⟩ (.int .i64 0)).setCell ⟨w.heap.size + 1 + 1, 0, none⟩ (.int .i64 0)).cell? ⟨w.heap.size + 1, 0, none⟩ = some (.int .i64 0) ∧
 (((W8.setCell ⟨w.heap.size, 0, none⟩ (.slice A8 m.length c8)).setCell ⟨w.heap.size + 1, 0, none⟩ (.int .i64 0)).setCell ⟨w.heap.size + 1 + 1, 0, none⟩ (.int .i64 0)).cell? ⟨w.heap.size + 1 + 1, 0, none⟩ = some (.int .i64 0) ∧
 Kd.R k33 33 (((W8.setCell ⟨w.heap.size, 0, none⟩ (.slice A8 m.length c8)).setCell ⟨w.heap.size + 1, 0, none⟩ (.int .i64 0)).setCell ⟨w.heap.size + 1 + 1, 0, none⟩ (.int .i64 0)) w.heap.size (fun _ => True) (.slice A8 m.length c8) m ∧
 Below w.heap.size w (((W8.setCell ⟨w.heap.size, 0, none⟩ (.slice A8 m.length c8)).setCell ⟨w.heap.size + 1, 0, none⟩ (.int .i64 0)).setCell ⟨w.heap.size + 1 + 1, 0, none⟩ (.int .i64 0)) := by
 obtain ⟨d1, d2, d3, hs, hb⟩ := parse_kept hB
 have c1 := (hB8.block _ (show w.heap.size < _ by omega)).trans d1
 have c2 := (hB8.block _ (show w.heap.size + 1 < _ by omega)).trans d2
 have c3 := (hB8.block _ (show w.heap.size + 1 + 1 < _ by omega)).trans d3
 have s1 := blk_set c1 0 (.slice A8 m.length c8)
 have o1 := fun k (hk : k ≠ w.heap.size) => Below.heap_setCell W8 ⟨w.heap.size, 0, none⟩ (.slice A8 m.length c8) k hk
 have c2' := (o1 (w.heap.size + 1) (by omega)).trans c2
 have c3' := (o1 (w.heap.size + 1 + 1) (by omega)).trans c3
 have s2 := blk_set c2' 0 (.int .i64 0)
 have o2 := fun k (hk : k ≠ w.heap.size + 1) => Below.heap_setCell (W8.setCell ⟨w.heap.size, 0, none⟩ (.slice A8 m.length c8)) ⟨w.heap.size + 1, 0, none⟩ (.int .i64 0) k hk
 have c3'' := (o2 (w.heap.size + 1 + 1) (by omega)).trans c3'
 have s3 := blk_set c3'' 0 (.int .i64 0)
 have o3 := fun k (hk : k ≠ w.heap.size + 1 + 1) => Below.heap_setCell ((W8.setCell ⟨w.heap.size, 0, none⟩ (.slice A8 m.length c8)).setCell ⟨w.heap.size + 1, 0, none⟩ (.int .i64 0)) ⟨w.heap.size + 1 + 1, 0, none⟩ (.int .i64 0) k hk
 have e1 := (o3 w.heap.size (by omega)).trans ((o2 _ (by omega)).trans s1)
 have e2 := (o3 (w.heap.size + 1) (by omega)).trans s2
 refine ⟨(zX e1 0).trans rfl, (zX e2 0).trans rfl, (zX s3 0).trans rfl, Kd.R_lower (R_under (R_under (R_under hr (show w.heap.size < _ by omega)) (show w.heap.size + 1 < _ by omega)) (show w.heap.size + 1 + 1 < _ by omega)) (by omega), ?_⟩
 have b1 : Below w.heap.size w W8 := ⟨hB8.os.trans hb.os, hB8.tape.trans hb.tape, hB8.output.trans hb.output, Nat.le_trans hb.size hB8.size, fun k hk => (hB8.block k (by omega)).trans (hb.block k hk)⟩
 exact ((b1.setCell (p := ⟨w.heap.size, 0, none⟩) (Nat.le_refl _) _).setCell (p := ⟨w.heap.size + 1, 0, none⟩) (show w.heap.size ≤ w.heap.size + 1 by omega) _).setCell (p := ⟨w.heap.size + 1 + 1, 0, none⟩) (show w.heap.size ≤ w.heap.size + 1 + 1 by omega) _
theorem parse_after {w W w2 : World} {p er : Int} (hB : Below (w.heap.size + 1 + 1 + 1) (parseW w) W)
 (hh : w2.heap = ((((W.setCell ⟨w.heap.size, 0, none⟩ (.slice none 0 0)).setCell ⟨w.heap.size + 1, 0, none⟩ (.int .i64 p)).setCell ⟨w.heap.size + 1 + 1, 0, none⟩ (.int .i64 er)).alloc (.cells #[.int .i64 p, .int .i64 er] 89)).heap) (h5 : w2.os = W.os) (h6 : w2.tape = W.tape) (h7 : w2.output = W.output) :
 w2.cell? ⟨w.heap.size, 0, none⟩ = some (.slice none 0 0) ∧ w2.cell? ⟨w.heap.size + 1, 0, none⟩ = some (.int .i64 p) ∧ w2.cell? ⟨w.heap.size + 1 + 1, 0, none⟩ = some (.int .i64 er) ∧ Below w.heap.size w w2 := by
 obtain ⟨c1, c2, c3, hs, hb⟩ := parse_kept hB
 have s1 := blk_set c1 0 (.slice none 0 0)
 have o1 := fun k (hk : k ≠ w.heap.size) => Below.heap_setCell W ⟨w.heap.size, 0, none⟩ (.slice none 0 0) k hk
 have c2' := (o1 (w.heap.size + 1) (by omega)).trans c2
 have c3' := (o1 (w.heap.size + 1 + 1) (by omega)).trans c3
 have s2 := blk_set c2' 0 (.int .i64 p)
 have o2 := fun k (hk : k ≠ w.heap.size + 1) => Below.heap_setCell (W.setCell ⟨w.heap.size, 0, none⟩ (.slice none 0 0)) ⟨w.heap.size + 1, 0, none⟩ (.int .i64 p) k hk
 have c3'' := (o2 (w.heap.size + 1 + 1) (by omega)).trans c3'
 have s3 := blk_set c3'' 0 (.int .i64 er)
 have o3 := fun k (hk : k ≠ w.heap.size + 1 + 1) => Below.heap_setCell ((W.setCell ⟨w.heap.size, 0, none⟩ (.slice none 0 0)).setCell ⟨w.heap.size + 1, 0, none⟩ (.int .i64 p)) ⟨w.heap.size + 1 + 1, 0, none⟩ (.int .i64 er) k hk
 have hz : (((W.setCell ⟨w.heap.size, 0, none⟩ (.slice none 0 0)).setCell ⟨w.heap.size + 1, 0, none⟩ (.int .i64 p)).setCell ⟨w.heap.size + 1 + 1, 0, none⟩ (.int .i64 er)).heap.size = W.heap.size := by simp
 have o4 := fun k hk => Below.heap_alloc (((W.setCell ⟨w.heap.size, 0, none⟩ (.slice none 0 0)).setCell ⟨w.heap.size + 1, 0, none⟩ (.int .i64 p)).setCell ⟨w.heap.size + 1 + 1, 0, none⟩ (.int .i64 er)) (.cells #[.int .i64 p, .int .i64 er] 89) k (by rw [hz]; exact hk)
 have e1 : w2.heap[w.heap.size]? = some (.cells (#[.slice none 0 0].setIfInBounds 0 (.slice none 0 0)) 23 (0, 0)) := by
  rw [hh]; exact (o4 _ (by omega)).trans ((o3 _ (by omega)).trans ((o2 _ (by omega)).trans s1))
 have e2 : w2.heap[w.heap.size + 1]? = some (.cells (#[.int .i64 0].setIfInBounds 0 (.int .i64 p)) 3 (0, 0)) := by
  rw [hh]; exact (o4 _ (by omega)).trans ((o3 _ (by omega)).trans s2)
 have e3 : w2.heap[w.heap.size + 1 + 1]? = some (.cells (#[.int .i64 0].setIfInBounds 0 (.int .i64 er)) 27 (0, 0)) := by
  rw [hh]; exact (o4 _ (by omega)).trans s3
 refine ⟨(zX e1 0).trans rfl, (zX e2 0).trans rfl, (zX e3 0).trans rfl, h5.trans hb.os, h6.trans hb.tape, h7.trans hb.output, ?_, fun k hk => ?_⟩
 ·
  rw [hh]
  have := hb.size
  have hz2 := (Below.alloc (Below.refl 0 (((W.setCell ⟨w.heap.size, 0, none⟩ (.slice none 0 0)).setCell ⟨w.heap.size + 1, 0, none⟩ (.int .i64 p)).setCell ⟨w.heap.size + 1 + 1, 0, none⟩ (.int .i64 er))) (Nat.zero_le _) (.cells #[.int .i64 p, .int .i64 er] 89)).size
  rw [hz] at hz2
  omega
 ·
  rw [hh]
  exact (o4 k (by omega)).trans ((o3 k (by omega)).trans ((o2 k (by omega)).trans ((o1 k (by omega)).trans (hb.block k hk))))
set_option maxHeartbeats 4000000 in
set_option maxRecDepth 100000 in
theorem parse_calls (k : Nat) (s : ByteArray) (r1 : List RdCell) (r2 r3 : Int) (w : World) (h : parseF k s = some (r1, r2, r3)) :
 Calls Tryd.prog 41 #[.string s] w fun e w' => ∃ v0_ : Value, e = .returned (.tuple #[v0_, .int .i64 r2, .int .i64 r3]) ∧ Kd.R k33 33 w' w.heap.size (fun _ => True) v0_ r1 ∧ Below w.heap.size w w' := by
 have hmf : ∀ (fn : Fn) (first cap : Array Value) (w : World), (Instr.makeFunc fn first cap).run Tryd.prog w = .ok (.func fn first cap) w := fun _ _ _ _ => rfl
 unfold parseF at h
 by_cases c1 : (s.size : Int) > 1024
 ·
  rw [if_pos c1] at h
  injection h with h
  injection h with h1 h
  injection h with h2 h3
  subst h1 h2 h3
  have c1b : decide ((s.size : Int) > 1024) = true := zQ c1
  go_enter_defers Tryd.func41, Tryd.ntmps41
  go_wp2
  simp [bodyPostD, Leaves, settle, results, Tryd.results41, go_sem]
  exact ⟨Kd.R_nil _ _ _ _ _, zA (zA (zA (Below.refl _ _) _) _) _⟩
 ·
  rw [if_neg c1] at h
  have c1b : decide ((s.size : Int) > 1024) = false := zR c1
  have hsz : s.size ≤ 4096 := by omega
  clear c1
  obtain ⟨x, hx, h⟩ := zB h
  have T1 := fun (W : World) (hq : IsRd (w.heap.size + 1 + 1 + 1) W (w.heap.size + 1 + 1 + 1) s 0 []) => (rd_all k).1 _ _ s 0 [] x W hq (by simp) (by omega) hsz hx
  clear hx
  cases x with
  | inl x =>
   injection h with h
   injection h with h1 h
   injection h with h2 h3
   subst h1 h2 h3
   go_enter_defers Tryd.func41, Tryd.ntmps41
   go_wp2_with (first | (go_at_call 64; refine (T1 _ ?side1).mono ?_; (case side1 => exact isRd_first w s); rintro e w5 ⟨rfl, hB5⟩))
   have hB6 : Below (w.heap.size + 1 + 1 + 1) (parseW w) w5 := below_tr (below_alloc' (parseW_cells w).2.2.2.1 _) hB5
   obtain ⟨d1, d2, d3, _, _⟩ := parse_kept hB6
   refine leaves_cons (f := 63) (args := #[.pointer (some ⟨w.heap.size, 0, none⟩), .pointer (some ⟨w.heap.size + 1, 0, none⟩), .pointer (some ⟨w.heap.size + 1 + 1, 0, none⟩)]) (by simp) (by simp [go_sem]) ?_
   refine (parse_catch _ _ _ _ _ _ _ _ w5 d1 d2 d3 (by omega) (by omega) (by omega)).mono ?_
   rintro e u' w6 ⟨rfl, rfl, hh, h5, h6, h7⟩
   obtain ⟨e1, e2, e3, hb⟩ := parse_after hB6 hh h5 h6 h7
   simp [Leaves, settle, results, Tryd.results41, go_sem, e1, e2, e3]
   exact ⟨Kd.R_nil _ _ _ _ _, hb⟩
  | inr y =>
   obtain ⟨j, m⟩ := y
   simp only at h
   by_cases c2 : j < (s.size : Int)
   ·
    rw [if_pos c2] at h
    injection h with h
    injection h with h1 h
    injection h with h2 h3
    subst h1 h2 h3
    have c2b : decide (j < (s.size : Int)) = true := zQ c2
    clear c2
    go_enter_defers Tryd.func41, Tryd.ntmps41
    go_wp2_with (first | (go_at_call 64; refine (T1 _ ?side1).mono ?_; (case side1 => exact isRd_first w s); rintro e w5 ⟨rfl, hI5, hB5, hl5, hj5, hk5⟩; have HI5 := zM hI5; obtain ⟨v5, hb5, hg5, hr5⟩ := hI5; obtain ⟨A5, c5, rfl⟩ := Kd.R_slice hr5; have hz5 := (zX hb5 1).trans rfl; have hz5b := (zX hb5 2).trans rfl; have HR5 := zM hr5; have HB6 : Aside0 (Below (w.heap.size + 1 + 1 + 1) (parseW w) w5) := ⟨below_tr (below_alloc' (parseW_cells w).2.2.2.1 _) hB5⟩; obtain ⟨d1, d2, d3, hd, hbw⟩ := parse_kept HB6.out; have d1c := (zX d1 0).trans rfl; have d2c := (zX d2 0).trans rfl; have d3c := (zX d3 0).trans rfl; have d1f := zY d1 0; have d2f := zY d2 0; have d3f := zY d3 0; have HBW := zM hbw; clear hB5 hb5 hr5 hbw) | (go_at_call 65; (refine (rd_give _ _ _ _).mono ?_); rintro e w7 ⟨rfl, rfl⟩))
    have hB6 := HB6.out
    refine leaves_cons (f := 63) (args := #[.pointer (some ⟨w.heap.size, 0, none⟩), .pointer (some ⟨w.heap.size + 1, 0, none⟩), .pointer (some ⟨w.heap.size + 1 + 1, 0, none⟩)]) (by simp) (by simp [go_sem]) ?_
    refine (parse_catch _ _ _ _ _ _ _ _ w7 d1 d2 d3 (by omega) (by omega) (by omega)).mono ?_
    rintro e u' w6 ⟨rfl, rfl, hh, h5, h6, h7⟩
    obtain ⟨e1, e2, e3, hb⟩ := parse_after hB6 hh h5 h6 h7
    simp [Leaves, settle, results, Tryd.results41, go_sem, e1, e2, e3]
    exact ⟨Kd.R_nil _ _ _ _ _, hb⟩
   ·
    rw [if_neg c2] at h
    injection h with h
    injection h with h1 h
    injection h with h2 h3
    subst h1 h2 h3
    have c2b : decide (j < (s.size : Int)) = false := zR c2
    clear c2
    go_enter_defers Tryd.func41, Tryd.ntmps41
    have CL1 := fun (W : World) (A : Option Addr) (c : Nat) (hc : Kd.C k33 W A m.length m) (hl : m.length ≤ c) (hml : m.length ≤ 64) => api_Cell_46.calls A c m m W hc hl (clone_same m (show m.length ≤ 64 from hml))
    go_wp2_with (first | (go_at_call 64; refine (T1 _ ?side1).mono ?_; (case side1 => exact isRd_first w s); rintro e w5 ⟨rfl, hI5, hB5, hl5, hj5, hk5⟩; have HI5 := zM hI5; obtain ⟨v5, hb5, hg5, hr5⟩ := hI5; obtain ⟨A5, c5, rfl⟩ := Kd.R_slice hr5; have hz5 := (zX hb5 1).trans rfl; have hz5b := (zX hb5 2).trans rfl; have HR5 := zM hr5; have HB6 : Aside0 (Below (w.heap.size + 1 + 1 + 1) (parseW w) w5) := ⟨below_tr (below_alloc' (parseW_cells w).2.2.2.1 _) hB5⟩; obtain ⟨d1, d2, d3, hd, hbw⟩ := parse_kept HB6.out; have d1c := (zX d1 0).trans rfl; have d2c := (zX d2 0).trans rfl; have d3c := (zX d3 0).trans rfl; have d1f := zY d1 0; have d2f := zY d2 0; have d3f := zY d3 0; have HBW := zM hbw; clear hB5 hb5 hr5 hbw) | (go_at_call 46; refine (CL1 _ _ _ ?side1 ?side2 hl5).mono ?_; (case side1 => repeat (first | exact (Kd.R_reads' HR5.out).2.2 | apply Kd.C_drewN | apply Kd.C_drew)); (case side2 => exact (Kd.R_reads' HR5.out).2.1); rintro e w8 ⟨v8, rfl, hr8, hb8⟩; obtain ⟨A8, c8, rfl⟩ := Kd.R_slice hr8; have HR8 := zM hr8; have HB8 := zM hb8; have k1 := (hb8.block _ (show w.heap.size < _ by omega)).trans d1; have k2 := (hb8.block _ (show w.heap.size + 1 < _ by omega)).trans d2; have k3 := (hb8.block _ (show w.heap.size + 1 + 1 < _ by omega)).trans d3; have k1c := (zX k1 0).trans rfl; have k2c := (zX k2 0).trans rfl; have k3c := (zX k3 0).trans rfl; have k1f := zY k1 0; have k2f := zY k2 0; have k3f := zY k3 0; clear hr8 hb8))
    refine leaves_cons (f := 63) (args := #[.pointer (some ⟨w.heap.size, 0, none⟩), .pointer (some ⟨w.heap.size + 1, 0, none⟩), .pointer (some ⟨w.heap.size + 1 + 1, 0, none⟩)]) (by simp) (by simp [go_sem]) ?_
    refine (parse_idle _ _ _ _).mono ?_
    rintro e u' w9 ⟨rfl, rfl, rfl⟩
    obtain ⟨e1, e2, e3, hr9, hb9⟩ := parse_back HB6.out HB8.out HR8.out
    simp [Leaves, settle, results, Tryd.results41, go_sem, e1, e2, e3]
    exact ⟨hr9, hb9⟩
theorem rd_mono : ∀ k, (∀ s i l, LeO (rdTerm k s i l) (rdTerm (k + 1) s i l)) ∧ (∀ s i l c n, LeO (rdArgs k s i l c n) (rdArgs (k + 1) s i l c n))
 | 0 => ⟨fun _ _ _ r h => by simp [rdTerm] at h, fun _ _ _ _ _ r h => by simp [rdArgs] at h⟩
 | k + 1 => by
  obtain ⟨ih0, ih1⟩ := rd_mono k
  refine ⟨fun s i l => ?_, fun s i l c n => ?_⟩
  ·
   unfold rdTerm
   refine LeO.bind (term_reader_word.mono _ _ _ _) fun b => LeO.bind (name_Kind.mono _ _) fun kd => ?_
   refine LeO.ite (LeO.refl _) (LeO.ite (LeO.refl _) (LeO.ite (LeO.refl _) (LeO.ite (LeO.ite (LeO.refl _) (ih1 _ _ _ _ _)) (LeO.refl _))))
  ·
   unfold rdArgs
   refine LeO.bind (ih0 _ _ _) fun x => ?_
   cases x with
   | inl x => exact LeO.refl _
   | inr y =>
    obtain ⟨j, m⟩ := y
    exact LeO.ite (LeO.ite (LeO.refl _) (LeO.ite (LeO.ite (LeO.refl _) (ih1 _ _ _ _ _)) (LeO.refl _))) (LeO.none _)
def term_Parse.f (k : Nat) (a0 : ByteArray) : Option ((List (S33)) × Int × Int) := parseF k a0
theorem term_Parse.mono : ∀ a0 k, LeO (term_Parse.f k a0) (term_Parse.f (k + 1) a0) := by
 intro a0 k
 unfold term_Parse.f parseF
 refine LeO.ite (LeO.refl _) (LeO.bind ((rd_mono k).1 _ _ _) fun x => ?_)
 exact LeO.refl _
theorem term_Parse.calls (k : Nat) (a0 : ByteArray) (r1 : List (S33)) (r2 : Int) (r3 : Int) (w : World) (h : term_Parse.f k a0 = some (r1, r2, r3)) :
 Calls Tryd.prog 41 #[.string a0] w fun e w' => ∃ v0_ : Value, e = .returned (.tuple #[v0_, .int .i64 r2, .int .i64 r3]) ∧ Kd.R k33 33 w' w.heap.size (fun _ => True) v0_ r1 ∧ Below w.heap.size w w' := parse_calls k a0 r1 r2 r3 w h



-- ==== PF15

/-! ### rule_Parse: function 15 -/
def rule_Parse.f (k : Nat) (a0 : ByteArray) (a1 : ByteArray) : Option (Int × (List (S33)) × (List (S33)) × Int) := (term_Parse.f k a0).bind fun bt102 => (if bt102.2.2 = 0 then ((term_Parse.f k a1).bind fun bt107 => (if bt107.2.2 = 0 then ((rule_Check.f k 0 bt102.1 bt107.1).bind fun t113 => (if t113 = 0 then (some (0, bt102.1, bt107.1, 0)) else (some (0, ([] : List (S33)), ([] : List (S33)), t113)))) else (some (0, ([] : List (S33)), ([] : List (S33)), bt107.2.2)))) else (some (0, ([] : List (S33)), ([] : List (S33)), bt102.2.2)))
theorem rule_Parse.mono : ∀ a0 a1 k, LeO (rule_Parse.f k a0 a1) (rule_Parse.f (k + 1) a0 a1) := by
 intro a0 a1 k
 unfold rule_Parse.f
 repeat' first
  | (with_reducible exact rule_Check.mono _ _ _ _)
  | (with_reducible exact term_Parse.mono _ _)
  | (with_reducible exact LeO.refl _)
  | (with_reducible exact LeO.none _)
  | (with_reducible refine LeO.ite ?_ ?_)
  | (with_reducible refine LeO.bind ?_ (fun _ => ?_))
  | exact LeO.none _
  | refine LeO.ite ?_ ?_
  | refine LeO.bind ?_ (fun _ => ?_)
set_option maxHeartbeats 8000000 in
set_option maxRecDepth 100000 in
theorem rule_Parse.calls (k : Nat) (a0 : ByteArray) (a1 : ByteArray) (r1 : Int) (r2 : List (S33)) (r3 : List (S33)) (r4 : Int) (w : World) (h : rule_Parse.f k a0 a1 = some (r1, r2, r3, r4)) :
 Calls Tryd.prog 15 #[.string a0, .string a1] w fun e w' => ∃ v1_ v2_ : Value, e = .returned (.tuple #[.agg #[.int .i64 r1, v1_, v2_], .int .i64 r4]) ∧ Kd.R k33 33 w' w.heap.size (fun k_ => some k_ ≠ (v2_ : Value).ownBlock) v1_ r2 ∧ Kd.R k33 33 w' w.heap.size (fun k_ => some k_ ≠ (v1_ : Value).ownBlock) v2_ r3 ∧ Below w.heap.size w w' := by
 have hu25 := Tryd.underlying25
 have HB := zM (Below.refl w.heap.size w)
 have H : ((term_Parse.f k a0).bind fun bt102 => (if bt102.2.2 = 0 then ((term_Parse.f k a1).bind fun bt107 => (if bt107.2.2 = 0 then ((rule_Check.f k 0 bt102.1 bt107.1).bind fun t113 => (if t113 = 0 then (some (0, bt102.1, bt107.1, 0)) else (some (0, ([] : List (S33)), ([] : List (S33)), t113)))) else (some (0, ([] : List (S33)), ([] : List (S33)), bt107.2.2)))) else (some (0, ([] : List (S33)), ([] : List (S33)), bt102.2.2)))) = some (r1, r2, r3, r4) := h
 clear h
 replace H := zB H
 obtain ⟨⟨t102, t103, t104⟩, A30, H⟩ := H
 try dsimp only at H
 have A3 := zM A30
 clear A30
 by_cases c4 : t104 = 0
 ·
  rw [if_pos c4] at H
  have c4b0 : (t104 == 0) = true := zG c4
  have c4b1 : (t104 != 0) = false := zH c4
  clear c4
  replace H := zB H
  obtain ⟨⟨t107, t108, t109⟩, A50, H⟩ := H
  try dsimp only at H
  have A5 := zM A50
  clear A50
  by_cases c6 : t109 = 0
  ·
   rw [if_pos c6] at H
   have c6b0 : (t109 == 0) = true := zG c6
   have c6b1 : (t109 != 0) = false := zH c6
   clear c6
   replace H := zB H
   obtain ⟨t113, A70, H⟩ := H
   try dsimp only at H
   have A7 := zM A70
   clear A70
   by_cases c8 : t113 = 0
   ·
    rw [if_pos c8] at H
    have c8b0 : (t113 == 0) = true := zG c8
    have c8b1 : (t113 != 0) = false := zH c8
    clear c8
    simp only [Option.some.injEq, Prod.mk.injEq] at H
    obtain ⟨rfl, rfl, rfl, rfl⟩ := H
    go_enter Tryd.func15, Tryd.ntmps15
    go_wp2_with (first | ((with_reducible refine gate_dst (N := 4) rfl ?_); refine box_event ?hg (N := 4) ?hd (cs := #[.int .i64 0, .slice none 0 0, .slice none 0 0]) (t := 25) ?hr ?_; (case hd => rfl); (case hg => rfl); (case hr => first | (go_simp; done) | (go_simp; rfl)); intro gb101 hg w9 hbox hb; have n0_ := zM (below_step (by repeat (first | (with_reducible first | exact HB.out | apply zA | apply zN | apply zD) | exact HB.out)) hb); have n1_ := zM (hbox); have n2_ := zM ((by rw [hg]; exact (below_size (by repeat (first | (with_reducible first | exact HB.out | apply zA | apply zN | apply zD) | exact HB.out))) : w.heap.size ≤ gb101)); have n3_ := zM ((by rw [hg]; exact (below_size (by repeat (first | (with_reducible first | exact HB.out | apply zA | apply zN | apply zD) | exact HB.out))) : w.heap.size ≤ gb101)); clear HB; have HB := n0_; have BK101 := n1_; have GW101 := n2_; have GE101 := n3_; clear n0_ n1_ n2_ n3_; clear hb hbox hg) | ((with_reducible refine gate_callee (f := 41) rfl ?_); refine goesL_ (some 15) rfl rfl Tryd.func41 (by kernel_rfl) rfl #[.string a0] rfl (by (try simp only [List.map_toArray, List.map_cons, List.map_nil]); first | done | rfl) ?_; (with_reducible refine (term_Parse.calls k a0 t102 t103 t104 _ A3.out).mono ?_); rintro e w10 ⟨v105, rfl, ho0, hb⟩; refine ⟨_, rfl, ?_⟩; have n0_ := zM (Kd.R_lower ho0 (below_size (by repeat (first | (with_reducible first | exact HB.out | apply zA | apply zN | apply zD | refine below_set ?_ GE101.out) | exact HB.out)))); have n1_ := zM (blk_below (g := gb101) (o := .cells #[.int .i64 0, .slice none 0 0, .slice none 0 0] 25 (0, 0)) (by (with_reducible repeat (first | refine blk_drewN ?_ _ | refine blk_drew ?_ | refine blk_alloc ?_ _)); exact BK101.out) hb); have n2_ := zM (below_step (by repeat (first | (with_reducible first | exact HB.out | apply zA | apply zN | apply zD | refine below_set ?_ GE101.out) | exact HB.out)) hb); clear BK101; clear HB; have HO106 := n0_; have BK101 := n1_; have HB := n2_; clear n0_ n1_ n2_; (try clear hb); (try clear hb2); (try clear hk); (try clear hi); (try clear ho0)) | ((with_reducible refine gate_callee (f := 41) rfl ?_); refine goesL_ (some 25) rfl rfl Tryd.func41 (by kernel_rfl) rfl #[.string a1] rfl (by (try simp only [List.map_toArray, List.map_cons, List.map_nil]); first | done | rfl) ?_; (with_reducible refine (term_Parse.calls k a1 t107 t108 t109 _ A5.out).mono ?_); rintro e w11 ⟨v110, rfl, ho0, hb⟩; refine ⟨_, rfl, ?_⟩; have n0_ := zM (Kd.R_elder' (by (with_reducible repeat (first | apply Kd.R_alloc | apply Kd.R_drewN | apply Kd.R_drew)); exact HO106.out) (Kd.R_base ho0) hb); have n1_ := zM (Kd.R_lower (Kd.R_new' ho0 (Kd.R_lt (by (with_reducible repeat (first | apply Kd.R_alloc | apply Kd.R_drewN | apply Kd.R_drew)); exact HO106.out))) (below_size (by repeat (first | (with_reducible first | exact HB.out | apply zA | apply zN | apply zD | refine below_set ?_ GE101.out) | exact HB.out)))); have n2_ := zM (blk_below (g := gb101) (o := .cells #[.int .i64 0, .slice none 0 0, .slice none 0 0] 25 (0, 0)) (by (with_reducible repeat (first | refine blk_drewN ?_ _ | refine blk_drew ?_ | refine blk_alloc ?_ _)); exact BK101.out) hb); have n3_ := zM (below_step (by repeat (first | (with_reducible first | exact HB.out | apply zA | apply zN | apply zD | refine below_set ?_ GE101.out) | exact HB.out)) hb); clear HO106; clear BK101; clear HB; have HO106 := n0_; have HO111 := n1_; have BK101 := n2_; have HB := n3_; clear n0_ n1_ n2_ n3_; (try clear hb); (try clear hb2); (try clear hk); (try clear hi); (try clear ho0); obtain ⟨Ao12, co12, eo12⟩ := Kd.R_slice HO111.out; subst eo12; obtain ⟨Ao13, co13, eo13⟩ := Kd.R_slice HO106.out; subst eo13) | ((with_reducible refine gate_dst (N := 11) rfl ?_); refine box_event ?hg (N := 11) ?hd (cs := #[.int .i64 0, .slice none 0 0, .slice none 0 0]) (t := 25) ?hr ?_; (case hd => rfl); (case hg => rfl); (case hr => first | (go_simp; done) | (go_simp; rfl)); intro gb112 hg w14 hbox hb; have n0_ := zM (Kd.R_below (by (with_reducible repeat (first | apply Kd.R_alloc | apply Kd.R_drewN | apply Kd.R_drew)); exact HO106.out) hb); have n1_ := zM (Kd.R_below (by (with_reducible repeat (first | apply Kd.R_alloc | apply Kd.R_drewN | apply Kd.R_drew)); exact HO111.out) hb); have n2_ := zM (blk_below (g := gb101) (o := .cells #[.int .i64 0, .slice none 0 0, .slice none 0 0] 25 (0, 0)) (by (with_reducible repeat (first | refine blk_drewN ?_ _ | refine blk_drew ?_ | refine blk_alloc ?_ _)); exact BK101.out) hb); have n3_ := zM (below_step (by repeat (first | (with_reducible first | exact HB.out | apply zA | apply zN | apply zD | refine below_set ?_ GE101.out) | exact HB.out)) hb); have n4_ := zM (hbox); have n5_ := zM ((by rw [hg]; exact (below_size (by repeat (first | (with_reducible first | exact HB.out | apply zA | apply zN | apply zD | refine below_set ?_ GE101.out) | exact HB.out))) : w.heap.size ≤ gb112)); have n6_ := zM ((by rw [hg]; exact (below_size (by repeat (first | (with_reducible first | exact HB.out | apply zA | apply zN | apply zD | refine below_set ?_ GE101.out) | exact HB.out))) : w.heap.size ≤ gb112)); have n7_ := zM ((by rw [hg]; exact Nat.ne_of_lt (blk_lt (g := gb101) (o := .cells #[.int .i64 0, .slice none 0 0, .slice none 0 0] 25 (0, 0)) (by (with_reducible repeat (first | refine blk_drewN ?_ _ | refine blk_drew ?_ | refine blk_alloc ?_ _)); exact BK101.out)) : gb101 ≠ gb112)); have n8_ := zM ((by rw [hg]; exact Nat.ne_of_gt (blk_lt (g := gb101) (o := .cells #[.int .i64 0, .slice none 0 0, .slice none 0 0] 25 (0, 0)) (by (with_reducible repeat (first | refine blk_drewN ?_ _ | refine blk_drew ?_ | refine blk_alloc ?_ _)); exact BK101.out)) : gb112 ≠ gb101)); clear HO106; clear HO111; clear BK101; clear HB; have HO106 := n0_; have HO111 := n1_; have BK101 := n2_; have HB := n3_; have BK112 := n4_; have GW112 := n5_; have GE112 := n6_; have NB101_112 := n7_; have NB112_101 := n8_; clear n0_ n1_ n2_ n3_ n4_ n5_ n6_ n7_ n8_; clear hb hbox hg; have hnb15 := NB112_101.out; have hnc15 := NB101_112.out; have hcz16_0 : w14.cell? ⟨gb112, 0, none⟩ = some (.int .i64 0) := (zX BK112.out 0).trans rfl; have hcz16_1 : w14.cell? ⟨gb112, 1, none⟩ = some (.slice none 0 0) := (zX BK112.out 1).trans rfl; have hcz16_2 : w14.cell? ⟨gb112, 2, none⟩ = some (.slice none 0 0) := (zX BK112.out 2).trans rfl; have hfz16_0 := zY BK112.out 0; have hfz16_1 := zY BK112.out 1; have hfz16_2 := zY BK112.out 2) | ((with_reducible refine gate_callee (f := 11) rfl ?_); refine goesL_ (some 37) rfl rfl Tryd.func11 (by kernel_rfl) rfl #[.agg #[.int .i64 0, .slice Ao13 t102.length co13, .slice Ao12 t107.length co12]] rfl (by (try simp only [List.map_toArray, List.map_cons, List.map_nil]); first | done | rfl) ?_; (with_reducible refine (rule_Check.calls k 0 _ _ t102 _ _ t107 t113 _ ?side1 ?side2 ?side3 ?side4 A7.out).mono ?_); (case side1 => refine (Kd.R_reads' (e := 33) (base := w.heap.size) (ok := fun k_ => (True ∧ some k_ ≠ (.slice Ao12 t107.length co12 : Value).ownBlock)) (n := t102.length) (c := co13) ?_).2.2; exact (by (with_reducible repeat (first | apply Kd.R_alloc | apply Kd.R_drewN | apply Kd.R_drew)); exact (Kd.R_mono (Kd.R_far (p := ⟨gb112, 2, none⟩) (Kd.R_far (p := ⟨gb112, 1, none⟩) (Kd.R_far (p := ⟨gb112, 0, none⟩) (Kd.R_types HO106.out BK112.out (by decide)) (fun _ hk => hk.2) (.int .i64 0)) (fun _ hk => hk.2) (.slice Ao13 t102.length co13)) (fun _ hk => hk.2) (.slice Ao12 t107.length co12)) (fun _ h_ => h_.1)))); (case side2 => exact (Kd.R_reads' HO106.out).2.1); (case side3 => refine (Kd.R_reads' (e := 33) (base := w.heap.size) (ok := fun k_ => (True ∧ some k_ ≠ (.slice Ao13 t102.length co13 : Value).ownBlock)) (n := t107.length) (c := co12) ?_).2.2; exact (by (with_reducible repeat (first | apply Kd.R_alloc | apply Kd.R_drewN | apply Kd.R_drew)); exact (Kd.R_mono (Kd.R_far (p := ⟨gb112, 2, none⟩) (Kd.R_far (p := ⟨gb112, 1, none⟩) (Kd.R_far (p := ⟨gb112, 0, none⟩) (Kd.R_types HO111.out BK112.out (by decide)) (fun _ hk => hk.2) (.int .i64 0)) (fun _ hk => hk.2) (.slice Ao13 t102.length co13)) (fun _ hk => hk.2) (.slice Ao12 t107.length co12)) (fun _ h_ => h_.1)))); (case side4 => exact (Kd.R_reads' HO111.out).2.1); rintro e w17 ⟨rfl, hb⟩; refine ⟨_, rfl, ?_⟩; have n0_ := zM (Kd.R_below (by (with_reducible repeat (first | apply Kd.R_alloc | apply Kd.R_drewN | apply Kd.R_drew)); exact (Kd.R_mono (Kd.R_far (p := ⟨gb112, 2, none⟩) (Kd.R_far (p := ⟨gb112, 1, none⟩) (Kd.R_far (p := ⟨gb112, 0, none⟩) (Kd.R_types HO106.out BK112.out (by decide)) (fun _ hk => hk.2) (.int .i64 0)) (fun _ hk => hk.2) (.slice Ao13 t102.length co13)) (fun _ hk => hk.2) (.slice Ao12 t107.length co12)) (fun _ h_ => h_.1))) hb); have n1_ := zM (Kd.R_below (by (with_reducible repeat (first | apply Kd.R_alloc | apply Kd.R_drewN | apply Kd.R_drew)); exact (Kd.R_mono (Kd.R_far (p := ⟨gb112, 2, none⟩) (Kd.R_far (p := ⟨gb112, 1, none⟩) (Kd.R_far (p := ⟨gb112, 0, none⟩) (Kd.R_types HO111.out BK112.out (by decide)) (fun _ hk => hk.2) (.int .i64 0)) (fun _ hk => hk.2) (.slice Ao13 t102.length co13)) (fun _ hk => hk.2) (.slice Ao12 t107.length co12)) (fun _ h_ => h_.1))) hb); have n2_ := zM (blk_below (g := gb101) (o := .cells #[.int .i64 0, .slice none 0 0, .slice none 0 0] 25 (0, 0)) (by (with_reducible repeat (first | refine blk_drewN ?_ _ | refine blk_drew ?_ | refine blk_alloc ?_ _)); refine blk_far ?_ NB101_112.out _; (with_reducible repeat (first | refine blk_drewN ?_ _ | refine blk_drew ?_ | refine blk_alloc ?_ _)); refine blk_far ?_ NB101_112.out _; (with_reducible repeat (first | refine blk_drewN ?_ _ | refine blk_drew ?_ | refine blk_alloc ?_ _)); refine blk_far ?_ NB101_112.out _; (with_reducible repeat (first | refine blk_drewN ?_ _ | refine blk_drew ?_ | refine blk_alloc ?_ _)); exact BK101.out) hb); have n3_ := zM (blk_below (g := gb112) (o := .cells #[.int .i64 0, .slice Ao13 t102.length co13, .slice Ao12 t107.length co12] 25 (0, 0)) (by (with_reducible repeat (first | refine blk_drewN ?_ _ | refine blk_drew ?_ | refine blk_alloc ?_ _)); refine blk_put (cs := #[.int .i64 0, .slice Ao13 t102.length co13, .slice none 0 0]) ?_ 2 _ rfl; (with_reducible repeat (first | refine blk_drewN ?_ _ | refine blk_drew ?_ | refine blk_alloc ?_ _)); refine blk_put (cs := #[.int .i64 0, .slice none 0 0, .slice none 0 0]) ?_ 1 _ rfl; (with_reducible repeat (first | refine blk_drewN ?_ _ | refine blk_drew ?_ | refine blk_alloc ?_ _)); refine blk_put (cs := #[.int .i64 0, .slice none 0 0, .slice none 0 0]) ?_ 0 _ rfl; (with_reducible repeat (first | refine blk_drewN ?_ _ | refine blk_drew ?_ | refine blk_alloc ?_ _)); exact BK112.out) hb); have n4_ := zM (below_step (by repeat (first | (with_reducible first | exact HB.out | apply zA | apply zN | apply zD | refine below_set ?_ GE101.out | refine below_set ?_ GE112.out) | exact HB.out)) hb); clear HO106; clear HO111; clear BK101; clear BK112; clear HB; have HO106 := n0_; have HO111 := n1_; have BK101 := n2_; have BK112 := n3_; have HB := n4_; clear n0_ n1_ n2_ n3_ n4_; (try clear hb); (try clear hb2); (try clear hk); (try clear hi); have hcz18_0 : w17.cell? ⟨gb112, 0, none⟩ = some (.int .i64 0) := (zX BK112.out 0).trans rfl; have hcz18_1 : w17.cell? ⟨gb112, 1, none⟩ = some (.slice Ao13 t102.length co13) := (zX BK112.out 1).trans rfl; have hcz18_2 : w17.cell? ⟨gb112, 2, none⟩ = some (.slice Ao12 t107.length co12) := (zX BK112.out 2).trans rfl; have hfz18_0 := zY BK112.out 0; have hfz18_1 := zY BK112.out 1; have hfz18_2 := zY BK112.out 2; have hcz19_0 : w17.cell? ⟨gb101, 0, none⟩ = some (.int .i64 0) := (zX BK101.out 0).trans rfl; have hcz19_1 : w17.cell? ⟨gb101, 1, none⟩ = some (.slice none 0 0) := (zX BK101.out 1).trans rfl; have hcz19_2 : w17.cell? ⟨gb101, 2, none⟩ = some (.slice none 0 0) := (zX BK101.out 2).trans rfl; have hfz19_0 := zY BK101.out 0; have hfz19_1 := zY BK101.out 1; have hfz19_2 := zY BK101.out 2))
    refine bodyPost_ret (results_ct rfl _ _ gb101 25 #[.int .i64 0, .slice Ao13 t102.length co13, .slice Ao12 t107.length co12] (0, 0) _ rfl (by (with_reducible repeat (first | refine blk_drewN ?_ _ | refine blk_drew ?_ | refine blk_alloc ?_ _)); refine blk_put (cs := #[.int .i64 0, .slice Ao13 t102.length co13, .slice none 0 0]) ?_ 2 _ rfl; (with_reducible repeat (first | refine blk_drewN ?_ _ | refine blk_drew ?_ | refine blk_alloc ?_ _)); refine blk_put (cs := #[.int .i64 0, .slice none 0 0, .slice none 0 0]) ?_ 1 _ rfl; (with_reducible repeat (first | refine blk_drewN ?_ _ | refine blk_drew ?_ | refine blk_alloc ?_ _)); refine blk_put (cs := #[.int .i64 0, .slice none 0 0, .slice none 0 0]) ?_ 0 _ rfl; (with_reducible repeat (first | refine blk_drewN ?_ _ | refine blk_drew ?_ | refine blk_alloc ?_ _)); exact BK101.out) Tryd.underlying25 rfl (by kernel_rfl)) rfl ?_
    exact ⟨_, _, by first | rfl | (simp [errW_none, errW_some] <;> rfl) | (simp [*, errW_none, errW_some] <;> rfl), by (with_reducible repeat (first | apply Kd.R_alloc | apply Kd.R_drewN | apply Kd.R_drew)); exact Kd.R_mono (Kd.R_far (p := ⟨gb101, 2, none⟩) (Kd.R_far (p := ⟨gb101, 1, none⟩) (Kd.R_far (p := ⟨gb101, 0, none⟩) (Kd.R_types HO106.out BK101.out (by decide)) (fun _ hk => hk.2) (.int .i64 0)) (fun _ hk => hk.2) (.slice Ao13 t102.length co13)) (fun _ hk => hk.2) (.slice Ao12 t107.length co12)) (fun _ hk => hk.1.2), by (with_reducible repeat (first | apply Kd.R_alloc | apply Kd.R_drewN | apply Kd.R_drew)); exact Kd.R_mono (Kd.R_far (p := ⟨gb101, 2, none⟩) (Kd.R_far (p := ⟨gb101, 1, none⟩) (Kd.R_far (p := ⟨gb101, 0, none⟩) (Kd.R_types HO111.out BK101.out (by decide)) (fun _ hk => hk.2) (.int .i64 0)) (fun _ hk => hk.2) (.slice Ao13 t102.length co13)) (fun _ hk => hk.2) (.slice Ao12 t107.length co12)) (fun _ hk => hk.1.2), by repeat (first | (with_reducible first | exact HB.out | apply zA | apply zN | apply zD | refine below_set ?_ GE101.out | refine below_set ?_ GE112.out) | exact HB.out)⟩
   ·
    rw [if_neg c8] at H
    have c8b0 : (t113 == 0) = false := zE c8
    have c8b1 : (t113 != 0) = true := zF c8
    simp only [Option.some.injEq, Prod.mk.injEq] at H
    obtain ⟨rfl, rfl, rfl, rfl⟩ := H
    go_enter Tryd.func15, Tryd.ntmps15
    go_wp2_with (first | ((with_reducible refine gate_dst (N := 4) rfl ?_); refine box_event ?hg (N := 4) ?hd (cs := #[.int .i64 0, .slice none 0 0, .slice none 0 0]) (t := 25) ?hr ?_; (case hd => rfl); (case hg => rfl); (case hr => first | (go_simp; done) | (go_simp; rfl)); intro gb101 hg w20 hbox hb; have n0_ := zM (below_step (by repeat (first | (with_reducible first | exact HB.out | apply zA | apply zN | apply zD) | exact HB.out)) hb); have n1_ := zM (hbox); have n2_ := zM ((by rw [hg]; exact (below_size (by repeat (first | (with_reducible first | exact HB.out | apply zA | apply zN | apply zD) | exact HB.out))) : w.heap.size ≤ gb101)); have n3_ := zM ((by rw [hg]; exact (below_size (by repeat (first | (with_reducible first | exact HB.out | apply zA | apply zN | apply zD) | exact HB.out))) : w.heap.size ≤ gb101)); clear HB; have HB := n0_; have BK101 := n1_; have GW101 := n2_; have GE101 := n3_; clear n0_ n1_ n2_ n3_; clear hb hbox hg) | ((with_reducible refine gate_callee (f := 41) rfl ?_); refine goesL_ (some 15) rfl rfl Tryd.func41 (by kernel_rfl) rfl #[.string a0] rfl (by (try simp only [List.map_toArray, List.map_cons, List.map_nil]); first | done | rfl) ?_; (with_reducible refine (term_Parse.calls k a0 t102 t103 t104 _ A3.out).mono ?_); rintro e w21 ⟨v105, rfl, ho0, hb⟩; refine ⟨_, rfl, ?_⟩; have n0_ := zM (Kd.R_lower ho0 (below_size (by repeat (first | (with_reducible first | exact HB.out | apply zA | apply zN | apply zD | refine below_set ?_ GE101.out) | exact HB.out)))); have n1_ := zM (blk_below (g := gb101) (o := .cells #[.int .i64 0, .slice none 0 0, .slice none 0 0] 25 (0, 0)) (by (with_reducible repeat (first | refine blk_drewN ?_ _ | refine blk_drew ?_ | refine blk_alloc ?_ _)); exact BK101.out) hb); have n2_ := zM (below_step (by repeat (first | (with_reducible first | exact HB.out | apply zA | apply zN | apply zD | refine below_set ?_ GE101.out) | exact HB.out)) hb); clear BK101; clear HB; have HO106 := n0_; have BK101 := n1_; have HB := n2_; clear n0_ n1_ n2_; (try clear hb); (try clear hb2); (try clear hk); (try clear hi); (try clear ho0)) | ((with_reducible refine gate_callee (f := 41) rfl ?_); refine goesL_ (some 25) rfl rfl Tryd.func41 (by kernel_rfl) rfl #[.string a1] rfl (by (try simp only [List.map_toArray, List.map_cons, List.map_nil]); first | done | rfl) ?_; (with_reducible refine (term_Parse.calls k a1 t107 t108 t109 _ A5.out).mono ?_); rintro e w22 ⟨v110, rfl, ho0, hb⟩; refine ⟨_, rfl, ?_⟩; have n0_ := zM (Kd.R_elder' (by (with_reducible repeat (first | apply Kd.R_alloc | apply Kd.R_drewN | apply Kd.R_drew)); exact HO106.out) (Kd.R_base ho0) hb); have n1_ := zM (Kd.R_lower (Kd.R_new' ho0 (Kd.R_lt (by (with_reducible repeat (first | apply Kd.R_alloc | apply Kd.R_drewN | apply Kd.R_drew)); exact HO106.out))) (below_size (by repeat (first | (with_reducible first | exact HB.out | apply zA | apply zN | apply zD | refine below_set ?_ GE101.out) | exact HB.out)))); have n2_ := zM (blk_below (g := gb101) (o := .cells #[.int .i64 0, .slice none 0 0, .slice none 0 0] 25 (0, 0)) (by (with_reducible repeat (first | refine blk_drewN ?_ _ | refine blk_drew ?_ | refine blk_alloc ?_ _)); exact BK101.out) hb); have n3_ := zM (below_step (by repeat (first | (with_reducible first | exact HB.out | apply zA | apply zN | apply zD | refine below_set ?_ GE101.out) | exact HB.out)) hb); clear HO106; clear BK101; clear HB; have HO106 := n0_; have HO111 := n1_; have BK101 := n2_; have HB := n3_; clear n0_ n1_ n2_ n3_; (try clear hb); (try clear hb2); (try clear hk); (try clear hi); (try clear ho0); obtain ⟨Ao23, co23, eo23⟩ := Kd.R_slice HO111.out; subst eo23; obtain ⟨Ao24, co24, eo24⟩ := Kd.R_slice HO106.out; subst eo24) | ((with_reducible refine gate_dst (N := 11) rfl ?_); refine box_event ?hg (N := 11) ?hd (cs := #[.int .i64 0, .slice none 0 0, .slice none 0 0]) (t := 25) ?hr ?_; (case hd => rfl); (case hg => rfl); (case hr => first | (go_simp; done) | (go_simp; rfl)); intro gb112 hg w25 hbox hb; have n0_ := zM (Kd.R_below (by (with_reducible repeat (first | apply Kd.R_alloc | apply Kd.R_drewN | apply Kd.R_drew)); exact HO106.out) hb); have n1_ := zM (Kd.R_below (by (with_reducible repeat (first | apply Kd.R_alloc | apply Kd.R_drewN | apply Kd.R_drew)); exact HO111.out) hb); have n2_ := zM (blk_below (g := gb101) (o := .cells #[.int .i64 0, .slice none 0 0, .slice none 0 0] 25 (0, 0)) (by (with_reducible repeat (first | refine blk_drewN ?_ _ | refine blk_drew ?_ | refine blk_alloc ?_ _)); exact BK101.out) hb); have n3_ := zM (below_step (by repeat (first | (with_reducible first | exact HB.out | apply zA | apply zN | apply zD | refine below_set ?_ GE101.out) | exact HB.out)) hb); have n4_ := zM (hbox); have n5_ := zM ((by rw [hg]; exact (below_size (by repeat (first | (with_reducible first | exact HB.out | apply zA | apply zN | apply zD | refine below_set ?_ GE101.out) | exact HB.out))) : w.heap.size ≤ gb112)); have n6_ := zM ((by rw [hg]; exact (below_size (by repeat (first | (with_reducible first | exact HB.out | apply zA | apply zN | apply zD | refine below_set ?_ GE101.out) | exact HB.out))) : w.heap.size ≤ gb112)); have n7_ := zM ((by rw [hg]; exact Nat.ne_of_lt (blk_lt (g := gb101) (o := .cells #[.int .i64 0, .slice none 0 0, .slice none 0 0] 25 (0, 0)) (by (with_reducible repeat (first | refine blk_drewN ?_ _ | refine blk_drew ?_ | refine blk_alloc ?_ _)); exact BK101.out)) : gb101 ≠ gb112)); have n8_ := zM ((by rw [hg]; exact Nat.ne_of_gt (blk_lt (g := gb101) (o := .cells #[.int .i64 0, .slice none 0 0, .slice none 0 0] 25 (0, 0)) (by (with_reducible repeat (first | refine blk_drewN ?_ _ | refine blk_drew ?_ | refine blk_alloc ?_ _)); exact BK101.out)) : gb112 ≠ gb101)); clear HO106; clear HO111; clear BK101; clear HB; have HO106 := n0_; have HO111 := n1_; have BK101 := n2_; have HB := n3_; have BK112 := n4_; have GW112 := n5_; have GE112 := n6_; have NB101_112 := n7_; have NB112_101 := n8_; clear n0_ n1_ n2_ n3_ n4_ n5_ n6_ n7_ n8_; clear hb hbox hg; have hnb26 := NB112_101.out; have hnc26 := NB101_112.out; have hcz27_0 : w25.cell? ⟨gb112, 0, none⟩ = some (.int .i64 0) := (zX BK112.out 0).trans rfl; have hcz27_1 : w25.cell? ⟨gb112, 1, none⟩ = some (.slice none 0 0) := (zX BK112.out 1).trans rfl; have hcz27_2 : w25.cell? ⟨gb112, 2, none⟩ = some (.slice none 0 0) := (zX BK112.out 2).trans rfl; have hfz27_0 := zY BK112.out 0; have hfz27_1 := zY BK112.out 1; have hfz27_2 := zY BK112.out 2) | ((with_reducible refine gate_callee (f := 11) rfl ?_); refine goesL_ (some 37) rfl rfl Tryd.func11 (by kernel_rfl) rfl #[.agg #[.int .i64 0, .slice Ao24 t102.length co24, .slice Ao23 t107.length co23]] rfl (by (try simp only [List.map_toArray, List.map_cons, List.map_nil]); first | done | rfl) ?_; (with_reducible refine (rule_Check.calls k 0 _ _ t102 _ _ t107 t113 _ ?side1 ?side2 ?side3 ?side4 A7.out).mono ?_); (case side1 => refine (Kd.R_reads' (e := 33) (base := w.heap.size) (ok := fun k_ => (True ∧ some k_ ≠ (.slice Ao23 t107.length co23 : Value).ownBlock)) (n := t102.length) (c := co24) ?_).2.2; exact (by (with_reducible repeat (first | apply Kd.R_alloc | apply Kd.R_drewN | apply Kd.R_drew)); exact (Kd.R_mono (Kd.R_far (p := ⟨gb112, 2, none⟩) (Kd.R_far (p := ⟨gb112, 1, none⟩) (Kd.R_far (p := ⟨gb112, 0, none⟩) (Kd.R_types HO106.out BK112.out (by decide)) (fun _ hk => hk.2) (.int .i64 0)) (fun _ hk => hk.2) (.slice Ao24 t102.length co24)) (fun _ hk => hk.2) (.slice Ao23 t107.length co23)) (fun _ h_ => h_.1)))); (case side2 => exact (Kd.R_reads' HO106.out).2.1); (case side3 => refine (Kd.R_reads' (e := 33) (base := w.heap.size) (ok := fun k_ => (True ∧ some k_ ≠ (.slice Ao24 t102.length co24 : Value).ownBlock)) (n := t107.length) (c := co23) ?_).2.2; exact (by (with_reducible repeat (first | apply Kd.R_alloc | apply Kd.R_drewN | apply Kd.R_drew)); exact (Kd.R_mono (Kd.R_far (p := ⟨gb112, 2, none⟩) (Kd.R_far (p := ⟨gb112, 1, none⟩) (Kd.R_far (p := ⟨gb112, 0, none⟩) (Kd.R_types HO111.out BK112.out (by decide)) (fun _ hk => hk.2) (.int .i64 0)) (fun _ hk => hk.2) (.slice Ao24 t102.length co24)) (fun _ hk => hk.2) (.slice Ao23 t107.length co23)) (fun _ h_ => h_.1)))); (case side4 => exact (Kd.R_reads' HO111.out).2.1); rintro e w28 ⟨rfl, hb⟩; refine ⟨_, rfl, ?_⟩; have n0_ := zM (Kd.R_below (by (with_reducible repeat (first | apply Kd.R_alloc | apply Kd.R_drewN | apply Kd.R_drew)); exact (Kd.R_mono (Kd.R_far (p := ⟨gb112, 2, none⟩) (Kd.R_far (p := ⟨gb112, 1, none⟩) (Kd.R_far (p := ⟨gb112, 0, none⟩) (Kd.R_types HO106.out BK112.out (by decide)) (fun _ hk => hk.2) (.int .i64 0)) (fun _ hk => hk.2) (.slice Ao24 t102.length co24)) (fun _ hk => hk.2) (.slice Ao23 t107.length co23)) (fun _ h_ => h_.1))) hb); have n1_ := zM (Kd.R_below (by (with_reducible repeat (first | apply Kd.R_alloc | apply Kd.R_drewN | apply Kd.R_drew)); exact (Kd.R_mono (Kd.R_far (p := ⟨gb112, 2, none⟩) (Kd.R_far (p := ⟨gb112, 1, none⟩) (Kd.R_far (p := ⟨gb112, 0, none⟩) (Kd.R_types HO111.out BK112.out (by decide)) (fun _ hk => hk.2) (.int .i64 0)) (fun _ hk => hk.2) (.slice Ao24 t102.length co24)) (fun _ hk => hk.2) (.slice Ao23 t107.length co23)) (fun _ h_ => h_.1))) hb); have n2_ := zM (blk_below (g := gb101) (o := .cells #[.int .i64 0, .slice none 0 0, .slice none 0 0] 25 (0, 0)) (by (with_reducible repeat (first | refine blk_drewN ?_ _ | refine blk_drew ?_ | refine blk_alloc ?_ _)); refine blk_far ?_ NB101_112.out _; (with_reducible repeat (first | refine blk_drewN ?_ _ | refine blk_drew ?_ | refine blk_alloc ?_ _)); refine blk_far ?_ NB101_112.out _; (with_reducible repeat (first | refine blk_drewN ?_ _ | refine blk_drew ?_ | refine blk_alloc ?_ _)); refine blk_far ?_ NB101_112.out _; (with_reducible repeat (first | refine blk_drewN ?_ _ | refine blk_drew ?_ | refine blk_alloc ?_ _)); exact BK101.out) hb); have n3_ := zM (blk_below (g := gb112) (o := .cells #[.int .i64 0, .slice Ao24 t102.length co24, .slice Ao23 t107.length co23] 25 (0, 0)) (by (with_reducible repeat (first | refine blk_drewN ?_ _ | refine blk_drew ?_ | refine blk_alloc ?_ _)); refine blk_put (cs := #[.int .i64 0, .slice Ao24 t102.length co24, .slice none 0 0]) ?_ 2 _ rfl; (with_reducible repeat (first | refine blk_drewN ?_ _ | refine blk_drew ?_ | refine blk_alloc ?_ _)); refine blk_put (cs := #[.int .i64 0, .slice none 0 0, .slice none 0 0]) ?_ 1 _ rfl; (with_reducible repeat (first | refine blk_drewN ?_ _ | refine blk_drew ?_ | refine blk_alloc ?_ _)); refine blk_put (cs := #[.int .i64 0, .slice none 0 0, .slice none 0 0]) ?_ 0 _ rfl; (with_reducible repeat (first | refine blk_drewN ?_ _ | refine blk_drew ?_ | refine blk_alloc ?_ _)); exact BK112.out) hb); have n4_ := zM (below_step (by repeat (first | (with_reducible first | exact HB.out | apply zA | apply zN | apply zD | refine below_set ?_ GE101.out | refine below_set ?_ GE112.out) | exact HB.out)) hb); clear HO106; clear HO111; clear BK101; clear BK112; clear HB; have HO106 := n0_; have HO111 := n1_; have BK101 := n2_; have BK112 := n3_; have HB := n4_; clear n0_ n1_ n2_ n3_ n4_; (try clear hb); (try clear hb2); (try clear hk); (try clear hi); have hcz29_0 : w28.cell? ⟨gb101, 0, none⟩ = some (.int .i64 0) := (zX BK101.out 0).trans rfl; have hcz29_1 : w28.cell? ⟨gb101, 1, none⟩ = some (.slice none 0 0) := (zX BK101.out 1).trans rfl; have hcz29_2 : w28.cell? ⟨gb101, 2, none⟩ = some (.slice none 0 0) := (zX BK101.out 2).trans rfl; have hfz29_0 := zY BK101.out 0; have hfz29_1 := zY BK101.out 1; have hfz29_2 := zY BK101.out 2))
    refine bodyPost_ret (results_ct rfl _ _ gb101 25 #[.int .i64 0, .slice none 0 0, .slice none 0 0] (0, 0) _ rfl (by (with_reducible repeat (first | refine blk_drewN ?_ _ | refine blk_drew ?_ | refine blk_alloc ?_ _)); refine blk_put (cs := #[.int .i64 0, .slice none 0 0, .slice none 0 0]) ?_ 2 _ rfl; (with_reducible repeat (first | refine blk_drewN ?_ _ | refine blk_drew ?_ | refine blk_alloc ?_ _)); refine blk_put (cs := #[.int .i64 0, .slice none 0 0, .slice none 0 0]) ?_ 1 _ rfl; (with_reducible repeat (first | refine blk_drewN ?_ _ | refine blk_drew ?_ | refine blk_alloc ?_ _)); refine blk_put (cs := #[.int .i64 0, .slice none 0 0, .slice none 0 0]) ?_ 0 _ rfl; (with_reducible repeat (first | refine blk_drewN ?_ _ | refine blk_drew ?_ | refine blk_alloc ?_ _)); exact BK101.out) Tryd.underlying25 rfl (by kernel_rfl)) rfl ?_
    exact ⟨_, _, by first | rfl | (simp [errW_none, errW_some] <;> rfl) | (simp [*, errW_none, errW_some] <;> rfl), by first | exact Kd.R_nil _ _ _ _ _ | exact Kd.N_nil _ _ _ _ _ | exact Kd.V_nil _ _ _ _ _ | exact Kd.Q_nil _ _ _ _ _ | exact Kd.S_nil _ _ _ _ _, by first | exact Kd.R_nil _ _ _ _ _ | exact Kd.N_nil _ _ _ _ _ | exact Kd.V_nil _ _ _ _ _ | exact Kd.Q_nil _ _ _ _ _ | exact Kd.S_nil _ _ _ _ _, by repeat (first | (with_reducible first | exact HB.out | apply zA | apply zN | apply zD | refine below_set ?_ GE101.out | refine below_set ?_ GE112.out) | exact HB.out)⟩
  ·
   rw [if_neg c6] at H
   have c6b0 : (t109 == 0) = false := zE c6
   have c6b1 : (t109 != 0) = true := zF c6
   simp only [Option.some.injEq, Prod.mk.injEq] at H
   obtain ⟨rfl, rfl, rfl, rfl⟩ := H
   go_enter Tryd.func15, Tryd.ntmps15
   go_wp2_with (first | ((with_reducible refine gate_dst (N := 4) rfl ?_); refine box_event ?hg (N := 4) ?hd (cs := #[.int .i64 0, .slice none 0 0, .slice none 0 0]) (t := 25) ?hr ?_; (case hd => rfl); (case hg => rfl); (case hr => first | (go_simp; done) | (go_simp; rfl)); intro gb101 hg w30 hbox hb; have n0_ := zM (below_step (by repeat (first | (with_reducible first | exact HB.out | apply zA | apply zN | apply zD) | exact HB.out)) hb); have n1_ := zM (hbox); have n2_ := zM ((by rw [hg]; exact (below_size (by repeat (first | (with_reducible first | exact HB.out | apply zA | apply zN | apply zD) | exact HB.out))) : w.heap.size ≤ gb101)); have n3_ := zM ((by rw [hg]; exact (below_size (by repeat (first | (with_reducible first | exact HB.out | apply zA | apply zN | apply zD) | exact HB.out))) : w.heap.size ≤ gb101)); clear HB; have HB := n0_; have BK101 := n1_; have GW101 := n2_; have GE101 := n3_; clear n0_ n1_ n2_ n3_; clear hb hbox hg) | ((with_reducible refine gate_callee (f := 41) rfl ?_); refine goesL_ (some 15) rfl rfl Tryd.func41 (by kernel_rfl) rfl #[.string a0] rfl (by (try simp only [List.map_toArray, List.map_cons, List.map_nil]); first | done | rfl) ?_; (with_reducible refine (term_Parse.calls k a0 t102 t103 t104 _ A3.out).mono ?_); rintro e w31 ⟨v105, rfl, ho0, hb⟩; refine ⟨_, rfl, ?_⟩; have n0_ := zM (Kd.R_lower ho0 (below_size (by repeat (first | (with_reducible first | exact HB.out | apply zA | apply zN | apply zD | refine below_set ?_ GE101.out) | exact HB.out)))); have n1_ := zM (blk_below (g := gb101) (o := .cells #[.int .i64 0, .slice none 0 0, .slice none 0 0] 25 (0, 0)) (by (with_reducible repeat (first | refine blk_drewN ?_ _ | refine blk_drew ?_ | refine blk_alloc ?_ _)); exact BK101.out) hb); have n2_ := zM (below_step (by repeat (first | (with_reducible first | exact HB.out | apply zA | apply zN | apply zD | refine below_set ?_ GE101.out) | exact HB.out)) hb); clear BK101; clear HB; have HO106 := n0_; have BK101 := n1_; have HB := n2_; clear n0_ n1_ n2_; (try clear hb); (try clear hb2); (try clear hk); (try clear hi); (try clear ho0)) | ((with_reducible refine gate_callee (f := 41) rfl ?_); refine goesL_ (some 25) rfl rfl Tryd.func41 (by kernel_rfl) rfl #[.string a1] rfl (by (try simp only [List.map_toArray, List.map_cons, List.map_nil]); first | done | rfl) ?_; (with_reducible refine (term_Parse.calls k a1 t107 t108 t109 _ A5.out).mono ?_); rintro e w32 ⟨v110, rfl, ho0, hb⟩; refine ⟨_, rfl, ?_⟩; have n0_ := zM (Kd.R_elder' (by (with_reducible repeat (first | apply Kd.R_alloc | apply Kd.R_drewN | apply Kd.R_drew)); exact HO106.out) (Kd.R_base ho0) hb); have n1_ := zM (Kd.R_lower (Kd.R_new' ho0 (Kd.R_lt (by (with_reducible repeat (first | apply Kd.R_alloc | apply Kd.R_drewN | apply Kd.R_drew)); exact HO106.out))) (below_size (by repeat (first | (with_reducible first | exact HB.out | apply zA | apply zN | apply zD | refine below_set ?_ GE101.out) | exact HB.out)))); have n2_ := zM (blk_below (g := gb101) (o := .cells #[.int .i64 0, .slice none 0 0, .slice none 0 0] 25 (0, 0)) (by (with_reducible repeat (first | refine blk_drewN ?_ _ | refine blk_drew ?_ | refine blk_alloc ?_ _)); exact BK101.out) hb); have n3_ := zM (below_step (by repeat (first | (with_reducible first | exact HB.out | apply zA | apply zN | apply zD | refine below_set ?_ GE101.out) | exact HB.out)) hb); clear HO106; clear BK101; clear HB; have HO106 := n0_; have HO111 := n1_; have BK101 := n2_; have HB := n3_; clear n0_ n1_ n2_ n3_; (try clear hb); (try clear hb2); (try clear hk); (try clear hi); (try clear ho0); have hcz33_0 : w32.cell? ⟨gb101, 0, none⟩ = some (.int .i64 0) := (zX BK101.out 0).trans rfl; have hcz33_1 : w32.cell? ⟨gb101, 1, none⟩ = some (.slice none 0 0) := (zX BK101.out 1).trans rfl; have hcz33_2 : w32.cell? ⟨gb101, 2, none⟩ = some (.slice none 0 0) := (zX BK101.out 2).trans rfl; have hfz33_0 := zY BK101.out 0; have hfz33_1 := zY BK101.out 1; have hfz33_2 := zY BK101.out 2))
   refine bodyPost_ret (results_ct rfl _ _ gb101 25 #[.int .i64 0, .slice none 0 0, .slice none 0 0] (0, 0) _ rfl (by (with_reducible repeat (first | refine blk_drewN ?_ _ | refine blk_drew ?_ | refine blk_alloc ?_ _)); refine blk_put (cs := #[.int .i64 0, .slice none 0 0, .slice none 0 0]) ?_ 2 _ rfl; (with_reducible repeat (first | refine blk_drewN ?_ _ | refine blk_drew ?_ | refine blk_alloc ?_ _)); refine blk_put (cs := #[.int .i64 0, .slice none 0 0, .slice none 0 0]) ?_ 1 _ rfl; (with_reducible repeat (first | refine blk_drewN ?_ _ | refine blk_drew ?_ | refine blk_alloc ?_ _)); refine blk_put (cs := #[.int .i64 0, .slice none 0 0, .slice none 0 0]) ?_ 0 _ rfl; (with_reducible repeat (first | refine blk_drewN ?_ _ | refine blk_drew ?_ | refine blk_alloc ?_ _)); exact BK101.out) Tryd.underlying25 rfl (by kernel_rfl)) rfl ?_
   exact ⟨_, _, by first | rfl | (simp [errW_none, errW_some] <;> rfl) | (simp [*, errW_none, errW_some] <;> rfl), by first | exact Kd.R_nil _ _ _ _ _ | exact Kd.N_nil _ _ _ _ _ | exact Kd.V_nil _ _ _ _ _ | exact Kd.Q_nil _ _ _ _ _ | exact Kd.S_nil _ _ _ _ _, by first | exact Kd.R_nil _ _ _ _ _ | exact Kd.N_nil _ _ _ _ _ | exact Kd.V_nil _ _ _ _ _ | exact Kd.Q_nil _ _ _ _ _ | exact Kd.S_nil _ _ _ _ _, by repeat (first | (with_reducible first | exact HB.out | apply zA | apply zN | apply zD | refine below_set ?_ GE101.out) | exact HB.out)⟩
 ·
  rw [if_neg c4] at H
  have c4b0 : (t104 == 0) = false := zE c4
  have c4b1 : (t104 != 0) = true := zF c4
  simp only [Option.some.injEq, Prod.mk.injEq] at H
  obtain ⟨rfl, rfl, rfl, rfl⟩ := H
  go_enter Tryd.func15, Tryd.ntmps15
  go_wp2_with (first | ((with_reducible refine gate_dst (N := 4) rfl ?_); refine box_event ?hg (N := 4) ?hd (cs := #[.int .i64 0, .slice none 0 0, .slice none 0 0]) (t := 25) ?hr ?_; (case hd => rfl); (case hg => rfl); (case hr => first | (go_simp; done) | (go_simp; rfl)); intro gb101 hg w34 hbox hb; have n0_ := zM (below_step (by repeat (first | (with_reducible first | exact HB.out | apply zA | apply zN | apply zD) | exact HB.out)) hb); have n1_ := zM (hbox); have n2_ := zM ((by rw [hg]; exact (below_size (by repeat (first | (with_reducible first | exact HB.out | apply zA | apply zN | apply zD) | exact HB.out))) : w.heap.size ≤ gb101)); have n3_ := zM ((by rw [hg]; exact (below_size (by repeat (first | (with_reducible first | exact HB.out | apply zA | apply zN | apply zD) | exact HB.out))) : w.heap.size ≤ gb101)); clear HB; have HB := n0_; have BK101 := n1_; have GW101 := n2_; have GE101 := n3_; clear n0_ n1_ n2_ n3_; clear hb hbox hg) | ((with_reducible refine gate_callee (f := 41) rfl ?_); refine goesL_ (some 15) rfl rfl Tryd.func41 (by kernel_rfl) rfl #[.string a0] rfl (by (try simp only [List.map_toArray, List.map_cons, List.map_nil]); first | done | rfl) ?_; (with_reducible refine (term_Parse.calls k a0 t102 t103 t104 _ A3.out).mono ?_); rintro e w35 ⟨v105, rfl, ho0, hb⟩; refine ⟨_, rfl, ?_⟩; have n0_ := zM (Kd.R_lower ho0 (below_size (by repeat (first | (with_reducible first | exact HB.out | apply zA | apply zN | apply zD | refine below_set ?_ GE101.out) | exact HB.out)))); have n1_ := zM (blk_below (g := gb101) (o := .cells #[.int .i64 0, .slice none 0 0, .slice none 0 0] 25 (0, 0)) (by (with_reducible repeat (first | refine blk_drewN ?_ _ | refine blk_drew ?_ | refine blk_alloc ?_ _)); exact BK101.out) hb); have n2_ := zM (below_step (by repeat (first | (with_reducible first | exact HB.out | apply zA | apply zN | apply zD | refine below_set ?_ GE101.out) | exact HB.out)) hb); clear BK101; clear HB; have HO106 := n0_; have BK101 := n1_; have HB := n2_; clear n0_ n1_ n2_; (try clear hb); (try clear hb2); (try clear hk); (try clear hi); (try clear ho0); have hcz36_0 : w35.cell? ⟨gb101, 0, none⟩ = some (.int .i64 0) := (zX BK101.out 0).trans rfl; have hcz36_1 : w35.cell? ⟨gb101, 1, none⟩ = some (.slice none 0 0) := (zX BK101.out 1).trans rfl; have hcz36_2 : w35.cell? ⟨gb101, 2, none⟩ = some (.slice none 0 0) := (zX BK101.out 2).trans rfl; have hfz36_0 := zY BK101.out 0; have hfz36_1 := zY BK101.out 1; have hfz36_2 := zY BK101.out 2))
  refine bodyPost_ret (results_ct rfl _ _ gb101 25 #[.int .i64 0, .slice none 0 0, .slice none 0 0] (0, 0) _ rfl (by (with_reducible repeat (first | refine blk_drewN ?_ _ | refine blk_drew ?_ | refine blk_alloc ?_ _)); refine blk_put (cs := #[.int .i64 0, .slice none 0 0, .slice none 0 0]) ?_ 2 _ rfl; (with_reducible repeat (first | refine blk_drewN ?_ _ | refine blk_drew ?_ | refine blk_alloc ?_ _)); refine blk_put (cs := #[.int .i64 0, .slice none 0 0, .slice none 0 0]) ?_ 1 _ rfl; (with_reducible repeat (first | refine blk_drewN ?_ _ | refine blk_drew ?_ | refine blk_alloc ?_ _)); refine blk_put (cs := #[.int .i64 0, .slice none 0 0, .slice none 0 0]) ?_ 0 _ rfl; (with_reducible repeat (first | refine blk_drewN ?_ _ | refine blk_drew ?_ | refine blk_alloc ?_ _)); exact BK101.out) Tryd.underlying25 rfl (by kernel_rfl)) rfl ?_
  exact ⟨_, _, by first | rfl | (simp [errW_none, errW_some] <;> rfl) | (simp [*, errW_none, errW_some] <;> rfl), by first | exact Kd.R_nil _ _ _ _ _ | exact Kd.N_nil _ _ _ _ _ | exact Kd.V_nil _ _ _ _ _ | exact Kd.Q_nil _ _ _ _ _ | exact Kd.S_nil _ _ _ _ _, by first | exact Kd.R_nil _ _ _ _ _ | exact Kd.N_nil _ _ _ _ _ | exact Kd.V_nil _ _ _ _ _ | exact Kd.Q_nil _ _ _ _ _ | exact Kd.S_nil _ _ _ _ _, by repeat (first | (with_reducible first | exact HB.out | apply zA | apply zN | apply zD | refine below_set ?_ GE101.out) | exact HB.out)⟩


-- ==== PF43

/-! ### term_Print: function 43 -/
/-! ### the builder: its calls -/
theorem bd_info : ∃ j, Tryd.prog.info? 99 = some j ∧ j.size = 2 := by
 have h : (Tryd.prog.info? 99).map (·.size) = some 2 := by kernel_rfl
 exact Option.map_eq_some_iff.1 h
theorem bd_lies : liesAt Tryd.prog Tryd.prog.depth 99 (2 / Tryd.prog.cellsOf 99) 0 99 1 = true := by kernel_rfl
set_option maxHeartbeats 1000000 in
set_option maxRecDepth 100000 in
theorem bd_used (b : Nat) (w : World) (h0 : w.cell? ⟨b, 0, none⟩ = some (.pointer (some ⟨b, 0, none⟩))) :
 Calls Tryd.prog 86 #[.pointer (some ⟨b, 0, none⟩)] w fun e w' => e = .returned (.tuple #[]) ∧ w' = w := by
 obtain ⟨j, hj, hjs⟩ := bd_info
 go_enter Tryd.func86, Tryd.ntmps86
 go_wp2
 rw [Lib.run_neq_ptr_same w _ Tryd.underlying96 hj]
 go_wp2
 go_end0
 exact ⟨rfl, rfl⟩
set_option maxHeartbeats 1000000 in
set_option maxRecDepth 100000 in
theorem bd_fresh (b : Nat) (w : World) (h0 : w.cell? ⟨b, 0, none⟩ = some (.pointer none)) (hsh : w.shape? b = some (99, 2)) (hfz : w.frozen? ⟨b, 0, none⟩ = false) :
 Calls Tryd.prog 86 #[.pointer (some ⟨b, 0, none⟩)] w fun e w' => e = .returned (.tuple #[]) ∧ w' = w.setCell ⟨b, 0, none⟩ (.pointer (some ⟨b, 0, none⟩)) := by
 obtain ⟨j, hj, hjs⟩ := bd_info
 go_enter Tryd.func86, Tryd.ntmps86
 go_wp2
 rw [Lib.run_to_unsafe w ⟨b, 0, none⟩ Tryd.underlying96 Tryd.underlying131 hj (by rw [hjs]; decide) hsh (Nat.zero_lt_succ 1)]
 simp only [Result.andThen]
 rw [Oper.upon_value]
 go_wp2
 rw [run_callFunc_extern Tryd.func91 (by kernel_rfl) (by kernel_rfl) (by kernel_rfl) (e := Extern.AbiNoEscape.same) (by kernel_rfl)]
 rw [Lib.run_noEscape]
 simp only [Result.andThen]
 rw [Oper.upon_value]
 go_wp2
 rw [Lib.run_from_unsafe w ⟨b, 0, none⟩ Tryd.underlying131 Tryd.underlying96 hj hsh bd_lies]
 simp only [Result.andThen]
 rw [Oper.upon_value]
 go_wp2
 go_end0
 exact ⟨rfl, rfl⟩
abbrev IsBd (B b : Nat) (l : List UInt8) (w : World) : Prop := Lib.IsBuilder 99 5 B b (Lib.byteCells l) w
theorem bd_check (B b : Nat) (bs : List Value) (w : World) (h : Lib.IsBuilder 99 5 B b bs w) :
 Calls Tryd.prog 86 #[.pointer (some ⟨b, 0, none⟩)] w fun e w' => e = .returned (.tuple #[]) ∧ Lib.BuilderAt 99 5 B b (.pointer (some ⟨b, 0, none⟩)) bs w' ∧ Below B w w' ∧ Lib.OthersKept 5 (some b) w w' := by
 rcases h with h | h
 ·
  refine (bd_fresh b w h.cell0 h.shape h.frozen0).mono ?_
  rintro e w' ⟨rfl, rfl⟩
  exact ⟨rfl, h.used _, (Below.refl B w).setCell (p := ⟨b, 0, none⟩) h.1 _, (Lib.OthersKept.refl _ _ w).setCell ⟨b, 0, none⟩ rfl _⟩
 ·
  refine (bd_used b w h.cell0).mono ?_
  rintro e w' ⟨rfl, rfl⟩
  exact ⟨rfl, h, Below.refl B _, Lib.OthersKept.refl _ _ _⟩
theorem bd_byte : ∃ i, Tryd.prog.info? 5 = some i ∧ i.zero = some (.int .u8 0) ∧ i.size = 1 ∧ i.bytes = 1 := by
 have h : (Tryd.prog.info? 5).map (fun i => (i.zero, i.size, i.bytes)) = some (some (.int .u8 0), 1, 1) := by kernel_rfl
 obtain ⟨i, hi, hz⟩ := Option.map_eq_some_iff.1 h
 simp only [Prod.mk.injEq] at hz
 exact ⟨i, hi, hz.1, hz.2.1, hz.2.2⟩
theorem bd_put {B b : Nat} {p v v' : Value} {bs' : List Value} {W : World} (hB : B ≤ b) (hb : W.heap[b]? = some (.cells #[p, v] 99 (0, 0))) (ho : W.ownsRow B 5 1 v' bs'.length bs') : Lib.BuilderAt 99 5 B b p bs' (W.setCell ⟨b, 1, none⟩ v') :=
 Lib.BuilderAt.put (T := 99) (e := 5) hB hb (bs' := bs') ho (by decide)
set_option maxHeartbeats 2000000 in
set_option maxRecDepth 100000 in
theorem bd_string (B b : Nat) (bs : List Value) (s : ByteArray) (w : World) (h : Lib.IsBuilder 99 5 B b bs w) (hB0 : B ≤ w.heap.size) (hl : bs.length + s.size ≤ 4096) :
 Calls Tryd.prog 83 #[.pointer (some ⟨b, 0, none⟩), .string s] w fun e w' => e = .returned (.tuple #[.int .i64 s.size, .nilIface]) ∧ Lib.IsBuilder 99 5 B b (bs ++ Lib.strCells s) w' ∧ Below B w w' ∧ Lib.OthersKept 5 (some b) w w' := by
 obtain ⟨i0, hi, hz0, hz1, hz2⟩ := bd_byte
 go_enter Tryd.func83, Tryd.ntmps83
 go_wp2_with (go_at_call 86; refine (bd_check B b bs _ h).mono ?_)
 rintro e w1 ⟨rfl, h1, hb1, hk1⟩
 obtain ⟨hB, v, hbk, hown, hne⟩ := h1
 have c0 : w1.cell? ⟨b, 0, none⟩ = some (.pointer (some ⟨b, 0, none⟩)) := by rw [Lib.cell_of_heap hbk]; rfl
 have c1 : w1.cell? ⟨b, 1, none⟩ = some v := by rw [Lib.cell_of_heap hbk]; rfl
 go_wp2_with (at_builtin; refine Lib.wpList_append_own_string _ rfl _ _ 97 9 rfl B 5 i0 Tryd.underlying97 Tryd.underlying9 hi hz0 hz1 hz2 _ _ _ rfl hown s rfl ?c4 ?c5 ?c6 ?_)
 case c4 => simp only [maxLen]; omega
 case c5 => omega
 case c6 => have := hb1.size; omega
 intro v' w2 hown' hgrow _
 have hlt : b < w1.heap.size := blk_lt hbk
 have hb2 : w2.heap[b]? = some (.cells #[.pointer (some ⟨b, 0, none⟩), v] 99 (0, 0)) := by
  rw [hgrow.block b hlt (fun e => hne e.symm)]
  exact hbk
 have d0 : w2.cell? ⟨b, 0, none⟩ = some (.pointer (some ⟨b, 0, none⟩)) := by rw [Lib.cell_of_heap hb2]; rfl
 have d1 : w2.cell? ⟨b, 1, none⟩ = some v := by rw [Lib.cell_of_heap hb2]; rfl
 have f1 : w2.frozen? ⟨b, 1, none⟩ = false := Lib.frozen_of_heap hb2 1
 obtain ⟨ao, n', cap, rfl⟩ : ∃ ao n' cap, v' = .slice ao n' cap := by
  rcases hown'.2 with ⟨hv, _⟩ | ⟨g, cap, cur, hv, _⟩
  ·
   exact ⟨_, _, _, hv⟩
  ·
   exact ⟨_, _, _, hv⟩
 go_wp2
 go_ret2
 refine ⟨rfl, .inr (bd_put hB hb2 (bs' := bs ++ Lib.strCells s) (by simpa [Lib.strCells_length] using hown')), ?_, (hk1.grown hgrow (Lib.ownsRowF_kind (World.ownsRowF_of hown))).setCell ⟨b, 1, none⟩ rfl _⟩
 exact (hb1.grown hgrow (by have := hb1.size; omega) (fun k hk => (hown.lt k hk).1)).setCell (p := ⟨b, 1, none⟩) hB _
set_option maxHeartbeats 2000000 in
set_option maxRecDepth 100000 in
theorem bd_write (B b : Nat) (bs : List Value) (c : Int) (w : World) (h : Lib.IsBuilder 99 5 B b bs w) (hB0 : B ≤ w.heap.size) (hl : bs.length + 1 ≤ 4096) :
 Calls Tryd.prog 84 #[.pointer (some ⟨b, 0, none⟩), .int .u8 c] w fun e w' => e = .returned .nilIface ∧ Lib.IsBuilder 99 5 B b (bs ++ [.int .u8 c]) w' ∧ Below B w w' ∧ Lib.OthersKept 5 (some b) w w' := by
 obtain ⟨i0, hi, hz0, hz1, hz2⟩ := bd_byte
 go_enter Tryd.func84, Tryd.ntmps84
 go_wp2_with (go_at_call 86; refine (bd_check B b bs _ h).mono ?_)
 rintro e w1 ⟨rfl, h1, hb1, hk1⟩
 obtain ⟨hB, v, hbk, hown, hne⟩ := h1
 have c0 : w1.cell? ⟨b, 0, none⟩ = some (.pointer (some ⟨b, 0, none⟩)) := by rw [Lib.cell_of_heap hbk]; rfl
 have c1 : w1.cell? ⟨b, 1, none⟩ = some v := by rw [Lib.cell_of_heap hbk]; rfl
 go_wp2_with (at_builtin; refine wpList_append_own _ rfl _ _ 97 rfl B 5 i0 (.int .u8 0) 1 1 Tryd.underlying97 hi hz0 hz1 hz2 rfl (by decide) _ _ _ rfl (hown.alloc _) ⟨w1.heap.size, 0, none⟩ 1 1 [.int .u8 c] rfl rfl ?c1 ?c2 ?c3 ?c4 ?c5 ?_)
 case c1 =>
  intro j u hj
  match j, hj with
  | 0, hj => simp at hj; subst hj; simp [Addr.add]
 case c2 => intro u hu; simp at hu; subst hu; rfl
 case c3 => unfold maxLen; omega
 case c4 => omega
 case c5 => have := hb1.size; simp; omega
 intro v' w2 hown' hgrow _
 have hlt : b < w1.heap.size := blk_lt hbk
 have hb2 : w2.heap[b]? = some (.cells #[.pointer (some ⟨b, 0, none⟩), v] 99 (0, 0)) := by
  rw [hgrow.block b (by simp; omega) (fun e => hne e.symm), Lib.alloc_old w1 _ b hlt]
  exact hbk
 have d0 : w2.cell? ⟨b, 0, none⟩ = some (.pointer (some ⟨b, 0, none⟩)) := by rw [Lib.cell_of_heap hb2]; rfl
 have d1 : w2.cell? ⟨b, 1, none⟩ = some v := by rw [Lib.cell_of_heap hb2]; rfl
 have f1 : w2.frozen? ⟨b, 1, none⟩ = false := Lib.frozen_of_heap hb2 1
 obtain ⟨g, cap, rfl⟩ : ∃ g cap, v' = .slice (some ⟨g, 0, none⟩) (bs.length + 1) cap := by
  rcases hown'.2 with ⟨_, h0⟩ | ⟨g, cap, cur, hv, _⟩
  ·
   omega
  ·
   exact ⟨g, cap, hv⟩
 go_wp2
 go_ret
 refine ⟨rfl, .inr (bd_put hB hb2 (bs' := bs ++ [.int .u8 c]) (by simpa using hown')), ?_, ((hk1.alloc _).grown hgrow (Lib.ownsRowF_kind (World.ownsRowF_of (hown.alloc _)))).setCell ⟨b, 1, none⟩ rfl _⟩
 exact ((hb1.alloc (by have := hb1.size; omega) _).grown hgrow (by have := hb1.size; simp; omega) (fun k hk => (hown.lt k hk).1)).setCell (p := ⟨b, 1, none⟩) hB _
set_option maxHeartbeats 2000000 in
set_option maxRecDepth 100000 in
/-- What has been written, as a string. -/
theorem bd_done (B b : Nat) (l : List UInt8) (w : World) (h : Lib.IsBuilder 99 5 B b (Lib.byteCells l) w) (h0 : l ≠ []) (hlen : l.length ≤ 4096) :
 Calls Tryd.prog 68 #[.pointer (some ⟨b, 0, none⟩)] w fun e w' => e = .returned (.string ⟨l.toArray⟩) ∧ Below B w w' := by
 obtain ⟨p, hB, v, hbk, hown, hne⟩ : ∃ p, Lib.BuilderAt 99 5 B b p (Lib.byteCells l) w := by
  rcases h with h | h
  ·
   exact ⟨_, h⟩
  ·
   exact ⟨_, h⟩
 have hl0 : l.length ≠ 0 := by simpa using h0
 rw [Lib.byteCells_length] at hown
 obtain ⟨g, cap, cur, rfl, hbg, hg, hnc, hcm, hcs, htake⟩ : ∃ g cap cur, v = .slice (some ⟨g, 0, none⟩) l.length cap ∧ B ≤ g ∧ w.heap[g]? = some (.cells cur 5 (0, 0)) ∧ l.length ≤ cap ∧ cap ≤ maxLen ∧ cur.size = cap * 1 ∧ cur.toList.take (l.length * 1) = Lib.byteCells l := by
  rcases hown.2 with ⟨_, hz⟩ | ⟨g, cap, cur, hv, r⟩
  ·
   exact absurd hz hl0
  ·
   exact ⟨g, cap, cur, hv, r⟩
 have c1 : w.drew.cell? ⟨b, 1, none⟩ = some (.slice (some ⟨g, 0, none⟩) l.length cap) := by
  have : w.drew.heap[b]? = some (.cells #[p, .slice (some ⟨g, 0, none⟩) l.length cap] 99 (0, 0)) := hbk
  rw [Lib.cell_of_heap this]; rfl
 have hSD : (Builtin.unsafeSliceData_ #[97] 123 #[.slice (some ⟨g, 0, none⟩) l.length cap]).run Tryd.prog w.drew = .ok (.pointer (some ⟨g, 0, none⟩)) w.drew :=
  Lib.run_unsafeSliceData_row _ _ _ _ _ _ (by omega)
 have hUS : (Builtin.unsafeString_ #[123, 3] 9 #[.pointer (some ⟨g, 0, none⟩), .int .i64 l.length]).run Tryd.prog w.drew = .ok (.string ⟨l.toArray⟩) (w.drew.freeze ⟨g, 0, none⟩ l.length) := by
  refine Lib.run_unsafeString_row w.drew 123 3 9 5 Tryd.underlying123 (by kernel_rfl) g cur.size (by have hg' : w.drew.heap[g]? = some (.cells cur 5 (0, 0)) := hg; simp [World.shape?, hg']) l h0 (by omega) (by omega) ?_
  intro j x hx
  have := hown.cells (g := g) rfl j (.int .u8 x.toNat) (by simp [Lib.byteCells, hx])
  exact this
 go_enter Tryd.func68, Tryd.ntmps68
 go_wp2
 go_region
 all_goals (go_wp2; go_ret; exact ⟨rfl, Lib.below_freeze (Below.drew (Below.refl B w)) (p := ⟨g, 0, none⟩) hbg _⟩)
/-! ### write: what it writes, and where it ends -/
mutual
def wrT : Nat → List (S33) → Int → List UInt8 → Option (List UInt8 × Int)
 | 0, _, _, _ => none
 | k + 1, t, i, l => if 0 ≤ i then (if i < (t.length : Int) then (if l.length + (rd_T33 t i).f0.size ≤ 4000 then
  ((wrL k t (rd_T33 t i).f1 0 (wrap64 (i + 1)) (l ++ (rd_T33 t i).f0.data.toList)).bind fun x =>
   if (rd_T33 t i).f1 > 0 then (if x.1.length + 1 ≤ 4000 then some (x.1 ++ [41], x.2) else none) else some x) else none) else none) else none
def wrL : Nat → List (S33) → Int → Int → Int → List UInt8 → Option (List UInt8 × Int)
 | 0, _, _, _, _, _ => none
 | k + 1, t, a, n, i, l => if n < a then (if n < 4 then (if l.length + 1 ≤ 4000 then ((wrT k t i (l ++ [if n = 0 then 40 else 44])).bind fun x => wrL k t a (wrap64 (n + 1)) x.2 x.1) else none) else none) else some (l, i)
end
def WrC (k : Nat) : Prop := ∀ (b : Nat) (t : List (S33)) (A : Option Addr) (c : Nat) (i : Int) (l : List UInt8) (r : List UInt8 × Int) (w0 w : World), Kd.C k33 w0 A t.length t → Below w0.heap.size w0 w → IsBd w0.heap.size b l w → wrT k t i l = some r →
 Calls Tryd.prog 67 #[.pointer (some ⟨b, 0, none⟩), .slice A t.length c, .int .i64 i] w fun e w' => e = .returned (.int .i64 r.2) ∧ IsBd w0.heap.size b r.1 w' ∧ Below w0.heap.size w w' ∧ Lib.OthersKept 5 (some b) w w'
theorem bd_alloc {B b : Nat} {l : List UInt8} {w : World} (h : IsBd B b l w) (o : Obj) : IsBd B b l (w.alloc o) := by
 have one : ∀ p, Lib.BuilderAt 99 5 B b p (Lib.byteCells l) w → Lib.BuilderAt 99 5 B b p (Lib.byteCells l) (w.alloc o) := fun p h => by
  obtain ⟨hB, v, hb, ho, hne⟩ := h
  exact ⟨hB, v, (Below.heap_alloc w o b (blk_lt hb)).trans hb, ho.alloc o, hne⟩
 exact h.elim (fun h => .inl (one _ h)) (fun h => .inr (one _ h))
theorem bd_len (l : List UInt8) : (Lib.byteCells l).length = l.length := Lib.byteCells_length l
theorem bd_lt {B b : Nat} {l : List UInt8} {w : World} (h : IsBd B b l w) : b < w.heap.size := h.elim (fun h => h.lt) (fun h => h.lt)
theorem bd_one {B b : Nat} {l : List UInt8} {x : UInt8} {w : World} (h : Lib.IsBuilder 99 5 B b (Lib.byteCells l ++ [.int .u8 x.toNat]) w) : IsBd B b (l ++ [x]) w := by
 unfold IsBd
 rw [Lib.byteCells_append]
 exact h
theorem bd_str {B b : Nat} {l : List UInt8} {s : ByteArray} {w : World} (h : Lib.IsBuilder 99 5 B b (Lib.byteCells l ++ Lib.strCells s) w) : IsBd B b (l ++ s.data.toList) w := by
 unfold IsBd
 rw [Lib.byteCells_append]
 exact h
theorem wr_kept {b : Nat} {w w1 : World} {o : Obj} (h : Lib.OthersKept 5 (some b) (w.alloc o) w1) : Lib.OthersKept 5 (some b) w w1 := ((Lib.OthersKept.refl _ _ w).alloc o).trans h
theorem bd_tr {B : Nat} {w w1 w2 : World} (h : Below B w w1) (k : Below B w1 w2) : Below B w w2 :=
 ⟨k.os.trans h.os, k.tape.trans h.tape, k.output.trans h.output, Nat.le_trans h.size k.size, fun i hi => (k.block i hi).trans (h.block i hi)⟩
set_option maxHeartbeats 4000000 in
set_option maxRecDepth 100000 in
theorem wr_step (k : Nat) (ih : ∀ k', k' < k → WrC k') : WrC k := by
 intro b t A c i l r w0 w hC hB hI h
 cases k with
 | zero => simp [wrT] at h
 | succ k =>
  have HI0 := zM hI
  have HB0 := zM (Below.refl w0.heap.size w)
  have HBW := zM hB
  have HC := zM hC
  simp only [wrT] at h
  by_cases c1 : 0 ≤ i
  ·
   rw [if_pos c1] at h
   by_cases c2 : i < (t.length : Int)
   ·
    rw [if_pos c2] at h
    split at h
    · next c3 =>
     obtain ⟨x, hx, h⟩ := zB h
     obtain ⟨ad, rfl, hz1, hz2⟩ := at_T33 (Kd.C_below hC hB) i c1 c2
     have HX := zM hx
     have H := zM h
     have HI := zM hI
     clear hx h hC hI
     have p4 := eq_true c1
     have q4 := eq_true c2
     have W1 := fun (W : World) (h : IsBd w0.heap.size b l W) (hs : w0.heap.size ≤ W.heap.size) => bd_string w0.heap.size b (Lib.byteCells l) (rd_T33 t i).f0 W h hs (by rw [bd_len]; omega)
     clear c1 c2
     have hbn : some w.heap.size ≠ some b := by have := bd_lt HI.out; intro e_; injection e_ with e_; omega
     go_enter Tryd.func67, Tryd.ntmps67
     go_wp2_with (first | (go_at_call 83; (refine (W1 _ ?side1 ?side2).mono ?_); (case side1 => exact (by repeat (first | exact HI0.out | apply bd_alloc | apply bd_drewN | apply bd_drew))); (case side2 => have := HBW.out.size; simp; omega); rintro e w1 ⟨rfl, hI1, hB1, hk1⟩; have hcb := hk1 w.heap.size _ (heap_alloc_new w _) hbn (by intro c_ fz_ h_; cases h_); have hz1c := (zX hcb 1).trans rfl; have HCB := zM hcb; have HI1 := zM (bd_str hI1); have HB1 : Aside0 (Below w0.heap.size w w1) := ⟨bd_tr (HB0.out.alloc hB.size _) hB1⟩; have HK1 := zM (wr_kept hk1); clear hI1 hB1 hk1 hcb))
     repeat (go_quiet (first | (go_at_call 83; (refine (W1 _ ?side1 ?side2).mono ?_); (case side1 => exact (by repeat (first | exact HI0.out | apply bd_alloc | apply bd_drewN | apply bd_drew))); (case side2 => have := HBW.out.size; simp; omega); rintro e w1 ⟨rfl, hI1, hB1, hk1⟩; have hcb := hk1 w.heap.size _ (heap_alloc_new w _) hbn (by intro c_ fz_ h_; cases h_); have hz1c := (zX hcb 1).trans rfl; have HCB := zM hcb; have HI1 := zM (bd_str hI1); have HB1 : Aside0 (Below w0.heap.size w w1) := ⟨bd_tr (HB0.out.alloc hB.size _) hB1⟩; have HK1 := zM (wr_kept hk1); clear hI1 hB1 hk1 hcb)); try go_wp2_with (first | (go_at_call 83; (refine (W1 _ ?side1 ?side2).mono ?_); (case side1 => exact (by repeat (first | exact HI0.out | apply bd_alloc | apply bd_drewN | apply bd_drew))); (case side2 => have := HBW.out.size; simp; omega); rintro e w1 ⟨rfl, hI1, hB1, hk1⟩; have hcb := hk1 w.heap.size _ (heap_alloc_new w _) hbn (by intro c_ fz_ h_; cases h_); have hz1c := (zX hcb 1).trans rfl; have HCB := zM hcb; have HI1 := zM (bd_str hI1); have HB1 : Aside0 (Below w0.heap.size w w1) := ⟨bd_tr (HB0.out.alloc hB.size _) hB1⟩; have HK1 := zM (wr_kept hk1); clear hI1 hB1 hk1 hcb)))
     go_loopg [2, 21] k (fun kq v2 v21 w' => ∃ (n i2 : Int) (l2 : List UInt8), v2 = .int .i64 i2 ∧ v21 = .int .i64 n ∧ Aside0 (wrL kq t (rd_T33 t i).f1 n i2 l2 = some x) ∧ Aside0 (kq ≤ k) ∧ Aside0 (IsBd w0.heap.size b l2 w') ∧ Aside0 (Below w0.heap.size w w') ∧ Aside0 (w'.heap[w.heap.size]? = some (.cells #[.string (rd_T33 t i).f0, .int .i64 (rd_T33 t i).f1] 33 (0, 0))) ∧ Aside0 (Lib.OthersKept 5 (some b) w w') ∧ Aside0 (0 ≤ n))
     case atStart => exact ⟨0, _, _, rfl, rfl, HX, ⟨Nat.le_refl _⟩, ⟨(by repeat (first | exact HI1.out | apply bd_alloc | apply bd_drewN | apply bd_drew))⟩, ⟨(by repeat (first | exact HB1.out | apply zN | apply zD | apply zA))⟩, HCB, HK1, ⟨Int.le_refl _⟩⟩
     case round =>
      clear HX hz1c HCB HI1 HB1 HK1
      obtain ⟨n, i2, l2, rfl, rfl, HA, HK1, HI2, HB2, HCB2, HK2, Hn⟩ := hrel
      cases gk with
      | zero => exact absurd HA.out (by simp [wrL])
      | succ k1 =>
       have hA := HA.out
       clear HA
       simp only [wrL] at hA
       have hz2c := (zX HCB2.out 1).trans rfl
       by_cases d1 : n < (rd_T33 t i).f1
       ·
        rw [if_pos d1] at hA
        have d1b : decide (n < (rd_T33 t i).f1) = true := zQ d1
        clear d1
        split at hA
        · next d8 =>
         split at hA
         · next d2 =>
          obtain ⟨y, hy, hA⟩ := zB hA
          have H' := zM hA
          clear hA
          have HKK := zM (show k1 < k + 1 by have := HK1.out; omega)
          have REC := fun (W : World) (hW : Below w0.heap.size w0 W) (h : IsBd w0.heap.size b (l2 ++ [if n = 0 then 40 else 44]) W) => ih k1 HKK.out b t (some ad) c i2 _ y w0 W HC.out hW h hy
          have hn := Hn.out
          have d9 : n = 0 ∨ n = 1 ∨ n = 2 ∨ n = 3 := by omega
          clear hn Hn d8
          rcases d9 with rfl | rfl | rfl | rfl
          ·
           simp only [if_true] at REC
           have H1 := zM (show wrL k1 t (rd_T33 t i).f1 1 y.2 y.1 = some x from by have h_ := H'.out; rwa [show wrap64 (0 + 1) = 1 from by unfold wrap64; omega] at h_)
           clear H'
           have H' := H1
           clear H1
           have BY := fun (W : World) (h : IsBd w0.heap.size b l2 W) (hs : w0.heap.size ≤ W.heap.size) => bd_write w0.heap.size b (Lib.byteCells l2) 40 W h hs (by rw [bd_len]; omega)
           go_wp2_with (first | (go_at_call 84; (refine (BY _ ?side1 ?side2).mono ?_); (case side1 => exact (by repeat (first | exact HI2.out | apply bd_alloc | apply bd_drewN | apply bd_drew))); (case side2 => exact Nat.le_trans hB.size ((by repeat (first | exact HB2.out | apply zN | apply zD | apply zA)) : Below w0.heap.size w _).size); rintro e w3 ⟨rfl, hI3, hB3, hk3⟩; have hcb3 := hk3 w.heap.size _ HCB2.out hbn (by intro c_ fz_ h_; cases h_); have hz3c := (zX hcb3 1).trans rfl; have HCB3 := zM hcb3; have HI3 := zM (bd_one (x := 40) hI3); have HB3 := zM (bd_tr (by repeat (first | exact HB2.out | apply zN | apply zD | apply zA)) hB3); have HK3 := zM (Lib.OthersKept.trans HK2.out hk3); clear hI3 hB3 hk3 hcb3) | (go_at_call 67; (refine (REC _ ?side1 ?side2).mono ?_); (case side1 => exact bd_tr HBW.out (by repeat (first | exact HB3.out | apply zN | apply zD | apply zA))); (case side2 => exact (by repeat (first | exact HI3.out | apply bd_alloc | apply bd_drewN | apply bd_drew))); rintro e w4 ⟨rfl, hI4, hB4, hk4⟩; have hcb4 := hk4 w.heap.size _ HCB3.out hbn (by intro c_ fz_ h_; cases h_); have HCB4 := zM hcb4; have HI4 := zM hI4; have HB4 := zM (bd_tr (by repeat (first | exact HB3.out | apply zN | apply zD | apply zA)) hB4); have HK4 := zM (Lib.OthersKept.trans HK3.out hk4); clear hI4 hB4 hk4 hcb4))
           repeat (go_quiet (first | (go_at_call 84; (refine (BY _ ?side1 ?side2).mono ?_); (case side1 => exact (by repeat (first | exact HI2.out | apply bd_alloc | apply bd_drewN | apply bd_drew))); (case side2 => exact Nat.le_trans hB.size ((by repeat (first | exact HB2.out | apply zN | apply zD | apply zA)) : Below w0.heap.size w _).size); rintro e w3 ⟨rfl, hI3, hB3, hk3⟩; have hcb3 := hk3 w.heap.size _ HCB2.out hbn (by intro c_ fz_ h_; cases h_); have hz3c := (zX hcb3 1).trans rfl; have HCB3 := zM hcb3; have HI3 := zM (bd_one (x := 40) hI3); have HB3 := zM (bd_tr (by repeat (first | exact HB2.out | apply zN | apply zD | apply zA)) hB3); have HK3 := zM (Lib.OthersKept.trans HK2.out hk3); clear hI3 hB3 hk3 hcb3) | (go_at_call 67; (refine (REC _ ?side1 ?side2).mono ?_); (case side1 => exact bd_tr HBW.out (by repeat (first | exact HB3.out | apply zN | apply zD | apply zA))); (case side2 => exact (by repeat (first | exact HI3.out | apply bd_alloc | apply bd_drewN | apply bd_drew))); rintro e w4 ⟨rfl, hI4, hB4, hk4⟩; have hcb4 := hk4 w.heap.size _ HCB3.out hbn (by intro c_ fz_ h_; cases h_); have HCB4 := zM hcb4; have HI4 := zM hI4; have HB4 := zM (bd_tr (by repeat (first | exact HB3.out | apply zN | apply zD | apply zA)) hB4); have HK4 := zM (Lib.OthersKept.trans HK3.out hk4); clear hI4 hB4 hk4 hcb4)); try go_wp2_with (first | (go_at_call 84; (refine (BY _ ?side1 ?side2).mono ?_); (case side1 => exact (by repeat (first | exact HI2.out | apply bd_alloc | apply bd_drewN | apply bd_drew))); (case side2 => exact Nat.le_trans hB.size ((by repeat (first | exact HB2.out | apply zN | apply zD | apply zA)) : Below w0.heap.size w _).size); rintro e w3 ⟨rfl, hI3, hB3, hk3⟩; have hcb3 := hk3 w.heap.size _ HCB2.out hbn (by intro c_ fz_ h_; cases h_); have hz3c := (zX hcb3 1).trans rfl; have HCB3 := zM hcb3; have HI3 := zM (bd_one (x := 40) hI3); have HB3 := zM (bd_tr (by repeat (first | exact HB2.out | apply zN | apply zD | apply zA)) hB3); have HK3 := zM (Lib.OthersKept.trans HK2.out hk3); clear hI3 hB3 hk3 hcb3) | (go_at_call 67; (refine (REC _ ?side1 ?side2).mono ?_); (case side1 => exact bd_tr HBW.out (by repeat (first | exact HB3.out | apply zN | apply zD | apply zA))); (case side2 => exact (by repeat (first | exact HI3.out | apply bd_alloc | apply bd_drewN | apply bd_drew))); rintro e w4 ⟨rfl, hI4, hB4, hk4⟩; have hcb4 := hk4 w.heap.size _ HCB3.out hbn (by intro c_ fz_ h_; cases h_); have HCB4 := zM hcb4; have HI4 := zM hI4; have HB4 := zM (bd_tr (by repeat (first | exact HB3.out | apply zN | apply zD | apply zA)) hB4); have HK4 := zM (Lib.OthersKept.trans HK3.out hk4); clear hI4 hB4 hk4 hcb4)))
           go_roundg k1
           case measure => have := HK1.out; omega
           case rel => exact ⟨_, y.2, y.1, rfl, rfl, H', ⟨by have := HK1.out; omega⟩, ⟨(by repeat (first | exact HI4.out | apply bd_alloc | apply bd_drewN | apply bd_drew))⟩, ⟨(by repeat (first | exact HB4.out | apply zN | apply zD | apply zA))⟩, HCB4, HK4, ⟨by decide⟩⟩
          ·
           simp only [if_neg (show ¬ (1 : Int) = 0 by decide)] at REC
           have H1 := zM (show wrL k1 t (rd_T33 t i).f1 2 y.2 y.1 = some x from by have h_ := H'.out; rwa [show wrap64 (1 + 1) = 2 from by unfold wrap64; omega] at h_)
           clear H'
           have H' := H1
           clear H1
           have BY := fun (W : World) (h : IsBd w0.heap.size b l2 W) (hs : w0.heap.size ≤ W.heap.size) => bd_write w0.heap.size b (Lib.byteCells l2) 44 W h hs (by rw [bd_len]; omega)
           go_wp2_with (first | (go_at_call 84; (refine (BY _ ?side1 ?side2).mono ?_); (case side1 => exact (by repeat (first | exact HI2.out | apply bd_alloc | apply bd_drewN | apply bd_drew))); (case side2 => exact Nat.le_trans hB.size ((by repeat (first | exact HB2.out | apply zN | apply zD | apply zA)) : Below w0.heap.size w _).size); rintro e w3 ⟨rfl, hI3, hB3, hk3⟩; have hcb3 := hk3 w.heap.size _ HCB2.out hbn (by intro c_ fz_ h_; cases h_); have hz3c := (zX hcb3 1).trans rfl; have HCB3 := zM hcb3; have HI3 := zM (bd_one (x := 44) hI3); have HB3 := zM (bd_tr (by repeat (first | exact HB2.out | apply zN | apply zD | apply zA)) hB3); have HK3 := zM (Lib.OthersKept.trans HK2.out hk3); clear hI3 hB3 hk3 hcb3) | (go_at_call 67; (refine (REC _ ?side1 ?side2).mono ?_); (case side1 => exact bd_tr HBW.out (by repeat (first | exact HB3.out | apply zN | apply zD | apply zA))); (case side2 => exact (by repeat (first | exact HI3.out | apply bd_alloc | apply bd_drewN | apply bd_drew))); rintro e w4 ⟨rfl, hI4, hB4, hk4⟩; have hcb4 := hk4 w.heap.size _ HCB3.out hbn (by intro c_ fz_ h_; cases h_); have HCB4 := zM hcb4; have HI4 := zM hI4; have HB4 := zM (bd_tr (by repeat (first | exact HB3.out | apply zN | apply zD | apply zA)) hB4); have HK4 := zM (Lib.OthersKept.trans HK3.out hk4); clear hI4 hB4 hk4 hcb4))
           repeat (go_quiet (first | (go_at_call 84; (refine (BY _ ?side1 ?side2).mono ?_); (case side1 => exact (by repeat (first | exact HI2.out | apply bd_alloc | apply bd_drewN | apply bd_drew))); (case side2 => exact Nat.le_trans hB.size ((by repeat (first | exact HB2.out | apply zN | apply zD | apply zA)) : Below w0.heap.size w _).size); rintro e w3 ⟨rfl, hI3, hB3, hk3⟩; have hcb3 := hk3 w.heap.size _ HCB2.out hbn (by intro c_ fz_ h_; cases h_); have hz3c := (zX hcb3 1).trans rfl; have HCB3 := zM hcb3; have HI3 := zM (bd_one (x := 44) hI3); have HB3 := zM (bd_tr (by repeat (first | exact HB2.out | apply zN | apply zD | apply zA)) hB3); have HK3 := zM (Lib.OthersKept.trans HK2.out hk3); clear hI3 hB3 hk3 hcb3) | (go_at_call 67; (refine (REC _ ?side1 ?side2).mono ?_); (case side1 => exact bd_tr HBW.out (by repeat (first | exact HB3.out | apply zN | apply zD | apply zA))); (case side2 => exact (by repeat (first | exact HI3.out | apply bd_alloc | apply bd_drewN | apply bd_drew))); rintro e w4 ⟨rfl, hI4, hB4, hk4⟩; have hcb4 := hk4 w.heap.size _ HCB3.out hbn (by intro c_ fz_ h_; cases h_); have HCB4 := zM hcb4; have HI4 := zM hI4; have HB4 := zM (bd_tr (by repeat (first | exact HB3.out | apply zN | apply zD | apply zA)) hB4); have HK4 := zM (Lib.OthersKept.trans HK3.out hk4); clear hI4 hB4 hk4 hcb4)); try go_wp2_with (first | (go_at_call 84; (refine (BY _ ?side1 ?side2).mono ?_); (case side1 => exact (by repeat (first | exact HI2.out | apply bd_alloc | apply bd_drewN | apply bd_drew))); (case side2 => exact Nat.le_trans hB.size ((by repeat (first | exact HB2.out | apply zN | apply zD | apply zA)) : Below w0.heap.size w _).size); rintro e w3 ⟨rfl, hI3, hB3, hk3⟩; have hcb3 := hk3 w.heap.size _ HCB2.out hbn (by intro c_ fz_ h_; cases h_); have hz3c := (zX hcb3 1).trans rfl; have HCB3 := zM hcb3; have HI3 := zM (bd_one (x := 44) hI3); have HB3 := zM (bd_tr (by repeat (first | exact HB2.out | apply zN | apply zD | apply zA)) hB3); have HK3 := zM (Lib.OthersKept.trans HK2.out hk3); clear hI3 hB3 hk3 hcb3) | (go_at_call 67; (refine (REC _ ?side1 ?side2).mono ?_); (case side1 => exact bd_tr HBW.out (by repeat (first | exact HB3.out | apply zN | apply zD | apply zA))); (case side2 => exact (by repeat (first | exact HI3.out | apply bd_alloc | apply bd_drewN | apply bd_drew))); rintro e w4 ⟨rfl, hI4, hB4, hk4⟩; have hcb4 := hk4 w.heap.size _ HCB3.out hbn (by intro c_ fz_ h_; cases h_); have HCB4 := zM hcb4; have HI4 := zM hI4; have HB4 := zM (bd_tr (by repeat (first | exact HB3.out | apply zN | apply zD | apply zA)) hB4); have HK4 := zM (Lib.OthersKept.trans HK3.out hk4); clear hI4 hB4 hk4 hcb4)))
           go_roundg k1
           case measure => have := HK1.out; omega
           case rel => exact ⟨_, y.2, y.1, rfl, rfl, H', ⟨by have := HK1.out; omega⟩, ⟨(by repeat (first | exact HI4.out | apply bd_alloc | apply bd_drewN | apply bd_drew))⟩, ⟨(by repeat (first | exact HB4.out | apply zN | apply zD | apply zA))⟩, HCB4, HK4, ⟨by decide⟩⟩
          ·
           simp only [if_neg (show ¬ (2 : Int) = 0 by decide)] at REC
           have H1 := zM (show wrL k1 t (rd_T33 t i).f1 3 y.2 y.1 = some x from by have h_ := H'.out; rwa [show wrap64 (2 + 1) = 3 from by unfold wrap64; omega] at h_)
           clear H'
           have H' := H1
           clear H1
           have BY := fun (W : World) (h : IsBd w0.heap.size b l2 W) (hs : w0.heap.size ≤ W.heap.size) => bd_write w0.heap.size b (Lib.byteCells l2) 44 W h hs (by rw [bd_len]; omega)
           go_wp2_with (first | (go_at_call 84; (refine (BY _ ?side1 ?side2).mono ?_); (case side1 => exact (by repeat (first | exact HI2.out | apply bd_alloc | apply bd_drewN | apply bd_drew))); (case side2 => exact Nat.le_trans hB.size ((by repeat (first | exact HB2.out | apply zN | apply zD | apply zA)) : Below w0.heap.size w _).size); rintro e w3 ⟨rfl, hI3, hB3, hk3⟩; have hcb3 := hk3 w.heap.size _ HCB2.out hbn (by intro c_ fz_ h_; cases h_); have hz3c := (zX hcb3 1).trans rfl; have HCB3 := zM hcb3; have HI3 := zM (bd_one (x := 44) hI3); have HB3 := zM (bd_tr (by repeat (first | exact HB2.out | apply zN | apply zD | apply zA)) hB3); have HK3 := zM (Lib.OthersKept.trans HK2.out hk3); clear hI3 hB3 hk3 hcb3) | (go_at_call 67; (refine (REC _ ?side1 ?side2).mono ?_); (case side1 => exact bd_tr HBW.out (by repeat (first | exact HB3.out | apply zN | apply zD | apply zA))); (case side2 => exact (by repeat (first | exact HI3.out | apply bd_alloc | apply bd_drewN | apply bd_drew))); rintro e w4 ⟨rfl, hI4, hB4, hk4⟩; have hcb4 := hk4 w.heap.size _ HCB3.out hbn (by intro c_ fz_ h_; cases h_); have HCB4 := zM hcb4; have HI4 := zM hI4; have HB4 := zM (bd_tr (by repeat (first | exact HB3.out | apply zN | apply zD | apply zA)) hB4); have HK4 := zM (Lib.OthersKept.trans HK3.out hk4); clear hI4 hB4 hk4 hcb4))
           repeat (go_quiet (first | (go_at_call 84; (refine (BY _ ?side1 ?side2).mono ?_); (case side1 => exact (by repeat (first | exact HI2.out | apply bd_alloc | apply bd_drewN | apply bd_drew))); (case side2 => exact Nat.le_trans hB.size ((by repeat (first | exact HB2.out | apply zN | apply zD | apply zA)) : Below w0.heap.size w _).size); rintro e w3 ⟨rfl, hI3, hB3, hk3⟩; have hcb3 := hk3 w.heap.size _ HCB2.out hbn (by intro c_ fz_ h_; cases h_); have hz3c := (zX hcb3 1).trans rfl; have HCB3 := zM hcb3; have HI3 := zM (bd_one (x := 44) hI3); have HB3 := zM (bd_tr (by repeat (first | exact HB2.out | apply zN | apply zD | apply zA)) hB3); have HK3 := zM (Lib.OthersKept.trans HK2.out hk3); clear hI3 hB3 hk3 hcb3) | (go_at_call 67; (refine (REC _ ?side1 ?side2).mono ?_); (case side1 => exact bd_tr HBW.out (by repeat (first | exact HB3.out | apply zN | apply zD | apply zA))); (case side2 => exact (by repeat (first | exact HI3.out | apply bd_alloc | apply bd_drewN | apply bd_drew))); rintro e w4 ⟨rfl, hI4, hB4, hk4⟩; have hcb4 := hk4 w.heap.size _ HCB3.out hbn (by intro c_ fz_ h_; cases h_); have HCB4 := zM hcb4; have HI4 := zM hI4; have HB4 := zM (bd_tr (by repeat (first | exact HB3.out | apply zN | apply zD | apply zA)) hB4); have HK4 := zM (Lib.OthersKept.trans HK3.out hk4); clear hI4 hB4 hk4 hcb4)); try go_wp2_with (first | (go_at_call 84; (refine (BY _ ?side1 ?side2).mono ?_); (case side1 => exact (by repeat (first | exact HI2.out | apply bd_alloc | apply bd_drewN | apply bd_drew))); (case side2 => exact Nat.le_trans hB.size ((by repeat (first | exact HB2.out | apply zN | apply zD | apply zA)) : Below w0.heap.size w _).size); rintro e w3 ⟨rfl, hI3, hB3, hk3⟩; have hcb3 := hk3 w.heap.size _ HCB2.out hbn (by intro c_ fz_ h_; cases h_); have hz3c := (zX hcb3 1).trans rfl; have HCB3 := zM hcb3; have HI3 := zM (bd_one (x := 44) hI3); have HB3 := zM (bd_tr (by repeat (first | exact HB2.out | apply zN | apply zD | apply zA)) hB3); have HK3 := zM (Lib.OthersKept.trans HK2.out hk3); clear hI3 hB3 hk3 hcb3) | (go_at_call 67; (refine (REC _ ?side1 ?side2).mono ?_); (case side1 => exact bd_tr HBW.out (by repeat (first | exact HB3.out | apply zN | apply zD | apply zA))); (case side2 => exact (by repeat (first | exact HI3.out | apply bd_alloc | apply bd_drewN | apply bd_drew))); rintro e w4 ⟨rfl, hI4, hB4, hk4⟩; have hcb4 := hk4 w.heap.size _ HCB3.out hbn (by intro c_ fz_ h_; cases h_); have HCB4 := zM hcb4; have HI4 := zM hI4; have HB4 := zM (bd_tr (by repeat (first | exact HB3.out | apply zN | apply zD | apply zA)) hB4); have HK4 := zM (Lib.OthersKept.trans HK3.out hk4); clear hI4 hB4 hk4 hcb4)))
           go_roundg k1
           case measure => have := HK1.out; omega
           case rel => exact ⟨_, y.2, y.1, rfl, rfl, H', ⟨by have := HK1.out; omega⟩, ⟨(by repeat (first | exact HI4.out | apply bd_alloc | apply bd_drewN | apply bd_drew))⟩, ⟨(by repeat (first | exact HB4.out | apply zN | apply zD | apply zA))⟩, HCB4, HK4, ⟨by decide⟩⟩
          ·
           simp only [if_neg (show ¬ (3 : Int) = 0 by decide)] at REC
           have H1 := zM (show wrL k1 t (rd_T33 t i).f1 4 y.2 y.1 = some x from by have h_ := H'.out; rwa [show wrap64 (3 + 1) = 4 from by unfold wrap64; omega] at h_)
           clear H'
           have H' := H1
           clear H1
           have BY := fun (W : World) (h : IsBd w0.heap.size b l2 W) (hs : w0.heap.size ≤ W.heap.size) => bd_write w0.heap.size b (Lib.byteCells l2) 44 W h hs (by rw [bd_len]; omega)
           go_wp2_with (first | (go_at_call 84; (refine (BY _ ?side1 ?side2).mono ?_); (case side1 => exact (by repeat (first | exact HI2.out | apply bd_alloc | apply bd_drewN | apply bd_drew))); (case side2 => exact Nat.le_trans hB.size ((by repeat (first | exact HB2.out | apply zN | apply zD | apply zA)) : Below w0.heap.size w _).size); rintro e w3 ⟨rfl, hI3, hB3, hk3⟩; have hcb3 := hk3 w.heap.size _ HCB2.out hbn (by intro c_ fz_ h_; cases h_); have hz3c := (zX hcb3 1).trans rfl; have HCB3 := zM hcb3; have HI3 := zM (bd_one (x := 44) hI3); have HB3 := zM (bd_tr (by repeat (first | exact HB2.out | apply zN | apply zD | apply zA)) hB3); have HK3 := zM (Lib.OthersKept.trans HK2.out hk3); clear hI3 hB3 hk3 hcb3) | (go_at_call 67; (refine (REC _ ?side1 ?side2).mono ?_); (case side1 => exact bd_tr HBW.out (by repeat (first | exact HB3.out | apply zN | apply zD | apply zA))); (case side2 => exact (by repeat (first | exact HI3.out | apply bd_alloc | apply bd_drewN | apply bd_drew))); rintro e w4 ⟨rfl, hI4, hB4, hk4⟩; have hcb4 := hk4 w.heap.size _ HCB3.out hbn (by intro c_ fz_ h_; cases h_); have HCB4 := zM hcb4; have HI4 := zM hI4; have HB4 := zM (bd_tr (by repeat (first | exact HB3.out | apply zN | apply zD | apply zA)) hB4); have HK4 := zM (Lib.OthersKept.trans HK3.out hk4); clear hI4 hB4 hk4 hcb4))
           repeat (go_quiet (first | (go_at_call 84; (refine (BY _ ?side1 ?side2).mono ?_); (case side1 => exact (by repeat (first | exact HI2.out | apply bd_alloc | apply bd_drewN | apply bd_drew))); (case side2 => exact Nat.le_trans hB.size ((by repeat (first | exact HB2.out | apply zN | apply zD | apply zA)) : Below w0.heap.size w _).size); rintro e w3 ⟨rfl, hI3, hB3, hk3⟩; have hcb3 := hk3 w.heap.size _ HCB2.out hbn (by intro c_ fz_ h_; cases h_); have hz3c := (zX hcb3 1).trans rfl; have HCB3 := zM hcb3; have HI3 := zM (bd_one (x := 44) hI3); have HB3 := zM (bd_tr (by repeat (first | exact HB2.out | apply zN | apply zD | apply zA)) hB3); have HK3 := zM (Lib.OthersKept.trans HK2.out hk3); clear hI3 hB3 hk3 hcb3) | (go_at_call 67; (refine (REC _ ?side1 ?side2).mono ?_); (case side1 => exact bd_tr HBW.out (by repeat (first | exact HB3.out | apply zN | apply zD | apply zA))); (case side2 => exact (by repeat (first | exact HI3.out | apply bd_alloc | apply bd_drewN | apply bd_drew))); rintro e w4 ⟨rfl, hI4, hB4, hk4⟩; have hcb4 := hk4 w.heap.size _ HCB3.out hbn (by intro c_ fz_ h_; cases h_); have HCB4 := zM hcb4; have HI4 := zM hI4; have HB4 := zM (bd_tr (by repeat (first | exact HB3.out | apply zN | apply zD | apply zA)) hB4); have HK4 := zM (Lib.OthersKept.trans HK3.out hk4); clear hI4 hB4 hk4 hcb4)); try go_wp2_with (first | (go_at_call 84; (refine (BY _ ?side1 ?side2).mono ?_); (case side1 => exact (by repeat (first | exact HI2.out | apply bd_alloc | apply bd_drewN | apply bd_drew))); (case side2 => exact Nat.le_trans hB.size ((by repeat (first | exact HB2.out | apply zN | apply zD | apply zA)) : Below w0.heap.size w _).size); rintro e w3 ⟨rfl, hI3, hB3, hk3⟩; have hcb3 := hk3 w.heap.size _ HCB2.out hbn (by intro c_ fz_ h_; cases h_); have hz3c := (zX hcb3 1).trans rfl; have HCB3 := zM hcb3; have HI3 := zM (bd_one (x := 44) hI3); have HB3 := zM (bd_tr (by repeat (first | exact HB2.out | apply zN | apply zD | apply zA)) hB3); have HK3 := zM (Lib.OthersKept.trans HK2.out hk3); clear hI3 hB3 hk3 hcb3) | (go_at_call 67; (refine (REC _ ?side1 ?side2).mono ?_); (case side1 => exact bd_tr HBW.out (by repeat (first | exact HB3.out | apply zN | apply zD | apply zA))); (case side2 => exact (by repeat (first | exact HI3.out | apply bd_alloc | apply bd_drewN | apply bd_drew))); rintro e w4 ⟨rfl, hI4, hB4, hk4⟩; have hcb4 := hk4 w.heap.size _ HCB3.out hbn (by intro c_ fz_ h_; cases h_); have HCB4 := zM hcb4; have HI4 := zM hI4; have HB4 := zM (bd_tr (by repeat (first | exact HB3.out | apply zN | apply zD | apply zA)) hB4); have HK4 := zM (Lib.OthersKept.trans HK3.out hk4); clear hI4 hB4 hk4 hcb4)))
           go_roundg k1
           case measure => have := HK1.out; omega
           case rel => exact ⟨_, y.2, y.1, rfl, rfl, H', ⟨by have := HK1.out; omega⟩, ⟨(by repeat (first | exact HI4.out | apply bd_alloc | apply bd_drewN | apply bd_drew))⟩, ⟨(by repeat (first | exact HB4.out | apply zN | apply zD | apply zA))⟩, HCB4, HK4, ⟨by decide⟩⟩
         ·
          cases hA
        ·
         cases hA
       ·
        rw [if_neg d1] at hA
        have d1b : decide (n < (rd_T33 t i).f1) = false := zR d1
        injection hA with hA
        subst hA
        have h := H.out
        simp only at h
        by_cases d6 : (rd_T33 t i).f1 > 0
        ·
         rw [if_pos d6] at h
         have d6b : decide ((rd_T33 t i).f1 > 0) = true := zQ d6
         clear d6 d1 H
         split at h
         · next d7 =>
          obtain rfl := zS h
          clear h
          have BY := fun (W : World) (h : IsBd w0.heap.size b l2 W) (hs : w0.heap.size ≤ W.heap.size) => bd_write w0.heap.size b (Lib.byteCells l2) 41 W h hs (by rw [bd_len]; omega)
          go_wp2_with (first | (go_at_call 84; (refine (BY _ ?side1 ?side2).mono ?_); (case side1 => exact (by repeat (first | exact HI2.out | apply bd_alloc | apply bd_drewN | apply bd_drew))); (case side2 => exact Nat.le_trans hB.size ((by repeat (first | exact HB2.out | apply zN | apply zD | apply zA)) : Below w0.heap.size w _).size); rintro e w3 ⟨rfl, hI3, hB3, hk3⟩; have hcb3 := hk3 w.heap.size _ HCB2.out hbn (by intro c_ fz_ h_; cases h_); have hz3c := (zX hcb3 1).trans rfl; have HCB3 := zM hcb3; have HI3 := zM (bd_one (x := 41) hI3); have HB3 := zM (bd_tr (by repeat (first | exact HB2.out | apply zN | apply zD | apply zA)) hB3); have HK3 := zM (Lib.OthersKept.trans HK2.out hk3); clear hI3 hB3 hk3 hcb3))
          repeat (go_quiet (first | (go_at_call 84; (refine (BY _ ?side1 ?side2).mono ?_); (case side1 => exact (by repeat (first | exact HI2.out | apply bd_alloc | apply bd_drewN | apply bd_drew))); (case side2 => exact Nat.le_trans hB.size ((by repeat (first | exact HB2.out | apply zN | apply zD | apply zA)) : Below w0.heap.size w _).size); rintro e w3 ⟨rfl, hI3, hB3, hk3⟩; have hcb3 := hk3 w.heap.size _ HCB2.out hbn (by intro c_ fz_ h_; cases h_); have hz3c := (zX hcb3 1).trans rfl; have HCB3 := zM hcb3; have HI3 := zM (bd_one (x := 41) hI3); have HB3 := zM (bd_tr (by repeat (first | exact HB2.out | apply zN | apply zD | apply zA)) hB3); have HK3 := zM (Lib.OthersKept.trans HK2.out hk3); clear hI3 hB3 hk3 hcb3)); try go_wp2_with (first | (go_at_call 84; (refine (BY _ ?side1 ?side2).mono ?_); (case side1 => exact (by repeat (first | exact HI2.out | apply bd_alloc | apply bd_drewN | apply bd_drew))); (case side2 => exact Nat.le_trans hB.size ((by repeat (first | exact HB2.out | apply zN | apply zD | apply zA)) : Below w0.heap.size w _).size); rintro e w3 ⟨rfl, hI3, hB3, hk3⟩; have hcb3 := hk3 w.heap.size _ HCB2.out hbn (by intro c_ fz_ h_; cases h_); have hz3c := (zX hcb3 1).trans rfl; have HCB3 := zM hcb3; have HI3 := zM (bd_one (x := 41) hI3); have HB3 := zM (bd_tr (by repeat (first | exact HB2.out | apply zN | apply zD | apply zA)) hB3); have HK3 := zM (Lib.OthersKept.trans HK2.out hk3); clear hI3 hB3 hk3 hcb3)))
          go_ret
          exact ⟨rfl, (by repeat (first | exact HI3.out | apply bd_alloc | apply bd_drewN | apply bd_drew)), (by repeat (first | exact HB3.out | apply zN | apply zD | apply zA)), HK3.out⟩
         ·
          cases h
        ·
         rw [if_neg d6] at h
         have d6b : decide ((rd_T33 t i).f1 > 0) = false := zR d6
         clear d6 d1 H
         obtain rfl := zS h
         clear h
         go_wp2_with (first | fail)
         repeat (go_quiet (first | fail); try go_wp2_with (first | fail))
         go_ret
         exact ⟨rfl, (by repeat (first | exact HI2.out | apply bd_alloc | apply bd_drewN | apply bd_drew)), (by repeat (first | exact HB2.out | apply zN | apply zD | apply zA)), HK2.out⟩
    ·
     cases h
   ·
    rw [if_neg c2] at h; cases h
  ·
   rw [if_neg c1] at h; cases h
theorem wr_all : ∀ k, WrC k := by
 intro k
 induction k using Nat.strongRecOn with
 | _ k ih => exact wr_step k ih
/-! ### Print -/
def printF (k : Nat) (t : List (S33)) : Option (ByteArray × Int) :=
 (term_Check.f k t).bind fun e => if e = 0 then ((wrT k t 0 []).bind fun x => if x.1 = [] then none else if x.1.length ≤ 4096 then some (⟨x.1.toArray⟩, 0) else none) else some (⟨#[]⟩, e)
theorem bd_new {w0 W : World} {b : Nat} (h : w0.heap.size ≤ W.heap.size) (hb : b = W.heap.size) : IsBd w0.heap.size b [] (W.alloc (.cells #[.pointer none, .slice none 0 0] 99)) := by
 subst hb
 exact .inl ⟨h, .slice none 0 0, heap_alloc_new W _, ⟨rfl, .inl ⟨rfl, rfl⟩⟩, by simp [Value.ownBlock]⟩
set_option maxHeartbeats 4000000 in
set_option maxRecDepth 100000 in
theorem print_calls (k : Nat) (A0 : Option Addr) (c0 : Nat) (l0 : List (S33)) (r1 : ByteArray) (r2 : Int) (w : World) (hr0 : Kd.C k33 w A0 l0.length l0) (hc0 : l0.length ≤ c0) (h : printF k l0 = some (r1, r2)) :
 Calls Tryd.prog 43 #[.slice A0 l0.length c0] w fun e w' => e = .returned (.tuple #[.string r1, .int .i64 r2]) ∧ Below w.heap.size w w' := by
 unfold printF at h
 obtain ⟨e0, he, h⟩ := zB h
 have C1 := fun (W : World) (hq : Kd.C k33 W A0 l0.length l0) => term_Check.calls k A0 c0 l0 e0 W hq hc0 he
 have HR := zM hr0
 clear he hr0
 by_cases c1 : e0 = 0
 ·
  rw [if_pos c1] at h
  have c1b : (e0 == 0) = true := zG c1
  have c1c : (e0 != 0) = false := zH c1
  clear c1
  obtain ⟨x, hx, h⟩ := zB h
  by_cases c2 : x.1 = []
  ·
   rw [if_pos c2] at h; cases h
  ·
   rw [if_neg c2] at h
   split at h
   · next c3 =>
    injection h with h
    injection h with h1 h2
    subst h1 h2
    have W1 := fun (b : Nat) (W : World) (hb : Below w.heap.size w W) (hq : IsBd w.heap.size b [] W) => (wr_all k) b l0 A0 c0 0 [] x w W HR.out hb hq hx
    have D1 := fun (b : Nat) (W : World) (hq : IsBd w.heap.size b x.1 W) => bd_done w.heap.size b x.1 W hq c2 c3
    clear hx c2 c3
    go_enter Tryd.func43, Tryd.ntmps43
    go_wp2_with (first | (go_at_call 30; (refine (C1 _ ?side1).mono ?_); (case side1 => repeat (first | exact HR.out | apply Kd.C_drewN | apply Kd.C_drew)); rintro e w1 ⟨rfl, hB1⟩; have HB1 := zM hB1; clear hB1) | (go_at_call 67; (refine (W1 _ _ ?side1 ?side2).mono ?_); (case side1 => exact HB1.out.alloc HB1.out.size _); (case side2 => exact bd_new HB1.out.size rfl); rintro e w2 ⟨rfl, hI2, hB2, hk2⟩; have HI2 := zM hI2; have HB2 : Aside0 (Below w.heap.size w w2) := ⟨bd_tr (HB1.out.alloc HB1.out.size _) hB2⟩; clear hI2 hB2 hk2) | (go_at_call 68; (refine (D1 _ _ ?side1).mono ?_); (case side1 => exact HI2.out); rintro e w3 ⟨rfl, hB3⟩; have HB3 : Aside0 (Below w.heap.size w w3) := ⟨bd_tr HB2.out hB3⟩; clear hB3))
    go_ret2
    exact ⟨rfl, HB3.out⟩
   ·
    cases h
 ·
  rw [if_neg c1] at h
  have c1b : (e0 == 0) = false := zE c1
  have c1c : (e0 != 0) = true := zF c1
  clear c1
  injection h with h
  injection h with h1 h2
  subst h1 h2
  go_enter Tryd.func43, Tryd.ntmps43
  go_wp2_with (first | (go_at_call 30; (refine (C1 _ ?side1).mono ?_); (case side1 => repeat (first | exact HR.out | apply Kd.C_drewN | apply Kd.C_drew)); rintro e w1 ⟨rfl, hB1⟩; have HB1 := zM hB1; clear hB1))
  go_ret2
  exact ⟨rfl, HB1.out⟩
theorem wr_mono : ∀ k, (∀ t i l, LeO (wrT k t i l) (wrT (k + 1) t i l)) ∧ (∀ t a n i l, LeO (wrL k t a n i l) (wrL (k + 1) t a n i l))
 | 0 => ⟨fun _ _ _ r h => by simp [wrT] at h, fun _ _ _ _ _ r h => by simp [wrL] at h⟩
 | k + 1 => by
  obtain ⟨ih0, ih1⟩ := wr_mono k
  refine ⟨fun t i l => ?_, fun t a n i l => ?_⟩
  ·
   unfold wrT
   exact LeO.ite (LeO.ite (LeO.ite (LeO.bind (ih1 _ _ _ _ _) fun _ => LeO.refl _) (LeO.none _)) (LeO.none _)) (LeO.none _)
  ·
   unfold wrL
   exact LeO.ite (LeO.ite (LeO.ite (LeO.bind (ih0 _ _ _) fun _ => ih1 _ _ _ _ _) (LeO.none _)) (LeO.none _)) (LeO.refl _)
def term_Print.f (k : Nat) (l0 : List (S33)) : Option (ByteArray × Int) := printF k l0
theorem term_Print.mono : ∀ a0 k, LeO (term_Print.f k a0) (term_Print.f (k + 1) a0) := by
 intro a0 k
 unfold term_Print.f printF
 exact LeO.bind (term_Check.mono _ _) fun e => LeO.ite (LeO.bind ((wr_mono k).1 _ _ _) fun _ => LeO.refl _) (LeO.refl _)
theorem term_Print.calls (k : Nat) (A0 : Option Addr) (c0 : Nat) (l0 : List (S33)) (r1 : ByteArray) (r2 : Int) (w : World) (hr0 : Kd.C k33 w A0 l0.length l0) (hc0 : l0.length ≤ c0) (h : term_Print.f k l0 = some (r1, r2)) :
 Calls Tryd.prog 43 #[.slice A0 l0.length c0] w fun e w' => e = .returned (.tuple #[.string r1, .int .i64 r2]) ∧ Below w.heap.size w w' := print_calls k A0 c0 l0 r1 r2 w hr0 hc0 h



-- ==== PF18

/-! ### rule_Print: function 18 -/
def rule_Print.f (k : Nat) (a0_0 : Int) (l0_1 : List (S33)) (l0_2 : List (S33)) : Option (ByteArray × Int) := (rule_Check.f k a0_0 l0_1 l0_2).bind fun t102 => (if t102 = 0 then ((term_Print.f k l0_1).bind fun bt103 => ((term_Print.f k l0_2).bind fun bt105 => (if bt103.1.size + 4 ≤ 9223372036854775807 then (if (bt103.1 ++ (⟨#[32, 45, 62, 32]⟩ : ByteArray)).size + bt105.1.size ≤ 9223372036854775807 then (some ((bt103.1 ++ (⟨#[32, 45, 62, 32]⟩ : ByteArray)) ++ bt105.1, 0)) else (none)) else (none)))) else (some ((⟨#[]⟩ : ByteArray), t102)))
theorem rule_Print.mono : ∀ a0 a1 a2 k, LeO (rule_Print.f k a0 a1 a2) (rule_Print.f (k + 1) a0 a1 a2) := by
 intro a0 a1 a2 k
 unfold rule_Print.f
 repeat' first
  | (with_reducible exact rule_Check.mono _ _ _ _)
  | (with_reducible exact term_Print.mono _ _)
  | (with_reducible exact LeO.refl _)
  | (with_reducible exact LeO.none _)
  | (with_reducible refine LeO.ite ?_ ?_)
  | (with_reducible refine LeO.bind ?_ (fun _ => ?_))
  | exact LeO.none _
  | refine LeO.ite ?_ ?_
  | refine LeO.bind ?_ (fun _ => ?_)
set_option maxHeartbeats 8000000 in
set_option maxRecDepth 100000 in
theorem rule_Print.calls (k : Nat) (a0_0 : Int) (A0_1 : Option Addr) (c0_1 : Nat) (l0_1 : List (S33)) (A0_2 : Option Addr) (c0_2 : Nat) (l0_2 : List (S33)) (r1 : ByteArray) (r2 : Int) (w : World) (hr0_1 : Kd.C k33 w A0_1 l0_1.length l0_1) (hc0_1 : l0_1.length ≤ c0_1) (hr0_2 : Kd.C k33 w A0_2 l0_2.length l0_2) (hc0_2 : l0_2.length ≤ c0_2) (h : rule_Print.f k a0_0 l0_1 l0_2 = some (r1, r2)) :
 Calls Tryd.prog 18 #[.agg #[.int .i64 a0_0, .slice A0_1 l0_1.length c0_1, .slice A0_2 l0_2.length c0_2]] w fun e w' => e = .returned (.tuple #[.string r1, .int .i64 r2]) ∧ Below w.heap.size w w' := by
 have hu25 := Tryd.underlying25
 have HR0_1 := zM hr0_1
 have HC0_1 := zM hc0_1
 clear hr0_1 hc0_1
 have HR0_2 := zM hr0_2
 have HC0_2 := zM hc0_2
 clear hr0_2 hc0_2
 have HB := zM (Below.refl w.heap.size w)
 have H : ((rule_Check.f k a0_0 l0_1 l0_2).bind fun t102 => (if t102 = 0 then ((term_Print.f k l0_1).bind fun bt103 => ((term_Print.f k l0_2).bind fun bt105 => (if bt103.1.size + 4 ≤ 9223372036854775807 then (if (bt103.1 ++ (⟨#[32, 45, 62, 32]⟩ : ByteArray)).size + bt105.1.size ≤ 9223372036854775807 then (some ((bt103.1 ++ (⟨#[32, 45, 62, 32]⟩ : ByteArray)) ++ bt105.1, 0)) else (none)) else (none)))) else (some ((⟨#[]⟩ : ByteArray), t102)))) = some (r1, r2) := h
 clear h
 replace H := zB H
 obtain ⟨t102, A20, H⟩ := H
 try dsimp only at H
 have A2 := zM A20
 clear A20
 by_cases c3 : t102 = 0
 ·
  rw [if_pos c3] at H
  have c3b0 : (t102 == 0) = true := zG c3
  have c3b1 : (t102 != 0) = false := zH c3
  clear c3
  replace H := zB H
  obtain ⟨⟨t103, t104⟩, A40, H⟩ := H
  try dsimp only at H
  have A4 := zM A40
  clear A40
  replace H := zB H
  obtain ⟨⟨t105, t106⟩, A50, H⟩ := H
  try dsimp only at H
  have A5 := zM A50
  clear A50
  by_cases c6 : t103.size + 4 ≤ 9223372036854775807
  ·
   rw [if_pos c6] at H
   have c6b0 := eq_true c6
   have c6b1 : decide (t103.size + 4 ≤ 9223372036854775807) = true := zQ c6
   try have c6b2 : (9223372036854775807 < t103.size + 4) = False := eq_false (Nat.not_lt.2 c6)
   by_cases c7 : (t103 ++ (⟨#[32, 45, 62, 32]⟩ : ByteArray)).size + t105.size ≤ 9223372036854775807
   ·
    rw [if_pos c7] at H
    have c7b0 := eq_true c7
    have c7b1 : decide ((t103 ++ (⟨#[32, 45, 62, 32]⟩ : ByteArray)).size + t105.size ≤ 9223372036854775807) = true := zQ c7
    try have c7b2 : (9223372036854775807 < (t103 ++ (⟨#[32, 45, 62, 32]⟩ : ByteArray)).size + t105.size) = False := eq_false (Nat.not_lt.2 c7)
    try have c7b3 : (9223372036854775807 < t103.size + 4 + t105.size) = False := eq_false (Nat.not_lt.2 (by have h_ := c7; rw [ByteArray.size_append] at h_; exact h_))
    simp only [Option.some.injEq, Prod.mk.injEq] at H
    obtain ⟨rfl, rfl⟩ := H
    go_enter Tryd.func18, Tryd.ntmps18
    go_wp2_with (first | ((with_reducible refine gate_dst (N := 1) rfl ?_); refine box_event ?hg (N := 1) ?hd (cs := #[.int .i64 a0_0, .slice A0_1 l0_1.length c0_1, .slice A0_2 l0_2.length c0_2]) (t := 25) ?hr ?_; (case hd => rfl); (case hg => rfl); (case hr => first | (go_simp; done) | (go_simp; rfl)); intro gb101 hg w8 hbox hb; have n0_ := zM (below_step (by repeat (first | (with_reducible first | exact HB.out | apply zA | apply zN | apply zD) | exact HB.out)) hb); have n1_ := zM (hbox); have n2_ := zM ((by rw [hg]; exact (below_size (by repeat (first | (with_reducible first | exact HB.out | apply zA | apply zN | apply zD) | exact HB.out))) : w.heap.size ≤ gb101)); have n3_ := zM ((by rw [hg]; exact (below_size (by repeat (first | (with_reducible first | exact HB.out | apply zA | apply zN | apply zD) | exact HB.out))) : w.heap.size ≤ gb101)); clear HB; have HB := n0_; have BK101 := n1_; have GW101 := n2_; have GE101 := n3_; clear n0_ n1_ n2_ n3_; clear hb hbox hg; have hcz9_0 : w8.cell? ⟨gb101, 0, none⟩ = some (.int .i64 a0_0) := (zX BK101.out 0).trans rfl; have hcz9_1 : w8.cell? ⟨gb101, 1, none⟩ = some (.slice A0_1 l0_1.length c0_1) := (zX BK101.out 1).trans rfl; have hcz9_2 : w8.cell? ⟨gb101, 2, none⟩ = some (.slice A0_2 l0_2.length c0_2) := (zX BK101.out 2).trans rfl; have hfz9_0 := zY BK101.out 0; have hfz9_1 := zY BK101.out 1; have hfz9_2 := zY BK101.out 2) | ((with_reducible refine gate_callee (f := 11) rfl ?_); refine goesL_ (some 10) rfl rfl Tryd.func11 (by kernel_rfl) rfl #[.agg #[.int .i64 a0_0, .slice A0_1 l0_1.length c0_1, .slice A0_2 l0_2.length c0_2]] rfl (by (try simp only [List.map_toArray, List.map_cons, List.map_nil]); first | done | rfl) ?_; (with_reducible refine (rule_Check.calls k a0_0 _ _ l0_1 _ _ l0_2 t102 _ ?side1 ?side2 ?side3 ?side4 A2.out).mono ?_); (case side1 => repeat (first | exact (Kd.C_below HR0_1.out HB.out) | (with_reducible first | refine Kd.C_alloc ?_ _ | refine Kd.C_drewN ?_ _ | refine Kd.C_drew ?_))); (case side2 => exact HC0_1.out); (case side3 => repeat (first | exact (Kd.C_below HR0_2.out HB.out) | (with_reducible first | refine Kd.C_alloc ?_ _ | refine Kd.C_drewN ?_ _ | refine Kd.C_drew ?_))); (case side4 => exact HC0_2.out); rintro e w10 ⟨rfl, hb⟩; refine ⟨_, rfl, ?_⟩; have n0_ := zM (blk_below (g := gb101) (o := .cells #[.int .i64 a0_0, .slice A0_1 l0_1.length c0_1, .slice A0_2 l0_2.length c0_2] 25 (0, 0)) (by (with_reducible repeat (first | refine blk_drewN ?_ _ | refine blk_drew ?_ | refine blk_alloc ?_ _)); exact BK101.out) hb); have n1_ := zM (below_step (by repeat (first | (with_reducible first | exact HB.out | apply zA | apply zN | apply zD | refine below_set ?_ GE101.out) | exact HB.out)) hb); clear BK101; clear HB; have BK101 := n0_; have HB := n1_; clear n0_ n1_; (try clear hb); (try clear hb2); (try clear hk); (try clear hi); have hcz11_0 : w10.cell? ⟨gb101, 0, none⟩ = some (.int .i64 a0_0) := (zX BK101.out 0).trans rfl; have hcz11_1 : w10.cell? ⟨gb101, 1, none⟩ = some (.slice A0_1 l0_1.length c0_1) := (zX BK101.out 1).trans rfl; have hcz11_2 : w10.cell? ⟨gb101, 2, none⟩ = some (.slice A0_2 l0_2.length c0_2) := (zX BK101.out 2).trans rfl; have hfz11_0 := zY BK101.out 0; have hfz11_1 := zY BK101.out 1; have hfz11_2 := zY BK101.out 2) | ((with_reducible refine gate_callee (f := 43) rfl ?_); refine goesL_ (some 17) rfl rfl Tryd.func43 (by kernel_rfl) rfl #[.slice A0_1 l0_1.length c0_1] rfl (by (try simp only [List.map_toArray, List.map_cons, List.map_nil]); first | done | rfl) ?_; (with_reducible refine (term_Print.calls k _ _ l0_1 t103 t104 _ ?side1 ?side2 A4.out).mono ?_); (case side1 => repeat (first | exact (Kd.C_below HR0_1.out HB.out) | (with_reducible first | refine Kd.C_alloc ?_ _ | refine Kd.C_drewN ?_ _ | refine Kd.C_drew ?_))); (case side2 => exact HC0_1.out); rintro e w12 ⟨rfl, hb⟩; refine ⟨_, rfl, ?_⟩; have n0_ := zM (blk_below (g := gb101) (o := .cells #[.int .i64 a0_0, .slice A0_1 l0_1.length c0_1, .slice A0_2 l0_2.length c0_2] 25 (0, 0)) (by (with_reducible repeat (first | refine blk_drewN ?_ _ | refine blk_drew ?_ | refine blk_alloc ?_ _)); exact BK101.out) hb); have n1_ := zM (below_step (by repeat (first | (with_reducible first | exact HB.out | apply zA | apply zN | apply zD | refine below_set ?_ GE101.out) | exact HB.out)) hb); clear BK101; clear HB; have BK101 := n0_; have HB := n1_; clear n0_ n1_; (try clear hb); (try clear hb2); (try clear hk); (try clear hi); have hcz13_0 : w12.cell? ⟨gb101, 0, none⟩ = some (.int .i64 a0_0) := (zX BK101.out 0).trans rfl; have hcz13_1 : w12.cell? ⟨gb101, 1, none⟩ = some (.slice A0_1 l0_1.length c0_1) := (zX BK101.out 1).trans rfl; have hcz13_2 : w12.cell? ⟨gb101, 2, none⟩ = some (.slice A0_2 l0_2.length c0_2) := (zX BK101.out 2).trans rfl; have hfz13_0 := zY BK101.out 0; have hfz13_1 := zY BK101.out 1; have hfz13_2 := zY BK101.out 2) | ((with_reducible refine gate_callee (f := 43) rfl ?_); refine goesL_ (some 23) rfl rfl Tryd.func43 (by kernel_rfl) rfl #[.slice A0_2 l0_2.length c0_2] rfl (by (try simp only [List.map_toArray, List.map_cons, List.map_nil]); first | done | rfl) ?_; (with_reducible refine (term_Print.calls k _ _ l0_2 t105 t106 _ ?side1 ?side2 A5.out).mono ?_); (case side1 => repeat (first | exact (Kd.C_below HR0_2.out HB.out) | (with_reducible first | refine Kd.C_alloc ?_ _ | refine Kd.C_drewN ?_ _ | refine Kd.C_drew ?_))); (case side2 => exact HC0_2.out); rintro e w14 ⟨rfl, hb⟩; refine ⟨_, rfl, ?_⟩; have n0_ := zM (blk_below (g := gb101) (o := .cells #[.int .i64 a0_0, .slice A0_1 l0_1.length c0_1, .slice A0_2 l0_2.length c0_2] 25 (0, 0)) (by (with_reducible repeat (first | refine blk_drewN ?_ _ | refine blk_drew ?_ | refine blk_alloc ?_ _)); exact BK101.out) hb); have n1_ := zM (below_step (by repeat (first | (with_reducible first | exact HB.out | apply zA | apply zN | apply zD | refine below_set ?_ GE101.out) | exact HB.out)) hb); clear BK101; clear HB; have BK101 := n0_; have HB := n1_; clear n0_ n1_; (try clear hb); (try clear hb2); (try clear hk); (try clear hi)))
    go_ret2
    exact ⟨by first | rfl | (simp [*, errW_none, errW_some] <;> rfl), by repeat (first | (with_reducible first | exact HB.out | apply zA | apply zN | apply zD | refine below_set ?_ GE101.out) | exact HB.out)⟩
   ·
    rw [if_neg c7] at H
    exact absurd H (by simp)
  ·
   rw [if_neg c6] at H
   exact absurd H (by simp)
 ·
  rw [if_neg c3] at H
  have c3b0 : (t102 == 0) = false := zE c3
  have c3b1 : (t102 != 0) = true := zF c3
  simp only [Option.some.injEq, Prod.mk.injEq] at H
  obtain ⟨rfl, rfl⟩ := H
  go_enter Tryd.func18, Tryd.ntmps18
  go_wp2_with (first | ((with_reducible refine gate_dst (N := 1) rfl ?_); refine box_event ?hg (N := 1) ?hd (cs := #[.int .i64 a0_0, .slice A0_1 l0_1.length c0_1, .slice A0_2 l0_2.length c0_2]) (t := 25) ?hr ?_; (case hd => rfl); (case hg => rfl); (case hr => first | (go_simp; done) | (go_simp; rfl)); intro gb101 hg w15 hbox hb; have n0_ := zM (below_step (by repeat (first | (with_reducible first | exact HB.out | apply zA | apply zN | apply zD) | exact HB.out)) hb); have n1_ := zM (hbox); have n2_ := zM ((by rw [hg]; exact (below_size (by repeat (first | (with_reducible first | exact HB.out | apply zA | apply zN | apply zD) | exact HB.out))) : w.heap.size ≤ gb101)); have n3_ := zM ((by rw [hg]; exact (below_size (by repeat (first | (with_reducible first | exact HB.out | apply zA | apply zN | apply zD) | exact HB.out))) : w.heap.size ≤ gb101)); clear HB; have HB := n0_; have BK101 := n1_; have GW101 := n2_; have GE101 := n3_; clear n0_ n1_ n2_ n3_; clear hb hbox hg; have hcz16_0 : w15.cell? ⟨gb101, 0, none⟩ = some (.int .i64 a0_0) := (zX BK101.out 0).trans rfl; have hcz16_1 : w15.cell? ⟨gb101, 1, none⟩ = some (.slice A0_1 l0_1.length c0_1) := (zX BK101.out 1).trans rfl; have hcz16_2 : w15.cell? ⟨gb101, 2, none⟩ = some (.slice A0_2 l0_2.length c0_2) := (zX BK101.out 2).trans rfl; have hfz16_0 := zY BK101.out 0; have hfz16_1 := zY BK101.out 1; have hfz16_2 := zY BK101.out 2) | ((with_reducible refine gate_callee (f := 11) rfl ?_); refine goesL_ (some 10) rfl rfl Tryd.func11 (by kernel_rfl) rfl #[.agg #[.int .i64 a0_0, .slice A0_1 l0_1.length c0_1, .slice A0_2 l0_2.length c0_2]] rfl (by (try simp only [List.map_toArray, List.map_cons, List.map_nil]); first | done | rfl) ?_; (with_reducible refine (rule_Check.calls k a0_0 _ _ l0_1 _ _ l0_2 t102 _ ?side1 ?side2 ?side3 ?side4 A2.out).mono ?_); (case side1 => repeat (first | exact (Kd.C_below HR0_1.out HB.out) | (with_reducible first | refine Kd.C_alloc ?_ _ | refine Kd.C_drewN ?_ _ | refine Kd.C_drew ?_))); (case side2 => exact HC0_1.out); (case side3 => repeat (first | exact (Kd.C_below HR0_2.out HB.out) | (with_reducible first | refine Kd.C_alloc ?_ _ | refine Kd.C_drewN ?_ _ | refine Kd.C_drew ?_))); (case side4 => exact HC0_2.out); rintro e w17 ⟨rfl, hb⟩; refine ⟨_, rfl, ?_⟩; have n0_ := zM (blk_below (g := gb101) (o := .cells #[.int .i64 a0_0, .slice A0_1 l0_1.length c0_1, .slice A0_2 l0_2.length c0_2] 25 (0, 0)) (by (with_reducible repeat (first | refine blk_drewN ?_ _ | refine blk_drew ?_ | refine blk_alloc ?_ _)); exact BK101.out) hb); have n1_ := zM (below_step (by repeat (first | (with_reducible first | exact HB.out | apply zA | apply zN | apply zD | refine below_set ?_ GE101.out) | exact HB.out)) hb); clear BK101; clear HB; have BK101 := n0_; have HB := n1_; clear n0_ n1_; (try clear hb); (try clear hb2); (try clear hk); (try clear hi)))
  go_ret2
  exact ⟨by first | rfl | (simp [*, errW_none, errW_some] <;> rfl), by repeat (first | (with_reducible first | exact HB.out | apply zA | apply zN | apply zD | refine below_set ?_ GE101.out) | exact HB.out)⟩


-- ==== PF19

/-! ### rule_Plain: function 19 -/
def itB (j : Int) : ByteArray := ⟨#[UInt8.ofNat (48 + j.toNat)]⟩
set_option maxHeartbeats 8000000 in
set_option maxRecDepth 100000 in
theorem ito_calls (j : Int) (h0 : 0 ≤ j) (h1 : j < 8) (w : World) : Calls Tryd.prog 48 #[.int .i64 j] w fun e w' => e = .returned (.string (itB j)) ∧ w' = w := by
 have h : j = 0 ∨ j = 1 ∨ j = 2 ∨ j = 3 ∨ j = 4 ∨ j = 5 ∨ j = 6 ∨ j = 7 := by omega
 clear h0 h1
 rcases h with rfl | rfl | rfl | rfl | rfl | rfl | rfl | rfl
 all_goals
  go_enter Tryd.func48, Tryd.ntmps48
  go_wp2
  go_ret
  exact ⟨rfl, rfl⟩
/-- A term whose variables are called by their places. -/
def plL (k : Nat) (vars : List ByteArray) : List CkC → Option (List CkC)
 | [] => some []
 | c :: u => (slices_Index_string_string.f k vars c.f0).bind fun j => if j ≥ 0 then (if j < 8 then (plL k vars u).bind fun q => some (⟨(⟨#[88]⟩ : ByteArray) ++ itB j, c.f1⟩ :: q) else none) else (plL k vars u).bind fun q => some (c :: q)
def plF (k : Nat) (vars : List ByteArray) (t : List CkC) : Option (List CkC) := if t.length < 5864062014805 then plL k vars t else none
set_option maxHeartbeats 8000000 in
set_option maxRecDepth 100000 in
theorem pl1_calls {w : World} {p cv k c0 : Nat} {Av A0 : Option Addr} {vars : List ByteArray} {t fin : List CkC} (hv : IsVl w p Av cv vars) (hr : Kd.C k33 w A0 t.length t) (hc : t.length ≤ c0) (h : plF k vars t = some fin) :
 Calls Tryd.prog 45 #[.slice A0 t.length c0, .pointer (some ⟨p, 0, none⟩)] w fun e w' => ∃ v : Value, e = .returned v ∧ Kd.R k33 33 w' w.heap.size (fun _ => True) v fin ∧ Below w.heap.size w w' := by
 unfold plF at h
 by_cases hlen : t.length < 5864062014805
 case neg => rw [if_neg hlen] at h; cases h
 rw [if_pos hlen] at h
 have hcl : api_Cell_46.f t = some t := by
  unfold api_Cell_46.f
  rw [if_pos (by simpa using hlen)]
  rfl
 have C1 := api_Cell_46.calls A0 c0 t t w hr hc hcl
 have HV := zM hv
 have HP := zM h
 have HM := zM (show (t.length : Int) ≤ 9223372036854775807 by omega)
 clear hr hc h hcl hv hlen
 go_enter Tryd.func45, Tryd.ntmps45
 go_wp2_with (first | (go_at_call 46; (with_reducible refine C1.mono ?_); rintro e w1 ⟨v1, rfl, hR, hb⟩; obtain ⟨Ao, co, rfl⟩ := Kd.R_slice hR; have HO := zM hR; have HB := zM hb; clear hR hb))
 go_loopg [12] t.length (fun kq v12 w' => ∃ (x : Int) (cur done rest : List CkC), v12 = .int .i64 x ∧ Aside0 (0 ≤ x ∧ x + kq = (t.length : Int)) ∧ Aside0 (cur = done ++ t.drop x.toNat ∧ done.length = x.toNat) ∧ Aside0 (plL k vars (t.drop x.toNat) = some rest ∧ done ++ rest = fin) ∧ Aside0 (Kd.R k33 33 w' w.heap.size (fun _ => True) (.slice Ao t.length co) cur) ∧ Aside0 (Below w.heap.size w w'))
 case atStart => exact ⟨0, t, [], fin, rfl, ⟨by omega⟩, ⟨⟨rfl, rfl⟩⟩, ⟨⟨HP.out, rfl⟩⟩, HO, HB⟩
 case round =>
  clear HO HB HP
  obtain ⟨x, cur, done, rest, rfl, HI, HC, HP, HO, HB⟩ := hrel
  cases gk with
  | succ k1 =>
   have hi : 0 ≤ x ∧ x < (t.length : Int) := by have := HI.out; omega
   have hcur := (Kd.R_reads' HO.out).1
   obtain ⟨g, cap, eg, hge, hgl, _⟩ := Kd.R_form HO.out (by omega)
   injection eg with ea el ec
   clear el
   subst ea ec
   obtain ⟨ce, hcl, hMM, hcc, hfr⟩ := Kd.R_elem HO.out z33 x hi.1 hi.2
   obtain rfl := k33_openM hMM
   obtain ⟨c, hc⟩ : ∃ c, c = cur.getD x.toNat z33 := ⟨_, rfl⟩
   have hx0 : wr.cell? ⟨g, x.toNat * 2, none⟩ = some (.string c.f0) := by rw [hc]; exact hcc 0 _ rfl
   have hx1 : wr.cell? ⟨g, x.toNat * 2 + 1, none⟩ = some (.int .i64 c.f1) := by rw [hc]; exact hcc 1 _ rfl
   have hf0 : wr.frozen? ⟨g, x.toNat * 2, none⟩ = false := hfr 0
   have hd : t.drop x.toNat = c :: t.drop (x.toNat + 1) := by
    have h1 : x.toNat < t.length := by omega
    rw [List.drop_eq_getElem_cons h1]
    congr 1
    rw [hc, HC.out.1, List.getD_eq_getElem?_getD, List.getElem?_append_right (by have := HC.out.2; omega)]
    have := HC.out.2
    simp [this, h1]
   have HD := zM hd
   have hp := HP.out.1
   rw [hd] at hp
   unfold plL at hp
   obtain ⟨j, hj, hp⟩ := zB hp
   have I1 := fun (W : World) (hW : Below w.heap.size w W) => slices_Index_string_string.calls k Av cv vars c.f0 j W (HV.out.below hW).hl HV.out.hc hj
   have hvc : wr.cell? ⟨p, 0, none⟩ = some (.slice Av vars.length cv) := (zX (HV.out.below HB.out).blk 0).trans rfl
   have hvp : p < wr.heap.size := blk_lt (HV.out.below HB.out).blk
   have hgw := HB.out.size
   have HGW := zM (show w.heap.size ≤ g ∧ g < wr.heap.size from ⟨hge, hgl⟩)
   have HX := zM hi
   have HCC := zM hc
   have hpp := eq_true hi.1
   have hqq := eq_true hi.2
   have hb0 : decide (x < (t.length : Int)) = true := zQ hi.2
   clear hcl hMM hcc hfr hd hj hc hcur hi hgw hge
   by_cases hj0 : j ≥ 0
   ·
    rw [if_pos hj0] at hp
    have dj : decide (0 ≤ j) = true := zQ hj0
    by_cases hj8 : j < 8
    case neg => rw [if_neg hj8] at hp; cases hp
    rw [if_pos hj8] at hp
    obtain ⟨q, hq, hp⟩ := zB hp
    have HQ := zM (show plL k vars (t.drop (x.toNat + 1)) = some q from hq)
    have HRE := zM (zS hp)
    have T1 := fun (W : World) => ito_calls j hj0 hj8 W
    clear hp hq hj0 hj8
    go_wp2_with (first | (go_at_call 47; (with_reducible refine (I1 _ ?side1).mono ?_); (case side1 => exact (by repeat (first | exact HB.out | apply zA | apply zN | apply zD))); rintro e w2 ⟨rfl, ⟨nd, rfl⟩⟩) | (go_at_call 48; (with_reducible refine (T1 _).mono ?_); rintro e w3 ⟨rfl, rfl⟩))
    go_roundg k1
    case measure => have := HI.out; omega
    case rel => exact ⟨x + 1, cur.set x.toNat ⟨(⟨#[88]⟩ : ByteArray) ++ itB j, c.f1⟩, done ++ [⟨(⟨#[88]⟩ : ByteArray) ++ itB j, c.f1⟩], q, by have e_ : wrap64 (x + 1) = x + 1 := (by have := HX.out; have := HM.out; unfold wrap64; omega); first | rfl | rw [e_] | (simp [e_]; done), ⟨by have := HI.out; omega⟩,
     ⟨by rw [show (x + 1).toNat = x.toNat + 1 by have := HX.out; omega]; refine ⟨?_, by simp [HC.out.2]⟩; rw [HC.out.1, HD.out, List.set_append_right _ _ (by have := HC.out.2; omega), HC.out.2, Nat.sub_self]; simp⟩,
     ⟨by rw [show (x + 1).toNat = x.toNat + 1 by have := HX.out; omega]; refine ⟨HQ.out, ?_⟩; rw [← HP.out.2, ← HRE.out]; simp⟩,
     ⟨by
      have HO2 := Kd.R_drewN (Kd.R_alloc HO.out (.cells #[.string c.f0, .int .i64 c.f1] 33)) nd
      obtain ⟨ce, hcl, hMM, hcc, hfr⟩ := Kd.R_elem HO2 z33 x HX.out.1 HX.out.2
      obtain rfl := k33_openM hMM
      exact (Kd.R_seg (okp := fun _ => False) HO2 x HX.out.1 HX.out.2 (seg := [.string ((⟨#[88]⟩ : ByteArray) ++ itB j)]) (j := 0) hcl hcc (show 1 ≤ 2 from by decide) (x' := (⟨(⟨#[88]⟩ : ByteArray) ++ itB j, c.f1⟩ : CkC)) (by rw [HCC.out]; exact k33_mkM _ _ (fun _ => False) (⟨(⟨#[88]⟩ : ByteArray) ++ itB j, (cur.getD x.toNat z33).f1⟩ : CkC)) (fun _ hk => hk.elim)).1⟩,
     ⟨by refine below_set ?_ HGW.out.1; repeat (first | exact HB.out | apply zA | apply zN | apply zD)⟩⟩
   ·
    rw [if_neg hj0] at hp
    have dj : decide (0 ≤ j) = false := zR hj0
    obtain ⟨q, hq, hp⟩ := zB hp
    have HQ := zM (show plL k vars (t.drop (x.toNat + 1)) = some q from hq)
    have HRE := zM (zS hp)
    clear hp hq hj0
    go_wp2_with (first | (go_at_call 47; (with_reducible refine (I1 _ ?side1).mono ?_); (case side1 => exact (by repeat (first | exact HB.out | apply zA | apply zN | apply zD))); rintro e w2 ⟨rfl, ⟨nd, rfl⟩⟩))
    go_roundg k1
    case measure => have := HI.out; omega
    case rel => exact ⟨x + 1, cur, done ++ [c], q, by have e_ : wrap64 (x + 1) = x + 1 := (by have := HX.out; have := HM.out; unfold wrap64; omega); first | rfl | rw [e_] | (simp [e_]; done), ⟨by have := HI.out; omega⟩,
     ⟨by rw [show (x + 1).toNat = x.toNat + 1 by have := HX.out; omega]; refine ⟨?_, by simp [HC.out.2]⟩; rw [HC.out.1, HD.out]; simp⟩,
     ⟨by rw [show (x + 1).toNat = x.toNat + 1 by have := HX.out; omega]; refine ⟨HQ.out, ?_⟩; rw [← HP.out.2, ← HRE.out]; simp⟩,
     ⟨by (repeat (first | exact HO.out | apply Kd.R_alloc | apply Kd.R_drewN | apply Kd.R_drew))⟩, ⟨by repeat (first | exact HB.out | apply zA | apply zN | apply zD)⟩⟩
  | zero =>
   have hb0 : decide (x < (t.length : Int)) = false := zR (by have := HI.out; omega)
   go_wp2
   go_ret
   have e1 : t.drop x.toNat = [] := List.drop_eq_nil_of_le (by have := HI.out; omega)
   have h1 := HC.out.1
   have h2 := HP.out
   rw [e1] at h1 h2
   have h3 : rest = [] := (zS h2.1).symm
   have h4 : cur = fin := by rw [h1, ← h2.2, h3]
   rw [h4] at HO
   exact ⟨_, rfl, HO.out, HB.out⟩
def plainF (k : Nat) (id : Int) (l r : List CkC) : Option (Int × List CkC × List CkC × Int) :=
 (rule_Check.f k id l r).bind fun e => if e = 0 then ((term_Vars.f k l).bind fun a => (plF k a.1 l).bind fun x => (plF k a.1 r).bind fun y => some (id, x, y, 0)) else some (0, [], [], e)
def pnW (w : World) (id : Int) (A1 : Option Addr) (c1 : Nat) (l : List CkC) (A2 : Option Addr) (c2 : Nat) (r : List CkC) : World := (w.alloc (.cells #[.int .i64 id, .slice A1 l.length c1, .slice A2 r.length c2] 25)).alloc (.cells #[.int .i64 0, .slice none 0 0, .slice none 0 0] 25)
theorem pn_facts (w : World) (id : Int) (A1 : Option Addr) (c1 : Nat) (l : List CkC) (A2 : Option Addr) (c2 : Nat) (r : List CkC) :
 (pnW w id A1 c1 l A2 c2 r).heap.size = w.heap.size + 2 ∧ (pnW w id A1 c1 l A2 c2 r).heap[w.heap.size]? = some (.cells #[.int .i64 id, .slice A1 l.length c1, .slice A2 r.length c2] 25 (0, 0)) ∧
 (pnW w id A1 c1 l A2 c2 r).heap[w.heap.size + 1]? = some (.cells #[.int .i64 0, .slice none 0 0, .slice none 0 0] 25 (0, 0)) ∧ Below w.heap.size w (pnW w id A1 c1 l A2 c2 r) := by
 have h1 := heap_alloc_new (w.alloc (.cells #[.int .i64 id, .slice A1 l.length c1, .slice A2 r.length c2] 25)) (.cells #[.int .i64 0, .slice none 0 0, .slice none 0 0] 25)
 have hs : (w.alloc (.cells #[.int .i64 id, .slice A1 l.length c1, .slice A2 r.length c2] 25)).heap.size = w.heap.size + 1 := by simp
 rw [hs] at h1
 refine ⟨by simp [pnW], ?_, h1, zA (zA (Below.refl _ _) _) _⟩
 exact (Below.heap_alloc _ _ w.heap.size (by simp)).trans (heap_alloc_new w _)
/-- What stands behind a call that keeps what was there. -/
theorem pn_kept {w w1 : World} {id : Int} {A1 A2 : Option Addr} {c1 c2 : Nat} {l r : List CkC} (hb : Below (pnW w id A1 c1 l A2 c2 r).heap.size (pnW w id A1 c1 l A2 c2 r) w1) :
 w.heap.size + 2 ≤ w1.heap.size ∧ w1.heap[w.heap.size]? = some (.cells #[.int .i64 id, .slice A1 l.length c1, .slice A2 r.length c2] 25 (0, 0)) ∧
 w1.heap[w.heap.size + 1]? = some (.cells #[.int .i64 0, .slice none 0 0, .slice none 0 0] 25 (0, 0)) ∧ Below w.heap.size w w1 := by
 obtain ⟨h1, h2, h3, h4⟩ := pn_facts w id A1 c1 l A2 c2 r
 have hs := hb.size
 exact ⟨by omega, (hb.block _ (by omega)).trans h2, (hb.block _ (by omega)).trans h3, below_step h4 hb⟩
set_option maxHeartbeats 8000000 in
set_option maxRecDepth 100000 in
theorem plain_calls (k : Nat) (id : Int) (A1 : Option Addr) (c1 : Nat) (l : List CkC) (A2 : Option Addr) (c2 : Nat) (r : List CkC) (r1 : Int) (r2 r3 : List CkC) (r4 : Int) (w : World) (hl : Kd.C k33 w A1 l.length l) (hl' : l.length ≤ c1) (hr : Kd.C k33 w A2 r.length r) (hr' : r.length ≤ c2) (h : plainF k id l r = some (r1, r2, r3, r4)) :
 Calls Tryd.prog 19 #[.agg #[.int .i64 id, .slice A1 l.length c1, .slice A2 r.length c2]] w fun e w' => ∃ v1_ v2_ : Value, e = .returned (.tuple #[.agg #[.int .i64 r1, v1_, v2_], .int .i64 r4]) ∧ Kd.R k33 33 w' w.heap.size (fun k_ => some k_ ≠ (v2_ : Value).ownBlock) v1_ r2 ∧ Kd.R k33 33 w' w.heap.size (fun k_ => some k_ ≠ (v1_ : Value).ownBlock) v2_ r3 ∧ Below w.heap.size w w' := by
 unfold plainF at h
 obtain ⟨e0, he, h⟩ := zB h
 have K1 := fun (W : World) (hW : Below w.heap.size w W) => rule_Check.calls k id A1 c1 l A2 c2 r e0 W (Kd.C_below hl hW) hl' (Kd.C_below hr hW) hr' he
 have HL := zM hl
 have HR := zM hr
 have hmf : ∀ (fn : Fn) (first cap : Array Value) (w : World), (Instr.makeFunc fn first cap).run Tryd.prog w = .ok (.func fn first cap) w := fun _ _ _ _ => rfl
 have HB := zM (Below.refl w.heap.size w)
 clear he hl hr
 by_cases c0 : e0 = 0
 case neg =>
  rw [if_neg c0] at h
  simp only [Option.some.injEq, Prod.mk.injEq] at h
  obtain ⟨rfl, rfl, rfl, rfl⟩ := h
  have d0 : (e0 != 0) = true := zF c0
  clear c0 hmf
  go_enter Tryd.func19, Tryd.ntmps19
  go_wp2_with (first | (go_at_call 11; (with_reducible refine (K1 _ ?side1).mono ?_); (case side1 => exact (by repeat (first | exact HB.out | apply zA | apply zN | apply zD))); rintro e w1 ⟨rfl, hb⟩; obtain ⟨hz, hz0, hz1, hB⟩ := pn_kept hb; have hq0 : w1.cell? ⟨w.heap.size + 1, 0, none⟩ = some (.int .i64 0) := (zX hz1 0).trans rfl; have hq1 : w1.cell? ⟨w.heap.size + 1, 1, none⟩ = some (.slice none 0 0) := (zX hz1 1).trans rfl; have hq2 : w1.cell? ⟨w.heap.size + 1, 2, none⟩ = some (.slice none 0 0) := (zX hz1 2).trans rfl; have hf0 := zY hz1 0; have hf1 := zY hz1 1; have hf2 := zY hz1 2; have HZ := zM (And.intro hz (And.intro hz0 hz1)); clear HB hb hz hz0 hz1; have HB := zM hB; clear hB))
  refine bodyPost_ret (results_ct rfl _ _ (w.heap.size + 1) 25 #[.int .i64 0, .slice none 0 0, .slice none 0 0] (0, 0) _ rfl (by refine blk_put (cs := #[.int .i64 0, .slice none 0 0, .slice none 0 0]) ?_ 2 _ rfl; refine blk_put (cs := #[.int .i64 0, .slice none 0 0, .slice none 0 0]) ?_ 1 _ rfl; refine blk_put (cs := #[.int .i64 0, .slice none 0 0, .slice none 0 0]) ?_ 0 _ rfl; exact HZ.out.2.2) Tryd.underlying25 rfl (by kernel_rfl)) rfl ?_
  exact ⟨_, _, rfl, Kd.R_nil _ _ _ _ _, Kd.R_nil _ _ _ _ _, by repeat (first | exact HB.out | (refine below_set ?_ (by omega)))⟩
 case pos =>
  subst c0
  rw [if_pos rfl] at h
  obtain ⟨⟨vl, q1⟩, hv, h⟩ := zB h
  obtain ⟨x, hx, h⟩ := zB h
  obtain ⟨y, hy, h⟩ := zB h
  simp only [Option.some.injEq, Prod.mk.injEq] at h
  obtain ⟨rfl, rfl, rfl, rfl⟩ := h
  have V1 := fun (W : World) (hW : Below w.heap.size w W) => term_Vars.calls k A1 c1 l vl q1 W (Kd.C_below HL.out hW) hl' hv
  have HX := zM hx
  have HY := zM hy
  clear hv hx hy
  go_enter Tryd.func19, Tryd.ntmps19
  go_wp2_with (first | (go_at_call 11; (with_reducible refine (K1 _ ?side1).mono ?_); (case side1 => exact (by repeat (first | exact HB.out | apply zA | apply zN | apply zD))); rintro e w1 ⟨rfl, hb⟩; obtain ⟨hz, hz0, hz1, hB⟩ := pn_kept hb; have hq0 : w1.cell? ⟨w.heap.size, 0, none⟩ = some (.int .i64 id) := (zX hz0 0).trans rfl; have hq1 : w1.cell? ⟨w.heap.size, 1, none⟩ = some (.slice A1 l.length c1) := (zX hz0 1).trans rfl; have hq2 : w1.cell? ⟨w.heap.size, 2, none⟩ = some (.slice A2 r.length c2) := (zX hz0 2).trans rfl; have HZ := zM (And.intro hz (And.intro hz0 hz1)); clear HB hb hz hz0 hz1; have HB := zM hB; clear hB) | (go_at_call 44; (with_reducible refine (V1 _ ?side2).mono ?_); (case side2 => exact (by repeat (first | exact HB.out | apply zA | apply zN | apply zD))); rintro e w2 ⟨vv, rfl, hR, hb⟩; obtain ⟨Av, cv, rfl⟩ := Kd.R_slice hR; have HRV := zM (Kd.R_reads' hR).2; have HZ2 := zM (And.intro (show w.heap.size + 2 ≤ w2.heap.size from by have := hb.size; have := HZ.out.1; omega) (And.intro ((hb.block _ (by have := HZ.out.1; omega)).trans HZ.out.2.1) ((hb.block _ (by have := HZ.out.1; omega)).trans HZ.out.2.2))); have n0_ := zM (below_step HB.out hb); clear HB hb hR hq0 hq1 hq2; have HB := n0_; clear n0_; have hz2 : w.heap.size + 1 < w2.heap.size := (by have := HZ2.out.1; omega)))
  have hbx := heap_alloc_new w2 (.cells #[.slice Av vl.length cv] 58)
  obtain ⟨W5, hW5⟩ : ∃ W5, W5 = w2.alloc (.cells #[.slice Av vl.length cv] 58) := ⟨_, rfl⟩
  have hB5 : Below w2.heap.size w2 W5 := by rw [hW5]; exact zA (Below.refl _ _) _
  have HIV := zM (show IsVl W5 w2.heap.size Av cv vl from ⟨by rw [hW5]; exact hbx, Kd.C_below HRV.out.2 hB5, HRV.out.1⟩)
  have HK0 := zM ((hB5.block _ (by have := HZ2.out.1; omega)).trans HZ2.out.2.1)
  have HK1 := zM ((hB5.block _ (by have := HZ2.out.1; omega)).trans HZ2.out.2.2)
  have HB5 := zM (below_step HB.out hB5)
  have P1 := fun (W : World) (hW : Below W5.heap.size W5 W) => pl1_calls (w := W) (c0 := c1) (A0 := A1) (HIV.out.below hW) (Kd.C_below HL.out (below_step HB5.out hW)) hl' HX.out
  have P2 := fun (W : World) (hW : Below W5.heap.size W5 W) => pl1_calls (w := W) (c0 := c2) (A0 := A2) (HIV.out.below hW) (Kd.C_below HR.out (below_step HB5.out hW)) hr' HY.out
  have hc0 : W5.cell? ⟨w.heap.size, 0, none⟩ = some (.int .i64 id) := (zX HK0.out 0).trans rfl
  have hc1 : W5.cell? ⟨w.heap.size, 1, none⟩ = some (.slice A1 l.length c1) := (zX HK0.out 1).trans rfl
  have hc2 : W5.cell? ⟨w.heap.size, 2, none⟩ = some (.slice A2 r.length c2) := (zX HK0.out 2).trans rfl
  have HBW := zM (Below.refl W5.heap.size W5)
  have HC0 := zM hc0
  have HC1 := zM hc1
  have HC2 := zM hc2
  rw [← hW5]
  have HW5 := zM hW5
  have HLT := zM (show w.heap.size + 1 < W5.heap.size from blk_lt HK1.out)
  clear hW5 hB5 hbx hz2
  go_region_held3 (fun w' => w'.cell? ⟨w.heap.size, 0, none⟩ = some (.int .i64 id) ∧ w'.cell? ⟨w.heap.size, 1, none⟩ = some (.slice A1 l.length c1) ∧ w'.cell? ⟨w.heap.size, 2, none⟩ = some (.slice A2 r.length c2)) (first | go_keep | (go_split_ands; refine ⟨?_, ?_, ?_⟩ <;> assumption)) (first | (go_at_call 45; (with_reducible refine (P1 _ ?side3).mono ?_); (case side3 => exact (by repeat (first | exact HBW.out | apply zN | apply zD))); rintro e w3 ⟨v1, rfl, hR, hb⟩; obtain ⟨Ax, cx, rfl⟩ := Kd.R_slice hR; have HR1 := zM (Kd.R_lower hR (Nat.le_trans HB5.out.size (show W5.heap.size ≤ _ from (by repeat (first | exact HBW.out | apply zN | apply zD) : Below W5.heap.size W5 _).size))); have n0_ := zM (below_step (by repeat (first | exact HBW.out | apply zN | apply zD)) hb); clear HBW hb hR; have HBW := n0_; clear n0_; have hd0 := pw_cell_below HBW.out HC0.out; have hd1 := pw_cell_below HBW.out HC1.out; have hd2 := pw_cell_below HBW.out HC2.out) | (go_at_call 45; (with_reducible refine (P2 _ ?side4).mono ?_); (case side4 => exact (by repeat (first | exact HBW.out | apply zN | apply zD))); rintro e w4 ⟨v2, rfl, hR, hb⟩; obtain ⟨Ay, cy, rfl⟩ := Kd.R_slice hR; have HR2 := zM (Kd.R_lower (Kd.R_new' hR (Kd.R_lt (by (repeat (first | exact HR1.out | apply Kd.R_drewN | apply Kd.R_drew))))) (Nat.le_trans HB5.out.size (show W5.heap.size ≤ _ from (by repeat (first | exact HBW.out | apply zN | apply zD) : Below W5.heap.size W5 _).size))); have HR1b := zM (Kd.R_elder' (by (repeat (first | exact HR1.out | apply Kd.R_drewN | apply Kd.R_drew))) (Kd.R_base hR) hb); have n0_ := zM (below_step (by repeat (first | exact HBW.out | apply zN | apply zD)) hb); clear HBW hb hR; have HBW := n0_; clear n0_; have hd0 := pw_cell_below HBW.out HC0.out; have hd1 := pw_cell_below HBW.out HC1.out; have hd2 := pw_cell_below HBW.out HC2.out; have hk_ := (HBW.out.block (w.heap.size + 1) HLT.out).trans HK1.out; have HK4 := zM hk_; have he0 : w4.cell? ⟨w.heap.size + 1, 0, none⟩ = some (.int .i64 0) := (zX hk_ 0).trans rfl; have he1 : w4.cell? ⟨w.heap.size + 1, 1, none⟩ = some (.slice none 0 0) := (zX hk_ 1).trans rfl; have he2 : w4.cell? ⟨w.heap.size + 1, 2, none⟩ = some (.slice none 0 0) := (zX hk_ 2).trans rfl; have hg0 := zY hk_ 0; have hg1 := zY hk_ 1; have hg2 := zY hk_ 2; clear hk_))
  go_wp2
  refine bodyPost_ret (results_ct rfl _ _ (w.heap.size + 1) 25 #[.int .i64 id, .slice Ax x.length cx, .slice Ay y.length cy] (0, 0) _ rfl (by refine blk_put (cs := #[.int .i64 id, .slice Ax x.length cx, .slice none 0 0]) ?_ 2 _ rfl; refine blk_put (cs := #[.int .i64 id, .slice none 0 0, .slice none 0 0]) ?_ 1 _ rfl; refine blk_put (cs := #[.int .i64 0, .slice none 0 0, .slice none 0 0]) ?_ 0 _ rfl; exact HK4.out) Tryd.underlying25 rfl (by kernel_rfl)) rfl ?_
  exact ⟨_, _, rfl, Kd.R_mono (Kd.R_far (p := ⟨w.heap.size + 1, 2, none⟩) (Kd.R_far (p := ⟨w.heap.size + 1, 1, none⟩) (Kd.R_far (p := ⟨w.heap.size + 1, 0, none⟩) (Kd.R_types HR1b.out HK4.out (by decide)) (fun _ hk => hk.2) _) (fun _ hk => hk.2) _) (fun _ hk => hk.2) _) (fun _ hk => hk.1.2), Kd.R_mono (Kd.R_far (p := ⟨w.heap.size + 1, 2, none⟩) (Kd.R_far (p := ⟨w.heap.size + 1, 1, none⟩) (Kd.R_far (p := ⟨w.heap.size + 1, 0, none⟩) (Kd.R_types HR2.out HK4.out (by decide)) (fun _ hk => hk.2) _) (fun _ hk => hk.2) _) (fun _ hk => hk.2) _) (fun _ hk => hk.1.2), by
   have h_ := below_step HB5.out HBW.out
   repeat (first | exact h_ | (refine below_set ?_ (by omega)))⟩
theorem plL_mono (vars : List ByteArray) (k : Nat) : ∀ t, LeO (plL k vars t) (plL (k + 1) vars t)
 | [] => LeO.refl _
 | c :: u => by
  unfold plL
  exact LeO.bind (slices_Index_string_string.mono _ _ _) fun j => LeO.ite (LeO.ite (LeO.bind (plL_mono vars k u) fun _ => LeO.refl _) (LeO.refl _)) (LeO.bind (plL_mono vars k u) fun _ => LeO.refl _)
def rule_Plain.f (k : Nat) (a0_0 : Int) (l0_1 : List (S33)) (l0_2 : List (S33)) : Option (Int × (List (S33)) × (List (S33)) × Int) := plainF k a0_0 l0_1 l0_2
theorem rule_Plain.mono : ∀ a0 a1 a2 k, LeO (rule_Plain.f k a0 a1 a2) (rule_Plain.f (k + 1) a0 a1 a2) := by
 intro a0 a1 a2 k
 unfold rule_Plain.f plainF
 refine LeO.bind (rule_Check.mono _ _ _ _) fun _ => LeO.ite (LeO.bind (term_Vars.mono _ _) fun _ => LeO.bind ?_ fun _ => LeO.bind ?_ fun _ => LeO.refl _) (LeO.refl _)
 ·
  unfold plF; exact LeO.ite (plL_mono _ _ _) (LeO.refl _)
 ·
  unfold plF; exact LeO.ite (plL_mono _ _ _) (LeO.refl _)
theorem rule_Plain.calls (k : Nat) (a0_0 : Int) (A0_1 : Option Addr) (c0_1 : Nat) (l0_1 : List (S33)) (A0_2 : Option Addr) (c0_2 : Nat) (l0_2 : List (S33)) (r1 : Int) (r2 : List (S33)) (r3 : List (S33)) (r4 : Int) (w : World) (hr0_1 : Kd.C k33 w A0_1 l0_1.length l0_1) (hc0_1 : l0_1.length ≤ c0_1) (hr0_2 : Kd.C k33 w A0_2 l0_2.length l0_2) (hc0_2 : l0_2.length ≤ c0_2) (h : rule_Plain.f k a0_0 l0_1 l0_2 = some (r1, r2, r3, r4)) :
 Calls Tryd.prog 19 #[.agg #[.int .i64 a0_0, .slice A0_1 l0_1.length c0_1, .slice A0_2 l0_2.length c0_2]] w fun e w' => ∃ v1_ v2_ : Value, e = .returned (.tuple #[.agg #[.int .i64 r1, v1_, v2_], .int .i64 r4]) ∧ Kd.R k33 33 w' w.heap.size (fun k_ => some k_ ≠ (v2_ : Value).ownBlock) v1_ r2 ∧ Kd.R k33 33 w' w.heap.size (fun k_ => some k_ ≠ (v1_ : Value).ownBlock) v2_ r3 ∧ Below w.heap.size w w' := plain_calls k a0_0 A0_1 c0_1 l0_1 A0_2 c0_2 l0_2 r1 r2 r3 r4 w hr0_1 hc0_1 hr0_2 hc0_2 h



-- ==== PF10

/-! ### aumbrylaw06_wakes: function 10 -/
def aumbrylaw06_wakes.f (k : Nat)  : Option (Bool) := (rule_Parse.f k (⟨#[103, 40, 66, 44, 65, 41]⟩ : ByteArray) (⟨#[65]⟩ : ByteArray)).bind fun bt101 => ((rule_Plain.f k bt101.1 bt101.2.1 bt101.2.2.1).bind fun bt110 => ((rule_Print.f k bt110.1 bt110.2.1 bt110.2.2.1).bind fun bt119 => ((rule_Parse.f k (⟨#[88]⟩ : ByteArray) (⟨#[97]⟩ : ByteArray)).bind fun bt121 => (if bt101.2.2.2 = 0 then (if bt110.2.2.2 = 0 then (if bt119.2 = 0 then (if bt119.1.toList = ([103, 40, 88, 48, 44, 88, 49, 41, 32, 45, 62, 32, 88, 49] : List UInt8) then ((rule_Head.f k bt101.1 bt101.2.1 bt101.2.2.1).bind fun t130 => (if t130.toList = ([103] : List UInt8) then (some (bt121.2.2.2 == 20)) else (some false))) else (some false)) else (some false)) else (some false)) else (some false)))))
theorem aumbrylaw06_wakes.mono : ∀ k, LeO (aumbrylaw06_wakes.f k ) (aumbrylaw06_wakes.f (k + 1) ) := by
 intro  k
 unfold aumbrylaw06_wakes.f
 repeat' first
  | (with_reducible exact rule_Head.mono _ _ _ _)
  | (with_reducible exact rule_Parse.mono _ _ _)
  | (with_reducible exact rule_Plain.mono _ _ _ _)
  | (with_reducible exact rule_Print.mono _ _ _ _)
  | (with_reducible exact LeO.refl _)
  | (with_reducible exact LeO.none _)
  | (with_reducible refine LeO.ite ?_ ?_)
  | (with_reducible refine LeO.bind ?_ (fun _ => ?_))
  | exact LeO.none _
  | refine LeO.ite ?_ ?_
  | refine LeO.bind ?_ (fun _ => ?_)
set_option maxRecDepth 100000 in
theorem aumbrylaw06_wakes.ev_true : Ev (fun k => aumbrylaw06_wakes.f k) true := Ev.of (g := fun k => aumbrylaw06_wakes.f k) aumbrylaw06_wakes.mono (k := 40) (by kernel_rfl)
theorem aumbrylaw06_wakes.is_true (k : Nat) (r : Bool) (h : aumbrylaw06_wakes.f k = some r) : r = true := by
 obtain ⟨K1, h1⟩ := Ev.of (g := fun k => aumbrylaw06_wakes.f k) aumbrylaw06_wakes.mono h
 obtain ⟨K2, h2⟩ := aumbrylaw06_wakes.ev_true
 exact zS ((h1 (max K1 K2) (Nat.le_max_left _ _)).symm.trans (h2 _ (Nat.le_max_right _ _)))
set_option maxHeartbeats 8000000 in
set_option maxRecDepth 100000 in
theorem aumbrylaw06_wakes.calls (k : Nat)  (r : Bool) (w : World) (h : aumbrylaw06_wakes.f k  = some r) :
 Calls Tryd.prog 10 #[] w fun e w' => e = .returned (.bool r) ∧ Below w.heap.size w w' := by
 have HRT := zM (aumbrylaw06_wakes.is_true k r h)
 have hu25 := Tryd.underlying25
 have HB := zM (Below.refl w.heap.size w)
 have H : ((rule_Parse.f k (⟨#[103, 40, 66, 44, 65, 41]⟩ : ByteArray) (⟨#[65]⟩ : ByteArray)).bind fun bt101 => ((rule_Plain.f k bt101.1 bt101.2.1 bt101.2.2.1).bind fun bt110 => ((rule_Print.f k bt110.1 bt110.2.1 bt110.2.2.1).bind fun bt119 => ((rule_Parse.f k (⟨#[88]⟩ : ByteArray) (⟨#[97]⟩ : ByteArray)).bind fun bt121 => (if bt101.2.2.2 = 0 then (if bt110.2.2.2 = 0 then (if bt119.2 = 0 then (if bt119.1.toList = ([103, 40, 88, 48, 44, 88, 49, 41, 32, 45, 62, 32, 88, 49] : List UInt8) then ((rule_Head.f k bt101.1 bt101.2.1 bt101.2.2.1).bind fun t130 => (if t130.toList = ([103] : List UInt8) then (some (bt121.2.2.2 == 20)) else (some false))) else (some false)) else (some false)) else (some false)) else (some false)))))) = some r := h
 clear h
 replace H := zB H
 obtain ⟨⟨t101, t102, t105, t108⟩, A10, H⟩ := H
 try dsimp only at H
 have A1 := zM A10
 clear A10
 replace H := zB H
 obtain ⟨⟨t110, t111, t114, t117⟩, A20, H⟩ := H
 try dsimp only at H
 have A2 := zM A20
 clear A20
 replace H := zB H
 obtain ⟨⟨t119, t120⟩, A30, H⟩ := H
 try dsimp only at H
 have A3 := zM A30
 clear A30
 replace H := zB H
 obtain ⟨⟨t121, t122, t125, t128⟩, A40, H⟩ := H
 try dsimp only at H
 have A4 := zM A40
 clear A40
 by_cases c5 : t108 = 0
 ·
  rw [if_pos c5] at H
  have c5b0 : (t108 == 0) = true := zG c5
  have c5b1 : (t108 != 0) = false := zH c5
  clear c5
  by_cases c6 : t117 = 0
  ·
   rw [if_pos c6] at H
   have c6b0 : (t117 == 0) = true := zG c6
   have c6b1 : (t117 != 0) = false := zH c6
   clear c6
   by_cases c7 : t120 = 0
   ·
    rw [if_pos c7] at H
    have c7b0 : (t120 == 0) = true := zG c7
    have c7b1 : (t120 != 0) = false := zH c7
    clear c7
    by_cases c8 : t119.toList = ([103, 40, 88, 48, 44, 88, 49, 41, 32, 45, 62, 32, 88, 49] : List UInt8)
    ·
     rw [if_pos c8] at H
     have c8b0 : (t119.toList == ([103, 40, 88, 48, 44, 88, 49, 41, 32, 45, 62, 32, 88, 49] : List UInt8)) = true := zG c8
     have c8b1 : (t119.toList != ([103, 40, 88, 48, 44, 88, 49, 41, 32, 45, 62, 32, 88, 49] : List UInt8)) = false := zH c8
     clear c8
     replace H := zB H
     obtain ⟨t130, A90, H⟩ := H
     try dsimp only at H
     have A9 := zM A90
     clear A90
     by_cases c10 : t130.toList = ([103] : List UInt8)
     ·
      rw [if_pos c10] at H
      have c10b0 : (t130.toList == ([103] : List UInt8)) = true := zG c10
      have c10b1 : (t130.toList != ([103] : List UInt8)) = false := zH c10
      clear c10
      obtain rfl := zS H
      go_enter Tryd.func10, Tryd.ntmps10
      go_wp2_with (first | ((with_reducible refine gate_callee (f := 15) rfl ?_); refine goesL_ (some 10) rfl rfl Tryd.func15 (by kernel_rfl) rfl #[.string (⟨#[103, 40, 66, 44, 65, 41]⟩ : ByteArray), .string (⟨#[65]⟩ : ByteArray)] rfl (by (try simp only [List.map_toArray, List.map_cons, List.map_nil]); first | done | rfl) ?_; (with_reducible refine (rule_Parse.calls k (⟨#[103, 40, 66, 44, 65, 41]⟩ : ByteArray) (⟨#[65]⟩ : ByteArray) t101 t102 t105 t108 _ A1.out).mono ?_); rintro e w11 ⟨v103, v106, rfl, ho0, ho1, hb⟩; refine ⟨_, rfl, ?_⟩; have n0_ := zM (Kd.R_lower ho0 (below_size (by repeat (first | (with_reducible first | exact HB.out | apply zA | apply zN | apply zD) | exact HB.out)))); have n1_ := zM (Kd.R_lower ho1 (below_size (by repeat (first | (with_reducible first | exact HB.out | apply zA | apply zN | apply zD) | exact HB.out)))); have n2_ := zM (below_step (by repeat (first | (with_reducible first | exact HB.out | apply zA | apply zN | apply zD) | exact HB.out)) hb); clear HB; have HO104 := n0_; have HO107 := n1_; have HB := n2_; clear n0_ n1_ n2_; (try clear hb); (try clear hb2); (try clear hk); (try clear hi); (try clear ho0); (try clear ho1)) | ((with_reducible refine gate_dst (N := 1) rfl ?_); refine box_event ?hg (N := 1) ?hd (cs := #[.int .i64 0, .slice none 0 0, .slice none 0 0]) (t := 25) ?hr ?_; (case hd => rfl); (case hg => rfl); (case hr => first | (go_simp; done) | (go_simp; rfl)); intro gb109 hg w12 hbox hb; have n0_ := zM (Kd.R_below (by (with_reducible repeat (first | apply Kd.R_alloc | apply Kd.R_drewN | apply Kd.R_drew)); exact HO104.out) hb); have n1_ := zM (Kd.R_below (by (with_reducible repeat (first | apply Kd.R_alloc | apply Kd.R_drewN | apply Kd.R_drew)); exact HO107.out) hb); have n2_ := zM (below_step (by repeat (first | (with_reducible first | exact HB.out | apply zA | apply zN | apply zD) | exact HB.out)) hb); have n3_ := zM (hbox); have n4_ := zM ((by rw [hg]; exact (below_size (by repeat (first | (with_reducible first | exact HB.out | apply zA | apply zN | apply zD) | exact HB.out))) : w.heap.size ≤ gb109)); have n5_ := zM ((by rw [hg]; exact (below_size (by repeat (first | (with_reducible first | exact HB.out | apply zA | apply zN | apply zD) | exact HB.out))) : w.heap.size ≤ gb109)); clear HO104; clear HO107; clear HB; have HO104 := n0_; have HO107 := n1_; have HB := n2_; have BK109 := n3_; have GW109 := n4_; have GE109 := n5_; clear n0_ n1_ n2_ n3_ n4_ n5_; clear hb hbox hg; have hcz13_0 : w12.cell? ⟨gb109, 0, none⟩ = some (.int .i64 0) := (zX BK109.out 0).trans rfl; have hcz13_1 : w12.cell? ⟨gb109, 1, none⟩ = some (.slice none 0 0) := (zX BK109.out 1).trans rfl; have hcz13_2 : w12.cell? ⟨gb109, 2, none⟩ = some (.slice none 0 0) := (zX BK109.out 2).trans rfl; have hfz13_0 := zY BK109.out 0; have hfz13_1 := zY BK109.out 1; have hfz13_2 := zY BK109.out 2; obtain ⟨Ao14, co14, eo14⟩ := Kd.R_slice HO104.out; subst eo14; obtain ⟨Ao15, co15, eo15⟩ := Kd.R_slice HO107.out; subst eo15) | ((with_reducible refine gate_callee (f := 19) rfl ?_); refine goesL_ (some 15) rfl rfl Tryd.func19 (by kernel_rfl) rfl #[.agg #[.int .i64 t101, .slice Ao14 t102.length co14, .slice Ao15 t105.length co15]] rfl (by (try simp only [List.map_toArray, List.map_cons, List.map_nil]); first | done | rfl) ?_; (with_reducible refine (rule_Plain.calls k t101 _ _ t102 _ _ t105 t110 t111 t114 t117 _ ?side1 ?side2 ?side3 ?side4 A2.out).mono ?_); (case side1 => refine (Kd.R_reads' (e := 33) (base := w.heap.size) (ok := fun k_ => some k_ ≠ (.slice Ao15 t105.length co15 : Value).ownBlock) (n := t102.length) (c := co14) ?_).2.2; exact (by (with_reducible repeat (first | apply Kd.R_alloc | apply Kd.R_drewN | apply Kd.R_drew)); exact (Kd.R_mono (Kd.R_far (p := ⟨gb109, 2, none⟩) (Kd.R_far (p := ⟨gb109, 1, none⟩) (Kd.R_far (p := ⟨gb109, 0, none⟩) (Kd.R_types HO104.out BK109.out (by decide)) (fun _ hk => hk.2) (.int .i64 t101)) (fun _ hk => hk.2) (.slice Ao14 t102.length co14)) (fun _ hk => hk.2) (.slice Ao15 t105.length co15)) (fun _ h_ => h_.1)))); (case side2 => exact (Kd.R_reads' HO104.out).2.1); (case side3 => refine (Kd.R_reads' (e := 33) (base := w.heap.size) (ok := fun k_ => some k_ ≠ (.slice Ao14 t102.length co14 : Value).ownBlock) (n := t105.length) (c := co15) ?_).2.2; exact (by (with_reducible repeat (first | apply Kd.R_alloc | apply Kd.R_drewN | apply Kd.R_drew)); exact (Kd.R_mono (Kd.R_far (p := ⟨gb109, 2, none⟩) (Kd.R_far (p := ⟨gb109, 1, none⟩) (Kd.R_far (p := ⟨gb109, 0, none⟩) (Kd.R_types HO107.out BK109.out (by decide)) (fun _ hk => hk.2) (.int .i64 t101)) (fun _ hk => hk.2) (.slice Ao14 t102.length co14)) (fun _ hk => hk.2) (.slice Ao15 t105.length co15)) (fun _ h_ => h_.1)))); (case side4 => exact (Kd.R_reads' HO107.out).2.1); rintro e w16 ⟨v112, v115, rfl, ho0, ho1, hb⟩; refine ⟨_, rfl, ?_⟩; have n0_ := zM (Kd.R_mono (Kd.R_told (Kd.R_told (Kd.R_old (by (with_reducible repeat (first | apply Kd.R_alloc | apply Kd.R_drewN | apply Kd.R_drew)); exact (Kd.R_mono (Kd.R_far (p := ⟨gb109, 2, none⟩) (Kd.R_far (p := ⟨gb109, 1, none⟩) (Kd.R_far (p := ⟨gb109, 0, none⟩) (Kd.R_types HO104.out BK109.out (by decide)) (fun _ hk => hk.2) (.int .i64 t101)) (fun _ hk => hk.2) (.slice Ao14 t102.length co14)) (fun _ hk => hk.2) (.slice Ao15 t105.length co15)) (fun _ h_ => h_.1))) hb) (Kd.R_base ho0)) (Kd.R_base ho1)) (fun _ h_ => h_.1)); have n1_ := zM (Kd.R_mono (Kd.R_told (Kd.R_told (Kd.R_old (by (with_reducible repeat (first | apply Kd.R_alloc | apply Kd.R_drewN | apply Kd.R_drew)); exact (Kd.R_mono (Kd.R_far (p := ⟨gb109, 2, none⟩) (Kd.R_far (p := ⟨gb109, 1, none⟩) (Kd.R_far (p := ⟨gb109, 0, none⟩) (Kd.R_types HO107.out BK109.out (by decide)) (fun _ hk => hk.2) (.int .i64 t101)) (fun _ hk => hk.2) (.slice Ao14 t102.length co14)) (fun _ hk => hk.2) (.slice Ao15 t105.length co15)) (fun _ h_ => h_.1))) hb) (Kd.R_base ho0)) (Kd.R_base ho1)) (fun _ h_ => h_.1)); have n2_ := zM (Kd.R_lower (Kd.R_new' (Kd.R_new' ho0 (Kd.R_lt (by (with_reducible repeat (first | apply Kd.R_alloc | apply Kd.R_drewN | apply Kd.R_drew)); exact (Kd.R_mono (Kd.R_far (p := ⟨gb109, 2, none⟩) (Kd.R_far (p := ⟨gb109, 1, none⟩) (Kd.R_far (p := ⟨gb109, 0, none⟩) (Kd.R_types HO104.out BK109.out (by decide)) (fun _ hk => hk.2) (.int .i64 t101)) (fun _ hk => hk.2) (.slice Ao14 t102.length co14)) (fun _ hk => hk.2) (.slice Ao15 t105.length co15)) (fun _ h_ => h_.1))))) (Kd.R_lt (by (with_reducible repeat (first | apply Kd.R_alloc | apply Kd.R_drewN | apply Kd.R_drew)); exact (Kd.R_mono (Kd.R_far (p := ⟨gb109, 2, none⟩) (Kd.R_far (p := ⟨gb109, 1, none⟩) (Kd.R_far (p := ⟨gb109, 0, none⟩) (Kd.R_types HO107.out BK109.out (by decide)) (fun _ hk => hk.2) (.int .i64 t101)) (fun _ hk => hk.2) (.slice Ao14 t102.length co14)) (fun _ hk => hk.2) (.slice Ao15 t105.length co15)) (fun _ h_ => h_.1))))) (below_size (by repeat (first | (with_reducible first | exact HB.out | apply zA | apply zN | apply zD | refine below_set ?_ GE109.out) | exact HB.out)))); have n3_ := zM (Kd.R_lower (Kd.R_new' (Kd.R_new' ho1 (Kd.R_lt (by (with_reducible repeat (first | apply Kd.R_alloc | apply Kd.R_drewN | apply Kd.R_drew)); exact (Kd.R_mono (Kd.R_far (p := ⟨gb109, 2, none⟩) (Kd.R_far (p := ⟨gb109, 1, none⟩) (Kd.R_far (p := ⟨gb109, 0, none⟩) (Kd.R_types HO104.out BK109.out (by decide)) (fun _ hk => hk.2) (.int .i64 t101)) (fun _ hk => hk.2) (.slice Ao14 t102.length co14)) (fun _ hk => hk.2) (.slice Ao15 t105.length co15)) (fun _ h_ => h_.1))))) (Kd.R_lt (by (with_reducible repeat (first | apply Kd.R_alloc | apply Kd.R_drewN | apply Kd.R_drew)); exact (Kd.R_mono (Kd.R_far (p := ⟨gb109, 2, none⟩) (Kd.R_far (p := ⟨gb109, 1, none⟩) (Kd.R_far (p := ⟨gb109, 0, none⟩) (Kd.R_types HO107.out BK109.out (by decide)) (fun _ hk => hk.2) (.int .i64 t101)) (fun _ hk => hk.2) (.slice Ao14 t102.length co14)) (fun _ hk => hk.2) (.slice Ao15 t105.length co15)) (fun _ h_ => h_.1))))) (below_size (by repeat (first | (with_reducible first | exact HB.out | apply zA | apply zN | apply zD | refine below_set ?_ GE109.out) | exact HB.out)))); have n4_ := zM (blk_below (g := gb109) (o := .cells #[.int .i64 t101, .slice Ao14 t102.length co14, .slice Ao15 t105.length co15] 25 (0, 0)) (by (with_reducible repeat (first | refine blk_drewN ?_ _ | refine blk_drew ?_ | refine blk_alloc ?_ _)); refine blk_put (cs := #[.int .i64 t101, .slice Ao14 t102.length co14, .slice none 0 0]) ?_ 2 _ rfl; (with_reducible repeat (first | refine blk_drewN ?_ _ | refine blk_drew ?_ | refine blk_alloc ?_ _)); refine blk_put (cs := #[.int .i64 t101, .slice none 0 0, .slice none 0 0]) ?_ 1 _ rfl; (with_reducible repeat (first | refine blk_drewN ?_ _ | refine blk_drew ?_ | refine blk_alloc ?_ _)); refine blk_put (cs := #[.int .i64 0, .slice none 0 0, .slice none 0 0]) ?_ 0 _ rfl; (with_reducible repeat (first | refine blk_drewN ?_ _ | refine blk_drew ?_ | refine blk_alloc ?_ _)); exact BK109.out) hb); have n5_ := zM (below_step (by repeat (first | (with_reducible first | exact HB.out | apply zA | apply zN | apply zD | refine below_set ?_ GE109.out) | exact HB.out)) hb); clear HO104; clear HO107; clear BK109; clear HB; have HO104 := n0_; have HO107 := n1_; have HO113 := n2_; have HO116 := n3_; have BK109 := n4_; have HB := n5_; clear n0_ n1_ n2_ n3_ n4_ n5_; (try clear hb); (try clear hb2); (try clear hk); (try clear hi); (try clear ho0); (try clear ho1)) | ((with_reducible refine gate_dst (N := 3) rfl ?_); refine box_event ?hg (N := 3) ?hd (cs := #[.int .i64 0, .slice none 0 0, .slice none 0 0]) (t := 25) ?hr ?_; (case hd => rfl); (case hg => rfl); (case hr => first | (go_simp; done) | (go_simp; rfl)); intro gb118 hg w17 hbox hb; have n0_ := zM (Kd.R_below (by (with_reducible repeat (first | apply Kd.R_alloc | apply Kd.R_drewN | apply Kd.R_drew)); exact HO104.out) hb); have n1_ := zM (Kd.R_below (by (with_reducible repeat (first | apply Kd.R_alloc | apply Kd.R_drewN | apply Kd.R_drew)); exact HO107.out) hb); have n2_ := zM (Kd.R_below (by (with_reducible repeat (first | apply Kd.R_alloc | apply Kd.R_drewN | apply Kd.R_drew)); exact HO113.out) hb); have n3_ := zM (Kd.R_below (by (with_reducible repeat (first | apply Kd.R_alloc | apply Kd.R_drewN | apply Kd.R_drew)); exact HO116.out) hb); have n4_ := zM (blk_below (g := gb109) (o := .cells #[.int .i64 t101, .slice Ao14 t102.length co14, .slice Ao15 t105.length co15] 25 (0, 0)) (by (with_reducible repeat (first | refine blk_drewN ?_ _ | refine blk_drew ?_ | refine blk_alloc ?_ _)); exact BK109.out) hb); have n5_ := zM (below_step (by repeat (first | (with_reducible first | exact HB.out | apply zA | apply zN | apply zD | refine below_set ?_ GE109.out) | exact HB.out)) hb); have n6_ := zM (hbox); have n7_ := zM ((by rw [hg]; exact (below_size (by repeat (first | (with_reducible first | exact HB.out | apply zA | apply zN | apply zD | refine below_set ?_ GE109.out) | exact HB.out))) : w.heap.size ≤ gb118)); have n8_ := zM ((by rw [hg]; exact (below_size (by repeat (first | (with_reducible first | exact HB.out | apply zA | apply zN | apply zD | refine below_set ?_ GE109.out) | exact HB.out))) : w.heap.size ≤ gb118)); have n9_ := zM ((by rw [hg]; exact Nat.ne_of_lt (blk_lt (g := gb109) (o := .cells #[.int .i64 t101, .slice Ao14 t102.length co14, .slice Ao15 t105.length co15] 25 (0, 0)) (by (with_reducible repeat (first | refine blk_drewN ?_ _ | refine blk_drew ?_ | refine blk_alloc ?_ _)); exact BK109.out)) : gb109 ≠ gb118)); have n10_ := zM ((by rw [hg]; exact Nat.ne_of_gt (blk_lt (g := gb109) (o := .cells #[.int .i64 t101, .slice Ao14 t102.length co14, .slice Ao15 t105.length co15] 25 (0, 0)) (by (with_reducible repeat (first | refine blk_drewN ?_ _ | refine blk_drew ?_ | refine blk_alloc ?_ _)); exact BK109.out)) : gb118 ≠ gb109)); clear HO104; clear HO107; clear HO113; clear HO116; clear BK109; clear HB; have HO104 := n0_; have HO107 := n1_; have HO113 := n2_; have HO116 := n3_; have BK109 := n4_; have HB := n5_; have BK118 := n6_; have GW118 := n7_; have GE118 := n8_; have NB109_118 := n9_; have NB118_109 := n10_; clear n0_ n1_ n2_ n3_ n4_ n5_ n6_ n7_ n8_ n9_ n10_; clear hb hbox hg; have hnb18 := NB118_109.out; have hnc18 := NB109_118.out; have hcz19_0 : w17.cell? ⟨gb118, 0, none⟩ = some (.int .i64 0) := (zX BK118.out 0).trans rfl; have hcz19_1 : w17.cell? ⟨gb118, 1, none⟩ = some (.slice none 0 0) := (zX BK118.out 1).trans rfl; have hcz19_2 : w17.cell? ⟨gb118, 2, none⟩ = some (.slice none 0 0) := (zX BK118.out 2).trans rfl; have hfz19_0 := zY BK118.out 0; have hfz19_1 := zY BK118.out 1; have hfz19_2 := zY BK118.out 2; obtain ⟨Ao20, co20, eo20⟩ := Kd.R_slice HO113.out; subst eo20; obtain ⟨Ao21, co21, eo21⟩ := Kd.R_slice HO116.out; subst eo21) | ((with_reducible refine gate_callee (f := 18) rfl ?_); refine goesL_ (some 20) rfl rfl Tryd.func18 (by kernel_rfl) rfl #[.agg #[.int .i64 t110, .slice Ao20 t111.length co20, .slice Ao21 t114.length co21]] rfl (by (try simp only [List.map_toArray, List.map_cons, List.map_nil]); first | done | rfl) ?_; (with_reducible refine (rule_Print.calls k t110 _ _ t111 _ _ t114 t119 t120 _ ?side1 ?side2 ?side3 ?side4 A3.out).mono ?_); (case side1 => refine (Kd.R_reads' (e := 33) (base := w.heap.size) (ok := fun k_ => ((some k_ ≠ (.slice Ao21 t114.length co21 : Value).ownBlock ∧ some k_ ≠ (.slice Ao14 t102.length co14 : Value).ownBlock) ∧ some k_ ≠ (.slice Ao15 t105.length co15 : Value).ownBlock)) (n := t111.length) (c := co20) ?_).2.2; exact (by (with_reducible repeat (first | apply Kd.R_alloc | apply Kd.R_drewN | apply Kd.R_drew)); exact (Kd.R_mono (Kd.R_far (p := ⟨gb118, 2, none⟩) (Kd.R_far (p := ⟨gb118, 1, none⟩) (Kd.R_far (p := ⟨gb118, 0, none⟩) (Kd.R_types HO113.out BK118.out (by decide)) (fun _ hk => hk.2) (.int .i64 t110)) (fun _ hk => hk.2) (.slice Ao20 t111.length co20)) (fun _ hk => hk.2) (.slice Ao21 t114.length co21)) (fun _ h_ => h_.1)))); (case side2 => exact (Kd.R_reads' HO113.out).2.1); (case side3 => refine (Kd.R_reads' (e := 33) (base := w.heap.size) (ok := fun k_ => ((some k_ ≠ (.slice Ao20 t111.length co20 : Value).ownBlock ∧ some k_ ≠ (.slice Ao14 t102.length co14 : Value).ownBlock) ∧ some k_ ≠ (.slice Ao15 t105.length co15 : Value).ownBlock)) (n := t114.length) (c := co21) ?_).2.2; exact (by (with_reducible repeat (first | apply Kd.R_alloc | apply Kd.R_drewN | apply Kd.R_drew)); exact (Kd.R_mono (Kd.R_far (p := ⟨gb118, 2, none⟩) (Kd.R_far (p := ⟨gb118, 1, none⟩) (Kd.R_far (p := ⟨gb118, 0, none⟩) (Kd.R_types HO116.out BK118.out (by decide)) (fun _ hk => hk.2) (.int .i64 t110)) (fun _ hk => hk.2) (.slice Ao20 t111.length co20)) (fun _ hk => hk.2) (.slice Ao21 t114.length co21)) (fun _ h_ => h_.1)))); (case side4 => exact (Kd.R_reads' HO116.out).2.1); rintro e w22 ⟨rfl, hb⟩; refine ⟨_, rfl, ?_⟩; have n0_ := zM (Kd.R_below (by (with_reducible repeat (first | apply Kd.R_alloc | apply Kd.R_drewN | apply Kd.R_drew)); exact (Kd.R_mono (Kd.R_far (p := ⟨gb118, 2, none⟩) (Kd.R_far (p := ⟨gb118, 1, none⟩) (Kd.R_far (p := ⟨gb118, 0, none⟩) (Kd.R_types HO104.out BK118.out (by decide)) (fun _ hk => hk.2) (.int .i64 t110)) (fun _ hk => hk.2) (.slice Ao20 t111.length co20)) (fun _ hk => hk.2) (.slice Ao21 t114.length co21)) (fun _ h_ => h_.1))) hb); have n1_ := zM (Kd.R_below (by (with_reducible repeat (first | apply Kd.R_alloc | apply Kd.R_drewN | apply Kd.R_drew)); exact (Kd.R_mono (Kd.R_far (p := ⟨gb118, 2, none⟩) (Kd.R_far (p := ⟨gb118, 1, none⟩) (Kd.R_far (p := ⟨gb118, 0, none⟩) (Kd.R_types HO107.out BK118.out (by decide)) (fun _ hk => hk.2) (.int .i64 t110)) (fun _ hk => hk.2) (.slice Ao20 t111.length co20)) (fun _ hk => hk.2) (.slice Ao21 t114.length co21)) (fun _ h_ => h_.1))) hb); have n2_ := zM (Kd.R_below (by (with_reducible repeat (first | apply Kd.R_alloc | apply Kd.R_drewN | apply Kd.R_drew)); exact (Kd.R_mono (Kd.R_far (p := ⟨gb118, 2, none⟩) (Kd.R_far (p := ⟨gb118, 1, none⟩) (Kd.R_far (p := ⟨gb118, 0, none⟩) (Kd.R_types HO113.out BK118.out (by decide)) (fun _ hk => hk.2) (.int .i64 t110)) (fun _ hk => hk.2) (.slice Ao20 t111.length co20)) (fun _ hk => hk.2) (.slice Ao21 t114.length co21)) (fun _ h_ => h_.1))) hb); have n3_ := zM (Kd.R_below (by (with_reducible repeat (first | apply Kd.R_alloc | apply Kd.R_drewN | apply Kd.R_drew)); exact (Kd.R_mono (Kd.R_far (p := ⟨gb118, 2, none⟩) (Kd.R_far (p := ⟨gb118, 1, none⟩) (Kd.R_far (p := ⟨gb118, 0, none⟩) (Kd.R_types HO116.out BK118.out (by decide)) (fun _ hk => hk.2) (.int .i64 t110)) (fun _ hk => hk.2) (.slice Ao20 t111.length co20)) (fun _ hk => hk.2) (.slice Ao21 t114.length co21)) (fun _ h_ => h_.1))) hb); have n4_ := zM (blk_below (g := gb109) (o := .cells #[.int .i64 t101, .slice Ao14 t102.length co14, .slice Ao15 t105.length co15] 25 (0, 0)) (by (with_reducible repeat (first | refine blk_drewN ?_ _ | refine blk_drew ?_ | refine blk_alloc ?_ _)); refine blk_far ?_ NB109_118.out _; (with_reducible repeat (first | refine blk_drewN ?_ _ | refine blk_drew ?_ | refine blk_alloc ?_ _)); refine blk_far ?_ NB109_118.out _; (with_reducible repeat (first | refine blk_drewN ?_ _ | refine blk_drew ?_ | refine blk_alloc ?_ _)); refine blk_far ?_ NB109_118.out _; (with_reducible repeat (first | refine blk_drewN ?_ _ | refine blk_drew ?_ | refine blk_alloc ?_ _)); exact BK109.out) hb); have n5_ := zM (blk_below (g := gb118) (o := .cells #[.int .i64 t110, .slice Ao20 t111.length co20, .slice Ao21 t114.length co21] 25 (0, 0)) (by (with_reducible repeat (first | refine blk_drewN ?_ _ | refine blk_drew ?_ | refine blk_alloc ?_ _)); refine blk_put (cs := #[.int .i64 t110, .slice Ao20 t111.length co20, .slice none 0 0]) ?_ 2 _ rfl; (with_reducible repeat (first | refine blk_drewN ?_ _ | refine blk_drew ?_ | refine blk_alloc ?_ _)); refine blk_put (cs := #[.int .i64 t110, .slice none 0 0, .slice none 0 0]) ?_ 1 _ rfl; (with_reducible repeat (first | refine blk_drewN ?_ _ | refine blk_drew ?_ | refine blk_alloc ?_ _)); refine blk_put (cs := #[.int .i64 0, .slice none 0 0, .slice none 0 0]) ?_ 0 _ rfl; (with_reducible repeat (first | refine blk_drewN ?_ _ | refine blk_drew ?_ | refine blk_alloc ?_ _)); exact BK118.out) hb); have n6_ := zM (below_step (by repeat (first | (with_reducible first | exact HB.out | apply zA | apply zN | apply zD | refine below_set ?_ GE109.out | refine below_set ?_ GE118.out) | exact HB.out)) hb); clear HO104; clear HO107; clear HO113; clear HO116; clear BK109; clear BK118; clear HB; have HO104 := n0_; have HO107 := n1_; have HO113 := n2_; have HO116 := n3_; have BK109 := n4_; have BK118 := n5_; have HB := n6_; clear n0_ n1_ n2_ n3_ n4_ n5_ n6_; (try clear hb); (try clear hb2); (try clear hk); (try clear hi)) | ((with_reducible refine gate_callee (f := 15) rfl ?_); refine goesL_ (some 24) rfl rfl Tryd.func15 (by kernel_rfl) rfl #[.string (⟨#[88]⟩ : ByteArray), .string (⟨#[97]⟩ : ByteArray)] rfl (by (try simp only [List.map_toArray, List.map_cons, List.map_nil]); first | done | rfl) ?_; (with_reducible refine (rule_Parse.calls k (⟨#[88]⟩ : ByteArray) (⟨#[97]⟩ : ByteArray) t121 t122 t125 t128 _ A4.out).mono ?_); rintro e w23 ⟨v123, v126, rfl, ho0, ho1, hb⟩; refine ⟨_, rfl, ?_⟩; have n0_ := zM (Kd.R_mono (Kd.R_told (Kd.R_told (Kd.R_old (by (with_reducible repeat (first | apply Kd.R_alloc | apply Kd.R_drewN | apply Kd.R_drew)); exact HO104.out) hb) (Kd.R_base ho0)) (Kd.R_base ho1)) (fun _ h_ => h_.1)); have n1_ := zM (Kd.R_mono (Kd.R_told (Kd.R_told (Kd.R_old (by (with_reducible repeat (first | apply Kd.R_alloc | apply Kd.R_drewN | apply Kd.R_drew)); exact HO107.out) hb) (Kd.R_base ho0)) (Kd.R_base ho1)) (fun _ h_ => h_.1)); have n2_ := zM (Kd.R_mono (Kd.R_told (Kd.R_told (Kd.R_old (by (with_reducible repeat (first | apply Kd.R_alloc | apply Kd.R_drewN | apply Kd.R_drew)); exact HO113.out) hb) (Kd.R_base ho0)) (Kd.R_base ho1)) (fun _ h_ => h_.1)); have n3_ := zM (Kd.R_mono (Kd.R_told (Kd.R_told (Kd.R_old (by (with_reducible repeat (first | apply Kd.R_alloc | apply Kd.R_drewN | apply Kd.R_drew)); exact HO116.out) hb) (Kd.R_base ho0)) (Kd.R_base ho1)) (fun _ h_ => h_.1)); have n4_ := zM (Kd.R_lower (Kd.R_new' (Kd.R_new' (Kd.R_new' (Kd.R_new' ho0 (Kd.R_lt (by (with_reducible repeat (first | apply Kd.R_alloc | apply Kd.R_drewN | apply Kd.R_drew)); exact HO104.out))) (Kd.R_lt (by (with_reducible repeat (first | apply Kd.R_alloc | apply Kd.R_drewN | apply Kd.R_drew)); exact HO107.out))) (Kd.R_lt (by (with_reducible repeat (first | apply Kd.R_alloc | apply Kd.R_drewN | apply Kd.R_drew)); exact HO113.out))) (Kd.R_lt (by (with_reducible repeat (first | apply Kd.R_alloc | apply Kd.R_drewN | apply Kd.R_drew)); exact HO116.out))) (below_size (by repeat (first | (with_reducible first | exact HB.out | apply zA | apply zN | apply zD | refine below_set ?_ GE109.out | refine below_set ?_ GE118.out) | exact HB.out)))); have n5_ := zM (Kd.R_lower (Kd.R_new' (Kd.R_new' (Kd.R_new' (Kd.R_new' ho1 (Kd.R_lt (by (with_reducible repeat (first | apply Kd.R_alloc | apply Kd.R_drewN | apply Kd.R_drew)); exact HO104.out))) (Kd.R_lt (by (with_reducible repeat (first | apply Kd.R_alloc | apply Kd.R_drewN | apply Kd.R_drew)); exact HO107.out))) (Kd.R_lt (by (with_reducible repeat (first | apply Kd.R_alloc | apply Kd.R_drewN | apply Kd.R_drew)); exact HO113.out))) (Kd.R_lt (by (with_reducible repeat (first | apply Kd.R_alloc | apply Kd.R_drewN | apply Kd.R_drew)); exact HO116.out))) (below_size (by repeat (first | (with_reducible first | exact HB.out | apply zA | apply zN | apply zD | refine below_set ?_ GE109.out | refine below_set ?_ GE118.out) | exact HB.out)))); have n6_ := zM (blk_below (g := gb109) (o := .cells #[.int .i64 t101, .slice Ao14 t102.length co14, .slice Ao15 t105.length co15] 25 (0, 0)) (by (with_reducible repeat (first | refine blk_drewN ?_ _ | refine blk_drew ?_ | refine blk_alloc ?_ _)); exact BK109.out) hb); have n7_ := zM (blk_below (g := gb118) (o := .cells #[.int .i64 t110, .slice Ao20 t111.length co20, .slice Ao21 t114.length co21] 25 (0, 0)) (by (with_reducible repeat (first | refine blk_drewN ?_ _ | refine blk_drew ?_ | refine blk_alloc ?_ _)); exact BK118.out) hb); have n8_ := zM (below_step (by repeat (first | (with_reducible first | exact HB.out | apply zA | apply zN | apply zD | refine below_set ?_ GE109.out | refine below_set ?_ GE118.out) | exact HB.out)) hb); clear HO104; clear HO107; clear HO113; clear HO116; clear BK109; clear BK118; clear HB; have HO104 := n0_; have HO107 := n1_; have HO113 := n2_; have HO116 := n3_; have HO124 := n4_; have HO127 := n5_; have BK109 := n6_; have BK118 := n7_; have HB := n8_; clear n0_ n1_ n2_ n3_ n4_ n5_ n6_ n7_ n8_; (try clear hb); (try clear hb2); (try clear hk); (try clear hi); (try clear ho0); (try clear ho1)) | ((with_reducible refine gate_dst (N := 7) rfl ?_); refine box_event ?hg (N := 7) ?hd (cs := #[.int .i64 0, .slice none 0 0, .slice none 0 0]) (t := 25) ?hr ?_; (case hd => rfl); (case hg => rfl); (case hr => first | (go_simp; done) | (go_simp; rfl)); intro gb129 hg w24 hbox hb; have n0_ := zM (Kd.R_below (by (with_reducible repeat (first | apply Kd.R_alloc | apply Kd.R_drewN | apply Kd.R_drew)); exact HO104.out) hb); have n1_ := zM (Kd.R_below (by (with_reducible repeat (first | apply Kd.R_alloc | apply Kd.R_drewN | apply Kd.R_drew)); exact HO107.out) hb); have n2_ := zM (Kd.R_below (by (with_reducible repeat (first | apply Kd.R_alloc | apply Kd.R_drewN | apply Kd.R_drew)); exact HO113.out) hb); have n3_ := zM (Kd.R_below (by (with_reducible repeat (first | apply Kd.R_alloc | apply Kd.R_drewN | apply Kd.R_drew)); exact HO116.out) hb); have n4_ := zM (Kd.R_below (by (with_reducible repeat (first | apply Kd.R_alloc | apply Kd.R_drewN | apply Kd.R_drew)); exact HO124.out) hb); have n5_ := zM (Kd.R_below (by (with_reducible repeat (first | apply Kd.R_alloc | apply Kd.R_drewN | apply Kd.R_drew)); exact HO127.out) hb); have n6_ := zM (blk_below (g := gb109) (o := .cells #[.int .i64 t101, .slice Ao14 t102.length co14, .slice Ao15 t105.length co15] 25 (0, 0)) (by (with_reducible repeat (first | refine blk_drewN ?_ _ | refine blk_drew ?_ | refine blk_alloc ?_ _)); exact BK109.out) hb); have n7_ := zM (blk_below (g := gb118) (o := .cells #[.int .i64 t110, .slice Ao20 t111.length co20, .slice Ao21 t114.length co21] 25 (0, 0)) (by (with_reducible repeat (first | refine blk_drewN ?_ _ | refine blk_drew ?_ | refine blk_alloc ?_ _)); exact BK118.out) hb); have n8_ := zM (below_step (by repeat (first | (with_reducible first | exact HB.out | apply zA | apply zN | apply zD | refine below_set ?_ GE109.out | refine below_set ?_ GE118.out) | exact HB.out)) hb); have n9_ := zM (hbox); have n10_ := zM ((by rw [hg]; exact (below_size (by repeat (first | (with_reducible first | exact HB.out | apply zA | apply zN | apply zD | refine below_set ?_ GE109.out | refine below_set ?_ GE118.out) | exact HB.out))) : w.heap.size ≤ gb129)); have n11_ := zM ((by rw [hg]; exact (below_size (by repeat (first | (with_reducible first | exact HB.out | apply zA | apply zN | apply zD | refine below_set ?_ GE109.out | refine below_set ?_ GE118.out) | exact HB.out))) : w.heap.size ≤ gb129)); have n12_ := zM ((by rw [hg]; exact Nat.ne_of_lt (blk_lt (g := gb109) (o := .cells #[.int .i64 t101, .slice Ao14 t102.length co14, .slice Ao15 t105.length co15] 25 (0, 0)) (by (with_reducible repeat (first | refine blk_drewN ?_ _ | refine blk_drew ?_ | refine blk_alloc ?_ _)); exact BK109.out)) : gb109 ≠ gb129)); have n13_ := zM ((by rw [hg]; exact Nat.ne_of_gt (blk_lt (g := gb109) (o := .cells #[.int .i64 t101, .slice Ao14 t102.length co14, .slice Ao15 t105.length co15] 25 (0, 0)) (by (with_reducible repeat (first | refine blk_drewN ?_ _ | refine blk_drew ?_ | refine blk_alloc ?_ _)); exact BK109.out)) : gb129 ≠ gb109)); have n14_ := zM ((by rw [hg]; exact Nat.ne_of_lt (blk_lt (g := gb118) (o := .cells #[.int .i64 t110, .slice Ao20 t111.length co20, .slice Ao21 t114.length co21] 25 (0, 0)) (by (with_reducible repeat (first | refine blk_drewN ?_ _ | refine blk_drew ?_ | refine blk_alloc ?_ _)); exact BK118.out)) : gb118 ≠ gb129)); have n15_ := zM ((by rw [hg]; exact Nat.ne_of_gt (blk_lt (g := gb118) (o := .cells #[.int .i64 t110, .slice Ao20 t111.length co20, .slice Ao21 t114.length co21] 25 (0, 0)) (by (with_reducible repeat (first | refine blk_drewN ?_ _ | refine blk_drew ?_ | refine blk_alloc ?_ _)); exact BK118.out)) : gb129 ≠ gb118)); clear HO104; clear HO107; clear HO113; clear HO116; clear HO124; clear HO127; clear BK109; clear BK118; clear HB; have HO104 := n0_; have HO107 := n1_; have HO113 := n2_; have HO116 := n3_; have HO124 := n4_; have HO127 := n5_; have BK109 := n6_; have BK118 := n7_; have HB := n8_; have BK129 := n9_; have GW129 := n10_; have GE129 := n11_; have NB109_129 := n12_; have NB129_109 := n13_; have NB118_129 := n14_; have NB129_118 := n15_; clear n0_ n1_ n2_ n3_ n4_ n5_ n6_ n7_ n8_ n9_ n10_ n11_ n12_ n13_ n14_ n15_; clear hb hbox hg; have hnb25 := NB129_109.out; have hnc25 := NB109_129.out; have hnb26 := NB129_118.out; have hnc26 := NB118_129.out; have hcz27_0 : w24.cell? ⟨gb129, 0, none⟩ = some (.int .i64 0) := (zX BK129.out 0).trans rfl; have hcz27_1 : w24.cell? ⟨gb129, 1, none⟩ = some (.slice none 0 0) := (zX BK129.out 1).trans rfl; have hcz27_2 : w24.cell? ⟨gb129, 2, none⟩ = some (.slice none 0 0) := (zX BK129.out 2).trans rfl; have hfz27_0 := zY BK129.out 0; have hfz27_1 := zY BK129.out 1; have hfz27_2 := zY BK129.out 2; obtain ⟨Ao28, co28, eo28⟩ := Kd.R_slice HO124.out; subst eo28; obtain ⟨Ao29, co29, eo29⟩ := Kd.R_slice HO127.out; subst eo29; have hcz30_0 : w24.cell? ⟨gb109, 0, none⟩ = some (.int .i64 t101) := (zX BK109.out 0).trans rfl; have hcz30_1 : w24.cell? ⟨gb109, 1, none⟩ = some (.slice Ao14 t102.length co14) := (zX BK109.out 1).trans rfl; have hcz30_2 : w24.cell? ⟨gb109, 2, none⟩ = some (.slice Ao15 t105.length co15) := (zX BK109.out 2).trans rfl; have hfz30_0 := zY BK109.out 0; have hfz30_1 := zY BK109.out 1; have hfz30_2 := zY BK109.out 2) | (go_at_call 14; (with_reducible refine (rule_Head.calls k t101 _ _ t102 _ _ t105 t130 _ ?side1 ?side2 ?side3 ?side4 A9.out).mono ?_); (case side1 => refine (Kd.R_reads' (e := 33) (base := w.heap.size) (ok := fun k_ => ((((some k_ ≠ (.slice Ao15 t105.length co15 : Value).ownBlock ∧ some k_ ≠ (.slice Ao20 t111.length co20 : Value).ownBlock) ∧ some k_ ≠ (.slice Ao21 t114.length co21 : Value).ownBlock) ∧ some k_ ≠ (.slice Ao28 t122.length co28 : Value).ownBlock) ∧ some k_ ≠ (.slice Ao29 t125.length co29 : Value).ownBlock)) (n := t102.length) (c := co14) ?_).2.2; exact (by (with_reducible repeat (first | apply Kd.R_alloc | apply Kd.R_drewN | apply Kd.R_drew)); exact (Kd.R_mono (Kd.R_far (p := ⟨gb129, 2, none⟩) (Kd.R_far (p := ⟨gb129, 1, none⟩) (Kd.R_far (p := ⟨gb129, 0, none⟩) (Kd.R_types HO104.out BK129.out (by decide)) (fun _ hk => hk.2) (.int .i64 t121)) (fun _ hk => hk.2) (.slice Ao28 t122.length co28)) (fun _ hk => hk.2) (.slice Ao29 t125.length co29)) (fun _ h_ => h_.1)))); (case side2 => exact (Kd.R_reads' HO104.out).2.1); (case side3 => refine (Kd.R_reads' (e := 33) (base := w.heap.size) (ok := fun k_ => ((((some k_ ≠ (.slice Ao14 t102.length co14 : Value).ownBlock ∧ some k_ ≠ (.slice Ao20 t111.length co20 : Value).ownBlock) ∧ some k_ ≠ (.slice Ao21 t114.length co21 : Value).ownBlock) ∧ some k_ ≠ (.slice Ao28 t122.length co28 : Value).ownBlock) ∧ some k_ ≠ (.slice Ao29 t125.length co29 : Value).ownBlock)) (n := t105.length) (c := co15) ?_).2.2; exact (by (with_reducible repeat (first | apply Kd.R_alloc | apply Kd.R_drewN | apply Kd.R_drew)); exact (Kd.R_mono (Kd.R_far (p := ⟨gb129, 2, none⟩) (Kd.R_far (p := ⟨gb129, 1, none⟩) (Kd.R_far (p := ⟨gb129, 0, none⟩) (Kd.R_types HO107.out BK129.out (by decide)) (fun _ hk => hk.2) (.int .i64 t121)) (fun _ hk => hk.2) (.slice Ao28 t122.length co28)) (fun _ hk => hk.2) (.slice Ao29 t125.length co29)) (fun _ h_ => h_.1)))); (case side4 => exact (Kd.R_reads' HO107.out).2.1); rintro e w31 ⟨rfl, hb⟩; have n0_ := zM (Kd.R_below (by (with_reducible repeat (first | apply Kd.R_alloc | apply Kd.R_drewN | apply Kd.R_drew)); exact (Kd.R_mono (Kd.R_far (p := ⟨gb129, 2, none⟩) (Kd.R_far (p := ⟨gb129, 1, none⟩) (Kd.R_far (p := ⟨gb129, 0, none⟩) (Kd.R_types HO104.out BK129.out (by decide)) (fun _ hk => hk.2) (.int .i64 t121)) (fun _ hk => hk.2) (.slice Ao28 t122.length co28)) (fun _ hk => hk.2) (.slice Ao29 t125.length co29)) (fun _ h_ => h_.1))) hb); have n1_ := zM (Kd.R_below (by (with_reducible repeat (first | apply Kd.R_alloc | apply Kd.R_drewN | apply Kd.R_drew)); exact (Kd.R_mono (Kd.R_far (p := ⟨gb129, 2, none⟩) (Kd.R_far (p := ⟨gb129, 1, none⟩) (Kd.R_far (p := ⟨gb129, 0, none⟩) (Kd.R_types HO107.out BK129.out (by decide)) (fun _ hk => hk.2) (.int .i64 t121)) (fun _ hk => hk.2) (.slice Ao28 t122.length co28)) (fun _ hk => hk.2) (.slice Ao29 t125.length co29)) (fun _ h_ => h_.1))) hb); have n2_ := zM (Kd.R_below (by (with_reducible repeat (first | apply Kd.R_alloc | apply Kd.R_drewN | apply Kd.R_drew)); exact (Kd.R_mono (Kd.R_far (p := ⟨gb129, 2, none⟩) (Kd.R_far (p := ⟨gb129, 1, none⟩) (Kd.R_far (p := ⟨gb129, 0, none⟩) (Kd.R_types HO113.out BK129.out (by decide)) (fun _ hk => hk.2) (.int .i64 t121)) (fun _ hk => hk.2) (.slice Ao28 t122.length co28)) (fun _ hk => hk.2) (.slice Ao29 t125.length co29)) (fun _ h_ => h_.1))) hb); have n3_ := zM (Kd.R_below (by (with_reducible repeat (first | apply Kd.R_alloc | apply Kd.R_drewN | apply Kd.R_drew)); exact (Kd.R_mono (Kd.R_far (p := ⟨gb129, 2, none⟩) (Kd.R_far (p := ⟨gb129, 1, none⟩) (Kd.R_far (p := ⟨gb129, 0, none⟩) (Kd.R_types HO116.out BK129.out (by decide)) (fun _ hk => hk.2) (.int .i64 t121)) (fun _ hk => hk.2) (.slice Ao28 t122.length co28)) (fun _ hk => hk.2) (.slice Ao29 t125.length co29)) (fun _ h_ => h_.1))) hb); have n4_ := zM (Kd.R_below (by (with_reducible repeat (first | apply Kd.R_alloc | apply Kd.R_drewN | apply Kd.R_drew)); exact (Kd.R_mono (Kd.R_far (p := ⟨gb129, 2, none⟩) (Kd.R_far (p := ⟨gb129, 1, none⟩) (Kd.R_far (p := ⟨gb129, 0, none⟩) (Kd.R_types HO124.out BK129.out (by decide)) (fun _ hk => hk.2) (.int .i64 t121)) (fun _ hk => hk.2) (.slice Ao28 t122.length co28)) (fun _ hk => hk.2) (.slice Ao29 t125.length co29)) (fun _ h_ => h_.1))) hb); have n5_ := zM (Kd.R_below (by (with_reducible repeat (first | apply Kd.R_alloc | apply Kd.R_drewN | apply Kd.R_drew)); exact (Kd.R_mono (Kd.R_far (p := ⟨gb129, 2, none⟩) (Kd.R_far (p := ⟨gb129, 1, none⟩) (Kd.R_far (p := ⟨gb129, 0, none⟩) (Kd.R_types HO127.out BK129.out (by decide)) (fun _ hk => hk.2) (.int .i64 t121)) (fun _ hk => hk.2) (.slice Ao28 t122.length co28)) (fun _ hk => hk.2) (.slice Ao29 t125.length co29)) (fun _ h_ => h_.1))) hb); have n6_ := zM (blk_below (g := gb109) (o := .cells #[.int .i64 t101, .slice Ao14 t102.length co14, .slice Ao15 t105.length co15] 25 (0, 0)) (by (with_reducible repeat (first | refine blk_drewN ?_ _ | refine blk_drew ?_ | refine blk_alloc ?_ _)); refine blk_far ?_ NB109_129.out _; (with_reducible repeat (first | refine blk_drewN ?_ _ | refine blk_drew ?_ | refine blk_alloc ?_ _)); refine blk_far ?_ NB109_129.out _; (with_reducible repeat (first | refine blk_drewN ?_ _ | refine blk_drew ?_ | refine blk_alloc ?_ _)); refine blk_far ?_ NB109_129.out _; (with_reducible repeat (first | refine blk_drewN ?_ _ | refine blk_drew ?_ | refine blk_alloc ?_ _)); exact BK109.out) hb); have n7_ := zM (blk_below (g := gb118) (o := .cells #[.int .i64 t110, .slice Ao20 t111.length co20, .slice Ao21 t114.length co21] 25 (0, 0)) (by (with_reducible repeat (first | refine blk_drewN ?_ _ | refine blk_drew ?_ | refine blk_alloc ?_ _)); refine blk_far ?_ NB118_129.out _; (with_reducible repeat (first | refine blk_drewN ?_ _ | refine blk_drew ?_ | refine blk_alloc ?_ _)); refine blk_far ?_ NB118_129.out _; (with_reducible repeat (first | refine blk_drewN ?_ _ | refine blk_drew ?_ | refine blk_alloc ?_ _)); refine blk_far ?_ NB118_129.out _; (with_reducible repeat (first | refine blk_drewN ?_ _ | refine blk_drew ?_ | refine blk_alloc ?_ _)); exact BK118.out) hb); have n8_ := zM (blk_below (g := gb129) (o := .cells #[.int .i64 t121, .slice Ao28 t122.length co28, .slice Ao29 t125.length co29] 25 (0, 0)) (by (with_reducible repeat (first | refine blk_drewN ?_ _ | refine blk_drew ?_ | refine blk_alloc ?_ _)); refine blk_put (cs := #[.int .i64 t121, .slice Ao28 t122.length co28, .slice none 0 0]) ?_ 2 _ rfl; (with_reducible repeat (first | refine blk_drewN ?_ _ | refine blk_drew ?_ | refine blk_alloc ?_ _)); refine blk_put (cs := #[.int .i64 t121, .slice none 0 0, .slice none 0 0]) ?_ 1 _ rfl; (with_reducible repeat (first | refine blk_drewN ?_ _ | refine blk_drew ?_ | refine blk_alloc ?_ _)); refine blk_put (cs := #[.int .i64 0, .slice none 0 0, .slice none 0 0]) ?_ 0 _ rfl; (with_reducible repeat (first | refine blk_drewN ?_ _ | refine blk_drew ?_ | refine blk_alloc ?_ _)); exact BK129.out) hb); have n9_ := zM (below_step (by repeat (first | (with_reducible first | exact HB.out | apply zA | apply zN | apply zD | refine below_set ?_ GE109.out | refine below_set ?_ GE118.out | refine below_set ?_ GE129.out) | exact HB.out)) hb); clear HO104; clear HO107; clear HO113; clear HO116; clear HO124; clear HO127; clear BK109; clear BK118; clear BK129; clear HB; have HO104 := n0_; have HO107 := n1_; have HO113 := n2_; have HO116 := n3_; have HO124 := n4_; have HO127 := n5_; have BK109 := n6_; have BK118 := n7_; have BK129 := n8_; have HB := n9_; clear n0_ n1_ n2_ n3_ n4_ n5_ n6_ n7_ n8_ n9_; (try clear hb); (try clear hb2); (try clear hk); (try clear hi)))
      go_ret
      exact ⟨by first | rfl | (simp [*, errW_none, errW_some] <;> rfl), by repeat (first | (with_reducible first | exact HB.out | apply zA | apply zN | apply zD | refine below_set ?_ GE109.out | refine below_set ?_ GE118.out | refine below_set ?_ GE129.out) | exact HB.out)⟩
     ·
      rw [if_neg c10] at H
      have c10b0 : (t130.toList == ([103] : List UInt8)) = false := zE c10
      have c10b1 : (t130.toList != ([103] : List UInt8)) = true := zF c10
      exact absurd ((zS H).trans HRT.out) (by decide)
    ·
     rw [if_neg c8] at H
     have c8b0 : (t119.toList == ([103, 40, 88, 48, 44, 88, 49, 41, 32, 45, 62, 32, 88, 49] : List UInt8)) = false := zE c8
     have c8b1 : (t119.toList != ([103, 40, 88, 48, 44, 88, 49, 41, 32, 45, 62, 32, 88, 49] : List UInt8)) = true := zF c8
     exact absurd ((zS H).trans HRT.out) (by decide)
   ·
    rw [if_neg c7] at H
    have c7b0 : (t120 == 0) = false := zE c7
    have c7b1 : (t120 != 0) = true := zF c7
    exact absurd ((zS H).trans HRT.out) (by decide)
  ·
   rw [if_neg c6] at H
   have c6b0 : (t117 == 0) = false := zE c6
   have c6b1 : (t117 != 0) = true := zF c6
   exact absurd ((zS H).trans HRT.out) (by decide)
 ·
  rw [if_neg c5] at H
  have c5b0 : (t108 == 0) = false := zE c5
  have c5b1 : (t108 != 0) = true := zF c5
  exact absurd ((zS H).trans HRT.out) (by decide)


-- ==== PF23

/-! ### aumbryref04_Copy: function 23 -/
def aumbryref04_Copy.f (l0 : List (S33)) : Option ((List (S33))) := if ([] : List (S33)).length + l0.length < 5864062014805 then (some (([] : List (S33)) ++ l0)) else (none)
set_option maxHeartbeats 8000000 in
set_option maxRecDepth 100000 in
theorem aumbryref04_Copy.calls (A0 : Option Addr) (c0 : Nat) (l0 : List (S33)) (r : List (S33)) (w : World) (hr0 : Kd.C k33 w A0 l0.length l0) (hc0 : l0.length ≤ c0) (h : aumbryref04_Copy.f l0 = some r) :
 Calls Tryd.prog 23 #[.slice A0 l0.length c0] w fun e w' => ∃ v0_ : Value, e = .returned (v0_) ∧ Kd.R k33 33 w' w.heap.size (fun _ => True) v0_ r ∧ Below w.heap.size w w' := by
 have HR0 := zM hr0
 have HC0 := zM hc0
 clear hr0 hc0
 have HB := zM (Below.refl w.heap.size w)
 have H : (if ([] : List (S33)).length + l0.length < 5864062014805 then (some (([] : List (S33)) ++ l0)) else (none)) = some r := h
 clear h
 by_cases c2 : ([] : List (S33)).length + l0.length < 5864062014805
 ·
  rw [if_pos c2] at H
  have LMc2 := zM c2
  clear c2
  obtain ⟨y101, hy101⟩ : ∃ y_ : List (S33), y_ = (([] : List (S33)) ++ l0) := ⟨_, rfl⟩
  replace H : (some y101) = some r := by first | (rw [hy101]; with_reducible exact H) | (have H2_ := (Option.bind_some _ _).symm.trans H; rw [hy101]; with_reducible exact H2_) | (have H2_ := (Option.bind_some _ _).symm.trans H; with_reducible exact H2_) | with_reducible exact H | (rw [hy101]; exact H) | exact H
  have Ny101 := zM hy101
  clear hy101
  obtain rfl := zS H
  go_enter Tryd.func23, Tryd.ntmps23
  go_wp2_with (first | ((with_reducible refine gate_builtin (b := .append) (xs := #[.tmp 4, .tmp 5]) rfl ?_); at_builtin; refine Kd.R_append_rows k33 (w0 := w) w.heap.size rfl (.tmp 4) (.tmp 5) 23 33 (.agg #[(.string ⟨#[]⟩), (.int .i64 0)]) 24 rfl Tryd.underlying23 info33 rfl (by decide) (by omega) (.slice none 0 0) ([] : List (S33)) l0 _ _ _ (fun _ => True) (fun _ => False) rfl rfl ?aO ?aR (fun _ _ h => h) (fun _ h => h.elim) ?aF ?aB ?aS ?aL ?_; (case aR => repeat (first | exact HR0.out | (with_reducible first | refine Kd.C_alloc ?_ _ | refine Kd.C_drewN ?_ _ | refine Kd.C_drew ?_))); (case aB => exact (by repeat (first | (with_reducible first | exact HB.out | apply zA | apply zN | apply zD) | exact HB.out))); (case aF => exact (fun _ _ => trivial)); (case aO => exact ((Kd.R_nil _ _ _ _ (fun _ => True)))); (case aS => exact (below_size (by repeat (first | (with_reducible first | exact HB.out | apply zA | apply zN | apply zD) | exact HB.out)))); (case aL => have := LMc2.out; omega); intro v102 w3 ho hb hg hat; rw [← Ny101.out] at ho; have n0_ := zM (hb); have n1_ := zM (ho); clear HB; have HB := n0_; have HO103 := n1_; clear n0_ n1_; clear ho hb hg hat))
  go_ret
  exact ⟨_, by first | rfl | (simp [errW_none, errW_some] <;> rfl) | (simp [*, errW_none, errW_some] <;> rfl), by (with_reducible repeat (first | apply Kd.R_alloc | apply Kd.R_drewN | apply Kd.R_drew)); exact HO103.out, by repeat (first | (with_reducible first | exact HB.out | apply zA | apply zN | apply zD) | exact HB.out)⟩
 ·
  rw [if_neg c2] at H
  exact absurd H (by simp)

end Go.Proofs.YtpnamhplhdaphaaDoor.P
