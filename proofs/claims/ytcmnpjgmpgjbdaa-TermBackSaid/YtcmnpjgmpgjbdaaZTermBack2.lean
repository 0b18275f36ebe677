/- TermBack: the law answers true at every input that the given row speaks of. Conditions: those of the given row, none besides. (Part 3 of 3; written by programs of this session, which drive the kit's print, and by hand.) -/
import Derived.Test.YtcmnpjgmpgjbdaaRows
import Derived.WalkKit
import Derived.ProofKit
import Derived.OpenShut
import Derived.ShutString
import Derived.ChangeOld
import Derived.Below
import Derived.Carry
import Derived.SizedLaws
import Derived.KernelRfl
import Derived.Test.YtcmnpjgmpgjbdaaZTermBack1
-- ==== PL4r
/- Plain laws of chapter 4: reading: what the program's reader and the document's come to, for every text; a term's text is read as the term. -/
namespace Go.Proofs.Ytcmnpjgmpgjbdaa.P
open Go.RowKit Go.Proofs.YtcmnpjgmpgjbdaaW.PrintWords
set_option linter.unusedVariables false
set_option linter.unusedSimpArgs false
abbrev RdR := Sum (Int × Int) (Int × List Cel)
theorem nxL_cons {s : ByteArray} {j : Nat} {x : UInt8} {r : List UInt8} (h : (bl s).drop j = x :: r) : nxL s j = (x.toNat : Int) := by
  unfold nxL
  rw [h]
theorem nxL_pos {s : ByteArray} {j : Nat} {c : Int} (h : nxL s j = c) (hc : c ≠ 0) : ∃ x r, (bl s).drop j = x :: r ∧ (x.toNat : Int) = c := by
  unfold nxL at h
  cases hd : (bl s).drop j with
  | nil => rw [hd] at h; exact absurd h.symm hc
  | cons x r => rw [hd] at h; exact ⟨x, r, rfl, h⟩
theorem u8_of {x : UInt8} {n : Nat} (h : (x.toNat : Int) = (n : Int)) (hn : n < 256) : x = UInt8.ofNat n := by
  apply UInt8.toNat_inj.1
  rw [UInt8.toNat_ofNat']
  omega
theorem wdT_empty (s : ByteArray) (i : Nat) : (wdT s i).toList = [] ↔ wdL s i = [] := by
  rw [toList_nil, ← bl_len, wdT_bl]
  exact List.length_eq_zero_iff
theorem drop_word (s : ByteArray) (i : Nat) : (bl s).drop i = wdL s i ++ (bl s).drop (i + (wdL s i).length) := by
  rw [wd_behind]
  exact (List.takeWhile_append_dropWhile).symm
/-! ### the program's steps -/
theorem ev_rdTerm_at {s : ByteArray} {l : List Cel} {i : Nat} {r : RdR} (hs : s.size ≤ 100000) (hi : i ≤ s.size)
    (h : Ev (fun k => if (wdT s i).toList = [] then some (.inl ((i : Int), (3 : Int))) else if kindS (wdT s i) = 0 then some (.inl ((i : Int), (4 : Int))) else if (l.length : Int) = 64 then some (.inl ((i : Int), (6 : Int)))
      else if nxL s (i + (wdL s i).length) = 40 then (if kindS (wdT s i) = 2 then some (.inl (((i + (wdL s i).length : Nat) : Int), (5 : Int))) else rdArgs k s ((i + (wdL s i).length : Nat) : Int) (l ++ [⟨wdT s i, 0⟩]) l.length 1) else some (.inr (((i + (wdL s i).length : Nat) : Int), l ++ [⟨wdT s i, 0⟩]))) r) :
    Ev (fun k => rdTerm k s (i : Int) l) r := by
  refine Ev.step (fun k => (show rdTerm (k + 1) s (i : Int) l = _ from by rw [rdTerm])) ?_
  refine Ev.bind (ev_word s .nilIface hs i hi) ?_
  refine Ev.bind (ev_kind (wdT s i)) ?_
  simp only [nxS_eq s (i + (wdL s i).length) (wdL_bound hi)]
  exact h
theorem ev_rdArgs_inl {s : ByteArray} {l : List Cel} {i c : Nat} {n : Int} {x : Int × Int} (hi : i < 100000) (h : Ev (fun k => rdTerm k s ((i + 1 : Nat) : Int) l) (.inl x)) : Ev (fun k => rdArgs k s (i : Int) l c n) (.inl x) := by
  refine Ev.step (fun k => (show rdArgs (k + 1) s (i : Int) l c n = _ from by rw [rdArgs])) ?_
  rw [up_cast i (by omega)]
  exact Ev.bind h (Ev.now _)
theorem ev_rdArgs_inr {s : ByteArray} {l m : List Cel} {i c j : Nat} {n : Int} {r : RdR} (hi : i < 100000) (hj : j ≤ s.size) (hs : s.size ≤ 100000) (h : Ev (fun k => rdTerm k s ((i + 1 : Nat) : Int) l) (.inr ((j : Int), m))) (hc : c < m.length)
    (h2 : Ev (fun k => if nxL s j = 41 then some (.inr (((j + 1 : Nat) : Int), m.set c ⟨(rd_T50 m (c : Int)).f0, n⟩))
        else if nxL s j = 44 then (if n = 4 then some (.inl ((j : Int), (5 : Int))) else rdArgs k s (j : Int) (m.set c ⟨(rd_T50 m (c : Int)).f0, n⟩) c (wrap64 (n + 1))) else some (.inl ((j : Int), (3 : Int)))) r) :
    Ev (fun k => rdArgs k s (i : Int) l c n) r := by
  refine Ev.step (fun k => (show rdArgs (k + 1) s (i : Int) l c n = _ from by rw [rdArgs])) ?_
  rw [up_cast i (by omega)]
  refine Ev.bind h ?_
  refine evIfp hc ?_
  simp only [nxS_eq s j hj, up_cast j (by omega)]
  exact h2
/-! ### the document's steps -/
theorem ev_read_scan {s : ByteArray} {l : List Cel} {i : Nat} {r : List Cel × Int × Int} (hs : s.size ≤ 100000) : ∀ (q : List UInt8) (j : Nat), j ≤ s.size → (bl s).drop j = q →
    Ev (fun k => aumbryref04_Read.j1 k s (i : Int) l ((j + (wdL s j).length : Nat) : Int)) r → Ev (fun k => aumbryref04_Read.l0 k s (i : Int) l (j : Int)) r
  | [], j, hj, hd, h => by
    have := bl_drop_nil hj hd
    rw [wdL_end hd] at h
    refine Ev.step (fun k => (show aumbryref04_Read.l0 (k + 1) s (i : Int) l (j : Int) = _ from by rw [aumbryref04_Read.l0])) ?_
    exact evIfn (by omega) h
  | x :: q, j, hj, hd, h => by
    obtain ⟨h1, h2, h3⟩ := bt_drop hd
    refine Ev.step (fun k => (show aumbryref04_Read.l0 (k + 1) s (i : Int) l (j : Int) = _ from by rw [aumbryref04_Read.l0])) ?_
    refine evIfp (by omega) (evIfp (by omega) ?_)
    refine Ev.bind (evIs (sign_eq _)) ?_
    rw [h2, up_cast j (by omega)]
    by_cases hx : signU x = true
    · refine evIfp hx ?_
      rw [wdL_cons hd hx] at h
      refine ev_read_scan hs q (j + 1) (by omega) h3 ?_
      simp only [List.length_cons] at h
      rw [show j + 1 + (wdL s (j + 1)).length = j + ((wdL s (j + 1)).length + 1) by omega]
      exact h
    · refine evIfn hx ?_
      rw [wdL_stop hd hx] at h
      exact h
theorem ev_Read_at {s : ByteArray} {l : List Cel} {i : Nat} {r : List Cel × Int × Int} (hs : s.size ≤ 100000) (hi : i ≤ s.size) (hl : l.length ≤ 64)
    (h : Ev (fun k => if (wdT s i).toList = [] then some (([] : List Cel), (i : Int), (3 : Int)) else if kindS (wdT s i) = 0 then some (([] : List Cel), (i : Int), (4 : Int)) else if (l.length : Int) = 64 then some (([] : List Cel), (i : Int), (6 : Int))
      else if nxL s (i + (wdL s i).length) = 40 then (if kindS (wdT s i) = 2 then some (([] : List Cel), ((i + (wdL s i).length : Nat) : Int), (5 : Int)) else aumbryref04_Read.l1 k s (l ++ [⟨wdT s i, 0⟩]) ((i + (wdL s i).length : Nat) : Int) (l.length : Int) 1) else some (l ++ [⟨wdT s i, 0⟩], ((i + (wdL s i).length : Nat) : Int), (0 : Int))) r) :
    Ev (fun k => aumbryref04_Read.f k s (i : Int) l) r := by
  have hb := wdL_bound (s := s) hi
  refine Ev.step (fun k => (show aumbryref04_Read.f (k + 1) s (i : Int) l = _ from by rw [aumbryref04_Read.f])) ?_
  refine ev_read_scan hs _ i hi rfl ?_
  refine Ev.step (fun k => (show aumbryref04_Read.j1 (k + 1) s (i : Int) l ((i + (wdL s i).length : Nat) : Int) = _ from by rw [aumbryref04_Read.j1])) ?_
  refine evIfp (by omega) (evIfp (by omega) (evIfp (by omega) ?_))
  have hw : s.extract ((i : Int)).toNat (((i + (wdL s i).length : Nat) : Int)).toNat = wdT s i := rfl
  simp only [hw]
  by_cases h1 : (wdT s i).toList = []
  · simp only [if_pos h1] at h ⊢
    exact h
  · simp only [if_neg h1] at h ⊢
    refine Ev.bind (ev_refKind _) ?_
    by_cases h2 : kindS (wdT s i) = 0
    · simp only [if_pos h2] at h ⊢
      exact h
    · simp only [if_neg h2] at h ⊢
      by_cases h3 : (l.length : Int) = 64
      · simp only [if_pos h3] at h ⊢
        exact h
      · simp only [if_neg h3] at h ⊢
        refine evIfp (by omega) ?_
        simp only [Option.bind_some]
        have hj2 : ∀ fl : Bool, Ev (fun k => if fl = true then some (l ++ [(⟨wdT s i, 0⟩ : Cel)], ((i + (wdL s i).length : Nat) : Int), (0 : Int)) else (if kindS (wdT s i) = 2 then some (([] : List Cel), ((i + (wdL s i).length : Nat) : Int), (5 : Int)) else aumbryref04_Read.l1 k s (l ++ [⟨wdT s i, 0⟩]) ((i + (wdL s i).length : Nat) : Int) (l.length : Int) 1)) r →
            Ev (fun k => aumbryref04_Read.j2 k s (l ++ [⟨wdT s i, 0⟩]) ((i + (wdL s i).length : Nat) : Int) (kindS (wdT s i)) (l.length : Int) fl) r := by
          intro fl hf
          refine Ev.step (fun k => (show aumbryref04_Read.j2 (k + 1) s (l ++ [⟨wdT s i, 0⟩]) ((i + (wdL s i).length : Nat) : Int) (kindS (wdT s i)) (l.length : Int) fl = _ from by rw [aumbryref04_Read.j2])) ?_
          exact hf
        cases hd : (bl s).drop (i + (wdL s i).length) with
        | nil =>
          have := bl_drop_nil hb hd
          have hn : nxL s (i + (wdL s i).length) = 0 := by unfold nxL; rw [hd]
          rw [hn] at h
          refine evIfp (by omega) (hj2 true ?_)
          simp only [if_true]
          simpa using h
        | cons x q =>
          obtain ⟨g1, g2, g3⟩ := bt_drop hd
          have hn := nxL_cons hd
          rw [hn] at h
          refine evIfn (by omega) (evIfp (by omega) (evIfp (by omega) ?_))
          rw [g2]
          refine hj2 _ ?_
          by_cases hx : (x.toNat : Int) = 40
          · have e : ((x.toNat : Int) != 40) = false := by simp [hx]
            simp only [if_pos hx] at h
            rw [e]
            simpa using h
          · have e : ((x.toNat : Int) != 40) = true := by simpa using hx
            simp only [if_neg hx] at h
            rw [e]
            simpa using h
theorem ev_Readl1_inl {s : ByteArray} {l : List Cel} {i c : Nat} {n p e : Int} (hi : i < 100000) (he : e ≠ 0) (h : Ev (fun k => aumbryref04_Read.f k s ((i + 1 : Nat) : Int) l) ([], p, e)) : Ev (fun k => aumbryref04_Read.l1 k s l (i : Int) (c : Int) n) ([], p, e) := by
  refine Ev.step (fun k => (show aumbryref04_Read.l1 (k + 1) s l (i : Int) (c : Int) n = _ from by rw [aumbryref04_Read.l1])) ?_
  rw [up_cast i (by omega)]
  refine Ev.bind h ?_
  exact evIfn he (Ev.now _)
theorem ev_Readl1_inr {s : ByteArray} {l m : List Cel} {i c j : Nat} {n : Int} {r : List Cel × Int × Int} (hi : i < 100000) (hj : j ≤ s.size) (hs : s.size ≤ 100000) (h : Ev (fun k => aumbryref04_Read.f k s ((i + 1 : Nat) : Int) l) (m, (j : Int), 0)) (hc : c < m.length)
    (h2 : Ev (fun k => if nxL s j = 41 then some (m.set c ⟨(rd_T50 m (c : Int)).f0, n⟩, ((j + 1 : Nat) : Int), (0 : Int))
        else if nxL s j = 44 then (if n = 4 then some (([] : List Cel), (j : Int), (5 : Int)) else aumbryref04_Read.l1 k s (m.set c ⟨(rd_T50 m (c : Int)).f0, n⟩) (j : Int) (c : Int) (wrap64 (n + 1))) else some (([] : List Cel), (j : Int), (3 : Int))) r) :
    Ev (fun k => aumbryref04_Read.l1 k s l (i : Int) (c : Int) n) r := by
  refine Ev.step (fun k => (show aumbryref04_Read.l1 (k + 1) s l (i : Int) (c : Int) n = _ from by rw [aumbryref04_Read.l1])) ?_
  rw [up_cast i (by omega)]
  refine Ev.bind h ?_
  refine evIfp rfl (evIfp (by omega) (evIfp (by simp only; omega) ?_))
  simp only [Option.bind_some, Int.toNat_natCast]
  generalize m.set c ⟨(rd_T50 m (c : Int)).f0, n⟩ = m' at h2 ⊢
  have hj5 : ∀ fl : Bool, Ev (fun k => if fl = true then some (([] : List Cel), (j : Int), (3 : Int)) else (if n = 4 then some (([] : List Cel), (j : Int), (5 : Int)) else aumbryref04_Read.l1 k s m' (j : Int) (c : Int) (wrap64 (n + 1)))) r →
      Ev (fun k => aumbryref04_Read.j5 k s m' (j : Int) (c : Int) n fl) r := by
    intro fl hf
    refine Ev.step (fun k => (show aumbryref04_Read.j5 (k + 1) s m' (j : Int) (c : Int) n fl = _ from by rw [aumbryref04_Read.j5])) ?_
    exact hf
  have hj4 : ∀ fl : Bool, Ev (fun k => if fl = true then some (m', ((j + 1 : Nat) : Int), (0 : Int)) else (if (j : Int) = (s.size : Int) then (aumbryref04_Read.j5 k s m' (j : Int) (c : Int) n true) else (if 0 ≤ (j : Int) then (if (j : Int) < (s.size : Int) then (aumbryref04_Read.j5 k s m' (j : Int) (c : Int) n ((bt s (j : Int)) != 44)) else none) else none))) r →
      Ev (fun k => aumbryref04_Read.j4 k s m' (j : Int) (c : Int) n fl) r := by
    intro fl hf
    refine Ev.step (fun k => (show aumbryref04_Read.j4 (k + 1) s m' (j : Int) (c : Int) n fl = _ from by rw [aumbryref04_Read.j4])) ?_
    rw [up_cast j (by omega)]
    exact hf
  cases hd : (bl s).drop j with
  | nil =>
    have := bl_drop_nil hj hd
    have hn : nxL s j = 0 := by unfold nxL; rw [hd]
    rw [hn] at h2
    refine evIfn (by omega) (hj4 false ?_)
    refine evIfn (by simp) (evIfp (by omega) (hj5 true ?_))
    simpa using h2
  | cons x q =>
    obtain ⟨g1, g2, g3⟩ := bt_drop hd
    have hn := nxL_cons hd
    rw [hn] at h2
    refine evIfp (by omega) (evIfp (by omega) ?_)
    rw [g2]
    refine hj4 _ ?_
    by_cases hx : (x.toNat : Int) = 41
    · have e : ((x.toNat : Int) == 41) = true := by simp [hx]
      simp only [if_pos hx] at h2
      rw [e]
      simpa using h2
    · have e : ((x.toNat : Int) == 41) = false := by simpa using hx
      simp only [if_neg hx] at h2
      rw [e]
      refine evIfn (by simp) (evIfn (by omega) (evIfp (by omega) (evIfp (by omega) ?_)))
      rw [g2]
      refine hj5 _ ?_
      by_cases hy : (x.toNat : Int) = 44
      · have e : ((x.toNat : Int) != 44) = false := by simp [hy]
        simp only [if_pos hy] at h2
        rw [e]
        simpa using h2
      · have e : ((x.toNat : Int) != 44) = true := by simpa using hy
        simp only [if_neg hy] at h2
        rw [e]
        simpa using h2
/-! ### what reading comes to, both ways -/
def cA : Sum (Nat × Int) (Nat × List Cel) → RdR
  | .inl x => .inl ((x.1 : Int), x.2)
  | .inr y => .inr ((y.1 : Int), y.2)
def cR : Sum (Nat × Int) (Nat × List Cel) → List Cel × Int × Int
  | .inl x => ([], (x.1 : Int), x.2)
  | .inr y => (y.2, (y.1 : Int), 0)
def RdOk (s : ByteArray) (pos : Nat) (acc : List Cel) : Sum (Nat × Int) (Nat × List Cel) → Prop
  | .inl x => x.1 ≤ s.size ∧ x.2 ≠ 0
  | .inr y => ∃ c l b d, y.2 = acc ++ c :: l ∧ Tx 0 (ar c) l b d ∧ (∀ x ∈ c :: l, Okc x) ∧ y.2.length ≤ 64 ∧ y.1 ≤ s.size ∧ pos < y.1 ∧ (bl s).drop pos = txtL c b ++ (bl s).drop y.1
def ArOk (s : ByteArray) (pos : Nat) (acc : List Cel) (cI i : Nat) : Sum (Nat × Int) (Nat × List Cel) → Prop
  | .inl x => x.1 ≤ s.size ∧ x.2 ≠ 0
  | .inr y => ∃ (N : Nat) (l : List Cel) (b : List UInt8) (d : Nat), i < N ∧ N ≤ 4 ∧ y.2 = acc.set cI ⟨(acc.getD cI z50).f0, (N : Int)⟩ ++ l ∧ Tx i N l b d ∧ (∀ x ∈ l, Okc x) ∧ y.2.length ≤ 64 ∧ y.1 ≤ s.size ∧ pos < y.1 ∧ (bl s).drop pos = b ++ 41 :: (bl s).drop y.1
theorem rd_getD (m : List Cel) (c : Nat) : rd_T50 m (c : Int) = m.getD c z50 := rfl
theorem getD_app {acc q : List Cel} {c : Nat} (h : c < acc.length) (z : Cel) : (acc ++ q).getD c z = acc.getD c z := by
  rw [List.getD_eq_getElem?_getD, List.getD_eq_getElem?_getD, List.getElem?_append_left h]
theorem getD_set {m : List Cel} {c : Nat} {x : Cel} (h : c < m.length) (z : Cel) : (m.set c x).getD c z = x := by
  rw [List.getD_eq_getElem?_getD, List.getElem?_set_self h]
  rfl
theorem set_app {acc q : List Cel} {c : Nat} {x : Cel} (h : c < acc.length) : (acc ++ q).set c x = acc.set c x ++ q := List.set_append_left c x h
theorem rd_sound (s : ByteArray) (hs : s.size ≤ 100000) : ∀ D : Nat,
    (∀ (pos : Nat) (acc : List Cel), s.size - pos < D → pos ≤ s.size → acc.length ≤ 64 → ∃ r, Ev (fun k => rdTerm k s (pos : Int) acc) (cA r) ∧ Ev (fun k => aumbryref04_Read.f k s (pos : Int) acc) (cR r) ∧ RdOk s pos acc r) ∧
    (∀ (pos : Nat) (acc : List Cel) (cI i : Nat) (q : List UInt8), s.size - pos < D → (bl s).drop pos = sepB i :: q → cI < acc.length → acc.length ≤ 64 → i < 4 → ∃ r, Ev (fun k => rdArgs k s (pos : Int) acc cI ((i + 1 : Nat) : Int)) (cA r) ∧ Ev (fun k => aumbryref04_Read.l1 k s acc (pos : Int) (cI : Int) ((i + 1 : Nat) : Int)) (cR r) ∧ ArOk s pos acc cI i r)
  | 0 => ⟨fun _ _ h => absurd h (Nat.not_lt_zero _), fun _ _ _ _ _ h => absurd h (Nat.not_lt_zero _)⟩
  | D + 1 => by
    obtain ⟨ihT, ihA⟩ := rd_sound s hs D
    constructor
    · intro pos acc hD hp hl
      have hb := wdL_bound (s := s) hp
      have hdw := drop_word s pos
      by_cases h1 : (wdT s pos).toList = []
      · refine ⟨.inl (pos, 3), ev_rdTerm_at hs hp (evIfp h1 (Ev.now _)), ev_Read_at hs hp hl (evIfp h1 (Ev.now _)), hp, show (3 : Int) ≠ 0 by decide⟩
      have h1' : wdL s pos ≠ [] := fun h => h1 ((wdT_empty s pos).2 h)
      have hw0 : 0 < (wdL s pos).length := List.length_pos_iff.2 h1'
      by_cases h2 : kindS (wdT s pos) = 0
      · refine ⟨.inl (pos, 4), ev_rdTerm_at hs hp (evIfn h1 (evIfp h2 (Ev.now _))), ev_Read_at hs hp hl (evIfn h1 (evIfp h2 (Ev.now _))), hp, show (4 : Int) ≠ 0 by decide⟩
      by_cases h3 : (acc.length : Int) = 64
      · refine ⟨.inl (pos, 6), ev_rdTerm_at hs hp (evIfn h1 (evIfn h2 (evIfp h3 (Ev.now _)))), ev_Read_at hs hp hl (evIfn h1 (evIfn h2 (evIfp h3 (Ev.now _)))), hp, show (6 : Int) ≠ 0 by decide⟩
      by_cases h4 : nxL s (pos + (wdL s pos).length) = 40
      · by_cases h5 : kindS (wdT s pos) = 2
        · refine ⟨.inl (pos + (wdL s pos).length, 5), ev_rdTerm_at hs hp (evIfn h1 (evIfn h2 (evIfn h3 (evIfp h4 (evIfp h5 (Ev.now _)))))), ev_Read_at hs hp hl (evIfn h1 (evIfn h2 (evIfn h3 (evIfp h4 (evIfp h5 (Ev.now _)))))), hb, show (5 : Int) ≠ 0 by decide⟩
        · obtain ⟨x, q, hq, hx⟩ := nxL_pos h4 (by decide)
          have hx' : x = sepB 0 := u8_of (n := 40) hx (by decide)
          rw [hx'] at hq
          obtain ⟨r, e1, e2, e3⟩ := ihA (pos + (wdL s pos).length) (acc ++ [⟨wdT s pos, 0⟩]) acc.length 0 q (by have := (bt_drop hq).1; omega) hq (by simp) (by simp; omega) (by decide)
          refine ⟨r, ev_rdTerm_at hs hp (evIfn h1 (evIfn h2 (evIfn h3 (evIfp h4 (evIfn h5 e1))))), ev_Read_at hs hp hl (evIfn h1 (evIfn h2 (evIfn h3 (evIfp h4 (evIfn h5 e2))))), ?_⟩
          rcases r with ⟨p, e⟩ | ⟨j, m⟩
          · exact e3
          · obtain ⟨N, l, b, d, g1, g2, g3, g4, g5, g6, g7, g8, g9⟩ := e3
            have hcell : (acc ++ [(⟨wdT s pos, 0⟩ : Cel)]).getD acc.length z50 = ⟨wdT s pos, 0⟩ := by
              rw [List.getD_eq_getElem?_getD, List.getElem?_append_right (Nat.le_refl _), Nat.sub_self]
              rfl
            rw [hcell] at g3
            have hset : (acc ++ [(⟨wdT s pos, 0⟩ : Cel)]).set acc.length ⟨wdT s pos, (N : Int)⟩ = acc ++ [⟨wdT s pos, (N : Int)⟩] := by
              rw [List.set_append_right _ _ (Nat.le_refl _), Nat.sub_self]
              rfl
            have harN : ar (⟨wdT s pos, (N : Int)⟩ : Cel) = N := by unfold ar; simp
            refine ⟨⟨wdT s pos, (N : Int)⟩, l, b, d, ?_, by rw [harN]; exact g4, ?_, g6, g7, by simp only at g8; omega, ?_⟩
            · rw [g3]
              simp only
              rw [hset]
              simp
            · intro y hy
              rcases List.mem_cons.1 hy with rfl | hy
              · exact ⟨h2, by simp only; omega, by simp only; omega, fun hk => absurd hk h5⟩
              · exact g5 y hy
            · rw [hdw, g9]
              unfold txtL closeB
              rw [harN, if_neg (by omega), wdT_bl]
              simp
      · refine ⟨.inr (pos + (wdL s pos).length, acc ++ [⟨wdT s pos, 0⟩]), ev_rdTerm_at hs hp (evIfn h1 (evIfn h2 (evIfn h3 (evIfn h4 (Ev.now _))))), ev_Read_at hs hp hl (evIfn h1 (evIfn h2 (evIfn h3 (evIfn h4 (Ev.now _))))), ?_⟩
        refine ⟨⟨wdT s pos, 0⟩, [], [], 0, rfl, .done 0, ?_, by simp; omega, hb, by simp only; omega, ?_⟩
        · intro y hy
          rw [List.mem_singleton.1 hy]
          exact ⟨h2, Int.le_refl _, show (0 : Int) ≤ 4 by decide, fun _ => rfl⟩
        · rw [hdw]
          unfold txtL closeB
          rw [show ar (⟨wdT s pos, 0⟩ : Cel) = 0 from rfl, if_pos rfl, wdT_bl]
          simp
    · intro pos acc cI i q hD hd hc hl hi
      obtain ⟨p1, p2, p3⟩ := bt_drop hd
      obtain ⟨r, e1, e2, e3⟩ := ihT (pos + 1) acc (by omega) (by omega) hl
      rcases r with ⟨p, e⟩ | ⟨j, m⟩
      · exact ⟨.inl (p, e), ev_rdArgs_inl (by omega) e1, ev_Readl1_inl (by omega) e3.2 e2, e3⟩
      · obtain ⟨c, l1, b1, d1, g1, g2, g3, g4, g5, g6, g7⟩ := e3
        simp only at g1 g4 g5 g6 g7
        have hcm : cI < m.length := by rw [g1, List.length_append]; omega
        have hnm : (rd_T50 m (cI : Int)).f0 = (acc.getD cI z50).f0 := by rw [rd_getD, g1, getD_app hc]
        have hset : ∀ N : Int, m.set cI ⟨(rd_T50 m (cI : Int)).f0, N⟩ = acc.set cI ⟨(acc.getD cI z50).f0, N⟩ ++ c :: l1 := by
          intro N
          rw [hnm, g1, set_app hc]
        have hdp : (bl s).drop pos = sepB i :: (txtL c b1 ++ (bl s).drop j) := by rw [hd, ← p3, g7]
        by_cases k1 : nxL s j = 41
        · obtain ⟨x, q', hq, hx⟩ := nxL_pos k1 (by decide)
          have hx' : x = 41 := u8_of (n := 41) hx (by decide)
          rw [hx'] at hq
          have hj := bt_drop hq
          refine ⟨.inr (j + 1, m.set cI ⟨(rd_T50 m (cI : Int)).f0, ((i + 1 : Nat) : Int)⟩), ev_rdArgs_inr (by omega) g5 hs e1 hcm (evIfp k1 (Ev.now _)), ev_Readl1_inr (by omega) g5 hs e2 hcm (evIfp k1 (Ev.now _)), ?_⟩
          refine ⟨i + 1, c :: (l1 ++ []), _, _, by omega, by omega, ?_, Tx.arg (by omega) g2 (.done _), ?_, ?_, by simp only; omega, by simp only; omega, ?_⟩
          · rw [hset]
            simp
          · rw [List.append_nil]
            exact g3
          · simp only [List.length_set]
            exact g4
          · rw [hdp, hq, hj.2.2]
            unfold txtL
            simp
        · by_cases k2 : nxL s j = 44
          · by_cases k3 : ((i + 1 : Nat) : Int) = 4
            · exact ⟨.inl (j, 5), ev_rdArgs_inr (by omega) g5 hs e1 hcm (evIfn k1 (evIfp k2 (evIfp k3 (Ev.now _)))), ev_Readl1_inr (by omega) g5 hs e2 hcm (evIfn k1 (evIfp k2 (evIfp k3 (Ev.now _)))), g5, show (5 : Int) ≠ 0 by decide⟩
            · obtain ⟨x, q', hq, hx⟩ := nxL_pos k2 (by decide)
              have hx' : x = sepB (i + 1) := u8_of (n := 44) hx (by decide)
              rw [hx'] at hq
              have hj := bt_drop hq
              obtain ⟨r2, f1, f2, f3⟩ := ihA j (m.set cI ⟨(rd_T50 m (cI : Int)).f0, ((i + 1 : Nat) : Int)⟩) cI (i + 1) q' (by omega) hq (by rw [List.length_set]; exact hcm) (by rw [List.length_set]; exact g4) (by omega)
              have hup : wrap64 (((i + 1 : Nat) : Int) + 1) = ((i + 1 + 1 : Nat) : Int) := up_cast (i + 1) (by omega)
              refine ⟨r2, ev_rdArgs_inr (by omega) g5 hs e1 hcm (evIfn k1 (evIfp k2 (evIfn k3 (by rw [hup]; exact f1)))), ev_Readl1_inr (by omega) g5 hs e2 hcm (evIfn k1 (evIfp k2 (evIfn k3 (by rw [hup]; exact f2)))), ?_⟩
              rcases r2 with ⟨p, e⟩ | ⟨j2, m2⟩
              · exact f3
              · obtain ⟨N, l2, b2, d2, u1, u2, u3, u4, u5, u6, u7, u8, u9⟩ := f3
                simp only at u3 u6 u7 u8 u9
                clear hup
                rw [getD_set hcm, List.set_set, hset] at u3
                refine ⟨N, c :: (l1 ++ l2), _, _, by omega, u2, ?_, Tx.arg (by omega) g2 u4, ?_, u6, u7, by simp only; omega, ?_⟩
                · rw [u3]
                  simp
                · intro y hy
                  rcases List.mem_cons.1 hy with rfl | hy
                  · exact g3 _ (List.mem_cons_self ..)
                  · rcases List.mem_append.1 hy with hy | hy
                    · exact g3 _ (List.mem_cons_of_mem _ hy)
                    · exact u5 y hy
                · rw [hdp, u9]
                  unfold txtL
                  simp
          · exact ⟨.inl (j, 3), ev_rdArgs_inr (by omega) g5 hs e1 hcm (evIfn k1 (evIfn k2 (Ev.now _))), ev_Readl1_inr (by omega) g5 hs e2 hcm (evIfn k1 (evIfn k2 (Ev.now _))), g5, show (3 : Int) ≠ 0 by decide⟩
/-- What Parse comes to, both ways. -/
theorem parse_sound (s : ByteArray) : ∃ u at_ e, Ev (fun k => term_Parse.f k s) (u, at_, e) ∧ Ev (fun k => aumbryref04_Parse.f k s) (u, at_, e) ∧ u.length ≤ 64 ∧
    ((e ≠ 0 ∧ u = [] ∧ 0 ≤ at_ ∧ at_ ≤ (s.size : Int)) ∨ (e = 0 ∧ at_ = 0 ∧ ∃ c l b d, u = c :: l ∧ Tx 0 (ar c) l b d ∧ (∀ x ∈ c :: l, Okc x) ∧ bl s = txtL c b)) := by
  have hj0 : ∀ (u : List Cel) (a e : Int) (fl : Bool), Ev (fun k => aumbryref04_Parse.j0 k u a e fl) (if fl = true then ([], a, 3) else if e = 0 then (u, 0, 0) else ([], a, e)) := by
    intro u a e fl
    refine Ev.step (fun k => (show aumbryref04_Parse.j0 (k + 1) u a e fl = _ from by rw [aumbryref04_Parse.j0])) ?_
    cases fl
    · refine evIfn (by simp) ?_
      by_cases he : e = 0
      · simp only [if_pos he]; exact Ev.now _
      · simp only [if_neg he]; exact Ev.now _
    · exact evIfp rfl (Ev.now _)
  by_cases hs : (s.size : Int) > 1024
  · refine ⟨[], 0, 2, ?_, ?_, by simp, .inl ⟨by decide, rfl, by decide, by omega⟩⟩
    · unfold term_Parse.f parseF
      exact evIfp hs (Ev.now _)
    · unfold aumbryref04_Parse.f
      exact evIfp hs (Ev.now _)
  · obtain ⟨r, e1, e2, e3⟩ := (rd_sound s (by omega) (s.size + 1)).1 0 [] (by omega) (by omega) (by simp)
    rcases r with ⟨p, e⟩ | ⟨j, m⟩
    · refine ⟨[], (p : Int), e, ?_, ?_, by simp, .inl ⟨e3.2, rfl, by omega, by have := e3.1; simp only at this; omega⟩⟩
      · unfold term_Parse.f parseF
        exact evIfn hs (Ev.bind e1 (Ev.now _))
      · unfold aumbryref04_Parse.f
        refine evIfn hs (Ev.bind e2 (evIfn e3.2 ?_))
        have := hj0 [] (p : Int) e false
        rw [if_neg (by simp), if_neg e3.2] at this
        exact this
    · obtain ⟨c, l, b, d, g1, g2, g3, g4, g5, g6, g7⟩ := e3
      simp only [List.nil_append] at g1 g4 g5 g6 g7
      by_cases hj : (j : Int) < (s.size : Int)
      · refine ⟨[], (j : Int), 3, ?_, ?_, by simp, .inl ⟨by decide, rfl, by omega, by omega⟩⟩
        · unfold term_Parse.f parseF
          exact evIfn hs (Ev.bind e1 (evIfp hj (Ev.now _)))
        · unfold aumbryref04_Parse.f
          refine evIfn hs (Ev.bind e2 (evIfp rfl ?_))
          have := hj0 m (j : Int) 0 true
          rw [if_pos rfl] at this
          have hdj : decide ((j : Int) < (s.size : Int)) = true := decide_eq_true hj
          rw [show (cR (.inr (j, m))).2.1 = (j : Int) from rfl, hdj]
          exact this
      · refine ⟨m, 0, 0, ?_, ?_, g4, .inr ⟨rfl, rfl, c, l, b, d, g1, g2, g3, ?_⟩⟩
        · unfold term_Parse.f parseF
          exact evIfn hs (Ev.bind e1 (evIfn hj (Ev.now _)))
        · unfold aumbryref04_Parse.f
          refine evIfn hs (Ev.bind e2 (evIfp rfl ?_))
          have := hj0 m (j : Int) 0 false
          rw [if_neg (by simp), if_pos rfl] at this
          have hdj : decide ((j : Int) < (s.size : Int)) = false := decide_eq_false hj
          rw [show (cR (.inr (j, m))).2.1 = (j : Int) from rfl, hdj]
          exact this
        · rw [List.drop_zero] at g7
          have : j = s.size := by omega
          rw [g7, this, List.drop_eq_nil_of_le (by rw [bl_len]; omega), List.append_nil]
/-! ### a term's text is read as the term -/
theorem tx_self {n : Nat} {l : List Cel} {b : List UInt8} {d : Nat} (h : Tx n n l b d) : l = [] ∧ b = [] := by
  cases h with
  | done => exact ⟨rfl, rfl⟩
  | arg h _ _ => omega
theorem tx_first {i n : Nat} {l : List Cel} {b : List UInt8} {d : Nat} (h : Tx i n l b d) (hi : i < n) : ∃ b', b = sepB i :: b' := by
  cases h with
  | done => omega
  | arg _ _ _ => exact ⟨_, rfl⟩
theorem ev_rdTerm_text {s : ByteArray} (hs : s.size ≤ 100000) {c : Cel} {l : List Cel} {b : List UInt8} {d : Nat} (h : Tx 0 (ar c) l b d)
    (ih : 0 < ar c → ∀ (pos : Nat) (acc : List Cel) (cI : Nat) (q : List UInt8), pos ≤ s.size → (bl s).drop pos = b ++ 41 :: q → acc.length + l.length ≤ 64 → cI < acc.length → Ev (fun k => rdArgs k s (pos : Int) acc cI 1) (.inr (((pos + b.length + 1 : Nat) : Int), acc.set cI ⟨(acc.getD cI z50).f0, (ar c : Int)⟩ ++ l)))
    (hc : Okc c) {pos : Nat} {acc : List Cel} {q : List UInt8} (hp : pos ≤ s.size) (hd : (bl s).drop pos = txtL c b ++ q) (hq : ∀ x r, q = x :: r → signU x = false ∧ x ≠ 40) (hl : acc.length + 1 + l.length ≤ 64) :
    Ev (fun k => rdTerm k s (pos : Int) acc) (.inr (((pos + (txtL c b).length : Nat) : Int), acc ++ c :: l)) := by
  have hsg := kindS_signs hc.kind
  have hd' : (bl s).drop pos = bl c.f0 ++ (b ++ closeB (ar c) ++ q) := by rw [hd]; unfold txtL; simp
  have hcf1 : (⟨c.f0, ((ar c : Nat) : Int)⟩ : Cel) = c := by rw [← ar_eq hc]
  have hnext : ∀ x r, b ++ closeB (ar c) ++ q = x :: r → signU x = false := by
    intro x r he
    by_cases ha : ar c = 0
    · rw [ha] at h
      obtain ⟨_, rfl⟩ := tx_self h
      rw [ha] at he
      exact (hq x r he).1
    · obtain ⟨b', rfl⟩ := tx_first h (by omega)
      rw [List.cons_append, List.cons_append] at he
      injection he with he _
      rw [← he]
      rfl
  have hw := wdL_name hd' hsg hnext
  have hwt : wdT s pos = c.f0 := bl_inj (by rw [wdT_bl, hw])
  have hne : ¬ (wdT s pos).toList = [] := by
    rw [wdT_empty, hw]
    intro h0
    have := kindS_size hc.kind
    have h1 := bl_len c.f0
    rw [h0] at h1
    simp at h1
    omega
  have hnx : (bl s).drop (pos + (wdL s pos).length) = b ++ closeB (ar c) ++ q := by
    have := drop_word s pos
    rw [hd', hw] at this
    rw [hw]
    exact (List.append_cancel_left this).symm
  refine ev_rdTerm_at hs hp (evIfn hne (evIfn (by rw [hwt]; exact hc.kind) (evIfn (by omega) ?_)))
  have hwl : (wdL s pos).length = (bl c.f0).length := by rw [hw]
  by_cases ha : ar c = 0
  · rw [ha] at h
    obtain ⟨rfl, rfl⟩ := tx_self h
    have hcl : closeB (ar c) = [] := by unfold closeB; exact if_pos ha
    rw [hcl] at hnx
    refine evIfn ?_ ?_
    · intro h40
      obtain ⟨x, r, hx1, hx2⟩ := nxL_pos h40 (by decide)
      rw [hnx] at hx1
      exact (hq x r hx1).2 (u8_of (n := 40) hx2 (by decide))
    · have e1 : (txtL c []).length = (wdL s pos).length := by unfold txtL; rw [hcl, hwl]; simp
      rw [e1, hwt]
      have : (⟨c.f0, 0⟩ : Cel) = c := by rw [← hcf1, ha]; rfl
      rw [this]
      exact Ev.now _
  · obtain ⟨b', hb'⟩ := tx_first h (by omega)
    have hcl : closeB (ar c) = [41] := by unfold closeB; exact if_neg ha
    refine evIfp ?_ (evIfn ?_ ?_)
    · refine nxL_cons (x := 40) (r := b' ++ closeB (ar c) ++ q) ?_
      rw [hnx, hb']
      rfl
    · rw [hwt]
      intro hk
      have := hc.var hk
      unfold ar at ha
      omega
    · rw [hcl] at hnx
      have := ih (by omega) (pos + (wdL s pos).length) (acc ++ [⟨wdT s pos, 0⟩]) acc.length q (wdL_bound hp) (by rw [hnx]; simp) (by simp; omega) (by simp)
      have hcell : (acc ++ [(⟨wdT s pos, 0⟩ : Cel)]).getD acc.length z50 = ⟨wdT s pos, 0⟩ := by
        rw [List.getD_eq_getElem?_getD, List.getElem?_append_right (Nat.le_refl _), Nat.sub_self]
        rfl
      rw [hcell, List.set_append_right _ _ (Nat.le_refl _), Nat.sub_self] at this
      have e1 : pos + (txtL c b).length = pos + (wdL s pos).length + b.length + 1 := by unfold txtL; rw [hcl, hwl]; simp; omega
      have e2 : acc ++ [(⟨wdT s pos, 0⟩ : Cel)].set 0 ⟨wdT s pos, ((ar c : Nat) : Int)⟩ ++ l = acc ++ c :: l := by
        rw [hwt]
        show acc ++ [(⟨c.f0, ((ar c : Nat) : Int)⟩ : Cel)] ++ l = _
        rw [hcf1]
        simp
      rw [e1]
      simp only at this
      rw [e2] at this
      exact this
theorem ev_rdArgs_text {s : ByteArray} (hs : s.size ≤ 100000) {i n : Nat} {l : List Cel} {b : List UInt8} {d : Nat} (h : Tx i n l b d) : i < n → n ≤ 4 → (∀ c ∈ l, Okc c) → ∀ (pos : Nat) (acc : List Cel) (cI : Nat) (q : List UInt8), pos ≤ s.size → (bl s).drop pos = b ++ 41 :: q → acc.length + l.length ≤ 64 → cI < acc.length →
    Ev (fun k => rdArgs k s (pos : Int) acc cI ((i + 1 : Nat) : Int)) (.inr (((pos + b.length + 1 : Nat) : Int), acc.set cI ⟨(acc.getD cI z50).f0, (n : Int)⟩ ++ l)) := by
  induction h with
  | done n => intro h; omega
  | @arg i n c l1 l2 b1 b2 d1 d2 h h1 h2 ih1 ih2 =>
    intro _ hn hc pos acc cI q hp hd hl hcI
    have hcc := hc c (List.mem_cons_self ..)
    have hd' : (bl s).drop pos = sepB i :: (txtL c b1 ++ (b2 ++ 41 :: q)) := by rw [hd]; unfold txtL; simp
    obtain ⟨p1, p2, p3⟩ := bt_drop hd'
    have hle := tx_le h2
    simp only [List.length_cons, List.length_append] at hl
    have hT := ev_rdTerm_text hs h1 (fun ha pos acc cI q hp hd hl hcI => ih1 ha (ar_le hcc) (fun x hx => hc x (List.mem_cons_of_mem _ (List.mem_append_left _ hx))) pos acc cI q hp hd hl hcI) hcc (pos := pos + 1) (acc := acc) (q := b2 ++ 41 :: q) (by omega) p3 (by
      intro x r he
      by_cases hin : i + 1 < n
      · obtain ⟨b', rfl⟩ := tx_first h2 hin
        injection he with he _
        rw [← he]
        refine ⟨rfl, ?_⟩
        unfold sepB
        rw [if_neg (by omega)]
        decide
      · have : i + 1 = n := by omega
        subst this
        obtain ⟨_, rfl⟩ := tx_self h2
        injection he with he _
        rw [← he]
        exact ⟨rfl, by decide⟩) (by omega)
    have hj : pos + 1 + (txtL c b1).length ≤ s.size := by
      have := congrArg List.length p3
      rw [List.length_drop, bl_len, List.length_append] at this
      simp only [List.length_append, List.length_cons] at this
      omega
    have hdj : (bl s).drop (pos + 1 + (txtL c b1).length) = b2 ++ 41 :: q := by rw [← List.drop_drop, p3, List.drop_left]
    have hcm : cI < (acc ++ c :: l1).length := by rw [List.length_append]; omega
    have hnm : (rd_T50 (acc ++ c :: l1) (cI : Int)).f0 = (acc.getD cI z50).f0 := by rw [rd_getD, getD_app hcI]
    have elen : (sepB i :: (bl c.f0 ++ b1 ++ closeB (ar c) ++ b2)).length = 1 + (txtL c b1).length + b2.length := by unfold txtL; simp; omega
    refine ev_rdArgs_inr (by omega) hj hs hT hcm ?_
    rw [hnm]
    by_cases hin : i + 1 < n
    · obtain ⟨b', hb'⟩ := tx_first h2 hin
      have hnx : nxL s (pos + 1 + (txtL c b1).length) = 44 := by
        refine nxL_cons (x := 44) (r := b' ++ 41 :: q) ?_
        rw [hdj, hb']
        unfold sepB
        rw [if_neg (by omega)]
        rfl
      refine evIfn (by rw [hnx]; decide) (evIfp hnx (evIfn (by omega) ?_))
      have hup : wrap64 (((i + 1 : Nat) : Int) + 1) = ((i + 1 + 1 : Nat) : Int) := up_cast (i + 1) (by omega)
      rw [hup]
      have := ih2 hin hn (fun x hx => hc x (List.mem_cons_of_mem _ (List.mem_append_right _ hx))) (pos + 1 + (txtL c b1).length) ((acc ++ c :: l1).set cI ⟨(acc.getD cI z50).f0, ((i + 1 : Nat) : Int)⟩) cI q hj hdj (by simp; omega) (by rw [List.length_set]; exact hcm)
      rw [getD_set hcm, List.set_set, set_app hcI, set_app hcI] at this
      simp only at this
      rw [set_app hcI, elen, show pos + (1 + (txtL c b1).length + b2.length) + 1 = pos + 1 + (txtL c b1).length + b2.length + 1 by omega]
      clear hup
      simpa using this
    · have hin' : i + 1 = n := by omega
      subst hin'
      obtain ⟨rfl, rfl⟩ := tx_self h2
      have hnx : nxL s (pos + 1 + (txtL c b1).length) = 41 := nxL_cons (x := 41) (r := q) (by rw [hdj]; rfl)
      refine evIfp hnx ?_
      rw [set_app hcI, elen, List.length_nil, List.append_nil, show pos + (1 + (txtL c b1).length + 0) + 1 = pos + 1 + (txtL c b1).length + 1 by omega]
      exact Ev.now _
theorem ev_parse_text {c : Cel} {l : List Cel} {b : List UInt8} {d : Nat} (h : Tx 0 (ar c) l b d) (ho : ∀ x ∈ c :: l, Okc x) (hl : (c :: l).length ≤ 64) : Ev (fun k => term_Parse.f k (txtB c b)) (c :: l, 0, 0) := by
  have hlen := txt_len h ho hl
  have hsz : (txtB c b).size = (txtL c b).length := by rw [← bl_len, txt_bl]
  have hcc := ho c (List.mem_cons_self ..)
  unfold term_Parse.f parseF
  refine evIfn (by omega) ?_
  have hT := ev_rdTerm_text (s := txtB c b) (by omega) h (fun ha pos acc cI q hp hd hl hcI => ev_rdArgs_text (by omega) h ha (ar_le hcc) (fun x hx => ho x (List.mem_cons_of_mem _ hx)) pos acc cI q hp hd hl hcI) hcc (pos := 0) (acc := []) (q := []) (by omega) (by rw [txt_bl]; simp) (by intro x r h; cases h) (by simp at hl ⊢; omega)
  refine Ev.bind hT ?_
  refine evIfn (by omega) ?_
  rw [List.nil_append]
  exact Ev.now _
end Go.Proofs.Ytcmnpjgmpgjbdaa.P

-- ==== PureTermBack
/- What is written is read as it was, and what is read is written as it was: for every list of cells and every text, the law answers true. -/
namespace Go.Proofs.Ytcmnpjgmpgjbdaa.Pure
open Go.RowKit Go.Proofs.Ytcmnpjgmpgjbdaa.P Go.Proofs.YtcmnpjgmpgjbdaaW.PrintWords
set_option linter.unusedVariables false
theorem ev_back_two (s : ByteArray) : Ev (fun k => aumbrylaw04_TermBack.j0 k s) true := by
  refine Ev.step (fun k => (show aumbrylaw04_TermBack.j0 (k + 1) s = _ from by rw [aumbrylaw04_TermBack.j0])) ?_
  obtain ⟨u, a, e, h1, _, h3, h4⟩ := parse_sound s
  refine Ev.bind h1 ?_
  rcases h4 with ⟨he, rfl, h5, h6⟩ | ⟨rfl, rfl, c, l, b, d, rfl, h5, h6, h7⟩
  · refine evIfn he (evIfp rfl (evIfp h5 ?_))
    simp only [decide_eq_true h6]
    exact Ev.now _
  · refine evIfp rfl ?_
    refine Ev.bind (ev_print h5 h6 h3) ?_
    refine evIfp rfl ?_
    have hs : txtB c b = s := bl_inj (by rw [txt_bl]; exact h7.symm)
    have he : ((txtB c b).toList == s.toList) = true := by rw [hs]; simp
    simp only [he]
    exact Ev.now _
theorem TermBack : aumbrylaw04_TermBack.Pure := by
  intro t s ht hs
  have htl := sz_len ht
  refine Ev.rounds ?_
  unfold aumbrylaw04_TermBack.f
  refine Ev.bind ev_wakes4 ?_
  refine evIfp rfl ?_
  refine Ev.bind (evIs (copy_at t htl)) ?_
  by_cases hc : checkS t = 0
  · obtain ⟨c, l, b, d, rfl, h1, h2, h3⟩ := tx_term hc
    refine Ev.bind (ev_print h1 h2 h3) ?_
    refine evIfp rfl ?_
    refine Ev.bind (ev_parse_text h1 h2 h3) ?_
    refine evIfp rfl (evIfp rfl ?_)
    refine Ev.bind (ev_refSame4 (c :: l) (c :: l) (.inl (by omega))) ?_
    exact evIfp (decide_eq_true rfl) (ev_back_two s)
  · refine Ev.bind (ev_print_no hc) ?_
    exact evIfn hc (ev_back_two s)
end Go.Proofs.Ytcmnpjgmpgjbdaa.Pure

-- ==== RowTermBack
namespace Go.Proofs.Ytcmnpjgmpgjbdaa.termBack
open Go.ChangeShapes Go.WideShapes Go.ChangeAt Go.RowKit Go.Proofs.YtcmnpjgmpgjbdaaW.PrintWords Go.Proofs.Ytcmnpjgmpgjbdaa.P Go.Proofs.Ytcmnpjgmpgjbdaa.Open
open Go.ChangeMaps (open_string shut_string)
set_option linter.unusedVariables false
theorem own : ownKnob Try.prog.godebug = none := by kernel_rfl
theorem laidOut : laidOutB Try.prog = true := by kernel_rfl
set_option maxRecDepth 100000 in
theorem core {H : Type} {enc : TypeId × Value → H} (W : World) (base : Nat) (args : Array Value) (ds gs : List (DataW H)) (before : List MemPlace)
    (hval : ∀ (j : Nat) t v, Try.f5.params[j]? = some t → args[j]? = some v → Value.okWide Try.prog W .any base t v)
    (hW : DataW.Whole enc Try.prog Try.f5.params.toList Rows.termBackSpec.vars false W args.toList ds gs before)
    (hsz : (DataW.weightsEach Try.prog (Try.f5.params.toList ++ Rows.termBackSpec.plain.varTypes Try.prog) (ds ++ gs)).all (· ≤ reachBytes) = true)
    :
    Calls Try.prog 5 args W fun e W' => ∃ v, e = .returned v ∧ Rows.termBackSpec.post enc Try.prog Try.f5 false true false false W args v W' := by
  have hW' := hW
  obtain ⟨p, q, hA, hV, rfl, hfz, hnd⟩ := hW
  rw [Try.params5] at hA hval hsz
  obtain ⟨v0, vs0, d0, ds0, p0, q0, hargs, rfl, rfl, h0, r0⟩ := trodAll_cons hA
  obtain ⟨v1, vs1, d1, ds1, p1, q1, rfl, rfl, rfl, h1, r1⟩ := trodAll_cons r0
  obtain ⟨rfl, rfl, rfl⟩ := trodAll_nil r1
  obtain rfl : args = #[v0, v1] := by cases args; simp_all
  obtain ⟨rfl, rfl⟩ := trodVars_none hV
  have k0 := h0
  obtain ⟨n0, hf0⟩ := h0
  obtain ⟨x0, hK0, hS0, hB0⟩ := op23.go hf0 (fun m hm => by have := List.all_eq_true.1 hsz m (DataW.weights_mem_each (j := 0) rfl rfl m hm); simpa using this)
  have lt0 : ∀ z ∈ p0, z.block < W.heap.size := by obtain ⟨m, hm⟩ := k0; exact DataW.trod_lt m _ _ _ hm
  obtain ⟨a0, len0, cap0, rfl⟩ := okWide_slice Try.underlying23 (hval 0 23 v0 rfl rfl)
  obtain ⟨A0, c0, hcs0, hc0, hr0⟩ := hK0
  have hcs0' : [(Value.slice a0 len0 cap0)] = [.slice A0 x0.length c0] := hcs0
  injection hcs0' with hcs0'
  injection hcs0' with ha0 hl0 hk0
  subst ha0 hl0 hk0
  have k1 := h1
  obtain ⟨n1, hf1⟩ := h1
  obtain ⟨x1, hK1, hS1, hB1⟩ := op9.go hf1 (fun m hm => by have := List.all_eq_true.1 hsz m (DataW.weights_mem_each (j := 1) rfl rfl m hm); simpa using this)
  have lt1 : ∀ z ∈ p1, z.block < W.heap.size := by obtain ⟨m, hm⟩ := k1; exact DataW.trod_lt m _ _ _ hm
  obtain ⟨y1, rfl⟩ := okWide_string Try.underlying9 (hval 1 9 v1 rfl rfl)
  have hcs1' : [_] = [_] := hK1
  injection hcs1' with hcs1'
  injection hcs1' with hq1
  subst hq1
  obtain ⟨k, h⟩ := Pure.TermBack x0 y1 hS0 hS1
  refine (aumbrylaw04_TermBack.calls k _ _ x0 y1 true W hr0 hc0 h).mono ?_
  rintro e W' ⟨rfl, hd⟩
  have bel : Below W.heap.size W W' := hd
  exact ⟨_, rfl, _, _, _, [], _, [], hW', trodAll_mk1 (shut_bool Try.underlying4 _), (trodAll_cons_mk (Below.trod laidOut (by kernel_rfl) (of_decide_eq_true (by kernel_rfl)) k0 bel lt0) (trodAll_cons_mk (Below.trod laidOut (by kernel_rfl) (of_decide_eq_true (by kernel_rfl)) k1 bel lt1) trodAll_mk0)), rfl, bel.frame _, fun h => by cases h⟩
set_option maxRecDepth 100000 in
theorem lifted (os : Os) (started : os.Started) (H : Type) (enc : TypeId × Value → H) :
    ReturnsInHanded {} Try.checked os 5 .any (Rows.termBackSpec.pre6 enc Try.prog Try.f5 Rows.termBackRow.domain false) (Rows.termBackSpec.post enc Try.prog Try.f5 false true false false) := by
  refine returnsInHanded_of_change_sized (C := Try.checked) own started (by kernel_rfl) Try.func5
    (ChangeSpec.witness6 (enc := enc) (C := Try.checked) false ⟨#[], #[.slice none 0 0, .string ByteArray.empty], []⟩ 8 (by kernel_rfl) (by kernel_rfl) (by kernel_rfl) (by kernel_rfl)) ?_
  intro W base args ds gs before hval0 hW hcnd hsz0 _
  exact core W base args ds gs before hval0 hW hsz0
theorem over : Rows.termBackRow.holds Try.pinned (OpenSpec.ofChange Rows.termBackSpec) :=
  OpenClaim.holds_of_wide 5 Try.f5 rfl rfl rfl rfl rfl rfl rfl ⟨rfl, rfl, rfl, rfl, rfl⟩ rfl rfl rfl rfl rfl (by kernel_rfl) Try.func5 (by kernel_rfl)
    (of_decide_eq_true (by kernel_rfl)) (by unfold Func.isWrapper; first | (rw [if_pos (by decide +kernel)]; kernel_rfl) | (rw [if_neg (by decide +kernel)]; exact ⟨rfl, rfl⟩))
    (fun os started H enc _ => lifted os started H enc)
theorem proved : Rows.TermBackSaid := over
end Go.Proofs.Ytcmnpjgmpgjbdaa.termBack
namespace Go.Proofs.Ytcmnpjgmpgjbdaa
/-- The row, under a short name, for the claim. -/
theorem termBack_holds : Rows.TermBackSaid := termBack.proved
#print axioms termBack_holds
end Go.Proofs.Ytcmnpjgmpgjbdaa
