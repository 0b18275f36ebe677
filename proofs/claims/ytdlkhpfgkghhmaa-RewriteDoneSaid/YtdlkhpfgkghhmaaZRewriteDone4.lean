/- RewriteDone: the law answers true at every input that the given row speaks of. Conditions: those of the given row, none besides. (Part 5 of 5; written by programs of this session, which drive the kit's print, and by hand.) -/
import Derived.Test.YtdlkhpfgkghhmaaRows
import Derived.WalkKit
import Derived.ProofKit
import Derived.OpenShut
import Derived.ShutString
import Derived.ChangeOld
import Derived.Below
import Derived.Carry
import Derived.SizedLaws
import Derived.KernelRfl
import Derived.Test.YtdlkhpfgkghhmaaZRewriteDone0
import Derived.Test.YtdlkhpfgkghhmaaZRewriteDone2
import Derived.Test.YtdlkhpfgkghhmaaZRewriteDone3
set_option maxHeartbeats 8000000
set_option maxRecDepth 100000
set_option linter.unusedVariables false
set_option linter.unusedSimpArgs false
-- ==== PQ7d
/- Plain laws, part d: the document's Match is the program's. -/
namespace Go.Proofs.Ytdlkhpfgkghhmaa.P.M
open Go.RowKit Go.Proofs.YtdlkhpfgkghhmaaW.PrintWords

theorem rd_bnd {t : List Bnd} {n : Nat} {c : Bnd} {s : List Bnd} (h : t.drop n = c :: s) : rd_T104 t (n : Int) = c := by
 unfold rd_T104
 exact (drop_cons h).2.1 _
theorem rd_trm {t : List (List Cel)} {n : Nat} {c : List Cel} {s : List (List Cel)} (h : t.drop n = c :: s) : rd_L3 t (n : Int) = c := by
 unfold rd_L3
 exact (drop_cons h).2.1 _
theorem up_cast (a : Nat) (h : a < 9223372036854775807) : wrap64 ((a : Int) + 1) = ((a + 1 : Nat) : Int) := by rw [wrap_up (by omega) (by omega)]; rfl

def atS (l : List Bnd) (s : ByteArray) : Int := match l.findIdx? (fun b => decide (b.f0 = s)) with
 | none => -1
 | some j => (j : Int)
theorem ev_at_loop (l : List Bnd) (s : ByteArray) (hl : l.length ≤ 9223372036854775806) : ∀ (u : List Bnd) (a : Nat), a ≤ l.length → l.drop a = u →
 Ev (fun k => aumbryref05_At.l0 k l s (l.length : Int) (a : Int)) (match u.findIdx? (fun b => decide (b.f0 = s)) with | none => -1 | some j => ((a + j : Nat) : Int))
 | [], a, ha, hu => by
  have h1 := drop_nil_len ha hu
  refine Ev.step (fun k => (show aumbryref05_At.l0 (k + 1) l s (l.length : Int) (a : Int) = _ from by rw [aumbryref05_At.l0])) ?_
  exact evIfn (by omega) (Ev.now _)
 | b :: u, a, ha, hu => by
  obtain ⟨h1, _, h3⟩ := drop_cons hu
  refine Ev.step (fun k => (show aumbryref05_At.l0 (k + 1) l s (l.length : Int) (a : Int) = _ from by rw [aumbryref05_At.l0])) ?_
  refine evIfp (by omega) (evIfp (by omega) (evIfp (by omega) ?_))
  simp only [rd_bnd hu, up_cast a (by omega)]
  by_cases hb : b.f0 = s
  ·
   refine evIfp ((bytes_eq _ _).2 hb) ?_
   simp only [List.findIdx?_cons, hb, decide_true, if_true]
   exact Ev.now _
  ·
   refine evIfn (fun h => hb ((bytes_eq _ _).1 h)) ?_
   have := ev_at_loop l s hl u (a + 1) (by omega) h3
   have e : (match (b :: u).findIdx? (fun b => decide (b.f0 = s)) with | none => (-1 : Int) | some j => ((a + j : Nat) : Int)) = (match u.findIdx? (fun b => decide (b.f0 = s)) with | none => -1 | some j => ((a + 1 + j : Nat) : Int)) := by
    simp only [List.findIdx?_cons, hb, decide_false]
    cases u.findIdx? (fun b => decide (b.f0 = s)) with
    | none => rfl
    | some j => show ((a + (j + 1) : Nat) : Int) = ((a + 1 + j : Nat) : Int); omega
   rw [e]
   exact this
theorem ev_at (l : List Bnd) (s : ByteArray) (hl : l.length ≤ 9223372036854775806) : Ev (fun k => aumbryref05_At.f k l s) (atS l s) := by
 unfold aumbryref05_At.f atS
 have := ev_at_loop l s hl l 0 (by omega) rfl
 simp only [Nat.zero_add] at this
 exact this
theorem atS_look (l : List Bnd) (s : ByteArray) : (lookB l s = none ∧ atS l s = -1) ∨ ∃ (j : Nat) (b : Bnd), l[j]? = some b ∧ b.f0 = s ∧ lookB l s = some b.f1 ∧ atS l s = (j : Int) ∧ j < l.length ∧ ∀ i : Nat, i < j → ∀ c, l[i]? = some c → c.f0 ≠ s := by
 unfold lookB atS
 induction l with
 | nil => exact .inl ⟨rfl, rfl⟩
 | cons b l ih =>
  by_cases hb : b.f0 = s
  ·
   refine .inr ⟨0, b, rfl, hb, ?_, ?_, by simp, fun i hi => by omega⟩
   ·
    simp [hb]
   ·
    simp [List.findIdx?_cons, hb]
  ·
   rcases ih with ⟨h1, h2⟩ | ⟨j, c, h1, h2, h3, h4, h5, h6⟩
   ·
    refine .inl ⟨?_, ?_⟩
    ·
     rw [List.find?_cons_of_neg (by simp [hb])]
     exact h1
    ·
     simp only [List.findIdx?_cons, hb, decide_false]
     cases hf : l.findIdx? (fun b => decide (b.f0 = s)) with
     | none => rfl
     | some j => rw [hf] at h2; simp only at h2; omega
   ·
    refine .inr ⟨j + 1, c, by simpa using h1, h2, ?_, ?_, by simp; omega, fun i hi x hx => ?_⟩
    ·
     rw [List.find?_cons_of_neg (by simp [hb])]
     exact h3
    ·
     simp only [List.findIdx?_cons, hb, decide_false]
     cases hf : l.findIdx? (fun b => decide (b.f0 = s)) with
     | none => rw [hf] at h4; simp only at h4; omega
     | some q => rw [hf] at h4; simp only at h4; simp; omega
    ·
     cases i with
     | zero => simp at hx; subst hx; exact hb
     | succ i => exact h6 i (by omega) x (by simpa using hx)
theorem ev_var (p : List Cel) : Ev (fun k => aumbryref05_Var.f k p) (match p with | [c] => kindS c.f0 == 2 | _ => false) := by
 unfold aumbryref05_Var.f
 match p with
 | [] => exact evIfn (by simp) (Ev.now _)
 | [c] =>
  refine evIfp (by simp) (evIfp (by simp) ?_)
  exact Ev.bind (ev_refKind c.f0) (Ev.now _)
 | a :: b :: l => exact evIfn (by simp; omega) (Ev.now _)

def fitL : List (List Cel) → List (List Cel) → List Bnd → Option (List Bnd)
 | [], _, out => some out
 | _ :: _, [], _ => none
 | a :: aa, b :: bb, out => (mat a b out).bind fun x => fitL aa bb x.1
theorem mat_flat : ∀ (aa bb : List (List Cel)) (out : List Bnd), aa.length = bb.length → (∀ a ∈ aa, segN a 1 = some [] ∧ ∀ c ∈ a, Okc c) → (∀ b ∈ bb, segN b 1 = some []) →
 mat aa.flatten bb.flatten out = (fitL aa bb out).map fun o => (o, [])
 | [], [], out, _, _, _ => rfl
 | [], b :: bb, out, h, _, _ => by cases h
 | a :: aa, [], out, h, _, _ => by cases h
 | a :: aa, b :: bb, out, h, ha, hb => by
  have h1 := ha a (List.mem_cons_self ..)
  have h2 := hb b (List.mem_cons_self ..)
  simp only [List.flatten_cons, fitL]
  rw [mat_append a b 1 out aa.flatten bb.flatten h1.2 h1.1 h2]
  cases hm : mat a b out with
  | none => rfl
  | some x =>
   simp only [Option.bind_some]
   exact mat_flat aa bb x.1 (by simpa using h) (fun x hx => ha x (List.mem_cons_of_mem _ hx)) (fun x hx => hb x (List.mem_cons_of_mem _ hx))
theorem mat_len : ∀ (p t : List Cel) (out o : List Bnd) (r : List Cel), mat p t out = some (o, r) → o.length ≤ out.length + p.length
 | [], t, out, o, r, h => by
  have h' : some (out, t) = some (o, r) := h
  injection h' with h'
  injection h' with h' _
  rw [← h']
  simp
 | c :: p, t, out, o, r, h => by
  have h : (if kindS c.f0 = 2 then _ else _) = some (o, r) := h
  by_cases hv : kindS c.f0 = 2
  ·
   rw [if_pos hv] at h
   cases hq : segN t 1 with
   | none => rw [hq] at h; cases h
   | some q =>
    rw [hq] at h
    simp only at h
    cases hl : lookB out c.f0 with
    | none =>
     rw [hl] at h
     have := mat_len p q _ o r h
     simp at this
     simp
     omega
    | some v =>
     rw [hl] at h
     simp only at h
     by_cases he : v = fstT t q
     ·
      rw [if_pos he] at h
      have := mat_len p q _ o r h
      simp
      omega
     ·
      rw [if_neg he] at h
      cases h
  ·
   rw [if_neg hv] at h
   rcases t with _ | ⟨d, t⟩
   ·
    cases h
   ·
    have h9 : (if d = c then mat p t out else none) = some (o, r) := h
    by_cases he : d = c
    ·
     rw [if_pos he] at h9
     have := mat_len p t _ o r h9
     simp
     omega
    ·
     rw [if_neg he] at h9
     cases h9
def sumLen (aa : List (List Cel)) : Nat := (aa.map List.length).sum
theorem sumLen_flat (aa : List (List Cel)) : aa.flatten.length = sumLen aa := by simp [sumLen, List.length_flatten]

theorem ev_fit : ∀ (n : Nat) (p t : List Cel) (l : List Bnd), p.length ≤ n → p.length ≤ 64 → t.length ≤ 64 → (∀ c ∈ p, Okc c) → (∀ c ∈ t, Okc c) → segN p 1 = some [] → segN t 1 = some [] → l.length + p.length ≤ 1000000 →
 ∃ x, Ev (fun k => aumbryref05_Fit.f k p t l) (x, (mat p t l).isSome) ∧ ∀ o r, mat p t l = some (o, r) → x = o
 | 0, p, t, l, hn, hp, ht, hop, hot, hsp, hst, hl => by
  have : p = [] := List.eq_nil_of_length_eq_zero (by omega)
  subst this
  cases hsp
 | n + 1, p, t, l, hn, hp, ht, hop, hot, hsp, hst, hl => by
  rcases p with _ | ⟨c, p⟩
  ·
   cases hsp
  rcases t with _ | ⟨d, t⟩
  ·
   cases hst
  have hc := hop c (List.mem_cons_self ..)
  have hsp' : segN p (ar c) = some [] := by have : segN p (0 + ar c) = some [] := hsp; rwa [Nat.zero_add] at this
  have hst' : segN t (ar d) = some [] := by have : segN t (0 + ar d) = some [] := hst; rwa [Nat.zero_add] at this
  simp only [List.length_cons] at hn hp ht hl
  by_cases hv : kindS c.f0 = 2
  ·
   have hac : ar c = 0 := by unfold ar; rw [hc.var hv]; rfl
   rw [hac, segN_zero] at hsp'
   injection hsp' with hsp'
   subst hsp'
   have hm : mat [c] (d :: t) l = (match lookB l c.f0 with | none => some (l ++ [⟨c.f0, d :: t⟩], []) | some v => if v = d :: t then some (l, []) else none) := by
    show (if kindS c.f0 = 2 then _ else _) = _
    rw [if_pos hv, hst]
    have : fstT (d :: t) [] = d :: t := by unfold fstT; simp
    simp only [this]
    cases lookB l c.f0 with
    | none => rfl
    | some v => rfl
   rw [hm]
   rcases atS_look l c.f0 with ⟨hl1, hl2⟩ | ⟨j, b, h1, h2, h3, h4, h5, _⟩
   ·
    rw [hl1]
    refine ⟨l ++ [⟨c.f0, d :: t⟩], ?_, fun o r h => ?_⟩
    ·
     refine Ev.step (fun k => (show aumbryref05_Fit.f (k + 1) [c] (d :: t) l = _ from by rw [aumbryref05_Fit.f])) ?_
     refine Ev.bind (ev_var [c]) ?_
     refine evIfp (by simp [hv]) (evIfp (by simp) ?_)
     simp only [rd_cel (t := [c]) (n := 0) (c := c) (s := []) rfl, show ((0 : Int)) = ((0 : Nat) : Int) from rfl]
     refine Ev.bind (ev_at l c.f0 (by omega)) ?_
     rw [hl2]
     refine evIfp (by omega) ?_
     refine Ev.bind (evIs (copy_at (d :: t) (by simp; omega))) ?_
     exact evIfp (by omega) (Ev.now _)
    ·
     injection h with h
     injection h with h _
   ·
    rw [h3]
    have hrd : (rd_T104 l (j : Int)).f1 = b.f1 := by
     unfold rd_T104
     rw [List.getD_eq_getElem?_getD, Int.toNat_natCast, h1]
     rfl
    refine ⟨l, ?_, fun o r h => ?_⟩
    ·
     refine Ev.step (fun k => (show aumbryref05_Fit.f (k + 1) [c] (d :: t) l = _ from by rw [aumbryref05_Fit.f])) ?_
     refine Ev.bind (ev_var [c]) ?_
     refine evIfp (by simp [hv]) (evIfp (by simp) ?_)
     simp only [rd_cel (t := [c]) (n := 0) (c := c) (s := []) rfl, show ((0 : Int)) = ((0 : Nat) : Int) from rfl]
     refine Ev.bind (ev_at l c.f0 (by omega)) ?_
     rw [h4]
     refine evIfn (by omega) (evIfp (by omega) (evIfp (by omega) ?_))
     simp only [hrd]
     refine Ev.bind (ev_refSame4 b.f1 (d :: t) (.inr (by simp; omega))) ?_
     have : (match some b.f1 with | none => some (l ++ [(⟨c.f0, d :: t⟩ : Bnd)], ([] : List Cel)) | some v => if v = d :: t then some (l, ([] : List Cel)) else none).isSome = decide (b.f1 = d :: t) := by
      by_cases he : b.f1 = d :: t <;> simp [he]
     rw [this]
     exact Ev.now _
    ·
     simp only at h
     by_cases he : b.f1 = d :: t
     ·
      rw [if_pos he] at h
      injection h with h
      injection h with h _
     ·
      rw [if_neg he] at h
      cases h
  ·
   have hm : mat (c :: p) (d :: t) l = if d = c then mat p t l else none := by
    show (if kindS c.f0 = 2 then _ else _) = _
    rw [if_neg hv]
   rw [hm]
   have hvar : (match (c :: p) with | [c] => kindS c.f0 == 2 | _ => false) = false := by
    rcases p with _ | ⟨a, p⟩
    ·
     simp [hv]
    ·
     rfl
   by_cases hdc : d = c
   ·
    rw [if_pos hdc]
    subst hdc
    obtain ⟨a1, a2, a3⟩ := splitT_spec _ _ hsp'
    obtain ⟨b1, b2, b3⟩ := splitT_spec _ _ hst'
    have hpo : ∀ x ∈ p, Okc x := fun x hx => hop x (List.mem_cons_of_mem _ hx)
    have hto : ∀ x ∈ t, Okc x := fun x hx => hot x (List.mem_cons_of_mem _ hx)
    have hh := hc.hi
    have har : ar d ≤ 4 := by unfold ar; omega
    obtain ⟨aa, has⟩ : ∃ aa, aa = splitT (ar d) p := ⟨_, rfl⟩
    obtain ⟨bb, hbs⟩ : ∃ bb, bb = splitT (ar d) t := ⟨_, rfl⟩
    rw [← has] at a1 a2 a3
    rw [← hbs] at b1 b2 b3
    have hka : kidsS (d :: p) = aa := by rw [has]; rfl
    have hkb : kidsS (d :: t) = bb := by rw [hbs]; rfl
    have haok : ∀ a ∈ aa, segN a 1 = some [] ∧ ∀ c ∈ a, Okc c := fun a ha => ⟨a3 a ha, fun x hx => hpo x (by rw [← a1]; exact List.mem_flatten.2 ⟨a, ha, hx⟩)⟩
    have hbok : ∀ b ∈ bb, segN b 1 = some [] ∧ ∀ c ∈ b, Okc c := fun b hb => ⟨b3 b hb, fun x hx => hto x (by rw [← b1]; exact List.mem_flatten.2 ⟨b, hb, hx⟩)⟩
    have hsum : sumLen aa = p.length := by rw [← sumLen_flat, a1]
    have hsumb : sumLen bb = t.length := by rw [← sumLen_flat, b1]
    have hflat : mat p t l = (fitL aa bb l).map fun o => (o, []) := by
     rw [← a1, ← b1]
     exact mat_flat aa bb l (by omega) haok (fun b hb => (hbok b hb).1)
    have loop : ∀ (A B : List (List Cel)) (i : Nat) (l2 : List Bnd), i ≤ aa.length → aa.drop i = A → bb.drop i = B → l2.length + sumLen A ≤ 1000000 → sumLen A ≤ p.length → sumLen B ≤ t.length →
     ∃ x, Ev (fun k => aumbryref05_Fit.l0 k l2 aa bb (aa.length : Int) (i : Int)) (x, (fitL A B l2).isSome) ∧ ∀ o, fitL A B l2 = some o → x = o := by
     intro A
     induction A with
     | nil =>
      intro B i l2 hi hA hB hl2 _ _
      have := drop_nil_len hi hA
      refine ⟨l2, ?_, fun o h => by injection h⟩
      refine Ev.step (fun k => (show aumbryref05_Fit.l0 (k + 1) l2 aa bb (aa.length : Int) (i : Int) = _ from by rw [aumbryref05_Fit.l0])) ?_
      exact evIfn (by omega) (Ev.now _)
     | cons a A ihA =>
      intro B i l2 hi hA hB hl2 hsA hsB
      obtain ⟨g1, _, g3⟩ := drop_cons hA
      rcases B with _ | ⟨b, B⟩
      ·
       have := drop_nil_len (by omega) hB
       omega
      obtain ⟨g4, _, g6⟩ := drop_cons hB
      have hma : a ∈ aa := List.mem_of_mem_drop (hA ▸ List.mem_cons_self ..)
      have hmb : b ∈ bb := List.mem_of_mem_drop (hB ▸ List.mem_cons_self ..)
      simp only [sumLen, List.map_cons, List.sum_cons] at hl2 hsA hsB
      obtain ⟨x, hx1, hx2⟩ := ev_fit n a b l2 (by omega) (by omega) (by omega) (haok a hma).2 (hbok b hmb).2 (haok a hma).1 (hbok b hmb).1 (by omega)
      cases hab : mat a b l2 with
      | none =>
       rw [hab] at hx1
       refine ⟨[], ?_, fun o h => by simp only [fitL, hab] at h; cases h⟩
       simp only [fitL, hab]
       refine Ev.step (fun k => (show aumbryref05_Fit.l0 (k + 1) l2 aa bb (aa.length : Int) (i : Int) = _ from by rw [aumbryref05_Fit.l0])) ?_
       refine evIfp (by omega) (evIfp (by omega) (evIfp (by omega) (evIfp (by omega) ?_)))
       simp only [rd_trm hA, rd_trm hB]
       refine Ev.bind hx1 ?_
       exact evIfn (by simp) (Ev.now _)
      | some y =>
       obtain ⟨o, r⟩ := y
       rw [hab] at hx1
       have hxo : x = o := hx2 o r hab
       subst hxo
       have hlen := mat_len a b l2 x r hab
       obtain ⟨z, hz1, hz2⟩ := ihA B (i + 1) x (by omega) g3 g6 (by simp only [sumLen]; omega) (by simp only [sumLen]; omega) (by simp only [sumLen]; omega)
       refine ⟨z, ?_, fun o h => hz2 o (by simpa [fitL, hab] using h)⟩
       simp only [fitL, hab, Option.bind_some]
       refine Ev.step (fun k => (show aumbryref05_Fit.l0 (k + 1) l2 aa bb (aa.length : Int) (i : Int) = _ from by rw [aumbryref05_Fit.l0])) ?_
       refine evIfp (by omega) (evIfp (by omega) (evIfp (by omega) (evIfp (by omega) ?_)))
       simp only [rd_trm hA, rd_trm hB, up_cast i (by omega)]
       refine Ev.bind hx1 ?_
       exact evIfp (by simp) hz1
    obtain ⟨x, hx1, hx2⟩ := loop aa bb 0 l (by omega) rfl rfl (by omega) (by omega) (by omega)
    refine ⟨x, ?_, fun o r h => ?_⟩
    ·
     refine Ev.step (fun k => (show aumbryref05_Fit.f (k + 1) (d :: p) (d :: t) l = _ from by rw [aumbryref05_Fit.f])) ?_
     refine Ev.bind (ev_var (d :: p)) ?_
     refine evIfn (by rw [hvar]; simp) (evIfp (by simp) (evIfp (by simp) ?_))
     simp only [rd_cel (t := d :: p) (n := 0) (c := d) (s := p) rfl, rd_cel (t := d :: t) (n := 0) (c := d) (s := t) rfl, show ((0 : Int)) = ((0 : Nat) : Int) from rfl]
     refine evIfn (fun h => (cel_ne d d).1 h rfl) ?_
     refine Ev.bind (ev_kids (t := d :: p) (by simp; omega) hop hsp) ?_
     refine Ev.bind (ev_kids (t := d :: t) (by simp; omega) hot hst) ?_
     rw [hka, hkb]
     have e : (mat p t l).isSome = (fitL aa bb l).isSome := by rw [hflat]; cases fitL aa bb l <;> rfl
     rw [e]
     exact hx1
    ·
     rw [hflat] at h
     cases hf : fitL aa bb l with
     | none => rw [hf] at h; cases h
     | some o2 =>
      rw [hf] at h
      injection h with h
      injection h with h _
      rw [← h]
      exact hx2 o2 hf
   ·
    rw [if_neg hdc]
    refine ⟨[], ?_, fun o r h => by cases h⟩
    refine Ev.step (fun k => (show aumbryref05_Fit.f (k + 1) (c :: p) (d :: t) l = _ from by rw [aumbryref05_Fit.f])) ?_
    refine Ev.bind (ev_var (c :: p)) ?_
    refine evIfn (by rw [hvar]; simp) (evIfp (by simp) (evIfp (by simp) ?_))
    simp only [rd_cel (t := c :: p) (n := 0) (c := c) (s := p) rfl, rd_cel (t := d :: t) (n := 0) (c := d) (s := t) rfl, show ((0 : Int)) = ((0 : Nat) : Int) from rfl]
    exact evIfp ((cel_ne c d).2 (fun h => hdc h.symm)) (Ev.now _)
end Go.Proofs.Ytdlkhpfgkghhmaa.P.M

-- ==== PF58
namespace Go.Proofs.Ytdlkhpfgkghhmaa.P
open Go.RowKit Go.Proofs.YtdlkhpfgkghhmaaW.PrintWords Go.Proofs.YtdlkhpfgkghhmaaW.PrintLast Go.Proofs.YtdlkhpfgkghhmaaW.PrintMore
attribute [local go_sem] max2_int min2_int max_two min_two max_three min_three max_four min_four

/-! ### aumbryref05_Put: function 58 -/
def aumbryref05_Put.l0 : Nat → List (S54) → List (S104) → List (S54) → Int → Int → Option ((List (S54)))
 | 0, _, _, _, _, _ => none
 | k + 1, x0, x1, x5, x8, x9 => if x9 < x8 then (if 0 ≤ x9 then (if x9 < (x0.length : Int) then ((aumbryref03_Kind.f k ((rd_T54 x0 x9).f0)).bind fun t102 => (if t102 = 2 then ((aumbryref05_At.f k x1 ((rd_T54 x0 x9).f0)).bind fun t104 => (if 0 ≤ t104 then (if t104 < (x1.length : Int) then (if x5.length + ((rd_T104 x1 t104).f1).length < 5864062014805 then (aumbryref05_Put.l0 k x0 x1 (x5 ++ ((rd_T104 x1 t104).f1)) x8 (wrap64 (x9 + 1))) else (none)) else (none)) else (none))) else (if x5.length < 5864062014805 then (aumbryref05_Put.l0 k x0 x1 (x5 ++ [(⟨(rd_T54 x0 x9).f0, (rd_T54 x0 x9).f1⟩ : S54)]) x8 (wrap64 (x9 + 1))) else (none)))) else (none)) else (none)) else (some x5)
def aumbryref05_Put.f (k : Nat) (l0 : List (S54)) (l1 : List (S104)) : Option ((List (S54))) := aumbryref05_Put.l0 k l0 l1 ([] : List (S54)) (l0.length : Int) 0
end Go.Proofs.Ytdlkhpfgkghhmaa.P

-- ==== PQ7f
/- Plain laws, part f: what a pattern becomes by binds: the program's Fill is the document's. -/
namespace Go.Proofs.Ytdlkhpfgkghhmaa.P.M
open Go.RowKit Go.Proofs.YtdlkhpfgkghhmaaW.PrintWords

def putS : List Cel → List Bnd → Option (List Cel)
 | [], _ => some []
 | c :: p, l => if kindS c.f0 = 2 then (match lookB l c.f0 with | none => none | some v => (putS p l).map (v ++ ·)) else (putS p l).map (c :: ·)
def varsS : List Cel → List ByteArray → List ByteArray
 | [], acc => acc
 | c :: p, acc => if kindS c.f0 = 2 then (if c.f0 ∈ acc then varsS p acc else varsS p (acc ++ [c.f0])) else varsS p acc
theorem mem_varsS : ∀ (p : List Cel) (acc : List ByteArray) (v : ByteArray), v ∈ varsS p acc ↔ v ∈ acc ∨ ∃ c ∈ p, kindS c.f0 = 2 ∧ c.f0 = v
 | [], acc, v => by simp [varsS]
 | c :: p, acc, v => by
  simp only [varsS]
  by_cases hk : kindS c.f0 = 2
  ·
   rw [if_pos hk]
   by_cases hm : c.f0 ∈ acc
   ·
    rw [if_pos hm, mem_varsS p acc v]
    constructor
    ·
     rintro (h | ⟨d, h1, h2⟩)
     ·
      exact .inl h
     ·
      exact .inr ⟨d, List.mem_cons_of_mem _ h1, h2⟩
    ·
     rintro (h | ⟨d, h1, h2, h3⟩)
     ·
      exact .inl h
     ·
      rcases List.mem_cons.1 h1 with rfl | h1
      ·
       exact .inl (h3 ▸ hm)
      ·
       exact .inr ⟨d, h1, h2, h3⟩
   ·
    rw [if_neg hm, mem_varsS p (acc ++ [c.f0]) v]
    simp only [List.mem_append, List.mem_singleton]
    constructor
    ·
     rintro ((h | h) | ⟨d, h1, h2⟩)
     ·
      exact .inl h
     ·
      exact .inr ⟨c, List.mem_cons_self .., hk, h.symm⟩
     ·
      exact .inr ⟨d, List.mem_cons_of_mem _ h1, h2⟩
    ·
     rintro (h | ⟨d, h1, h2, h3⟩)
     ·
      exact .inl (.inl h)
     ·
      rcases List.mem_cons.1 h1 with rfl | h1
      ·
       exact .inl (.inr h3.symm)
      ·
       exact .inr ⟨d, h1, h2, h3⟩
  ·
   rw [if_neg hk, mem_varsS p acc v]
   constructor
   ·
    rintro (h | ⟨d, h1, h2⟩)
    ·
     exact .inl h
    ·
     exact .inr ⟨d, List.mem_cons_of_mem _ h1, h2⟩
   ·
    rintro (h | ⟨d, h1, h2, h3⟩)
    ·
     exact .inl h
    ·
     rcases List.mem_cons.1 h1 with rfl | h1
     ·
      exact absurd h2 hk
     ·
      exact .inr ⟨d, h1, h2, h3⟩
theorem ev_put_loop (p : List Cel) (l : List Bnd) (hp : p.length ≤ 64) (hv : ∀ b ∈ l, b.f1.length ≤ 64) (hl : l.length ≤ 9223372036854775806) :
 ∀ (s : List Cel) (i : Nat) (out o : List Cel), i ≤ p.length → p.drop i = s → out.length ≤ 64 * i → putS s l = some o → Ev (fun k => aumbryref05_Put.l0 k p l out (p.length : Int) (i : Int)) (out ++ o)
 | [], i, out, o, hi, hs, ho, hput => by
  have h1 := drop_nil_len hi hs
  refine Ev.step (fun k => (show aumbryref05_Put.l0 (k + 1) p l out (p.length : Int) (i : Int) = _ from by rw [aumbryref05_Put.l0])) ?_
  refine evIfn (by omega) ?_
  injection hput with hput
  rw [← hput, List.append_nil]
  exact Ev.now _
 | c :: s, i, out, o, hi, hs, ho, hput => by
  obtain ⟨h1, _, h3⟩ := drop_cons hs
  refine Ev.step (fun k => (show aumbryref05_Put.l0 (k + 1) p l out (p.length : Int) (i : Int) = _ from by rw [aumbryref05_Put.l0])) ?_
  refine evIfp (by omega) (evIfp (by omega) (evIfp (by omega) ?_))
  simp only [rd_cel hs, up_cast i (by omega)]
  refine Ev.bind (ev_refKind c.f0) ?_
  simp only [putS] at hput
  by_cases hk : kindS c.f0 = 2
  ·
   rw [if_pos hk] at hput
   refine evIfp hk ?_
   rcases atS_look l c.f0 with ⟨hl1, hl2⟩ | ⟨j, b, j1, j2, j3, j4, j5, _⟩
   ·
    rw [hl1] at hput
    cases hput
   ·
    rw [j3] at hput
    simp only at hput
    obtain ⟨o2, ho2, rfl⟩ := Option.map_eq_some_iff.1 hput
    have hrd : (rd_T104 l (j : Int)).f1 = b.f1 := by
     unfold rd_T104
     rw [List.getD_eq_getElem?_getD, Int.toNat_natCast, j1]
     rfl
    have hbl := hv b (List.mem_of_getElem? j1)
    refine Ev.bind (ev_at l c.f0 hl) ?_
    rw [j4]
    refine evIfp (by omega) (evIfp (by omega) ?_)
    simp only [hrd]
    refine evIfp (by omega) ?_
    have := ev_put_loop p l hp hv hl s (i + 1) (out ++ b.f1) o2 (by omega) h3 (by simp; omega) ho2
    rw [List.append_assoc] at this
    exact this
  ·
   rw [if_neg hk] at hput
   obtain ⟨o2, ho2, rfl⟩ := Option.map_eq_some_iff.1 hput
   refine evIfn hk (evIfp (by omega) ?_)
   have := ev_put_loop p l hp hv hl s (i + 1) (out ++ [c]) o2 (by omega) h3 (by simp; omega) ho2
   rw [List.append_assoc] at this
   exact this
end Go.Proofs.Ytdlkhpfgkghhmaa.P.M

-- ==== PQ7g
/- Plain laws, part g: filling what a match tells gives the term; what is filled is matched; a term matches itself. -/
namespace Go.Proofs.Ytdlkhpfgkghhmaa.P.M
open Go.RowKit Go.Proofs.YtdlkhpfgkghhmaaW.PrintWords

def Ext (a b : List Bnd) : Prop := ∀ s v, lookB a s = some v → lookB b s = some v
theorem Ext.trans {a b c : List Bnd} (h : Ext a b) (g : Ext b c) : Ext a c := fun s v e => g s v (h s v e)
theorem mat_var {c : Cel} {p t r : List Cel} {out : List Bnd} (hv : kindS c.f0 = 2) (hr : segN t 1 = some r) : mat (c :: p) t out = (match lookB out c.f0 with | none => mat p r (out ++ [⟨c.f0, fstT t r⟩]) | some v => if v = fstT t r then mat p r out else none) := by
 show (if kindS c.f0 = 2 then _ else _) = _
 rw [if_pos hv, hr]
 try rfl
theorem mat_var_none {c : Cel} {p t : List Cel} {out : List Bnd} (hv : kindS c.f0 = 2) (hr : segN t 1 = none) : mat (c :: p) t out = none := by
 show (if kindS c.f0 = 2 then _ else _) = _
 rw [if_pos hv, hr]
theorem mat_sym {c d : Cel} {p t : List Cel} {out : List Bnd} (hv : ¬ kindS c.f0 = 2) : mat (c :: p) (d :: t) out = if d = c then mat p t out else none := by
 show (if kindS c.f0 = 2 then _ else _) = _
 rw [if_neg hv]
theorem mat_sym_nil {c : Cel} {p : List Cel} {out : List Bnd} (hv : ¬ kindS c.f0 = 2) : mat (c :: p) [] out = none := by
 show (if kindS c.f0 = 2 then _ else _) = _
 rw [if_neg hv]

theorem lookB_none (l : List Bnd) (s : ByteArray) : lookB l s = none ↔ s ∉ l.map (·.f0) := by
 unfold lookB
 rw [Option.map_eq_none_iff, List.find?_eq_none]
 simp
theorem mat_names : ∀ (p t : List Cel) (out o : List Bnd) (r : List Cel), mat p t out = some (o, r) → o.map (·.f0) = varsS p (out.map (·.f0))
 | [], t, out, o, r, h => by
  have h' : some (out, t) = some (o, r) := h
  injection h' with h'
  injection h' with h1 h2
  rw [← h1]
  rfl
 | c :: p, t, out, o, r, h => by
  by_cases hv : kindS c.f0 = 2
  ·
   cases hq : segN t 1 with
   | none => rw [mat_var_none hv hq] at h; cases h
   | some q =>
    rw [mat_var hv hq] at h
    simp only [varsS, hv, if_true]
    cases hl : lookB out c.f0 with
    | none =>
     rw [hl] at h
     rw [if_neg ((lookB_none _ _).1 hl)]
     have := mat_names p q _ o r h
     simpa using this
    | some v =>
     rw [hl] at h
     simp only at h
     have hm : c.f0 ∈ out.map (·.f0) := by
      by_cases hx : c.f0 ∈ out.map (·.f0)
      ·
       exact hx
      ·
       rw [(lookB_none _ _).2 hx] at hl; cases hl
     rw [if_pos hm]
     by_cases he : v = fstT t q
     ·
      rw [if_pos he] at h
      exact mat_names p q _ o r h
     ·
      rw [if_neg he] at h
      cases h
  ·
   simp only [varsS, hv, if_false]
   rcases t with _ | ⟨d, t⟩
   ·
    rw [mat_sym_nil hv] at h; cases h
   ·
    rw [mat_sym hv] at h
    by_cases he : d = c
    ·
     rw [if_pos he] at h
     exact mat_names p t _ o r h
    ·
     rw [if_neg he] at h; cases h

end Go.Proofs.Ytdlkhpfgkghhmaa.P.M

-- ==== PL7f
/- Plain laws of chapter 7: the first rule that fits: the program's answer and the document's; what fitting binds; terms in which no rule fits. -/
namespace Go.Proofs.Ytdlkhpfgkghhmaa.P
open Go.RowKit Go.Proofs.YtdlkhpfgkghhmaaW.PrintWords
def Rls (rules : List Rul) : Prop := ∀ r ∈ rules, ruleS r.f0 r.f1 r.f2 = 0
def fitS : List Rul → List Cel → Option (Rul × List Bnd7)
 | [], _ => none
 | r :: u, node => match M.mat r.f1 node [] with
  | some x => some (r, x.1)
  | none => fitS u node
theorem fitS_mem : ∀ {rules : List Rul} {node : List Cel} {x : Rul × List Bnd7}, fitS rules node = some x → x.1 ∈ rules ∧ ∃ r, M.mat x.1.f1 node [] = some (x.2, r)
 | [], _, _, h => by cases h
 | r :: u, node, x, h => by
  unfold fitS at h
  cases hm : M.mat r.f1 node [] with
  | some y =>
   rw [hm] at h
   obtain rfl := Option.some.inj h
   exact ⟨List.mem_cons_self .., y.2, hm⟩
  | none =>
   rw [hm] at h
   obtain ⟨h1, h2⟩ := fitS_mem h
   exact ⟨List.mem_cons_of_mem _ h1, h2⟩
theorem rule_head {r : Rul} (h : ruleS r.f0 r.f1 r.f2 = 0) : ∃ c l, r.f1 = c :: l ∧ kindS c.f0 ≠ 2 ∧ segN l (ar c) = some [] := by
 obtain ⟨h1, h2, h3, h4, h5, h6, _, _⟩ := ruleS_ok h
 obtain ⟨c, l, e, hs⟩ := cons_term h1
 rw [e] at h5
 exact ⟨c, l, e, h5, hs⟩
theorem sameCell_iff (c d : Cel) : sameCell c d = true ↔ c = d := by
 unfold sameCell
 simp only [Bool.and_eq_true, beq_iff_eq, bytes_eq]
 constructor
 ·
  intro h; cases c; cases d; simp at h ⊢; exact h
 ·
  intro h; rw [h]; exact ⟨rfl, rfl⟩
theorem ev_fitsF {node : List Cel} (hn : checkS node = 0) : ∀ {rules : List Rul}, Rls rules → Ev (fun k => fitsF k node rules) (fitS rules node)
 | [], _ => Ev.now _
 | r :: u, hr => by
  have hru := hr r (List.mem_cons_self ..)
  have T := ev_fitsF hn (rules := u) (fun x hx => hr x (List.mem_cons_of_mem _ hx))
  obtain ⟨c, l, e, hk, hs⟩ := rule_head hru
  obtain ⟨d, t, en, hsn⟩ := cons_term hn
  have hc := (ruleS_ok hru).1
  refine Ev.congr (f := fun k => if 0 < r.f1.length then (if sameCell (rd_T54 r.f1 0) (rd_T54 node 0) = true then ((match_Match.f k r.f1 node).bind fun m => if m.2.1 = true ∧ m.2.2 = 0 then some (some (r, m.1)) else fitsF k node u) else fitsF k node u) else none) (fun k => rfl) ?_
  refine evIfp (by rw [e]; simp) ?_
  have e1 : rd_T54 r.f1 0 = c := by rw [e]; rfl
  have e2 : rd_T54 node 0 = d := by rw [en]; rfl
  rw [e1, e2]
  by_cases h : sameCell c d = true
  ·
   refine evIfp h (Ev.bind (M.ev_match r.f1 node) ?_)
   unfold M.matchS
   rw [if_pos hc, if_pos hn]
   cases hm : M.mat r.f1 node [] with
   | some x =>
    simp only [M.matR, fitS, hm]
    exact evIfp (by simp) (Ev.now _)
   | none =>
    simp only [M.matR, fitS, hm]
    exact evIfn (by simp) T
  ·
   refine evIfn h ?_
   have hm : M.mat r.f1 node [] = none := by
    rw [e, en, M.mat_sym hk, if_neg (fun q => h ((sameCell_iff c d).2 q.symm))]
   simp only [fitS, hm]
   exact T
theorem ev_first_loop {rules : List Rul} {node : List Cel} (hn : checkS node = 0) (hr : Rls rules) (hl : rules.length ≤ 2513169434915) : ∀ (u : List Rul) (i : Nat), i ≤ rules.length → rules.drop i = u →
 ∃ (j : Int) (x : List Bnd7), Ev (fun k => aumbryref07_First.l0 k rules node (rules.length : Int) (i : Int)) (j, x) ∧ (fitS u node = none → j = -1) ∧ ∀ r o, fitS u node = some (r, o) → x = o ∧ ∃ a : Nat, j = (a : Int) ∧ a < rules.length ∧ rd_T73 rules (a : Int) = r
 | [], i, hi, hu => by
  have h1 := drop_nil_len hi hu
  refine ⟨-1, [], Ev.step (fun k => (show aumbryref07_First.l0 (k + 1) rules node (rules.length : Int) (i : Int) = _ from by rw [aumbryref07_First.l0])) ?_, fun _ => rfl, fun r o h => by cases h⟩
  exact evIfn (by omega) (Ev.now _)
 | b :: u, i, hi, hu => by
  obtain ⟨h1, h2, h3⟩ := drop_cons hu
  have hb : b ∈ rules := List.mem_of_mem_drop (hu ▸ List.mem_cons_self ..)
  obtain ⟨g1, _, g3, _⟩ := ruleS_ok (hr b hb)
  obtain ⟨p1, p2, p3⟩ := checkS_ok g1
  obtain ⟨n1, n2, n3⟩ := checkS_ok hn
  obtain ⟨x, hx, hxo⟩ := M.ev_fit b.f1.length b.f1 node [] (Nat.le_refl _) p1 n1 p2 n2 p3 n3 (by simp; omega)
  obtain ⟨j, y, q1, q2, q3⟩ := ev_first_loop hn hr hl u (i + 1) (by omega) h3
  have S : ∀ {R : Int × List Bnd7}, Ev (fun k => (aumbryref05_Fit.f k b.f1 node []).bind fun bt102 => if bt102.2 = true then some ((i : Int), bt102.1) else aumbryref07_First.l0 k rules node (rules.length : Int) ((i + 1 : Nat) : Int)) R → Ev (fun k => aumbryref07_First.l0 k rules node (rules.length : Int) (i : Int)) R := by
   intro R h
   refine Ev.step (fun k => (show aumbryref07_First.l0 (k + 1) rules node (rules.length : Int) (i : Int) = _ from by rw [aumbryref07_First.l0])) ?_
   simp only [rd_rul hu, up_cast i (by omega)]
   exact evIfp (by omega) (evIfp (by omega) (evIfp (by omega) h))
  cases hm : M.mat b.f1 node [] with
  | some z =>
   have E := S (R := ((i : Int), x)) (Ev.bind hx (evIfp (by rw [hm]; rfl) (Ev.now _)))
   refine ⟨(i : Int), x, E, (fun h => by rw [fitS, hm] at h; cases h), fun r o h => ?_⟩
   simp only [fitS, hm] at h
   injection h with h
   injection h with ha hb2
   exact ⟨(hxo z.1 z.2 hm).trans hb2, i, rfl, by omega, (rd_rul hu).trans ha⟩
  | none =>
   have E := S (R := (j, y)) (Ev.bind hx (evIfn (by rw [hm]; simp) q1))
   exact ⟨j, y, E, (fun h => q2 (by simpa only [fitS, hm] using h)), (fun r o h => q3 r o (by simpa only [fitS, hm] using h))⟩
theorem ev_first {rules : List Rul} {node : List Cel} (hn : checkS node = 0) (hr : Rls rules) (hl : rules.length ≤ 2513169434915) :
 ∃ (j : Int) (x : List Bnd7), Ev (fun k => aumbryref07_First.f k rules node) (j, x) ∧ (fitS rules node = none → j = -1) ∧ ∀ r o, fitS rules node = some (r, o) → x = o ∧ ∃ a : Nat, j = (a : Int) ∧ a < rules.length ∧ rd_T73 rules (a : Int) = r := by
 unfold aumbryref07_First.f
 exact ev_first_loop hn hr hl rules 0 (by omega) rfl
/-! ### terms in which no rule fits -/
def Quiet (rules : List Rul) (l : List Cel) : Prop := ∀ p q s : List Cel, l = p ++ q ++ s → segN q 1 = some [] → fitS rules q = none
theorem quiet_infix {rules : List Rul} {l x y z : List Cel} (h : Quiet rules l) (e : l = x ++ y ++ z) : Quiet rules y := by
 intro p q s hy hq
 refine h (x ++ p) q (s ++ z) ?_ hq
 rw [e, hy]
 simp
theorem quiet_nil (rules : List Rul) : Quiet rules [] := by
 intro p q s h hq
 have : q = [] := by
  have := congrArg List.length h
  simp at this
  exact List.eq_nil_of_length_eq_zero (by omega)
 rw [this] at hq
 cases hq
theorem quiet_append {rules : List Rul} {l1 l2 : List Cel} {n : Nat} (h1 : segN l1 n = some []) (q1 : Quiet rules l1) (q2 : Quiet rules l2) : Quiet rules (l1 ++ l2) := by
 intro p q s e hq
 rcases Nat.lt_or_ge p.length l1.length with hl | hl
 ·
  obtain ⟨r, hr⟩ := seg_one h1 hl
  have d1 : (l1 ++ l2).drop p.length = l1.drop p.length ++ l2 := by rw [List.drop_append_of_le_length (by omega)]
  have d2 : (l1 ++ l2).drop p.length = q ++ s := by rw [e, List.append_assoc, List.drop_left]
  have s1 := segN_append l2 hr
  have s2 := segN_append s hq
  rw [List.nil_append] at s2
  rw [← d1, d2, s2] at s1
  injection s1 with s1
  have hd : l1.drop p.length = q ++ r := by
   have : l1.drop p.length ++ l2 = (q ++ r) ++ l2 := by rw [← d1, d2, s1, List.append_assoc]
   exact List.append_cancel_right this
  have hp : l1.take p.length = p := by
   have := congrArg (List.take p.length) e
   rw [List.append_assoc, List.take_left, List.take_append_of_le_length (by omega)] at this
   exact this
  refine q1 p q r ?_ hq
  rw [List.append_assoc, ← hd]
  conv => rhs; lhs; rw [← hp]
  exact (List.take_append_drop _ _).symm
 ·
  have hp : p = l1 ++ p.drop l1.length := by
   have := congrArg (List.take l1.length) e
   rw [List.take_left, List.append_assoc, List.take_append_of_le_length hl] at this
   conv => rhs; lhs; rw [this]
   exact (List.take_append_drop _ _).symm
  refine q2 (p.drop l1.length) q s ?_ hq
  rw [hp] at e
  rw [List.append_assoc, List.append_assoc] at e
  have := List.append_cancel_left e
  rw [this, List.append_assoc]
theorem quiet_node {rules : List Rul} {c : Cel} {l : List Cel} (hs : segN l (ar c) = some []) (hq : Quiet rules l) (hf : fitS rules (c :: l) = none) : Quiet rules (c :: l) := by
 intro p q s e hqs
 cases p with
 | nil =>
  have s2 := segN_append s hqs
  rw [List.nil_append, show q ++ s = c :: l from by simpa using e.symm] at s2
  have s3 : segN (c :: l) 1 = some [] := by
   show segN l (0 + ar c) = some []
   rw [Nat.zero_add]; exact hs
  rw [s3] at s2
  injection s2 with s2
  rw [← s2, List.append_nil, List.nil_append] at e
  rw [← e]
  exact hf
 | cons a p =>
  simp only [List.cons_append, List.cons.injEq] at e
  exact hq p q s e.2 hqs
/-! ### what fitting binds -/
theorem mat_infix : ∀ (p t : List Cel) (out o : List Bnd7) (r : List Cel), M.mat p t out = some (o, r) → ∀ b ∈ o, b ∈ out ∨ (segN b.f1 1 = some [] ∧ ∃ x y, t = x ++ b.f1 ++ y)
 | [], t, out, o, r, h => by
  unfold M.mat at h
  injection h with h
  injection h with h1 h2
  subst h1
  exact fun b hb => .inl hb
 | c :: p, t, out, o, r, h => by
  intro b hb
  by_cases hk : kindS c.f0 = 2
  ·
   cases hs : segN t 1 with
   | none => rw [M.mat_var_none hk hs] at h; cases h
   | some q =>
    obtain ⟨e, h1⟩ := segN_fst hs
    rw [M.mat_var hk hs] at h
    have up : ∀ b0 : Bnd7, (segN b0.f1 1 = some [] ∧ ∃ x y, q = x ++ b0.f1 ++ y) → (segN b0.f1 1 = some [] ∧ ∃ x y, t = x ++ b0.f1 ++ y) := by
     rintro b0 ⟨g1, x, y, g2⟩
     exact ⟨g1, fstT t q ++ x, y, by rw [List.append_assoc, List.append_assoc, ← List.append_assoc x, ← g2]; exact e⟩
    cases hb2 : M.lookB out c.f0 with
    | none =>
     rw [hb2] at h
     rcases mat_infix p q _ o r h b hb with g | g
     ·
      rcases List.mem_append.1 g with g | g
      ·
       exact .inl g
      ·
       rw [List.mem_singleton] at g
       subst g
       exact .inr ⟨h1, [], q, by rw [List.nil_append]; exact e⟩
     ·
      exact .inr (up b g)
    | some v =>
     rw [hb2] at h
     simp only at h
     by_cases hv : v = M.fstT t q
     ·
      rw [if_pos hv] at h
      rcases mat_infix p q out o r h b hb with g | g
      ·
       exact .inl g
      ·
       exact .inr (up b g)
     ·
      rw [if_neg hv] at h; cases h
  ·
   cases t with
   | nil => rw [M.mat_sym_nil hk] at h; cases h
   | cons d t =>
    rw [M.mat_sym hk] at h
    by_cases hd : d = c
    ·
     rw [if_pos hd] at h
     rcases mat_infix p t out o r h b hb with g | ⟨g1, x, y, g2⟩
     ·
      exact .inl g
     ·
      exact .inr ⟨g1, d :: x, y, by rw [g2]; simp⟩
    ·
     rw [if_neg hd] at h; cases h
theorem mem_vars7 : ∀ (u : List Cel) (out : List ByteArray) (v : ByteArray), v ∈ varsS out u ↔ v ∈ out ∨ ∃ c ∈ u, kindS c.f0 = 2 ∧ c.f0 = v
 | [], out, v => by simp [varsS]
 | c :: l, out, v => by
  unfold varsS
  by_cases h : kindS c.f0 = 2
  ·
   rw [if_pos h]
   by_cases h2 : c.f0 ∈ out
   ·
    rw [if_pos h2, mem_vars7 l out v]
    constructor
    ·
     rintro (a | ⟨d, h3, h4⟩)
     ·
      exact .inl a
     ·
      exact .inr ⟨d, List.mem_cons_of_mem _ h3, h4⟩
    ·
     rintro (a | ⟨d, h3, h4, h5⟩)
     ·
      exact .inl a
     ·
      rcases List.mem_cons.1 h3 with rfl | h3
      ·
       exact .inl (h5 ▸ h2)
      ·
       exact .inr ⟨d, h3, h4, h5⟩
   ·
    rw [if_neg h2, mem_vars7 l _ v]
    constructor
    ·
     rintro (a | ⟨d, h3, h4⟩)
     ·
      rcases List.mem_append.1 a with a | a
      ·
       exact .inl a
      ·
       rw [List.mem_singleton] at a
       exact .inr ⟨c, List.mem_cons_self .., h, a.symm⟩
     ·
      exact .inr ⟨d, List.mem_cons_of_mem _ h3, h4⟩
    ·
     rintro (a | ⟨d, h3, h4, h5⟩)
     ·
      exact .inl (List.mem_append_left _ a)
     ·
      rcases List.mem_cons.1 h3 with rfl | h3
      ·
       exact .inl (by rw [← h5]; simp)
      ·
       exact .inr ⟨d, h3, h4, h5⟩
  ·
   rw [if_neg h, mem_vars7 l out v]
   constructor
   ·
    rintro (a | ⟨d, h3, h4⟩)
    ·
     exact .inl a
    ·
     exact .inr ⟨d, List.mem_cons_of_mem _ h3, h4⟩
   ·
    rintro (a | ⟨d, h3, h4, h5⟩)
    ·
     exact .inl a
    ·
     rcases List.mem_cons.1 h3 with rfl | h3
     ·
      exact absurd h4 h
     ·
      exact .inr ⟨d, h3, h4, h5⟩
theorem bindL_look : ∀ (l : List Bnd7) (s : ByteArray), bindL l s = (M.lookB l s).getD []
 | [], s => rfl
 | b :: u, s => by
  have T := bindL_look u s
  unfold bindL
  unfold M.lookB at T ⊢
  rw [List.find?_cons]
  by_cases h : b.f0 = s
  ·
   rw [if_pos (by rw [h]; simp), decide_eq_true h]
   rfl
  ·
   rw [if_neg (by simpa [bytes_eq] using h), decide_eq_false h]
   exact T
end Go.Proofs.Ytdlkhpfgkghhmaa.P

-- ==== PL7g
/- Plain laws of chapter 7: what a rule's variables stand for; the machine's steps. -/
namespace Go.Proofs.Ytdlkhpfgkghhmaa.P
open Go.RowKit Go.Proofs.YtdlkhpfgkghhmaaW.PrintWords
structure Val7 (rules : List Rul) (v : List Cel) : Prop where
 gnd : gndS v = true
 quiet : Quiet rules v
 len : v.length ≤ 64
theorem gnd_infix {t x y z : List Cel} (h : gndS t = true) (e : t = x ++ y ++ z) (hs : segN y 1 = some []) : gndS y = true := by
 obtain ⟨h1, h2⟩ := gndS_iff.1 h
 obtain ⟨g1, g2, g3⟩ := checkS_ok h1
 have hl : y.length ≤ 64 := by rw [e] at g1; simp at g1; omega
 have hm : ∀ c ∈ y, c ∈ t := fun c hc => by rw [e]; simp [hc]
 exact gndS_iff.2 ⟨checkS_of hl (fun c hc => g2 c (hm c hc)) hs, fun c hc => h2 c (hm c hc)⟩
theorem bind_ok {rules : List Rul} {r : Rul} {node l : List Cel} {c0 : Cel} {o : List Bnd7} {x : List Cel} (hr : ruleS r.f0 r.f1 r.f2 = 0) (hn : gndS node = true) (en : node = c0 :: l) (hq : Quiet rules l) (hm : M.mat r.f1 node [] = some (o, x)) :
 (∀ b ∈ o, b.f1.length ≤ 64) ∧ o.length ≤ 64 ∧ ∀ d ∈ r.f2, (0 < (bindL o d.f0).length ↔ kindS d.f0 = 2) ∧ (kindS d.f0 = 2 → Told (bindL o) o d ∧ Val7 rules (bindL o d.f0) ∧ M.lookB o d.f0 = some (bindL o d.f0)) := by
 obtain ⟨g1, g2, g3, g4, g5, g6, _, _⟩ := ruleS_ok hr
 obtain ⟨c, p, e, hk, hs⟩ := rule_head hr
 obtain ⟨k1, k2, k3⟩ := checkS_ok (gndS_iff.1 hn).1
 have hol := M.mat_len _ _ _ _ _ hm
 have hval : ∀ b ∈ o, Val7 rules b.f1 := by
  intro b hb
  rw [e, en, M.mat_sym hk] at hm
  by_cases hd : c0 = c
  ·
   rw [if_pos hd] at hm
   rcases mat_infix p l [] o x hm b hb with g | ⟨q1, y, z, q2⟩
   ·
    cases g
   ·
    have hg : gndS b.f1 = true := gnd_infix hn (x := c0 :: y) (z := z) (by rw [en, q2]; simp) q1
    exact ⟨hg, quiet_infix hq q2, (checkS_ok (gndS_iff.1 hg).1).1⟩
  ·
   rw [if_neg hd] at hm; cases hm
 have hnames := M.mat_names _ _ _ _ _ hm
 refine ⟨fun b hb => (hval b hb).len, by simp at hol; omega, fun d hd => ?_⟩
 by_cases hk2 : kindS d.f0 = 2
 ·
  have hv : d.f0 ∈ varsS [] r.f2 := (mem_vars7 _ _ _).2 (.inr ⟨d, hd, hk2, rfl⟩)
  obtain hv2 | ⟨c2, w1, w2, w3⟩ := (mem_vars7 _ _ _).1 (g6 _ hv)
  ·
   cases hv2
  have hin : d.f0 ∈ o.map (·.f0) := by
   rw [hnames]
   exact (M.mem_varsS _ _ _).2 (.inr ⟨c2, w1, w2, w3⟩)
  rcases M.atS_look o d.f0 with ⟨h1, _⟩ | ⟨j, b, q1, q2, q3, q4, q5, _⟩
  ·
   exact absurd hin ((M.lookB_none _ _).1 h1)
  ·
   have hb : b ∈ o := List.mem_of_getElem? q1
   have hB : bindL o d.f0 = b.f1 := by rw [bindL_look, q3]; rfl
   have hV := hval b hb
   have hpos : 0 < b.f1.length := ok_pos (gndS_iff.1 hV.gnd).1
   rw [hB]
   refine ⟨⟨fun _ => hk2, fun _ => hpos⟩, fun _ => ⟨⟨j, ?_, q5, ?_, ?_⟩, hV, q3⟩⟩
   ·
    have := M.ev_at o d.f0 (by simp at hol; omega)
    rwa [q4] at this
   ·
    rw [hB]
    have : o.drop j = b :: o.drop (j + 1) := by
     rw [List.getElem?_eq_getElem q5] at q1
     injection q1 with q1
     rw [← q1]
     exact List.drop_eq_getElem_cons q5
    rw [M.rd_bnd this]
   ·
    rw [hB]; have := hV.len; omega
 ·
  have h0 : (bindL o d.f0).length = 0 := by
   rw [bindL_look]
   have hno : d.f0 ∉ o.map (·.f0) := by
    rw [hnames]
    intro h
    rcases (M.mem_varsS _ _ _).1 h with h | ⟨c2, w1, w2, w3⟩
    ·
     cases h
    ·
     rw [w3] at w2; exact hk2 w2
   rw [(M.lookB_none _ _).2 hno]
   rfl
  exact ⟨⟨fun h => by omega, fun h => absurd h hk2⟩, fun h => absurd h hk2⟩
end Go.Proofs.Ytdlkhpfgkghhmaa.P

-- ==== PL7m
/- Plain laws of chapter 7: the machine's steps. -/
namespace Go.Proofs.Ytdlkhpfgkghhmaa.P
open Go.RowKit Go.Proofs.YtdlkhpfgkghhmaaW.PrintWords
def EvM (rules : List Rul) (m : Mst) (R : Int × Mst) : Prop := ∃ K, ∀ k n, K ≤ k → K ≤ n → runL k rules n m = some R
theorem evM_done {rules : List Rul} {m : Mst} (h : m.ops = []) : EvM rules m (0, m) :=
 ⟨1, fun k n hk hn => by
  obtain ⟨n, rfl⟩ : ∃ j, n = j + 1 := ⟨n - 1, by omega⟩
  simp only [runL]
  rw [if_pos (by rw [h]; rfl)]⟩
theorem last_op (rest : List Opn) (x : Opn) : rd_T70 (rest ++ [x]) (((rest ++ [x]).length : Int) - 1) = x := by
 unfold rd_T70
 rw [show (((rest ++ [x]).length : Int) - 1).toNat = rest.length by simp]
 simp [List.getD_eq_getElem?_getD]
theorem take_op (rest : List Opn) (x : Opn) : (rest ++ [x]).take ((rest ++ [x]).length - 1) = rest := by
 rw [show (rest ++ [x]).length - 1 = rest.length by simp, List.take_left]
theorem evM_have {rules : List Rul} {rest : List Opn} {v : List Cel} {vals : List (List Cel)} {st fu : Int} {hd : List ByteArray} {R : Int × Mst} (hv : vals.length < 5864062014800) (h : EvM rules ⟨rest, vals ++ [v], st, hd, fu⟩ R) :
 EvM rules ⟨rest ++ [⟨2, z54, v⟩], vals, st, hd, fu⟩ R := by
 obtain ⟨K, hK⟩ := h
 refine ⟨K + 1, fun k n hk hn => ?_⟩
 obtain ⟨n, rfl⟩ : ∃ j, n = j + 1 := ⟨n - 1, by omega⟩
 simp only [runL, last_op, take_op]
 rw [if_neg (by simp), if_pos trivial, if_pos hv]
 exact hK k n (by omega) (by omega)
theorem evM_make {rules : List Rul} {rest : List Opn} {c : Cel} {vs args : List (List Cel)} {st fu : Int} {hd : List ByteArray} {r R : Int × Mst} (ho : Okc c) (ha : args.length = ar c) (hl : ∀ v ∈ args, v.length ≤ 64)
 (hN : Ev (fun k => makeN k rules c.f0 ⟨1, c, []⟩ args ⟨rest, vs, st, hd, fu⟩) r) (h0 : r.1 = 0 → EvM rules r.2 R) (h1 : r.1 ≠ 0 → R = r) : EvM rules ⟨rest ++ [⟨1, c, []⟩], vs ++ args, st, hd, fu⟩ R := by
 obtain ⟨K, hK⟩ := hN
 have har : c.f1.toNat = ar c := rfl
 have e1 : (vs ++ args).length - c.f1.toNat = vs.length := by rw [har, List.length_append, ha]; omega
 have main : ∀ k n, K ≤ k → runL k rules (n + 1) ⟨rest ++ [⟨1, c, []⟩], vs ++ args, st, hd, fu⟩ = if r.1 = 0 then runL k rules n r.2 else some r := by
  intro k n hk
  have hk2 := hK k hk
  simp only [runL, last_op, take_op, e1, List.drop_left, List.take_left]
  rw [if_neg (by simp), if_neg (by decide), if_pos ⟨ho.lo, by rw [har, List.length_append, ha]; omega, hl⟩]
  simp only at hk2
  rw [hk2]
  rfl
 by_cases hr : r.1 = 0
 ·
  obtain ⟨K2, hK2⟩ := h0 hr
  refine ⟨K + K2 + 1, fun k n hk hn => ?_⟩
  obtain ⟨n, rfl⟩ : ∃ j, n = j + 1 := ⟨n - 1, by omega⟩
  rw [main k n (by omega), if_pos hr]
  exact hK2 k n (by omega) (by omega)
 ·
  refine ⟨K + 1, fun k n hk hn => ?_⟩
  obtain ⟨n, rfl⟩ : ∃ j, n = j + 1 := ⟨n - 1, by omega⟩
  rw [main k n (by omega), if_neg hr, h1 hr]
/-! ### heads -/
theorem less_ev (a b : ByteArray) : cmp_Less_string.f a b = some (Op.bytesLess a.toList b.toList) := by
 unfold cmp_Less_string.f cmp_isNaN_string.f
 simp
theorem ev_bs_loop (x : List ByteArray) (a : ByteArray) (hx : x.length ≤ 8796093022208) : ∀ (d i j : Nat), j - i = d → i ≤ j → j ≤ x.length →
 ∃ (q : Nat) (b : Bool), Ev (fun k => slices_BinarySearch_string_string.l0 k x a (x.length : Int) (i : Int) (j : Int)) ((q : Int), b) ∧ q ≤ x.length := by
 intro d
 induction d using Nat.strongRecOn with
 | _ d ih =>
 intro i j hd hij hj
 by_cases h : i < j
 ·
  have hm : wrap64 ((IntKind.u64.wrap (wrap64 ((i : Int) + (j : Int)))) / 2) = (((i + j) / 2 : Nat) : Int) := by
   rw [wrap_id (i := (i : Int) + j) (by omega) (by omega)]
   have : IntKind.u64.wrap ((i : Int) + (j : Int)) = (i : Int) + j := by
    simp only [IntKind.wrap, IntKind.bits, IntKind.signed]
    simp
    omega
   rw [this, wrap_id (by omega) (by omega)]
   omega
  have S : ∀ {R : Int × Bool}, Ev (fun k => if Op.bytesLess (rdOf ByteArray.empty x (((i + j) / 2 : Nat) : Int)).toList a.toList = true then slices_BinarySearch_string_string.l0 k x a (x.length : Int) ((((i + j) / 2 + 1 : Nat)) : Int) (j : Int) else slices_BinarySearch_string_string.l0 k x a (x.length : Int) (i : Int) (((i + j) / 2 : Nat) : Int)) R → Ev (fun k => slices_BinarySearch_string_string.l0 k x a (x.length : Int) (i : Int) (j : Int)) R := by
   intro R hR
   refine Ev.step (fun k => (show slices_BinarySearch_string_string.l0 (k + 1) x a (x.length : Int) (i : Int) (j : Int) = _ from by rw [slices_BinarySearch_string_string.l0])) ?_
   simp only [hm, less_ev, Option.bind_some, up_cast ((i + j) / 2) (by omega)]
   exact evIfp (by omega) (evIfp (by omega) (evIfp (by omega) hR))
  by_cases hb : Op.bytesLess (rdOf ByteArray.empty x (((i + j) / 2 : Nat) : Int)).toList a.toList = true
  ·
   obtain ⟨q, b, h1, h2⟩ := ih (j - ((i + j) / 2 + 1)) (by omega) ((i + j) / 2 + 1) j rfl (by omega) hj
   exact ⟨q, b, S (evIfp hb h1), h2⟩
  ·
   obtain ⟨q, b, h1, h2⟩ := ih ((i + j) / 2 - i) (by omega) i ((i + j) / 2) rfl (by omega) (by omega)
   exact ⟨q, b, S (evIfn hb h1), h2⟩
 ·
  have S : ∀ {R : Int × Bool}, Ev (fun k => if (i : Int) < (x.length : Int) then (if 0 ≤ (i : Int) then (if (i : Int) < (x.length : Int) then (if (rdOf ByteArray.empty x (i : Int)).toList = a.toList then (some ((i : Int), true)) else some ((i : Int), false)) else none) else none) else some ((i : Int), false)) R → Ev (fun k => slices_BinarySearch_string_string.l0 k x a (x.length : Int) (i : Int) (j : Int)) R := by
   intro R hR
   refine Ev.step (fun k => (show slices_BinarySearch_string_string.l0 (k + 1) x a (x.length : Int) (i : Int) (j : Int) = _ from by rw [slices_BinarySearch_string_string.l0])) ?_
   refine evIfn (by omega) ?_
   simpa only [slices_isNaN_string.f, bne_self_eq_false, Option.bind_some, Bool.false_eq_true, if_false] using hR
  by_cases h2 : (i : Int) < (x.length : Int)
  ·
   by_cases h3 : (rdOf ByteArray.empty x (i : Int)).toList = a.toList
   ·
    exact ⟨i, true, S (evIfp h2 (evIfp (by omega) (evIfp h2 (evIfp h3 (Ev.now _))))), by omega⟩
   ·
    exact ⟨i, false, S (evIfp h2 (evIfp (by omega) (evIfp h2 (evIfn h3 (Ev.now _))))), by omega⟩
  ·
   exact ⟨i, false, S (evIfn h2 (Ev.now _)), by omega⟩
theorem ev_head1 (hd : List ByteArray) (a : ByteArray) (hl : hd.length < 8796093022207) : ∃ hd', Ev (fun k => headF k [a] hd) hd' ∧ hd'.length ≤ hd.length + 1 := by
 obtain ⟨q, b, h1, h2⟩ := ev_bs_loop hd a (by omega) (hd.length - 0) 0 hd.length rfl (by omega) (by omega)
 have h1' : Ev (fun k => slices_BinarySearch_string_string.f k hd a) ((q : Int), b) := h1
 have S : ∀ {R : List ByteArray}, Ev (fun k => if b = true then some hd else if 0 ≤ (q : Int) ∧ (q : Int) ≤ (hd.length : Int) ∧ hd.length < 8796093022207 then some (insAt hd q a) else none) R → Ev (fun k => headF k [a] hd) R := fun h =>
  Ev.congr (f := fun k => (slices_BinarySearch_string_string.f k hd a).bind fun b => if b.2 = true then some hd else if 0 ≤ b.1 ∧ b.1 ≤ (hd.length : Int) ∧ hd.length < 8796093022207 then some (insAt hd b.1.toNat a) else none) (fun k => rfl) (Ev.bind h1' h)
 cases b with
 | true => exact ⟨hd, S (evIfp rfl (Ev.now _)), by omega⟩
 | false => exact ⟨insAt hd q a, S (evIfn (by decide) (evIfp ⟨by omega, by omega, hl⟩ (Ev.now _))), by rw [insAt_length _ _ _ h2]; omega⟩
/-! ### what an op makes -/
theorem foldl_node : ∀ (args : List (List Cel)) (acc : List Cel), (acc.length + args.flatten.length ≤ 64 → args.foldl nodeStep acc = acc ++ args.flatten) ∧ (64 < acc.length + args.flatten.length → 64 < (args.foldl nodeStep acc).length)
 | [], acc => by simp
 | v :: u, acc => by
  simp only [List.foldl_cons, List.flatten_cons, List.length_append]
  by_cases h : acc.length ≤ 64
  ·
   have e : nodeStep acc v = acc ++ v := by unfold nodeStep; rw [if_pos h]
   rw [e]
   obtain ⟨h1, h2⟩ := foldl_node u (acc ++ v)
   rw [List.length_append] at h1 h2
   exact ⟨fun g => by rw [h1 (by omega), List.append_assoc], fun g => h2 (by omega)⟩
  ·
   have e : nodeStep acc v = acc := by unfold nodeStep; rw [if_neg h]
   rw [e]
   obtain ⟨h1, h2⟩ := foldl_node u acc
   exact ⟨fun g => by omega, fun g => h2 (by omega)⟩
theorem cel_of {c : Cel} (ho : Okc c) {args : List (List Cel)} (ha : args.length = ar c) : (⟨c.f0, (args.length : Int)⟩ : Cel) = c := by
 have h1 : (args.length : Int) = c.f1 := by rw [ha]; unfold ar; have := ho.lo; omega
 rw [h1]
theorem ev_make_big {rules : List Rul} {c : Cel} {args : List (List Cel)} {m : Mst} (ho : Okc c) (ha : args.length = ar c) (hb : 64 < (c :: args.flatten).length) :
 Ev (fun k => makeN k rules c.f0 ⟨1, c, []⟩ args m) (6, ⟨m.ops ++ [⟨1, c, []⟩], m.vals ++ args, m.st, m.hd, m.fu⟩) := by
 unfold makeN
 rw [cel_of ho ha]
 have := (foldl_node args [c]).2 (by simpa [Nat.add_comm] using hb)
 exact evIfp (show (nodeL c args).length > 64 from this) (Ev.now _)
theorem ev_make_of {rules : List Rul} {c : Cel} {args : List (List Cel)} {m : Mst} {r : Int × Mst} (ho : Okc c) (ha : args.length = ar c) (hb : (c :: args.flatten).length ≤ 64)
 (h : Ev (fun k => nodeR k rules (c :: args.flatten) c.f0 args m ⟨m.ops ++ [⟨1, c, []⟩], m.vals ++ args, m.st, m.hd, m.fu⟩) r) : Ev (fun k => makeN k rules c.f0 ⟨1, c, []⟩ args m) r := by
 unfold makeN
 rw [cel_of ho ha]
 have e : nodeL c args = c :: args.flatten := (foldl_node args [c]).1 (by simpa [Nat.add_comm] using hb)
 rw [e]
 exact evIfn (by omega) h
end Go.Proofs.Ytdlkhpfgkghhmaa.P

-- ==== PL7k
/- Plain laws of chapter 7: a term's arguments, of longer terms. -/
namespace Go.Proofs.Ytdlkhpfgkghhmaa.P
open Go.RowKit Go.Proofs.YtdlkhpfgkghhmaaW.PrintWords
theorem ev_refBehind_atW : ∀ (d : Nat) (t : List Cel) (ht : t.length ≤ 1000) (hok : ∀ c ∈ t, Okc c) (a : Nat), t.length - a = d → a ≤ t.length → Ev (fun k => aumbryref04_Behind.f k t (a : Int)) (behS t a 1) := by
 intro d
 induction d using Nat.strongRecOn with
 | _ d ih =>
 intro t ht hok a hd ha
 rcases hs : t.drop a with _ | ⟨c, s⟩
 ·
  have hl := drop_nil_len ha hs
  refine Ev.step (f := fun k => aumbryref04_Behind.j0 k t (a : Int) true) (fun k => by simp only [aumbryref04_Behind.f]; rw [if_neg (by omega)]; congr 1; simp; omega) ?_
  refine Ev.step (f := fun k => some (-1)) (fun k => by simp only [aumbryref04_Behind.j0]; rfl) ?_
  have : behS t a 1 = -1 := by
   unfold behS
   rw [hs]
   rfl
  rw [this]
  exact Ev.now _
 ·
  obtain ⟨h1, h2, h3⟩ := drop_cons hs
  have hc : Okc c := hok c (List.mem_of_mem_drop (hs ▸ List.mem_cons_self ..))
  have har : (ar c : Int) = c.f1 := by unfold ar; have := hc.lo; omega
  have hh := hc.hi
  have hl0 := hc.lo
  refine Ev.step (f := fun k => aumbryref04_Behind.j0 k t (a : Int) false) (fun k => by simp only [aumbryref04_Behind.f]; rw [if_neg (by omega)]; congr 1; simp; omega) ?_
  refine Ev.step (f := fun k => aumbryref04_Behind.l0 k t ((a + 1 : Nat) : Int) (ar c : Int) 0) (fun k => by
   simp only [aumbryref04_Behind.j0]
   rw [if_neg (by simp), if_pos (by omega), if_pos (by omega), rd_cel hs, wrap_up (by omega) (by omega), har]
   rfl) ?_
  have loop : ∀ (m : Nat) (b i : Nat), t.length - b < d → b ≤ t.length → i + m = ar c → Ev (fun k => aumbryref04_Behind.l0 k t (b : Int) (ar c : Int) (i : Int)) (behS t b m) := by
   intro m
   induction m with
   | zero =>
    intro b i hb hbl hi
    refine Ev.step (f := fun _ => some (b : Int)) (fun k => by simp only [aumbryref04_Behind.l0]; rw [if_neg (by omega)]) ?_
    have : behS t b 0 = (b : Int) := by
     unfold behS
     rw [segN_zero]
     simp only [List.length_drop]
     omega
    rw [this]
    exact Ev.now _
   | succ m ihm =>
    intro b i hb hbl hi
    refine Ev.step (f := fun k => (aumbryref04_Behind.f k t (b : Int)).bind fun r => aumbryref04_Behind.l0 k t r (ar c : Int) ((i + 1 : Nat) : Int)) (fun k => by
     simp only [aumbryref04_Behind.l0]
     rw [if_pos (by omega), if_pos (by omega), wrap_up (by omega) (by omega)]
     rfl) ?_
    refine Ev.bind (ih _ hb t ht hok b rfl hbl) ?_
    have hadd : segN (t.drop b) (m + 1) = (segN (t.drop b) 1).bind fun r => segN r m := by rw [show m + 1 = 1 + m by omega]; exact segN_add _ _ _
    cases hr : segN (t.drop b) 1 with
    | none =>
     have e1 : behS t b 1 = -1 := by unfold behS; rw [hr]
     have e2 : behS t b (m + 1) = -1 := by unfold behS; rw [hadd, hr]; rfl
     rw [e1, e2]
     refine Ev.step (f := fun _ => some (-1 : Int)) (fun k => ?_) (Ev.now _)
     simp only [aumbryref04_Behind.l0]
     split <;> simp
    | some r =>
     obtain ⟨q, hq1, hq2⟩ := segN_suffix hr
     rw [List.drop_drop] at hq2
     have hlen := segN_len hr
     simp only [List.length_drop] at hlen hq1
     have hrl : r.length = t.length - (b + q) := by rw [← hq2, List.length_drop]
     have e1 : behS t b 1 = ((b + q : Nat) : Int) := by unfold behS; rw [hr]; simp only; omega
     have e2 : behS t b (m + 1) = behS t (b + q) m := by unfold behS; rw [hadd, hr, hq2]; rfl
     rw [e1, e2]
     exact ihm (b + q) (i + 1) (by omega) (by omega) (by omega)
  have : behS t a 1 = behS t (a + 1) (ar c) := by
   unfold behS
   rw [hs, h3]
   show (match segN s (0 + ar c) with | none => (-1 : Int) | some r => _) = _
   rw [Nat.zero_add]
   rfl
  rw [this]
  exact loop (ar c) (a + 1) 0 (by omega) (by omega) (by omega)
theorem ev_refBehindW (t : List Cel) (ht : t.length ≤ 1000) (hok : ∀ c ∈ t, Okc c) (a : Nat) (ha : a ≤ t.length) : Ev (fun k => aumbryref04_Behind.f k t (a : Int)) (behS t a 1) := ev_refBehind_atW _ t ht hok a rfl ha
theorem ev_rkids_loopW (t : List Cel) (ht : t.length ≤ 1000) (hok : ∀ c ∈ t, Okc c) : ∀ (n a : Nat) (out : List (List Cel)), a ≤ t.length → segN (t.drop a) n = some [] → out.length ≤ a →
 Ev (fun k => aumbryref04_Kids.l0 k t out (a : Int)) (out ++ splitT n (t.drop a))
 | 0, a, out, ha, hn, ho => by
  rw [segN_zero] at hn
  injection hn with hn
  have := drop_nil_len ha hn
  refine Ev.step (fun k => (show aumbryref04_Kids.l0 (k + 1) t out (a : Int) = _ from by rw [aumbryref04_Kids.l0])) ?_
  refine evIfn (by omega) ?_
  simp only [splitT, List.append_nil]
  exact Ev.now _
 | n + 1, a, out, ha, hn, ho => by
  obtain ⟨r, hr1, hr2⟩ := segN_split hn
  have hlt := (segN_len hr1).2 (by omega)
  rw [List.length_drop] at hlt
  obtain ⟨q, hq, hqr⟩ := segN_suffix hr1
  rw [List.drop_drop] at hqr
  rw [List.length_drop] at hq
  have hrl : r.length = t.length - (a + q) := by rw [← hqr, List.length_drop]
  have hb : behS t a 1 = ((a + q : Nat) : Int) := by
   unfold behS
   rw [hr1]
   simp only
   omega
  have hq0 : 0 < q := by omega
  have hpart : ((t.take (((a + q : Nat) : Int)).toNat).drop ((a : Int)).toNat : List Cel) = fstT (t.drop a) r := by
   unfold fstT
   rw [List.length_drop]
   simp only [Int.toNat_natCast]
   rw [List.drop_take]
   congr 1
   omega
  have hbh := ev_refBehindW t ht hok a ha
  rw [hb] at hbh
  refine Ev.step (fun k => (show aumbryref04_Kids.l0 (k + 1) t out (a : Int) = _ from by rw [aumbryref04_Kids.l0])) ?_
  refine evIfp (by omega) ?_
  refine Ev.bind hbh ?_
  refine evIfp (by omega) (evIfp (by omega) (evIfp (by omega) ?_))
  have hfl : (fstT (t.drop a) r).length = q := by unfold fstT; rw [List.length_take, List.length_drop]; omega
  simp only [hpart]
  refine Ev.bind (evIs (copy_at _ (by omega))) ?_
  refine evIfp (by omega) ?_
  refine Ev.bind hbh ?_
  have := ev_rkids_loopW t ht hok n (a + q) (out ++ [fstT (t.drop a) r]) (by omega) (by rw [hqr]; exact hr2) (by simp; omega)
  have e : out ++ splitT (n + 1) (t.drop a) = out ++ [fstT (t.drop a) r] ++ splitT n (t.drop (a + q)) := by
   simp only [splitT, hr1, hqr, List.append_assoc, List.singleton_append]
  rw [e]
  exact this
theorem ev_rkidsW {c : Cel} {l : List Cel} (h1 : (c :: l).length ≤ 1000) (h2 : ∀ x ∈ c :: l, Okc x) (h3 : segN l (ar c) = some []) : Ev (fun k => aumbryref04_Kids.f k (c :: l)) (splitT (ar c) l) := by
 unfold aumbryref04_Kids.f
 exact ev_rkids_loopW (c :: l) h1 h2 (ar c) 1 [] (by simp) h3 (by simp)
end Go.Proofs.Ytdlkhpfgkghhmaa.P

-- ==== PF26
namespace Go.Proofs.Ytdlkhpfgkghhmaa.P
open Go.RowKit Go.Proofs.YtdlkhpfgkghhmaaW.PrintWords Go.Proofs.YtdlkhpfgkghhmaaW.PrintLast Go.Proofs.YtdlkhpfgkghhmaaW.PrintMore
attribute [local go_sem] max2_int min2_int max_two min_two max_three min_three max_four min_four

/-! ### aumbryref07_Inner: function 26 -/
mutual
def aumbryref07_Inner.l0 : Nat → List (S73) → List (S54) → Int → Option ((List (S54)) × Int × Int)
 | 0, _, _, _ => none
 | k + 1, x0, x1, x2 => (aumbryref04_Kids.f k x1).bind fun t101 => (if 0 < (x1.length : Int) then (aumbryref07_Inner.l1 k x0 x2 t101 (([(⟨(rd_T54 x1 0).f0, (rd_T54 x1 0).f1⟩ : S54)] : List (S54))) (t101.length : Int) 0) else (none))
def aumbryref07_Inner.l1 : Nat → List (S73) → Int → List (List (S54)) → List (S54) → Int → Int → Option ((List (S54)) × Int × Int)
 | 0, _, _, _, _, _, _ => none
 | k + 1, x0, x2, x9, x10, x25, x26 => if x26 < x25 then (if 0 ≤ x26 then (if x26 < (x9.length : Int) then ((aumbryref07_Inner.f k x0 (rd_L3 x9 x26) x2).bind fun bt109 => (if bt109.2.2 = 0 then (if x10.length + bt109.1.length < 5864062014805 then (aumbryref07_Inner.l1 k x0 bt109.2.1 x9 (x10 ++ bt109.1) x25 (wrap64 (x26 + 1))) else (none)) else (some (([] : List (S54)), 0, bt109.2.2)))) else (none)) else (none)) else (if (x10.length : Int) > 64 then (some (([] : List (S54)), 0, 6)) else ((aumbryref07_First.f k x0 x10).bind fun bt117 => (if bt117.1 < 0 then (some (x10, x2, 0)) else (if x2 ≤ 0 then (some (([] : List (S54)), 0, 14)) else (if 0 ≤ bt117.1 then (if bt117.1 < (x0.length : Int) then ((aumbryref05_Var.f k ((rd_T73 x0 bt117.1).f2)).bind fun t122 => (if t122 = true then (if 0 < (((rd_T73 x0 bt117.1).f2).length : Int) then ((aumbryref05_At.f k bt117.2 ((rd_T54 ((rd_T73 x0 bt117.1).f2) 0).f0)).bind fun t124 => (if 0 ≤ t124 then (if t124 < (bt117.2.length : Int) then ((aumbryref04_Copy.f ((rd_T104 bt117.2 t124).f1)).bind fun t126 => (some (t126, wrap64 (x2 - 1), 0))) else (none)) else (none))) else (none)) else ((aumbryref05_Put.f k ((rd_T73 x0 bt117.1).f2) bt117.2).bind fun t129 => (if (t129.length : Int) > 4000 then (some (([] : List (S54)), 0, 6)) else (aumbryref07_Inner.l0 k x0 t129 (wrap64 (x2 - 1))))))) else (none)) else (none))))))
def aumbryref07_Inner.f : Nat → List (S73) → List (S54) → Int → Option ((List (S54)) × Int × Int)
 | 0, _, _, _ => none
 | k + 1, l0, l1, a2 => aumbryref07_Inner.l0 k l0 l1 a2
end
end Go.Proofs.Ytdlkhpfgkghhmaa.P

-- ==== PL7i
/- Plain laws of chapter 7: the normal form by definition, in big steps. -/
namespace Go.Proofs.Ytdlkhpfgkghhmaa.P
open Go.RowKit Go.Proofs.YtdlkhpfgkghhmaaW.PrintWords
theorem ev_unique {α : Type} {g : Nat → Option α} {a b : α} (h1 : Ev g a) (h2 : Ev g b) : a = b := by
 obtain ⟨K1, h1⟩ := h1
 obtain ⟨K2, h2⟩ := h2
 exact Option.some.inj ((h1 (max K1 K2) (Nat.le_max_left _ _)).symm.trans (h2 _ (Nat.le_max_right _ _)))
def putL (H : ByteArray → List Cel) (l : List Cel) : List Cel := l.flatMap fun c => if 0 < (H c.f0).length then H c.f0 else [c]
theorem putL_append (H : ByteArray → List Cel) (a b : List Cel) : putL H (a ++ b) = putL H a ++ putL H b := by simp [putL]
theorem putL_yes {H : ByteArray → List Cel} {c : Cel} (l : List Cel) (h : 0 < (H c.f0).length) : putL H (c :: l) = H c.f0 ++ putL H l := by simp [putL, h]
theorem putL_no {H : ByteArray → List Cel} {c : Cel} (l : List Cel) (h : ¬ 0 < (H c.f0).length) : putL H (c :: l) = c :: putL H l := by
 unfold putL
 rw [List.flatMap_cons, if_neg h]
 rfl
theorem putL_none (l : List Cel) : putL (fun _ => []) l = l := by
 induction l with
 | nil => rfl
 | cons c l ih => rw [putL_no _ (by simp), ih]
theorem putS_putL {o : List Bnd7} : ∀ (l : List Cel), (∀ d ∈ l, (0 < (bindL o d.f0).length ↔ kindS d.f0 = 2) ∧ (kindS d.f0 = 2 → M.lookB o d.f0 = some (bindL o d.f0))) → M.putS l o = some (putL (bindL o) l)
 | [], _ => rfl
 | c :: l, h => by
  have T := putS_putL l (fun d hd => h d (List.mem_cons_of_mem _ hd))
  obtain ⟨h1, h2⟩ := h c (List.mem_cons_self ..)
  unfold M.putS
  by_cases hk : kindS c.f0 = 2
  ·
   rw [if_pos hk, h2 hk, T, putL_yes _ (h1.2 hk)]
   rfl
  ·
   rw [if_neg hk, T, putL_no _ (fun q => hk (h1.1 q))]
   rfl
inductive RefSeq (rules : List Rul) : Nat → List (List Cel) → List (List Cel) → Nat → Prop
 | nil {F : Nat} : RefSeq rules F [] [] F
 | cons {F F1 F2 : Nat} {t v : List Cel} {ts vs : List (List Cel)} : Ev (fun k => aumbryref07_Inner.f k rules t (F : Int)) (v, (F1 : Int), 0) → v.length ≤ 64 → RefSeq rules F1 ts vs F2 → RefSeq rules F (t :: ts) (v :: vs) F2
inductive RefErr (rules : List Rul) : Nat → List (List Cel) → Int → Prop
 | here {F : Nat} {t : List Cel} {ts : List (List Cel)} {e : Int} : e ≠ 0 → Ev (fun k => aumbryref07_Inner.f k rules t (F : Int)) ([], 0, e) → RefErr rules F (t :: ts) e
 | later {F F1 : Nat} {t v : List Cel} {ts : List (List Cel)} {e : Int} : Ev (fun k => aumbryref07_Inner.f k rules t (F : Int)) (v, (F1 : Int), 0) → v.length ≤ 64 → RefErr rules F1 ts e → RefErr rules F (t :: ts) e
theorem inner_l1 {rules : List Rul} {F : Nat} {kids : List (List Cel)} {acc t : List Cel} {i : Nat} {ts : List (List Cel)} {R : List Cel × Int × Int} (hk : kids.length ≤ 1000) (hd : kids.drop i = t :: ts)
 (h : Ev (fun k => (aumbryref07_Inner.f k rules t (F : Int)).bind fun b => if b.2.2 = 0 then (if acc.length + b.1.length < 5864062014805 then aumbryref07_Inner.l1 k rules b.2.1 kids (acc ++ b.1) (kids.length : Int) ((i + 1 : Nat) : Int) else none) else some ([], 0, b.2.2)) R) :
 Ev (fun k => aumbryref07_Inner.l1 k rules (F : Int) kids acc (kids.length : Int) (i : Int)) R := by
 obtain ⟨h1, _, _⟩ := drop_cons hd
 refine Ev.step (fun k => (show aumbryref07_Inner.l1 (k + 1) rules (F : Int) kids acc (kids.length : Int) (i : Int) = _ from by rw [aumbryref07_Inner.l1])) ?_
 simp only [rd_trm hd, up_cast i (by omega)]
 exact evIfp (by omega) (evIfp (by omega) (evIfp (by omega) h))
theorem inner_loop {rules : List Rul} {F F' : Nat} {ts vs : List (List Cel)} (h : RefSeq rules F ts vs F') : ∀ (kids : List (List Cel)) (i : Nat) (acc : List Cel), kids.length ≤ 1000 → i ≤ kids.length → kids.drop i = ts → acc.length + 64 * ts.length ≤ 1000000 →
 ∀ R, Ev (fun k => aumbryref07_Inner.l1 k rules (F' : Int) kids (acc ++ vs.flatten) (kids.length : Int) (kids.length : Int)) R → Ev (fun k => aumbryref07_Inner.l1 k rules (F : Int) kids acc (kids.length : Int) (i : Int)) R := by
 induction h with
 | nil =>
  intro kids i acc hk hi hd hs R hR
  have := drop_nil_len hi hd
  rw [List.flatten_nil, List.append_nil] at hR
  rw [this]
  exact hR
 | @cons F F1 F2 t v ts vs a b _ ih =>
  intro kids i acc hk hi hd hs R hR
  obtain ⟨h1, _, h3⟩ := drop_cons hd
  simp only [List.length_cons] at hs
  refine inner_l1 hk hd (Ev.bind a (evIfp rfl (evIfp (by show acc.length + v.length < _; omega) ?_)))
  refine ih kids (i + 1) (acc ++ v) hk (by omega) h3 (by simp; omega) R ?_
  rw [List.append_assoc, ← List.flatten_cons]
  exact hR
theorem inner_loop_err {rules : List Rul} {F : Nat} {ts : List (List Cel)} {e : Int} (h : RefErr rules F ts e) : ∀ (kids : List (List Cel)) (i : Nat) (acc : List Cel), kids.length ≤ 1000 → i ≤ kids.length → kids.drop i = ts → acc.length + 64 * ts.length ≤ 1000000 →
 e ≠ 0 ∧ Ev (fun k => aumbryref07_Inner.l1 k rules (F : Int) kids acc (kids.length : Int) (i : Int)) ([], 0, e) := by
 induction h with
 | here he a =>
  intro kids i acc hk hi hd hs
  exact ⟨he, inner_l1 hk hd (Ev.bind a (evIfn he (Ev.now _)))⟩
 | @later F F1 t v ts e a b _ ih =>
  intro kids i acc hk hi hd hs
  obtain ⟨h1, _, h3⟩ := drop_cons hd
  simp only [List.length_cons] at hs
  obtain ⟨he, T⟩ := ih kids (i + 1) (acc ++ v) hk (by omega) h3 (by simp; omega)
  exact ⟨he, inner_l1 hk hd (Ev.bind a (evIfp rfl (evIfp (by show acc.length + v.length < _; omega) T)))⟩
/-! ### the end of a round -/
theorem inner_end {rules : List Rul} {F : Nat} {kids : List (List Cel)} {node : List Cel} {R : List Cel × Int × Int}
 (h : Ev (fun k => if (node.length : Int) > 64 then some (([] : List Cel), (0 : Int), (6 : Int)) else (aumbryref07_First.f k rules node).bind fun b => if b.1 < 0 then some (node, (F : Int), 0) else if (F : Int) ≤ 0 then some ([], 0, 14) else if 0 ≤ b.1 then (if b.1 < (rules.length : Int) then ((aumbryref05_Var.f k (rd_T73 rules b.1).f2).bind fun t => if t = true then (if 0 < ((rd_T73 rules b.1).f2.length : Int) then ((aumbryref05_At.f k b.2 (rd_T54 (rd_T73 rules b.1).f2 0).f0).bind fun j => if 0 ≤ j then (if j < (b.2.length : Int) then ((aumbryref04_Copy.f (rd_T104 b.2 j).f1).bind fun v => some (v, wrap64 ((F : Int) - 1), 0)) else none) else none) else none) else ((aumbryref05_Put.f k (rd_T73 rules b.1).f2 b.2).bind fun t => if (t.length : Int) > 4000 then some ([], 0, 6) else aumbryref07_Inner.l0 k rules t (wrap64 ((F : Int) - 1)))) else none) else none) R) :
 Ev (fun k => aumbryref07_Inner.l1 k rules (F : Int) kids node (kids.length : Int) (kids.length : Int)) R := by
 refine Ev.step (fun k => (show aumbryref07_Inner.l1 (k + 1) rules (F : Int) kids node (kids.length : Int) (kids.length : Int) = _ from by rw [aumbryref07_Inner.l1])) ?_
 exact evIfn (by omega) h
theorem inner_big {rules : List Rul} {F : Nat} {kids : List (List Cel)} {node : List Cel} (h : 64 < node.length) : Ev (fun k => aumbryref07_Inner.l1 k rules (F : Int) kids node (kids.length : Int) (kids.length : Int)) ([], 0, 6) :=
 inner_end (evIfp (by omega) (Ev.now _))
theorem inner_none {rules : List Rul} {F : Nat} {kids : List (List Cel)} {node : List Cel} (hr : Rls rules) (hl : rules.length ≤ 2513169434915) (hn : checkS node = 0) (hf : fitS rules node = none) : Ev (fun k => aumbryref07_Inner.l1 k rules (F : Int) kids node (kids.length : Int) (kids.length : Int)) (node, (F : Int), 0) := by
 have := checkS_len hn
 obtain ⟨j, x, h1, h2, _⟩ := ev_first hn hr hl
 rw [h2 hf] at h1
 exact inner_end (evIfn (by omega) (Ev.bind h1 (evIfp (show (-1 : Int) < 0 by decide) (Ev.now _))))
theorem inner_fuel {rules : List Rul} {kids : List (List Cel)} {node : List Cel} (hr : Rls rules) (hl : rules.length ≤ 2513169434915) (hn : checkS node = 0) {r : Rul} {o : List Bnd7} (hf : fitS rules node = some (r, o)) : Ev (fun k => aumbryref07_Inner.l1 k rules ((0 : Nat) : Int) kids node (kids.length : Int) (kids.length : Int)) ([], 0, 14) := by
 have := checkS_len hn
 obtain ⟨j, x, h1, _, h3⟩ := ev_first hn hr hl
 obtain ⟨rfl, a, rfl, h4, h5⟩ := h3 r o hf
 exact inner_end (evIfn (by omega) (Ev.bind h1 (evIfn (by simp) (evIfp (by simp) (Ev.now _)))))
theorem inner_l0 {rules : List Rul} {F : Int} {c : Cel} {l : List Cel} (h1 : (c :: l).length ≤ 1000) (h2 : ∀ x ∈ c :: l, Okc x) (h3 : segN l (ar c) = some []) {R : List Cel × Int × Int} (h : Ev (fun k => aumbryref07_Inner.l1 k rules F (splitT (ar c) l) [c] ((splitT (ar c) l).length : Int) 0) R) : Ev (fun k => aumbryref07_Inner.l0 k rules (c :: l) F) R := by
 refine Ev.step (fun k => (show aumbryref07_Inner.l0 (k + 1) rules (c :: l) F = _ from by rw [aumbryref07_Inner.l0])) ?_
 exact Ev.bind (ev_rkidsW h1 h2 h3) (evIfp (by simp) h)
theorem inner_f {rules : List Rul} {F : Int} {t : List Cel} {R : List Cel × Int × Int} (h : Ev (fun k => aumbryref07_Inner.l0 k rules t F) R) : Ev (fun k => aumbryref07_Inner.f k rules t F) R :=
 Ev.step (fun k => (show aumbryref07_Inner.f (k + 1) rules t F = _ from by rw [aumbryref07_Inner.f])) h
/-! ### terms that are normal already -/
theorem val7_parts {rules : List Rul} : ∀ (n : Nat) (l : List Cel), segN l n = some [] → (∀ c ∈ l, Okc c ∧ kindS c.f0 ≠ 2) → l.length ≤ 64 → Quiet rules l → ∀ v ∈ splitT n l, Val7 rules v ∧ v.length ≤ l.length
 | 0, l, _, _, _, _, v, hv => by cases hv
 | n + 1, l, hs, ho, hl, hq, v, hv => by
  obtain ⟨r, h1, h2⟩ := segN_split hs
  obtain ⟨e, h3⟩ := segN_fst h1
  have hle : l.length = (fstT l r).length + r.length := by conv => lhs; rw [e, List.length_append]
  simp only [splitT, h1, List.mem_cons] at hv
  rcases hv with rfl | hv
  ·
   have hm : ∀ c ∈ fstT l r, c ∈ l := fun c hc => mem_fstT hc
   exact ⟨⟨gndS_iff.2 ⟨checkS_of (by omega) (fun c hc => (ho c (hm c hc)).1) h3, fun c hc => (ho c (hm c hc)).2⟩, quiet_infix hq (x := []) (z := r) (by rw [List.nil_append]; exact e), by omega⟩, by omega⟩
  ·
   have hm : ∀ c ∈ r, c ∈ l := fun c hc => by rw [e]; exact List.mem_append_right _ hc
   obtain ⟨g1, g2⟩ := val7_parts n r h2 (fun c hc => ho c (hm c hc)) (by omega) (quiet_infix hq (x := fstT l r) (z := []) (by rw [List.append_nil]; exact e)) v hv
   exact ⟨g1, by omega⟩
theorem refSeq_same {rules : List Rul} {F : Nat} : ∀ (vs : List (List Cel)), (∀ v ∈ vs, Ev (fun k => aumbryref07_Inner.f k rules v (F : Int)) (v, (F : Int), 0) ∧ v.length ≤ 64) → RefSeq rules F vs vs F
 | [], _ => .nil
 | v :: vs, h => .cons (h v (List.mem_cons_self ..)).1 (h v (List.mem_cons_self ..)).2 (refSeq_same vs (fun w hw => h w (List.mem_cons_of_mem _ hw)))
theorem inner_quiet {rules : List Rul} (hr : Rls rules) (hl : rules.length ≤ 2513169434915) (F : Nat) : ∀ (n : Nat) (v : List Cel), v.length ≤ n → Val7 rules v → Ev (fun k => aumbryref07_Inner.f k rules v (F : Int)) (v, (F : Int), 0)
 | 0, v, hn, hv => by have := ok_pos (gndS_iff.1 hv.gnd).1; omega
 | n + 1, v, hn, hv => by
  obtain ⟨hc, hk⟩ := gndS_iff.1 hv.gnd
  obtain ⟨g1, g2, g3⟩ := checkS_ok hc
  obtain ⟨c, l, rfl, hs⟩ := cons_term hc
  simp only [List.length_cons] at g1 hn
  have hsp := splitT_spec (ar c) l hs
  have har : ar c ≤ 4 := by have := (g2 c (List.mem_cons_self ..)).hi; unfold ar; omega
  have hp := val7_parts (rules := rules) (ar c) l hs (fun x hx => ⟨g2 x (List.mem_cons_of_mem _ hx), hk x (List.mem_cons_of_mem _ hx)⟩) (by omega) (quiet_infix hv.quiet (x := [c]) (z := []) (by simp))
  have S : RefSeq rules F (splitT (ar c) l) (splitT (ar c) l) F := refSeq_same _ (fun w hw => ⟨inner_quiet hr hl F n w (by have := (hp w hw).2; omega) (hp w hw).1, (hp w hw).1.len⟩)
  refine inner_f (inner_l0 (by simp; omega) g2 hs (inner_loop S (splitT (ar c) l) 0 [c] (by omega) (by omega) rfl (by simp; omega) _ ?_))
  rw [hsp.1]
  exact inner_none hr hl hc (hv.quiet [] (c :: l) [] (by simp) g3)
end Go.Proofs.Ytdlkhpfgkghhmaa.P

-- ==== PL7e
/- Plain laws of chapter 7: the machine comes to what the definition comes to. -/
namespace Go.Proofs.Ytdlkhpfgkghhmaa.P
open Go.RowKit Go.Proofs.YtdlkhpfgkghhmaaW.PrintWords
theorem inner_step {rules : List Rul} {F : Nat} {kids : List (List Cel)} {node l : List Cel} {c0 : Cel} (hr : Rls rules) (hl : rules.length ≤ 2513169434915) (hn : gndS node = true) (en : node = c0 :: l) (hq : Quiet rules l) (hF : F ≤ 1000000) {r : Rul} {o : List Bnd7} (hf : fitS rules node = some (r, o))
 {R : List Cel × Int × Int} (hR : Ev (fun k => aumbryref07_Inner.f k rules (putL (bindL o) r.f2) (F : Int)) R) : Ev (fun k => aumbryref07_Inner.l1 k rules ((F + 1 : Nat) : Int) kids node (kids.length : Int) (kids.length : Int)) R := by
 have hc := (gndS_iff.1 hn).1
 have h64 := checkS_len hc
 obtain ⟨hmem, x, hm⟩ := fitS_mem hf
 replace hm : M.mat r.f1 node [] = some (o, x) := hm
 have hru := hr r hmem
 obtain ⟨b1, b2, b3⟩ := bind_ok (rules := rules) hru hn en hq hm
 obtain ⟨g1, g2, g3, g4, g5, g6, _, _⟩ := ruleS_ok hru
 obtain ⟨p1, p2, p3⟩ := checkS_ok g2
 obtain ⟨j, y, h1, _, h3⟩ := ev_first hc hr hl
 obtain ⟨rfl, a, rfl, h4, h5⟩ := h3 r o hf
 have hw : wrap64 (((F + 1 : Nat) : Int) - 1) = (F : Int) := by rw [wrap_id (by omega) (by omega)]; omega
 refine inner_end (evIfn (by omega) (Ev.bind h1 ?_))
 simp only [h5, hw]
 refine evIfn (by omega) (evIfn (by omega) (evIfp (by omega) (evIfp (by omega) (Ev.bind (ev_var7 r.f2) ?_))))
 obtain ⟨c, u, e2, hs2⟩ := cons_term g2
 by_cases hv : kindS c.f0 = 2
 ·
  have har : ar c = 0 := by have := (p2 c (by rw [e2]; exact List.mem_cons_self ..)).var hv; unfold ar; rw [this]; rfl
  have hu : u = [] := by rw [har, segN_zero] at hs2; injection hs2
  subst hu
  obtain ⟨q1, q2⟩ := b3 c (by rw [e2]; exact List.mem_cons_self ..)
  obtain ⟨⟨i, t1, t2, t3, t4⟩, q4, q5⟩ := q2 hv
  rw [e2] at hR ⊢
  refine evIfp (by show (kindS c.f0 == 2) = true; rw [hv]; rfl) (evIfp (by simp) (Ev.bind t1 (evIfp (by omega) (evIfp (by show (i : Int) < (y.length : Int); omega) ?_))))
  rw [t3]
  refine Ev.bind (evIs (copy_at _ t4)) ?_
  rw [putL_yes [] (q1.2 hv), show putL (bindL y) [] = [] from rfl, List.append_nil] at hR
  rw [ev_unique hR (inner_quiet hr hl F _ _ (Nat.le_refl _) q4)]
  exact Ev.now _
 ·
  refine evIfn (by rw [e2]; cases u with
   | nil => simpa using hv
   | cons a l => simp) ?_
  have hput : M.putS r.f2 y = some (putL (bindL y) r.f2) := putS_putL r.f2 (fun d hd => ⟨(b3 d hd).1, fun hk => ((b3 d hd).2 hk).2.2⟩)
  have P := M.ev_put_loop r.f2 y p1 b1 (by omega) r.f2 0 [] _ (by omega) rfl (by simp) hput
  rw [List.nil_append] at P
  have hlen : (putL (bindL y) r.f2).length ≤ 64 * r.f2.length := by
   have : ∀ (s : List Cel), (∀ d ∈ s, d ∈ r.f2) → (putL (bindL y) s).length ≤ 64 * s.length := by
    intro s
    induction s with
    | nil => intro _; simp [putL]
    | cons d s ih =>
     intro hsub
     have T := ih fun z hz => hsub z (List.mem_cons_of_mem _ hz)
     obtain ⟨q1, q2⟩ := b3 d (hsub d (List.mem_cons_self ..))
     by_cases hd : 0 < (bindL y d.f0).length
     ·
      rw [putL_yes _ hd, List.length_append, List.length_cons]
      have := (q2 (q1.1 hd)).2.1.len
      omega
     ·
      rw [putL_no _ hd, List.length_cons, List.length_cons]; omega
   exact this r.f2 (fun d hd => hd)
  refine Ev.bind (show Ev (fun k => aumbryref05_Put.f k r.f2 y) (putL (bindL y) r.f2) from P) (evIfn (by omega) ?_)
  obtain ⟨K, hK⟩ := hR
  refine ⟨K, fun k hk => ?_⟩
  have := hK (k + 1) (by omega)
  simp only at this
  rw [aumbryref07_Inner.f] at this
  exact this
/-! ### the two side by side -/
def MOk (rules : List Rul) (o : List Opn) (L F : Nat) (vs : List (List Cel)) (F' : Nat) : Prop :=
 ∀ (rest : List Opn) (vals : List (List Cel)) (st fu : Int) (hd : List ByteArray), fu.toNat = F → 0 ≤ st → rest.length + vals.length + hd.length + st.toNat + 3 * L + 200 * F ≤ 1000000 →
  ∃ (hd' : List ByteArray) (fu' : Int), hd'.length ≤ hd.length + L + 64 * (F - F') ∧ fu'.toNat = F' ∧ ∀ R, EvM rules ⟨rest, vals ++ vs, st + ((F - F' : Nat) : Int), hd', fu'⟩ R → EvM rules ⟨rest ++ o.reverse, vals, st, hd, fu⟩ R
def MErr (rules : List Rul) (o : List Opn) (L F : Nat) (e : Int) : Prop :=
 ∀ (rest : List Opn) (vals : List (List Cel)) (st fu : Int) (hd : List ByteArray), fu.toNat = F → 0 ≤ st → rest.length + vals.length + hd.length + st.toNat + 3 * L + 200 * F ≤ 1000000 →
  ∃ m, EvM rules ⟨rest ++ o.reverse, vals, st, hd, fu⟩ (e, m)
def Put7 (rules : List Rul) (H : ByteArray → List Cel) (c : Cel) : Prop := Okc c ∧ (0 < (H c.f0).length ↔ kindS c.f0 = 2) ∧ (kindS c.f0 = 2 → Val7 rules (H c.f0))
theorem put7_seg {rules : List Rul} {H : ByteArray → List Cel} {n : Nat} {l : List Cel} {o : List Opn} (h : Po H n l o) : (∀ c ∈ l, Put7 rules H c) → segN (putL H l) n = some [] ∧ ∀ c ∈ putL H l, Okc c ∧ kindS c.f0 ≠ 2 := by
 induction h with
 | nil => intro _; exact ⟨rfl, fun c hc => by cases hc⟩
 | @have_ n c l o hc h ih =>
  intro hp
  obtain ⟨i1, i2⟩ := ih fun x hx => hp x (List.mem_cons_of_mem _ hx)
  obtain ⟨q1, q2, q3⟩ := hp c (List.mem_cons_self ..)
  have hv := q3 (q2.1 hc)
  obtain ⟨z1, z2⟩ := gndS_iff.1 hv.gnd
  obtain ⟨w1, w2, w3⟩ := checkS_ok z1
  rw [putL_yes _ hc]
  refine ⟨?_, fun x hx => ?_⟩
  ·
   rw [Nat.add_comm, segN_add, segN_append _ w3]; exact i1
  ·
   rcases List.mem_append.1 hx with hx | hx
   ·
    exact ⟨w2 x hx, z2 x hx⟩
   ·
    exact i2 x hx
 | @make n c l1 l2 o1 o2 hc h1 h2 ih1 ih2 =>
  intro hp
  obtain ⟨i1, i2⟩ := ih1 fun x hx => hp x (by simp [hx])
  obtain ⟨j1, j2⟩ := ih2 fun x hx => hp x (by simp [hx])
  obtain ⟨q1, q2, q3⟩ := hp c (List.mem_cons_self ..)
  rw [putL_no _ hc, putL_append]
  refine ⟨?_, fun x hx => ?_⟩
  ·
   show segN (putL H l1 ++ putL H l2) (n + ar c) = some []
   rw [Nat.add_comm, segN_add, segN_append _ i1]; exact j1
  ·
   rcases List.mem_cons.1 hx with rfl | hx
   ·
    exact ⟨q1, fun hk => hc (q2.2 hk)⟩
   ·
    rcases List.mem_append.1 hx with hx | hx
    ·
     exact i2 x hx
    ·
     exact j2 x hx
theorem put7_len {rules : List Rul} {H : ByteArray → List Cel} : ∀ {l : List Cel}, (∀ c ∈ l, Put7 rules H c) → (putL H l).length ≤ 64 * l.length
 | [], _ => by simp [putL]
 | c :: l, h => by
  have T := put7_len fun x hx => h x (List.mem_cons_of_mem _ hx)
  obtain ⟨_, q2, q3⟩ := h c (List.mem_cons_self ..)
  by_cases hc : 0 < (H c.f0).length
  ·
   rw [putL_yes _ hc, List.length_append, List.length_cons]
   have := (q3 (q2.1 hc)).len
   omega
  ·
   rw [putL_no _ hc, List.length_cons, List.length_cons]; omega
theorem splitT_put {n : Nat} {v w : List Cel} (h : segN v 1 = some []) : splitT (n + 1) (v ++ w) = v :: splitT n w := by
 cases v with
 | nil => cases h
 | cons c l =>
  have h' : segN l (ar c) = some [] := by
   have h2 : segN l (0 + ar c) = some [] := h
   rwa [Nat.zero_add] at h2
  exact splitT_cons h'
theorem po_small {H : ByteArray → List Cel} {n : Nat} {l : List Cel} {o : List Opn} (h : Po H n l o) : n ≤ l.length := by
 induction h with
 | nil => exact Nat.le_refl _
 | have_ _ _ ih => simp; omega
 | make _ _ _ ih1 ih2 => simp; omega
theorem val7_flat {rules : List Rul} : ∀ {vs : List (List Cel)}, (∀ v ∈ vs, Val7 rules v) → segN vs.flatten vs.length = some [] ∧ Quiet rules vs.flatten ∧ ∀ c ∈ vs.flatten, Okc c ∧ kindS c.f0 ≠ 2
 | [], _ => ⟨rfl, quiet_nil rules, fun c hc => by cases hc⟩
 | v :: vs, h => by
  obtain ⟨h1, h2, h3⟩ := val7_flat fun w hw => h w (List.mem_cons_of_mem _ hw)
  have hv := h v (List.mem_cons_self ..)
  obtain ⟨z1, z2⟩ := gndS_iff.1 hv.gnd
  obtain ⟨w1, w2, w3⟩ := checkS_ok z1
  rw [List.flatten_cons, List.length_cons]
  refine ⟨?_, quiet_append w3 hv.quiet h2, fun x hx => ?_⟩
  ·
   rw [Nat.add_comm, segN_add, segN_append _ w3]; exact h1
  ·
   rcases List.mem_append.1 hx with hx | hx
   ·
    exact ⟨w2 x hx, z2 x hx⟩
   ·
    exact h3 x hx
end Go.Proofs.Ytdlkhpfgkghhmaa.P

-- ==== PL7x
/- Plain laws of chapter 7: the machine comes to what the definition comes to: the big step. -/
namespace Go.Proofs.Ytdlkhpfgkghhmaa.P
open Go.RowKit Go.Proofs.YtdlkhpfgkghhmaaW.PrintWords
def Both (rules : List Rul) (H : ByteArray → List Cel) (n : Nat) (l : List Cel) (o : List Opn) (F : Nat) : Prop :=
 (∃ (vs : List (List Cel)) (F' : Nat), F' ≤ F ∧ vs.length = n ∧ (∀ v ∈ vs, Val7 rules v) ∧ MOk rules o l.length F vs F' ∧ RefSeq rules F (splitT n (putL H l)) vs F') ∨
 (∃ e : Int, e ≠ 0 ∧ MErr rules o l.length F e ∧ RefErr rules F (splitT n (putL H l)) e)
def One7 (rules : List Rul) (c : Cel) (vs1 : List (List Cel)) (F1 : Nat) : Prop :=
 (∃ (v : List Cel) (F2 : Nat), F2 ≤ F1 ∧ Val7 rules v ∧
  (∀ (rest : List Opn) (vals : List (List Cel)) (st fu : Int) (hd : List ByteArray), fu.toNat = F1 → 0 ≤ st → rest.length + vals.length + hd.length + st.toNat + 200 * F1 ≤ 1000000 →
   ∃ (hd' : List ByteArray) (fu' : Int), hd'.length ≤ hd.length + 1 + 64 * (F1 - F2) ∧ fu'.toNat = F2 ∧ ∀ R, EvM rules ⟨rest, vals ++ [v], st + ((F1 - F2 : Nat) : Int), hd', fu'⟩ R → EvM rules ⟨rest ++ [⟨1, c, []⟩], vals ++ vs1, st, hd, fu⟩ R) ∧
  ∀ kids : List (List Cel), Ev (fun k => aumbryref07_Inner.l1 k rules (F1 : Int) kids (c :: vs1.flatten) (kids.length : Int) (kids.length : Int)) (v, (F2 : Int), 0)) ∨
 (∃ e : Int, e ≠ 0 ∧
  (∀ (rest : List Opn) (vals : List (List Cel)) (st fu : Int) (hd : List ByteArray), fu.toNat = F1 → 0 ≤ st → rest.length + vals.length + hd.length + st.toNat + 200 * F1 ≤ 1000000 → ∃ m, EvM rules ⟨rest ++ [⟨1, c, []⟩], vals ++ vs1, st, hd, fu⟩ (e, m)) ∧
  ∀ kids : List (List Cel), Ev (fun k => aumbryref07_Inner.l1 k rules (F1 : Int) kids (c :: vs1.flatten) (kids.length : Int) (kids.length : Int)) ([], 0, e))
theorem one7 {rules : List Rul} (hr : Rls rules) (hl : rules.length ≤ 1000) {c : Cel} {vs1 : List (List Cel)} {F1 : Nat} (hF : F1 ≤ 1000) (ho : Okc c) (hk : kindS c.f0 ≠ 2) (hlen : vs1.length = ar c) (hv : ∀ v ∈ vs1, Val7 rules v)
 (ihF : ∀ F0, F0 < F1 → ∀ {H : ByteArray → List Cel} {l : List Cel} {o : List Opn}, Po H 1 l o → (∀ d ∈ l, Put7 rules H d) → l.length ≤ 64 → (putL H l).length ≤ 1000 → Both rules H 1 l o F0) : One7 rules c vs1 F1 := by
 obtain ⟨f1, f2, f3⟩ := val7_flat hv
 rw [hlen] at f1
 have hargs : ∀ v ∈ vs1, v.length ≤ 64 := fun v h => (hv v h).len
 rcases Nat.lt_or_ge 64 (c :: vs1.flatten).length with hb | hb
 ·
  refine .inr ⟨6, by decide, fun rest vals st fu hd hfu hst hbd => ⟨_, evM_make ho hlen hargs (ev_make_big (m := ⟨rest, vals, st, hd, fu⟩) ho hlen hb) (fun h => absurd h (show ¬ (6 : Int) = 0 by decide)) (fun _ => rfl)⟩, fun kids => inner_big hb⟩
 ·
  have hseg : segN (c :: vs1.flatten) 1 = some [] := by
   show segN vs1.flatten (0 + ar c) = some []
   rw [Nat.zero_add]; exact f1
  have hoc : ∀ x ∈ c :: vs1.flatten, Okc x ∧ kindS x.f0 ≠ 2 := fun x hx => by
   rcases List.mem_cons.1 hx with rfl | hx
   ·
    exact ⟨ho, hk⟩
   ·
    exact f3 x hx
  have hcn : checkS (c :: vs1.flatten) = 0 := checkS_of hb (fun x hx => (hoc x hx).1) hseg
  have hgn : gndS (c :: vs1.flatten) = true := gndS_iff.2 ⟨hcn, fun x hx => (hoc x hx).2⟩
  cases hf : fitS rules (c :: vs1.flatten) with
  | none =>
   refine .inl ⟨c :: vs1.flatten, F1, Nat.le_refl _, ⟨hgn, quiet_node f1 f2 hf, hb⟩, fun rest vals st fu hd hfu hst hbd => ?_, fun kids => inner_none hr (by omega) hcn hf⟩
   obtain ⟨hd', h1, h2⟩ := ev_head1 hd c.f0 (by omega)
   refine ⟨hd', fu, by omega, hfu, fun R hR => ?_⟩
   rw [Nat.sub_self, show st + ((0 : Nat) : Int) = st by simp] at hR
   refine evM_make (r := (0, ⟨rest, vals ++ [c :: vs1.flatten], st, hd', fu⟩)) ho hlen hargs (ev_make_of (m := ⟨rest, vals, st, hd, fu⟩) ho hlen hb ?_) (fun _ => hR) (fun h => absurd rfl h)
   unfold nodeR
   refine Ev.bind (ev_fitsF hcn hr) ?_
   rw [hf]
   exact Ev.bind (f := fun k hd => if vals.length < 5864062014800 then some ((0 : Int), (⟨rest, vals ++ [c :: vs1.flatten], st, hd, fu⟩ : Mst)) else none) h1 (evIfp (by omega) (Ev.now _))
  | some x =>
   obtain ⟨r, o⟩ := x
   obtain ⟨hmem, q, hm⟩ := fitS_mem hf
   replace hm : M.mat r.f1 (c :: vs1.flatten) [] = some (o, q) := hm
   have hru := hr r hmem
   obtain ⟨b1, b2, b3⟩ := bind_ok (rules := rules) hru hgn rfl f2 hm
   cases F1 with
   | zero =>
    refine .inr ⟨14, by decide, fun rest vals st fu hd hfu hst hbd => ⟨⟨rest ++ [⟨1, c, []⟩], vals ++ vs1, st, hd, fu⟩, evM_make (r := (14, ⟨rest ++ [⟨1, c, []⟩], vals ++ vs1, st, hd, fu⟩)) ho hlen hargs (ev_make_of (m := ⟨rest, vals, st, hd, fu⟩) ho hlen hb ?_) (fun h => absurd h (show ¬ (14 : Int) = 0 by decide)) (fun _ => rfl)⟩, fun kids => inner_fuel hr (by omega) hcn hf⟩
    unfold nodeR
    refine Ev.bind (ev_fitsF hcn hr) ?_
    rw [hf]
    exact evIfp (show fu ≤ 0 by omega) (Ev.now _)
   | succ F0 =>
    obtain ⟨g1, g2, g3, g4, g5, g6, _, _⟩ := ruleS_ok hru
    obtain ⟨p1, p2, p3⟩ := checkS_ok g2
    have hput : ∀ d ∈ r.f2, Put7 rules (bindL o) d := fun d hd => ⟨p2 d hd, (b3 d hd).1, fun hk2 => ((b3 d hd).2 hk2).2.1⟩
    obtain ⟨o', hpo⟩ := po_of (H := bindL o) r.f2.length r.f2 1 (Nat.le_refl _) (fun d hd hp => by
     have := (p2 d hd).var ((b3 d hd).1.1 hp)
     unfold ar; rw [this]; rfl) p3
    have hpl := put7_len hput
    have hol := po_len hpo
    have mstep : ∀ (rest : List Opn) (vals : List (List Cel)) (st fu : Int) (hd : List ByteArray), fu.toNat = F0 + 1 → 0 ≤ st → rest.length + vals.length + hd.length + st.toNat + 200 * (F0 + 1) ≤ 1000000 →
     ∃ hd1, hd1.length ≤ hd.length + 1 ∧ ∀ R, EvM rules ⟨rest ++ o'.reverse, vals, st + 1, hd1, fu - 1⟩ R → EvM rules ⟨rest ++ [⟨1, c, []⟩], vals ++ vs1, st, hd, fu⟩ R := by
     intro rest vals st fu hd hfu hst hbd
     obtain ⟨hd1, h1, h2⟩ := ev_head1 hd c.f0 (by omega)
     refine ⟨hd1, h2, fun R hR => ?_⟩
     refine evM_make (r := (0, ⟨rest ++ o'.reverse, vals, st + 1, hd1, fu - 1⟩)) ho hlen hargs (ev_make_of (m := ⟨rest, vals, st, hd, fu⟩) ho hlen hb ?_) (fun _ => hR) (fun h => absurd rfl h)
     unfold nodeR
     refine Ev.bind (ev_fitsF hcn hr) ?_
     rw [hf]
     refine evIfn (show ¬ fu ≤ 0 by omega) (evIfp ⟨by show fu ≤ _; omega, by show _ ≤ st; omega, by show st < _; omega, b1⟩ ?_)
     refine Ev.bind (f := fun k hd => (todoL (bindL o) r.f2 k 0 []).bind fun r => if rest.length + r.1.length < 2513169434900 then some ((0 : Int), (⟨rest ++ r.1.reverse, vals, st + 1, hd, fu - 1⟩ : Mst)) else none) h1 ?_
     exact Ev.bind (ev_todo g2 hpo) (evIfp (by show rest.length + o'.length < _; omega) (Ev.now _))
    have hsp : splitT 1 (putL (bindL o) r.f2) = [putL (bindL o) r.f2] := by
     have := splitT_put (n := 0) (w := []) (put7_seg hpo hput).1
     rwa [List.append_nil] at this
    rcases ihF F0 (by omega) hpo hput (by omega) (by omega) with ⟨vs, F2, e1, e2, e3, e4, e5⟩ | ⟨e, e1, e2, e3⟩
    ·
     rw [hsp] at e5
     obtain ⟨v, rfl⟩ : ∃ v, vs = [v] := by
      cases vs with
      | nil => cases e2
      | cons a u => cases u with
       | nil => exact ⟨a, rfl⟩
       | cons b w => simp at e2
     cases e5 with
     | cons a b k =>
     cases k
     refine .inl ⟨v, F2, by omega, e3 v (List.mem_singleton.2 rfl), fun rest vals st fu hd hfu hst hbd => ?_, fun kids => inner_step hr (by omega) hgn rfl f2 (by omega) hf a⟩
     obtain ⟨hd1, h2, S⟩ := mstep rest vals st fu hd hfu hst hbd
     obtain ⟨hd2, fu2, i1, i2, i3⟩ := e4 rest vals (st + 1) (fu - 1) hd1 (by omega) (by omega) (by omega)
     refine ⟨hd2, fu2, by omega, i2, fun R hR => S R (i3 R ?_)⟩
     rw [show st + 1 + ((F0 - F2 : Nat) : Int) = st + ((F0 + 1 - F2 : Nat) : Int) by omega]
     exact hR
    ·
     rw [hsp] at e3
     refine .inr ⟨e, e1, fun rest vals st fu hd hfu hst hbd => ?_, fun kids => ?_⟩
     ·
      obtain ⟨hd1, h2, S⟩ := mstep rest vals st fu hd hfu hst hbd
      obtain ⟨m, hm2⟩ := e2 rest vals (st + 1) (fu - 1) hd1 (by omega) (by omega) (by omega)
      exact ⟨m, S _ hm2⟩
     ·
      cases e3 with
      | here _ a => exact inner_step hr (by omega) hgn rfl f2 (by omega) hf a
      | later _ _ k => cases k
theorem eval7 {rules : List Rul} (hr : Rls rules) (hl : rules.length ≤ 1000) : ∀ (F : Nat), F ≤ 1000 → ∀ {H : ByteArray → List Cel} {n : Nat} {l : List Cel} {o : List Opn}, Po H n l o → (∀ c ∈ l, Put7 rules H c) → l.length ≤ 64 → (putL H l).length ≤ 1000 → Both rules H n l o F := by
 intro Fm
 induction Fm using Nat.strongRecOn with
 | _ Fm ihF =>
 intro hFm H n l o h
 suffices T : (∀ c ∈ l, Put7 rules H c) → l.length ≤ 64 → (putL H l).length ≤ 1000 → ∀ F, F ≤ Fm → Both rules H n l o F from fun a b c => T a b c Fm (Nat.le_refl _)
 induction h with
 | nil =>
  intro _ _ _ F hF
  refine .inl ⟨[], F, Nat.le_refl _, rfl, (fun v hv => by cases hv), (fun rest vals st fu hd hfu hst hbd => ⟨hd, fu, by omega, hfu, fun R hR => by simpa using hR⟩), .nil⟩
 | @have_ n c l o hc h ih =>
  intro hp hl1 hpl F hF
  obtain ⟨q1, q2, q3⟩ := hp c (List.mem_cons_self ..)
  have hv := q3 (q2.1 hc)
  have hvs := (checkS_ok (gndS_iff.1 hv.gnd).1).2.2
  simp only [List.length_cons] at hl1
  rw [putL_yes _ hc, List.length_append] at hpl
  have hsp : splitT (n + 1) (putL H (c :: l)) = H c.f0 :: splitT n (putL H l) := by rw [putL_yes _ hc]; exact splitT_put hvs
  have hin := inner_quiet hr (by omega) F _ (H c.f0) (Nat.le_refl _) hv
  unfold Both
  rw [hsp]
  rcases ih (fun x hx => hp x (List.mem_cons_of_mem _ hx)) (by omega) (by omega) F hF with ⟨vs, F', e1, e2, e3, e4, e5⟩ | ⟨e, e1, e2, e3⟩
  ·
   refine .inl ⟨H c.f0 :: vs, F', e1, by simp [e2], fun v hx => ?_, fun rest vals st fu hd hfu hst hbd => ?_, .cons hin hv.len e5⟩
   ·
    rcases List.mem_cons.1 hx with rfl | hx
    ·
     exact hv
    ·
     exact e3 v hx
   ·
    simp only [List.length_cons] at hbd
    obtain ⟨hd', fu', i1, i2, i3⟩ := e4 rest (vals ++ [H c.f0]) st fu hd hfu hst (by simp; omega)
    refine ⟨hd', fu', by simp; omega, i2, fun R hR => ?_⟩
    rw [List.reverse_cons, ← List.append_assoc]
    refine evM_have (by omega) (i3 R ?_)
    rw [List.append_assoc]
    exact hR
  ·
   refine .inr ⟨e, e1, fun rest vals st fu hd hfu hst hbd => ?_, .later hin hv.len e3⟩
   simp only [List.length_cons] at hbd
   obtain ⟨m, hm⟩ := e2 rest (vals ++ [H c.f0]) st fu hd hfu hst (by simp; omega)
   refine ⟨m, ?_⟩
   rw [List.reverse_cons, ← List.append_assoc]
   exact evM_have (by omega) hm
 | @make n c l1 l2 o1 o2 hc h1 h2 ih1 ih2 =>
  intro hp hl1 hpl F hF
  obtain ⟨q1, q2, q3⟩ := hp c (List.mem_cons_self ..)
  have hk : kindS c.f0 ≠ 2 := fun e => hc (q2.2 e)
  have hp1 : ∀ x ∈ l1, Put7 rules H x := fun x hx => hp x (by simp [hx])
  have hp2 : ∀ x ∈ l2, Put7 rules H x := fun x hx => hp x (by simp [hx])
  obtain ⟨s1, s2⟩ := put7_seg h1 hp1
  simp only [List.length_cons, List.length_append] at hl1
  rw [putL_no _ hc, putL_append, List.length_cons, List.length_append] at hpl
  have hsp : splitT (n + 1) (putL H (c :: (l1 ++ l2))) = (c :: putL H l1) :: splitT n (putL H l2) := by rw [putL_no _ hc, putL_append]; exact splitT_cons s1
  have hkids := splitT_spec (ar c) _ s1
  have har : ar c ≤ 4 := by have := q1.hi; unfold ar; omega
  have hok1 : ∀ x ∈ c :: putL H l1, Okc x := fun x hx => by
   rcases List.mem_cons.1 hx with rfl | hx
   ·
    exact q1
   ·
    exact (s2 x hx).1
  have hlo1 := po_len h1
  have hlo2 := po_len h2
  have hn1 := po_small h1
  have hrev : ∀ rest : List Opn, rest ++ (o1 ++ ⟨1, c, []⟩ :: o2).reverse = rest ++ o2.reverse ++ [⟨1, c, []⟩] ++ o1.reverse := fun rest => by simp
  unfold Both
  rw [hsp]
  rcases ih1 hp1 (by omega) (by omega) F hF with ⟨vs1, F1, a1, a2, a3, a4, a5⟩ | ⟨e, a1, a2, a3⟩
  ·
   have inn : ∀ {R : List Cel × Int × Int}, (∀ kids : List (List Cel), Ev (fun k => aumbryref07_Inner.l1 k rules (F1 : Int) kids (c :: vs1.flatten) (kids.length : Int) (kids.length : Int)) R) → Ev (fun k => aumbryref07_Inner.f k rules (c :: putL H l1) (F : Int)) R := fun hR =>
    inner_f (inner_l0 (by simp; omega) hok1 s1 (inner_loop a5 (splitT (ar c) (putL H l1)) 0 [c] (by omega) (by omega) rfl (by simp; omega) _ (hR _)))
   rcases one7 (F1 := F1) hr hl (by omega) q1 hk a2 a3 (fun F0 hF0 => fun a b c d => ihF F0 (by omega) (by omega) a b c d) with ⟨v, F2, b1, b2, b3, b4⟩ | ⟨e, b1, b2, b3⟩
   ·
    rcases ih2 hp2 (by omega) (by omega) F2 (by omega) with ⟨vs2, F3, c1, c2, c3, c4, c5⟩ | ⟨e, c1, c2, c3⟩
    ·
     refine .inl ⟨v :: vs2, F3, by omega, by simp [c2], fun x hx => ?_, fun rest vals st fu hd hfu hst hbd => ?_, .cons (inn b4) b2.len c5⟩
     ·
      rcases List.mem_cons.1 hx with rfl | hx
      ·
       exact b2
      ·
       exact c3 x hx
     ·
      simp only [List.length_cons, List.length_append] at hbd
      obtain ⟨hd1, fu1, i1, i2, i3⟩ := a4 (rest ++ o2.reverse ++ [⟨1, c, []⟩]) vals st fu hd hfu hst (by simp; omega)
      obtain ⟨hd2, fu2, j1, j2, j3⟩ := b3 (rest ++ o2.reverse) vals (st + ((F - F1 : Nat) : Int)) fu1 hd1 i2 (by omega) (by simp; omega)
      obtain ⟨hd3, fu3, k1, k2, k3⟩ := c4 rest (vals ++ [v]) (st + ((F - F1 : Nat) : Int) + ((F1 - F2 : Nat) : Int)) fu2 hd2 j2 (by omega) (by simp; omega)
      refine ⟨hd3, fu3, by simp; omega, k2, fun R hR => ?_⟩
      rw [hrev]
      refine i3 R (j3 R (k3 R ?_))
      rw [List.append_assoc, show st + ((F - F1 : Nat) : Int) + ((F1 - F2 : Nat) : Int) + ((F2 - F3 : Nat) : Int) = st + ((F - F3 : Nat) : Int) by omega]
      exact hR
    ·
     refine .inr ⟨e, c1, fun rest vals st fu hd hfu hst hbd => ?_, .later (inn b4) b2.len c3⟩
     simp only [List.length_cons, List.length_append] at hbd
     obtain ⟨hd1, fu1, i1, i2, i3⟩ := a4 (rest ++ o2.reverse ++ [⟨1, c, []⟩]) vals st fu hd hfu hst (by simp; omega)
     obtain ⟨hd2, fu2, j1, j2, j3⟩ := b3 (rest ++ o2.reverse) vals (st + ((F - F1 : Nat) : Int)) fu1 hd1 i2 (by omega) (by simp; omega)
     obtain ⟨m, hm⟩ := c2 rest (vals ++ [v]) (st + ((F - F1 : Nat) : Int) + ((F1 - F2 : Nat) : Int)) fu2 hd2 j2 (by omega) (by simp; omega)
     refine ⟨m, ?_⟩
     rw [hrev]
     exact i3 _ (j3 _ hm)
   ·
    refine .inr ⟨e, b1, fun rest vals st fu hd hfu hst hbd => ?_, .here b1 (inn b3)⟩
    simp only [List.length_cons, List.length_append] at hbd
    obtain ⟨hd1, fu1, i1, i2, i3⟩ := a4 (rest ++ o2.reverse ++ [⟨1, c, []⟩]) vals st fu hd hfu hst (by simp; omega)
    obtain ⟨m, hm⟩ := b2 (rest ++ o2.reverse) vals (st + ((F - F1 : Nat) : Int)) fu1 hd1 i2 (by omega) (by simp; omega)
    refine ⟨m, ?_⟩
    rw [hrev]
    exact i3 _ hm
  ·
   obtain ⟨_, hI⟩ := inner_loop_err a3 (splitT (ar c) (putL H l1)) 0 [c] (by omega) (by omega) rfl (by simp; omega)
   refine .inr ⟨e, a1, fun rest vals st fu hd hfu hst hbd => ?_, .here a1 (inner_f (inner_l0 (by simp; omega) hok1 s1 hI))⟩
   simp only [List.length_cons, List.length_append] at hbd
   obtain ⟨m, hm⟩ := a2 (rest ++ o2.reverse ++ [⟨1, c, []⟩]) vals st fu hd hfu hst (by simp; omega)
   refine ⟨m, ?_⟩
   rw [hrev]
   exact hm
end Go.Proofs.Ytdlkhpfgkghhmaa.P

-- ==== PL7c
/- Plain laws of chapter 7: may a state be: what the program answers. -/
namespace Go.Proofs.Ytdlkhpfgkghhmaa.P
open Go.RowKit Go.Proofs.YtdlkhpfgkghhmaaW.PrintWords
/-! ### may a state be -/
def mayS (o : Opn) : Bool := if o.f0 = 1 then (o.f2.isEmpty && (kindS o.f1.f0 == 1) && decide (0 ≤ o.f1.f1) && decide (o.f1.f1 ≤ 4)) else if o.f0 = 2 then (o.f1.f0.toList == ([] : List UInt8) && (o.f1.f1 == 0) && gndS o.f2) else false
theorem ev_may (o : Opn) : Ev (fun k => rewrite_may.f k o.f0 o.f1.f0 o.f1.f1 o.f2) (mayS o) := by
 unfold rewrite_may.f mayS
 by_cases h1 : o.f0 = 1
 ·
  rw [if_pos h1]
  refine evIfp h1 ?_
  by_cases h2 : (o.f2.length : Int) = 0
  ·
   refine evIfp h2 (Ev.bind (ev_kind o.f1.f0) ?_)
   have h2' : o.f2.isEmpty = true := by rw [← len_beq_isEmpty, h2]; rfl
   by_cases h3 : kindS o.f1.f0 = 1
   ·
    refine evIfp h3 ?_
    by_cases h4 : o.f1.f1 ≥ 0
    ·
     refine evIfp h4 ?_
     rw [h2', h3, decide_eq_true h4]
     exact Ev.now _
    ·
     refine evIfn h4 ?_
     rw [decide_eq_false h4]
     simp only [Bool.and_false, Bool.false_and]
     exact Ev.now _
   ·
    refine evIfn h3 ?_
    rw [beq_eq_false_iff_ne.mpr h3]
    simp only [Bool.and_false, Bool.false_and]
    exact Ev.now _
  ·
   refine evIfn h2 ?_
   have h2' : o.f2.isEmpty = false := by rw [← len_beq_isEmpty]; exact beq_eq_false_iff_ne.mpr h2
   rw [h2']
   exact Ev.now _
 ·
  rw [if_neg h1]
  refine evIfn h1 ?_
  by_cases h2 : o.f0 = 2
  ·
   rw [if_pos h2]
   refine evIfp h2 ?_
   by_cases h3 : (o.f1.f0.toList == ([] : List UInt8) && (o.f1.f1 == 0)) = true
   ·
    refine evIfp h3 (Ev.bind (ev_ground o.f2) ?_)
    rw [h3, Bool.true_and]
    exact Ev.now _
   ·
    refine evIfn h3 ?_
    rw [Bool.eq_false_iff.mpr h3]
    exact Ev.now _
  ·
   rw [if_neg h2]
   exact evIfn h2 (Ev.now _)
theorem ev_mayL : ∀ (ops : List Opn), Ev (fun k => mayL k ops) (ops.map mayS)
 | [] => Ev.now _
 | o :: u => Ev.bind (f := fun k b => (mayL k u).bind fun l => some (b :: l)) (ev_may o) (Ev.bind (f := fun k l => some (mayS o :: l)) (ev_mayL u) (Ev.now _))
def cntS : List Opn → Int → Option Int
 | [], n => some n
 | o :: u, n => if (mayS o && decide (o.f1.f1 ≤ n)) = true then cntS u (n + 1 - o.f1.f1) else none
theorem mayS_ar {o : Opn} (h : mayS o = true) : 0 ≤ o.f1.f1 ∧ o.f1.f1 ≤ 4 := by
 unfold mayS at h
 by_cases h1 : o.f0 = 1
 ·
  rw [if_pos h1] at h
  simp only [Bool.and_eq_true, decide_eq_true_eq] at h
  exact ⟨h.1.2, h.2⟩
 ·
  rw [if_neg h1] at h
  by_cases h2 : o.f0 = 2
  ·
   rw [if_pos h2] at h
   simp only [Bool.and_eq_true, beq_iff_eq] at h
   omega
  ·
   rw [if_neg h2] at h; cases h
theorem chkB_cnt (ops : List Opn) (hl : ops.length ≤ 2513169434915) : ∀ (xs : List Nat) (n : Int), (∀ x ∈ xs, x < ops.length) → 0 ≤ n → n + xs.length ≤ 100000000000000 →
 chkB ops (fun x => (ops.map mayS).getD x false) xs n = cntS (xs.map fun x : Nat => rd_T70 ops (x : Int)) n
 | [], n, _, _, _ => rfl
 | x :: u, n, hx, h0, hn => by
  have hxl := hx x (List.mem_cons_self ..)
  have h1 : (ops.map mayS).getD x false = mayS (rd_T70 ops (x : Int)) := by
   unfold rd_T70
   simp [List.getD_eq_getElem?_getD, hxl]
  simp only [List.length_cons] at hn
  simp only [chkB, List.map_cons, cntS, h1]
  have ea : arOf ops x = (rd_T70 ops (x : Int)).f1.f1 := rfl
  by_cases hm : mayS (rd_T70 ops (x : Int)) = true
  ·
   have ha := mayS_ar hm
   rw [hm, if_pos rfl, Bool.true_and]
   by_cases hg : (rd_T70 ops (x : Int)).f1.f1 > n
   ·
    rw [if_pos (show arOf ops x > n from hg), if_neg (by simp; omega)]
   ·
    rw [if_neg (show ¬ arOf ops x > n from hg), if_pos (by simp; omega), ea, wrap_id (i := 1 - _) (by omega) (by omega), wrap_id (by omega) (by omega)]
    rw [show n + (1 - (rd_T70 ops (x : Int)).f1.f1) = n + 1 - (rd_T70 ops (x : Int)).f1.f1 by omega]
    exact chkB_cnt ops hl u _ (fun y hy => hx y (List.mem_cons_of_mem _ hy)) (by omega) (by omega)
  ·
   rw [Bool.eq_false_iff.mpr hm, Bool.false_and]
   rw [if_neg (by decide), if_neg (by decide)]
theorem range_rd (ops : List Opn) : ((List.range ops.length).reverse.map fun x : Nat => rd_T70 ops (x : Int)) = ops.reverse := by
 rw [List.map_reverse]
 congr 1
 apply List.ext_getElem
 ·
  simp
 ·
  intro i h1 h2
  simp [rd_T70, h2]
def hdsS : Option ByteArray → List ByteArray → Bool
 | _, [] => true
 | p, h :: u => (kindS h == 1) && (okH p h && hdsS (some h) u)
def rightS (ops : List Opn) (vals : List (List Cel)) (st : Int) (hd : List ByteArray) : Bool := match cntS ops.reverse (vals.length : Int) with
 | none => false
 | some m => vals.all gndS && (hdsS none hd && ((m == 1) && decide (st ≥ 0)))
theorem ev_idxF : ∀ (vals : List (List Cel)) (i : Int), 0 ≤ i → ∃ j, Ev (fun k => idxF k vals i) j ∧ (vals.all gndS = true → j = -1) ∧ (¬ vals.all gndS = true → 0 ≤ j)
 | [], i, h0 => ⟨-1, Ev.now _, fun _ => rfl, fun h => absurd rfl h⟩
 | v :: u, i, h0 => by
  by_cases h : gndS v = true
  ·
   obtain ⟨j, h1, h2, h3⟩ := ev_idxF u (i + 1) (by omega)
   refine ⟨j, Ev.bind (f := fun k b => if b = true then idxF k u (i + 1) else some i) (ev_ground v) (evIfp h h1), ?_, ?_⟩
   ·
    simpa [h] using h2
   ·
    simpa [h] using h3
  ·
   refine ⟨i, Ev.bind (f := fun k b => if b = true then idxF k u (i + 1) else some i) (ev_ground v) (evIfn h (Ev.now _)), ?_, fun _ => h0⟩
   intro e
   simp only [List.all_cons, Bool.and_eq_true] at e
   exact absurd e.1 h
theorem ev_hdsF : ∀ (hd : List ByteArray) (p : Option ByteArray), Ev (fun k => hdsF k p hd) (if hdsS p hd = true then 0 else 3)
 | [], p => by rw [if_pos (by cases p <;> rfl)]; cases p <;> exact Ev.now _
 | h :: u, p => by
  refine Ev.congr (f := fun k => (name_Kind.f k h).bind fun c => if c = 1 then (if okH p h = true then hdsF k (some h) u else some 3) else some 3) (fun k => by cases p <;> rfl) ?_
  have e : hdsS p (h :: u) = ((kindS h == 1) && (okH p h && hdsS (some h) u)) := by cases p <;> rfl
  rw [e]
  refine Ev.bind (ev_kind h) ?_
  by_cases h1 : kindS h = 1
  ·
   refine evIfp h1 ?_
   rw [h1]
   by_cases h2 : okH p h = true
   ·
    refine evIfp h2 ?_
    rw [h2]
    exact ev_hdsF u (some h)
   ·
    refine evIfn h2 ?_
    rw [Bool.eq_false_iff.mpr h2]
    exact Ev.now _
  ·
   refine evIfn h1 ?_
   rw [beq_eq_false_iff_ne.mpr h1]
   exact Ev.now _
theorem ev_chk (ops : List Opn) (vals : List (List Cel)) (st : Int) (hd : List ByteArray) (hl : ops.length ≤ 2513169434915) (hv : vals.length ≤ 5864062014804) : Ev (fun k => chkF k ops vals st hd) (if rightS ops vals st hd = true then 0 else 3) := by
 unfold chkF
 refine Ev.bind (ev_mayL ops) ?_
 rw [chkB_cnt ops hl _ _ (fun x hx => by simpa using hx) (by omega) (by simp; omega), range_rd]
 unfold rightS
 cases cntS ops.reverse (vals.length : Int) with
 | none => exact Ev.now _
 | some m =>
  show Ev (fun k => if m = 1 then (if st < 0 then some 3 else (idxF k vals 0).bind fun i => if 0 ≤ i then some 3 else hdsF k none hd) else some 3) (if (vals.all gndS && (hdsS none hd && ((m == 1) && decide (st ≥ 0)))) = true then 0 else 3)
  by_cases h1 : m = 1
  ·
   refine evIfp h1 ?_
   by_cases h2 : st < 0
   ·
    refine evIfp h2 ?_
    rw [decide_eq_false (show ¬ st ≥ 0 by omega)]
    simp only [Bool.and_false]
    exact Ev.now _
   ·
    refine evIfn h2 ?_
    obtain ⟨j, g1, g2, g3⟩ := ev_idxF vals 0 (by omega)
    refine Ev.bind g1 ?_
    rw [decide_eq_true (show st ≥ 0 by omega), h1]
    by_cases h3 : vals.all gndS = true
    ·
     rw [g2 h3, h3]
     refine evIfn (by omega) ?_
     have := ev_hdsF hd none
     simpa using this
    ·
     refine evIfp (g3 h3) ?_
     rw [Bool.eq_false_iff.mpr h3]
     exact Ev.now _
  ·
   refine evIfn h1 ?_
   rw [beq_eq_false_iff_ne.mpr h1]
   simp only [Bool.and_false, Bool.false_and]
   exact Ev.now _
end Go.Proofs.Ytdlkhpfgkghhmaa.P

-- ==== PL7y
/- Plain laws of chapter 7: what Normal tells. -/
namespace Go.Proofs.Ytdlkhpfgkghhmaa.P
open Go.RowKit Go.Proofs.YtdlkhpfgkghhmaaW.PrintWords
/-! ### copies of states -/
theorem ev_clone1 (vals : List (List Cel)) (x : List Opn) (st : Int) (hd : List ByteArray) (hl : vals.length ≤ 5864062014804) (hs : ∀ a ∈ vals, a.length < 5864062014805) : ∀ (u : List (List Cel)) (i : Nat) (y : List (List Cel)), i ≤ vals.length → vals.drop i = u → y = vals.take i →
 Ev (fun k => rewrite_clone.l1 k vals (vals.length : Int) (i : Int) x y st hd) (x, vals, st, hd)
 | [], i, y, hi, hu, hy => by
  have h1 := drop_nil_len hi hu
  refine Ev.step (fun k => (show rewrite_clone.l1 (k + 1) vals (vals.length : Int) (i : Int) x y st hd = _ from by rw [rewrite_clone.l1])) ?_
  refine evIfn (by omega) ?_
  have : y = vals := by rw [hy, h1, List.take_length]
  rw [this]
  exact Ev.now _
 | a :: u, i, y, hi, hu, hy => by
  obtain ⟨h1, h2, h3⟩ := drop_cons hu
  refine Ev.step (fun k => (show rewrite_clone.l1 (k + 1) vals (vals.length : Int) (i : Int) x y st hd = _ from by rw [rewrite_clone.l1])) ?_
  refine evIfp (by omega) (evIfp (by omega) (evIfp (by omega) ?_))
  simp only [rd_trm hu, up_cast i (by omega)]
  have hm : a ∈ vals := List.mem_of_mem_drop (hu ▸ List.mem_cons_self ..)
  refine Ev.bind (evIs (cloneT_same a (hs a hm))) ?_
  have hyl : y.length = i := by rw [hy, List.length_take]; omega
  refine evIfp (by omega) ?_
  refine ev_clone1 vals x st hd hl hs u (i + 1) (y ++ [a]) (by omega) h3 ?_
  rw [hy, List.take_succ_eq_append_getElem h1]
  have := h2 a
  rw [List.getD_eq_getElem?_getD, List.getElem?_eq_getElem h1] at this
  rw [show vals[i] = a from this]
theorem ev_clone0 (ops : List Opn) (vals : List (List Cel)) (st : Int) (hd : List ByteArray) (hol : ops.length ≤ 2513169434915) (hos : ∀ o ∈ ops, o.f2.length < 5864062014805) (hl : vals.length ≤ 5864062014804) (hs : ∀ a ∈ vals, a.length < 5864062014805) : ∀ (u : List Opn) (i : Nat) (y : List Opn), i ≤ ops.length → ops.drop i = u → y = ops.take i →
 Ev (fun k => rewrite_clone.l0 k ops (ops.length : Int) (i : Int) ops vals st hd y st hd) (ops, vals, st, hd)
 | [], i, y, hi, hu, hy => by
  have h1 := drop_nil_len hi hu
  refine Ev.step (fun k => (show rewrite_clone.l0 (k + 1) ops (ops.length : Int) (i : Int) ops vals st hd y st hd = _ from by rw [rewrite_clone.l0])) ?_
  refine evIfn (by omega) ?_
  have : y = ops := by rw [hy, h1, List.take_length]
  rw [this]
  exact ev_clone1 vals ops st hd hl hs vals 0 [] (by omega) rfl rfl
 | a :: u, i, y, hi, hu, hy => by
  obtain ⟨h1, h2, h3⟩ := drop_cons hu
  refine Ev.step (fun k => (show rewrite_clone.l0 (k + 1) ops (ops.length : Int) (i : Int) ops vals st hd y st hd = _ from by rw [rewrite_clone.l0])) ?_
  refine evIfp (by omega) (evIfp (by omega) (evIfp (by omega) ?_))
  simp only [rd_opn hu, up_cast i (by omega)]
  have hm : a ∈ ops := List.mem_of_mem_drop (hu ▸ List.mem_cons_self ..)
  refine Ev.bind (evIs (cloneT_same a.f2 (hos a hm))) ?_
  have hyl : y.length = i := by rw [hy, List.length_take]; omega
  refine evIfp (by omega) ?_
  refine ev_clone0 ops vals st hd hol hos hl hs u (i + 1) (y ++ [a]) (by omega) h3 ?_
  rw [hy, List.take_succ_eq_append_getElem h1]
  have := h2 a
  rw [List.getD_eq_getElem?_getD, List.getElem?_eq_getElem h1] at this
  rw [show ops[i] = a from this]
theorem ev_clone (ops : List Opn) (vals : List (List Cel)) (st : Int) (hd : List ByteArray) (hol : ops.length ≤ 2513169434915) (hos : ∀ o ∈ ops, o.f2.length < 5864062014805) (hl : vals.length ≤ 5864062014804) (hs : ∀ a ∈ vals, a.length < 5864062014805) (hh : hd.length < 8796093022208) : Ev (fun k => rewrite_clone.f k ops vals st hd) (ops, vals, st, hd) := by
 unfold rewrite_clone.f
 exact Ev.bind (evIs (cloneS_same hd hh)) (ev_clone0 ops vals st hd hol hos hl hs ops 0 [] (by omega) rfl rfl)
/-! ### the state that Start makes may be -/
theorem cnt_po {n : Nat} {l : List Cel} {o : List Opn} (h : Po (fun _ => []) n l o) : (∀ c ∈ l, Okc c ∧ kindS c.f0 ≠ 2) → ∀ (u : List Opn) (m : Int), 0 ≤ m → cntS (o ++ u) m = cntS u (m + n) := by
 induction h with
 | nil => intro _ u m _; simp
 | have_ hc _ _ => simp at hc
 | @make n c l1 l2 o1 o2 hc h1 h2 ih1 ih2 =>
  intro hp u m hm
  obtain ⟨hk, hk2⟩ := hp c (List.mem_cons_self ..)
  have har : ((ar c : Nat) : Int) = c.f1 := by unfold ar; have := hk.lo; omega
  have hkk : kindS c.f0 = 1 := by
   rcases kindS_cases c.f0 with e | e | e
   ·
    exact absurd e hk.kind
   ·
    exact e
   ·
    exact absurd e hk2
  have hmay : mayS ⟨1, c, []⟩ = true := by
   unfold mayS
   rw [if_pos rfl]
   simp only [hkk, decide_eq_true hk.lo, decide_eq_true hk.hi]
   rfl
  rw [List.append_assoc, ih1 (fun x hx => hp x (by simp [hx])) _ m hm]
  simp only [List.cons_append, cntS, hmay, Bool.true_and]
  rw [if_pos (by simp; omega), show m + ((ar c : Nat) : Int) + 1 - c.f1 = m + 1 by omega, ih2 (fun x hx => hp x (by simp [hx])) _ _ (by omega)]
  congr 1
  omega
theorem right_start {t : List Cel} (h : gndS t = true) {o : List Opn} (ho : Po (fun _ => []) 1 t o) : rightS o.reverse [] 0 [] = true := by
 obtain ⟨h1, h2⟩ := gndS_iff.1 h
 have h3 := (checkS_ok h1).2.1
 have := cnt_po ho (fun c hc => ⟨h3 c hc, h2 c hc⟩) [] 0 (Int.le_refl _)
 rw [List.append_nil] at this
 unfold rightS
 rw [List.reverse_reverse, show (([] : List (List Cel)).length : Int) = 0 from rfl, this]
 rfl
theorem po_vals {n : Nat} {l : List Cel} {o : List Opn} (h : Po (fun _ => []) n l o) : ∀ x ∈ o, x.f2.length < 5864062014805 := by
 induction h with
 | nil => intro x hx; cases hx
 | have_ hc _ _ => simp at hc
 | make _ _ _ ih1 ih2 =>
  intro x hx
  rcases List.mem_append.1 hx with hx | hx
  ·
   exact ih1 x hx
  ·
   rcases List.mem_cons.1 hx with rfl | hx
   ·
    simp
   ·
    exact ih2 x hx
/-! ### Normal -/
theorem ev_norm_tog {rules : List Rul} (hl : rules.length ≤ 1000) (h : ¬ togS rules = 0) (t : List Cel) (fu : Int) : Ev (fun k => normF k k rules t fu) ([], 0, togS rules) := by
 unfold normF
 exact Ev.bind (ev_tog rules (by omega)) (evIfn h (Ev.now _))
theorem ev_norm_gnd {rules : List Rul} (hl : rules.length ≤ 1000) (h : togS rules = 0) {t : List Cel} (ht : ¬ gndS t = true) (fu : Int) : Ev (fun k => normF k k rules t fu) ([], 0, if checkS t = 0 then 7 else checkS t) := by
 unfold normF
 refine Ev.bind (ev_tog rules (by omega)) (evIfp h (Ev.bind (ev_start_no ht) (evIfn ?_ (Ev.now _))))
 show ¬ (if checkS t = 0 then (7 : Int) else checkS t) = 0
 by_cases hc : checkS t = 0
 ·
  rw [if_pos hc]; decide
 ·
  rw [if_neg hc]; exact hc
theorem ev_run {rules : List Rul} (hl : rules.length ≤ 1000) (h : togS rules = 0) {t : List Cel} (ht : gndS t = true) {o : List Opn} (ho : Po (fun _ => []) 1 t o) {fu : Int} {R : Int × Mst} (hM : EvM rules ⟨o.reverse, [], 0, [], fu⟩ R) : Ev (fun k => runF k k rules o.reverse [] 0 [] fu) R := by
 have h64 := checkS_len (gndS_iff.1 ht).1
 have hol := po_len ho
 have hc := ev_chk o.reverse [] 0 [] (by simp; omega) (by simp)
 rw [if_pos (right_start ht ho)] at hc
 unfold runF
 refine Ev.bind (ev_tog rules (by omega)) (evIfp h (Ev.bind hc (evIfp rfl (Ev.bind (ev_clone o.reverse [] 0 [] (by simp; omega) (fun x hx => po_vals ho x (by simpa using hx)) (by simp) (by simp) (by simp)) ?_))))
 obtain ⟨K, hK⟩ := hM
 exact ⟨K, fun k hk => hK k k hk hk⟩
theorem ev_norm_err {rules : List Rul} (hl : rules.length ≤ 1000) (h : togS rules = 0) {t : List Cel} (ht : gndS t = true) {o : List Opn} (ho : Po (fun _ => []) 1 t o) {fu e : Int} {m : Mst} (he : e ≠ 0) (hM : EvM rules ⟨o.reverse, [], 0, [], fu⟩ (e, m)) : Ev (fun k => normF k k rules t fu) ([], 0, e) := by
 unfold normF
 refine Ev.bind (ev_tog rules (by omega)) (evIfp h (Ev.bind (ev_start_ok ht ho) (evIfp rfl (Ev.bind (ev_run hl h ht ho hM) (evIfn he (Ev.now _))))))
theorem ev_norm_ok {rules : List Rul} (hl : rules.length ≤ 1000) (h : togS rules = 0) {t : List Cel} (ht : gndS t = true) {o : List Opn} (ho : Po (fun _ => []) 1 t o) {fu st fu' : Int} {v : List Cel} {hd : List ByteArray} (hM : EvM rules ⟨o.reverse, [], 0, [], fu⟩ (0, ⟨[], [v], st, hd, fu'⟩)) : Ev (fun k => normF k k rules t fu) (v, st, 0) := by
 unfold normF
 refine Ev.bind (ev_tog rules (by omega)) (evIfp h (Ev.bind (ev_start_ok ht ho) (evIfp rfl (Ev.bind (ev_run hl h ht ho hM) (evIfp rfl (evIfp (by simp) (Ev.now _)))))))
theorem splitT_one {t : List Cel} (h : segN t 1 = some []) : splitT 1 t = [t] := by
 have := splitT_put (n := 0) (w := []) h
 rwa [List.append_nil] at this
theorem norm7 {rules : List Rul} (hl : rules.length ≤ 1000) (h : togS rules = 0) {t : List Cel} (ht : gndS t = true) (fu : Int) (hfu : fu ≤ 300) :
 (∃ (v : List Cel) (F' : Nat), F' ≤ fu.toNat ∧ Val7 rules v ∧ Ev (fun k => normF k k rules t fu) (v, ((fu.toNat - F' : Nat) : Int), 0) ∧ Ev (fun k => aumbryref07_Inner.f k rules t (fu.toNat : Int)) (v, (F' : Int), 0)) ∨
 (∃ e : Int, e ≠ 0 ∧ Ev (fun k => normF k k rules t fu) ([], 0, e) ∧ Ev (fun k => aumbryref07_Inner.f k rules t (fu.toNat : Int)) ([], 0, e)) := by
 obtain ⟨h1, h2⟩ := gndS_iff.1 ht
 obtain ⟨g1, g2, g3⟩ := checkS_ok h1
 obtain ⟨o, ho⟩ := gnd_po ht
 have hP : ∀ c ∈ t, Put7 rules (fun _ => []) c := fun c hc => ⟨g2 c hc, ⟨fun q => by simp at q, fun q => absurd q (h2 c hc)⟩, fun q => absurd q (h2 c hc)⟩
 have B := eval7 (rules := rules) (togS_ok h) hl fu.toNat (by omega) ho hP g1 (by rw [putL_none]; omega)
 unfold Both at B
 rw [putL_none, splitT_one g3] at B
 rcases B with ⟨vs, F', e1, e2, e3, e4, e5⟩ | ⟨e, e1, e2, e3⟩
 ·
  obtain ⟨v, rfl⟩ : ∃ v, vs = [v] := by
   cases vs with
   | nil => cases e2
   | cons a u => cases u with
    | nil => exact ⟨a, rfl⟩
    | cons b w => simp at e2
  cases e5 with
  | cons a b k =>
  cases k
  obtain ⟨hd', fu', i1, i2, i3⟩ := e4 [] [] 0 fu [] rfl (Int.le_refl _) (by simp; omega)
  have M := i3 _ (evM_done rfl)
  rw [List.nil_append, Int.zero_add, List.nil_append] at M
  exact .inl ⟨v, F', e1, e3 v (List.mem_singleton.2 rfl), ev_norm_ok hl h ht ho M, a⟩
 ·
  obtain ⟨m, hm⟩ := e2 [] [] 0 fu [] rfl (Int.le_refl _) (by simp; omega)
  rw [List.nil_append] at hm
  refine .inr ⟨e, e1, ev_norm_err hl h ht ho e1 hm, ?_⟩
  cases e3 with
  | here _ a => exact a
  | later _ _ k => cases k
theorem mx_nat (a : Int) : mx a 0 = (a.toNat : Int) := by unfold mx; split <;> omega
end Go.Proofs.Ytdlkhpfgkghhmaa.P

-- ==== PL7z
/- Plain laws of chapter 7: a normal form is its own normal form; no rule fits in it. -/
namespace Go.Proofs.Ytdlkhpfgkghhmaa.P
open Go.RowKit Go.Proofs.YtdlkhpfgkghhmaaW.PrintWords
theorem norm_self {rules : List Rul} (hl : rules.length ≤ 1000) (h : togS rules = 0) {v : List Cel} (hv : Val7 rules v) (fu : Int) (hfu : fu ≤ 300) : Ev (fun k => normF k k rules v fu) (v, 0, 0) := by
 have Q := inner_quiet (togS_ok h) (by omega) fu.toNat _ v (Nat.le_refl _) hv
 rcases norm7 hl h hv.gnd fu hfu with ⟨w, F', e1, e2, e3, e4⟩ | ⟨e, e1, e2, e3⟩
 ·
  have := ev_unique e4 Q
  injection this with q1 q2
  injection q2 with q2 _
  subst q1
  rw [show fu.toNat - F' = 0 by omega] at e3
  exact e3
 ·
  have := ev_unique e3 Q
  injection this with q1 q2
  injection q2 with _ q2
  exact absurd q2 e1
theorem ev_fits_loop {rules : List Rul} (kids : List (List Cel)) (hk : kids.length ≤ 1000) : ∀ (u : List (List Cel)) (i : Nat), i ≤ kids.length → kids.drop i = u → (∀ v ∈ u, Ev (fun k => aumbryref07_Fits.f k rules v) false) → Ev (fun k => aumbryref07_Fits.l0 k rules kids (kids.length : Int) (i : Int)) false
 | [], i, hi, hu, _ => by
  have h1 := drop_nil_len hi hu
  refine Ev.step (fun k => (show aumbryref07_Fits.l0 (k + 1) rules kids (kids.length : Int) (i : Int) = _ from by rw [aumbryref07_Fits.l0])) ?_
  exact evIfn (by omega) (Ev.now _)
 | v :: u, i, hi, hu, h => by
  obtain ⟨h1, h2, h3⟩ := drop_cons hu
  refine Ev.step (fun k => (show aumbryref07_Fits.l0 (k + 1) rules kids (kids.length : Int) (i : Int) = _ from by rw [aumbryref07_Fits.l0])) ?_
  simp only [rd_trm hu, up_cast i (by omega)]
  refine evIfp (by omega) (evIfp (by omega) (evIfp (by omega) (Ev.bind (h v (List.mem_cons_self ..)) (evIfn (by decide) ?_))))
  exact ev_fits_loop kids hk u (i + 1) (by omega) h3 (fun w hw => h w (List.mem_cons_of_mem _ hw))
theorem ev_fits {rules : List Rul} (hr : Rls rules) (hl : rules.length ≤ 2513169434915) : ∀ (n : Nat) (v : List Cel), v.length ≤ n → Val7 rules v → Ev (fun k => aumbryref07_Fits.f k rules v) false
 | 0, v, hn, hv => by have := ok_pos (gndS_iff.1 hv.gnd).1; omega
 | n + 1, v, hn, hv => by
  obtain ⟨hc, hk⟩ := gndS_iff.1 hv.gnd
  obtain ⟨g1, g2, g3⟩ := checkS_ok hc
  obtain ⟨c, l, rfl, hs⟩ := cons_term hc
  have g1' := g1
  simp only [List.length_cons] at g1 hn
  have hsp := splitT_spec (ar c) l hs
  have har : ar c ≤ 4 := by have := (g2 c (List.mem_cons_self ..)).hi; unfold ar; omega
  have hp := val7_parts (rules := rules) (ar c) l hs (fun x hx => ⟨g2 x (List.mem_cons_of_mem _ hx), hk x (List.mem_cons_of_mem _ hx)⟩) (by omega) (quiet_infix hv.quiet (x := [c]) (z := []) (by simp))
  obtain ⟨j, x, h1, h2, _⟩ := ev_first hc hr hl
  rw [h2 (hv.quiet [] (c :: l) [] (by simp) g3)] at h1
  refine Ev.step (fun k => (show aumbryref07_Fits.f (k + 1) rules (c :: l) = _ from by rw [aumbryref07_Fits.f])) ?_
  refine Ev.bind h1 (evIfn (show ¬ (-1 : Int) ≥ 0 by decide) (Ev.bind (ev_rkids g1' g2 hs) ?_))
  exact ev_fits_loop _ (by omega) _ 0 (by omega) rfl (fun w hw => ev_fits hr hl n w (by have := (hp w hw).2; omega) (hp w hw).1)
end Go.Proofs.Ytdlkhpfgkghhmaa.P

-- ==== PureRewriteDone
/- What Normal tells is ground, and no rule fits in any part of it; it is its own normal form, in no steps: for all rules, terms and fuels that can be read as data, the law answers true. -/
namespace Go.Proofs.Ytdlkhpfgkghhmaa.Pure
open Go.RowKit Go.Proofs.Ytdlkhpfgkghhmaa.P Go.Proofs.YtdlkhpfgkghhmaaW.PrintWords
theorem RewriteDone : aumbrylaw07_RewriteDone.Pure := by
 intro rules t fu hs ht hf
 have htl := sz_len ht
 have hrl : rules.length ≤ 2513169434915 := by have := hs.1; omega
 have hrs : ∀ r ∈ rules, r.f1.length < 5864062014805 ∧ r.f2.length < 5864062014805 := fun r hr => ⟨sz_len (hs.2 r hr).2.1, sz_len (hs.2 r hr).2.2⟩
 refine Ev.rounds ?_
 unfold aumbrylaw07_RewriteDone.f
 refine Ev.bind aumbrylaw07_wakes.ev_true (evIfp rfl ?_)
 unfold aumbrylaw07_few.f
 by_cases hl : (rules.length : Int) ≤ 64
 case neg => exact Ev.bind (a := false) (by exact evIfn hl (Ev.now _)) (evIfn (by decide) (Ev.now _))
 by_cases h3 : fu ≤ 300
 case neg => exact Ev.bind (a := false) (by exact evIfp hl (by rw [decide_eq_false h3]; exact Ev.now _)) (evIfn (by decide) (Ev.now _))
 refine Ev.bind (a := true) (by exact evIfp hl (by rw [decide_eq_true h3]; exact Ev.now _)) (evIfp rfl ?_)
 refine Ev.bind (ev_rules rules hrl hrs) (Ev.bind (evIs (copy_at t htl)) ?_)
 by_cases h : togS rules = 0
 case neg => exact Ev.bind (show Ev (fun k => rewrite_Normal.f k rules t fu) _ from ev_norm_tog (by omega) h t fu) (evIfn h (evIfp rfl (Ev.now _)))
 by_cases hg : gndS t = true
 case neg =>
  refine Ev.bind (show Ev (fun k => rewrite_Normal.f k rules t fu) _ from ev_norm_gnd (by omega) h hg fu) (evIfn ?_ (evIfp rfl (Ev.now _)))
  show ¬ (if checkS t = 0 then (7 : Int) else checkS t) = 0
  by_cases hc : checkS t = 0
  ·
   rw [if_pos hc]; decide
  ·
   rw [if_neg hc]; exact hc
 rcases norm7 (by omega) h hg fu h3 with ⟨v, F', e1, e2, e3, e4⟩ | ⟨e, e1, e2, e3⟩
 ·
  have hvl := e2.len
  refine Ev.bind (show Ev (fun k => rewrite_Normal.f k rules t fu) _ from e3) (evIfp rfl (Ev.bind (ev_rGround v) (evIfp e2.gnd (Ev.bind (ev_fits (togS_ok h) hrl _ v (Nat.le_refl _) e2) (evIfn (by decide) ?_)))))
  rw [mx_nat]
  have hd : decide (((fu.toNat - F' : Nat) : Int) > (fu.toNat : Int)) = false := decide_eq_false (by omega)
  show Ev (fun k => aumbrylaw07_RewriteDone.j0 k rules v (decide (((fu.toNat - F' : Nat) : Int) > (fu.toNat : Int)))) true
  rw [hd]
  refine Ev.step (fun k => (show aumbrylaw07_RewriteDone.j0 (k + 1) rules v false = _ from by rw [aumbrylaw07_RewriteDone.j0])) ?_
  refine evIfn (by decide) (Ev.bind (ev_rules rules hrl hrs) (Ev.bind (evIs (copy_at v (by omega))) ?_))
  refine Ev.bind (show Ev (fun k => rewrite_Normal.f k rules v 0) _ from norm_self (by omega) h e2 0 (by omega)) (evIfp rfl (evIfp rfl ?_))
  exact Ev.bind (ev_refSame4 v v (.inl (by omega))) (by rw [decide_eq_true rfl]; exact Ev.now _)
 ·
  exact Ev.bind (show Ev (fun k => rewrite_Normal.f k rules t fu) _ from e2) (evIfn e1 (evIfp rfl (Ev.now _)))
end Go.Proofs.Ytdlkhpfgkghhmaa.Pure

-- ==== RowRewriteDone
namespace Go.Proofs.Ytdlkhpfgkghhmaa.rewriteDone
open Go.ChangeShapes Go.WideShapes Go.ChangeAt Go.RowKit Go.Proofs.YtdlkhpfgkghhmaaW.PrintWords Go.Proofs.Ytdlkhpfgkghhmaa.P Go.Proofs.Ytdlkhpfgkghhmaa.Open
open Go.ChangeMaps (open_string shut_string)
theorem own : ownKnob Try.prog.godebug = none := by kernel_rfl
theorem laidOut : laidOutB Try.prog = true := by kernel_rfl
set_option maxRecDepth 100000 in
theorem core {H : Type} {enc : TypeId × Value → H} (W : World) (base : Nat) (args : Array Value) (ds gs : List (DataW H)) (before : List MemPlace)
 (hval : ∀ (j : Nat) t v, Try.f7.params[j]? = some t → args[j]? = some v → Value.okWide Try.prog W .any base t v)
 (hW : DataW.Whole enc Try.prog Try.f7.params.toList Rows.rewriteDoneSpec.vars false W args.toList ds gs before)
 (hsz : (DataW.weightsEach Try.prog (Try.f7.params.toList ++ Rows.rewriteDoneSpec.plain.varTypes Try.prog) (ds ++ gs)).all (· ≤ reachBytes) = true)
 :
 Calls Try.prog 7 args W fun e W' => ∃ v, e = .returned v ∧ Rows.rewriteDoneSpec.post enc Try.prog Try.f7 false true false false W args v W' := by
 have hW' := hW
 obtain ⟨p, q, hA, hV, rfl, hfz, hnd⟩ := hW
 rw [Try.params7] at hA hval hsz
 obtain ⟨v0, vs0, d0, ds0, p0, q0, hargs, rfl, rfl, h0, r0⟩ := trodAll_cons hA
 obtain ⟨v1, vs1, d1, ds1, p1, q1, rfl, rfl, rfl, h1, r1⟩ := trodAll_cons r0
 obtain ⟨v2, vs2, d2, ds2, p2, q2, rfl, rfl, rfl, h2, r2⟩ := trodAll_cons r1
 obtain ⟨rfl, rfl, rfl⟩ := trodAll_nil r2
 obtain rfl : args = #[v0, v1, v2] := by cases args; simp_all
 obtain ⟨rfl, rfl⟩ := trodVars_none hV
 have k0 := h0
 obtain ⟨n0, hf0⟩ := h0
 obtain ⟨x0, hK0, hS0, hB0⟩ := op41.go hf0 (fun m hm => by have := List.all_eq_true.1 hsz m (DataW.weights_mem_each (j := 0) rfl rfl m hm); simpa using this)
 have lt0 : ∀ z ∈ p0, z.block < W.heap.size := by obtain ⟨m, hm⟩ := k0; exact DataW.trod_lt m _ _ _ hm
 obtain ⟨a0, len0, cap0, rfl⟩ := okWide_slice Try.underlying41 (hval 0 41 v0 rfl rfl)
 obtain ⟨A0, c0, hcs0, hc0, hr0⟩ := hK0
 have hcs0' : [(Value.slice a0 len0 cap0)] = [.slice A0 x0.length c0] := hcs0
 injection hcs0' with hcs0'
 injection hcs0' with ha0 hl0 hk0
 subst ha0 hl0 hk0
 have k1 := h1
 obtain ⟨n1, hf1⟩ := h1
 obtain ⟨x1, hK1, hS1, hB1⟩ := op23.go hf1 (fun m hm => by have := List.all_eq_true.1 hsz m (DataW.weights_mem_each (j := 1) rfl rfl m hm); simpa using this)
 have lt1 : ∀ z ∈ p1, z.block < W.heap.size := by obtain ⟨m, hm⟩ := k1; exact DataW.trod_lt m _ _ _ hm
 obtain ⟨a1, len1, cap1, rfl⟩ := okWide_slice Try.underlying23 (hval 1 23 v1 rfl rfl)
 obtain ⟨A1, c1, hcs1, hc1, hr1⟩ := hK1
 have hcs1' : [(Value.slice a1 len1 cap1)] = [.slice A1 x1.length c1] := hcs1
 injection hcs1' with hcs1'
 injection hcs1' with ha1 hl1 hk1
 subst ha1 hl1 hk1
 have k2 := h2
 obtain ⟨n2, hf2⟩ := h2
 obtain ⟨x2, hK2, hS2, hB2⟩ := op3.go hf2 (fun m hm => by have := List.all_eq_true.1 hsz m (DataW.weights_mem_each (j := 2) rfl rfl m hm); simpa using this)
 have lt2 : ∀ z ∈ p2, z.block < W.heap.size := by obtain ⟨m, hm⟩ := k2; exact DataW.trod_lt m _ _ _ hm
 obtain ⟨y2, rfl⟩ := okWide_int Try.underlying3 (hval 2 3 v2 rfl rfl)
 have hcs2' : [_] = [_] := hK2
 injection hcs2' with hcs2'
 injection hcs2' with _ hq2
 subst hq2
 obtain ⟨k, h⟩ := Pure.RewriteDone x0 x1 y2 hS0 hS1 hS2
 refine (aumbrylaw07_RewriteDone.calls k _ _ x0 _ _ x1 y2 true W hr0 hc0 hr1 hc1 h rfl).mono ?_
 rintro e W' ⟨rfl, hd⟩
 have bel : Below W.heap.size W W' := hd
 exact ⟨_, rfl, _, _, _, [], _, [], hW', trodAll_mk1 (shut_bool Try.underlying4 _), (trodAll_cons_mk (Below.trod laidOut (by kernel_rfl) (of_decide_eq_true (by kernel_rfl)) k0 bel lt0) (trodAll_cons_mk (Below.trod laidOut (by kernel_rfl) (of_decide_eq_true (by kernel_rfl)) k1 bel lt1) (trodAll_cons_mk (Below.trod laidOut (by kernel_rfl) (of_decide_eq_true (by kernel_rfl)) k2 bel lt2) trodAll_mk0))), rfl, bel.frame _, fun h => by cases h⟩
set_option maxRecDepth 100000 in
theorem lifted (os : Os) (started : os.Started) (H : Type) (enc : TypeId × Value → H) :
 ReturnsInHanded {} Try.checked os 7 .any (Rows.rewriteDoneSpec.pre6 enc Try.prog Try.f7 Rows.rewriteDoneRow.domain false) (Rows.rewriteDoneSpec.post enc Try.prog Try.f7 false true false false) := by
 refine returnsInHanded_of_change_sized (C := Try.checked) own started (by kernel_rfl) Try.func7
  (ChangeSpec.witness6 (enc := enc) (C := Try.checked) false ⟨#[], #[.slice none 0 0, .slice none 0 0, .int .i64 0], []⟩ 8 (by kernel_rfl) (by kernel_rfl) (by kernel_rfl) (by kernel_rfl)) ?_
 intro W base args ds gs before hval0 hW hcnd hsz0 _
 exact core W base args ds gs before hval0 hW hsz0
theorem over : Rows.rewriteDoneRow.holds Try.pinned (OpenSpec.ofChange Rows.rewriteDoneSpec) :=
 OpenClaim.holds_of_wide 7 Try.f7 rfl rfl rfl rfl rfl rfl rfl ⟨rfl, rfl, rfl, rfl, rfl⟩ rfl rfl rfl rfl rfl (by kernel_rfl) Try.func7 (by kernel_rfl)
  (of_decide_eq_true (by kernel_rfl)) (by unfold Func.isWrapper; first | (rw [if_pos (by decide +kernel)]; kernel_rfl) | (rw [if_neg (by decide +kernel)]; exact ⟨rfl, rfl⟩))
  (fun os started H enc _ => lifted os started H enc)
theorem proved : Rows.RewriteDoneSaid := over
end Go.Proofs.Ytdlkhpfgkghhmaa.rewriteDone
namespace Go.Proofs.Ytdlkhpfgkghhmaa
theorem rewriteDone_holds : Rows.RewriteDoneSaid := rewriteDone.proved
#print axioms rewriteDone_holds
end Go.Proofs.Ytdlkhpfgkghhmaa
