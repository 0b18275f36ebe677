/- RewriteStarts: the law answers true at every input that the given row speaks of. Conditions: those of the given row, none besides. (Part 6 of 6; written by programs of this session, which drive the kit's print, and by hand.) -/
import Derived.Test.YtdlkhpfgkghhmaaRows
import Derived.WalkKit
import Derived.ProofKit
import Derived.OpenShut
import Derived.ShutString
import Derived.ChangeOld
import Derived.Below
import Derived.Carry
import Derived.SizedLaws
import Derived.KernelRfl
import Derived.Test.YtdlkhpfgkghhmaaZRewriteStarts2
import Derived.Test.YtdlkhpfgkghhmaaZRewriteStarts3
import Derived.Test.YtdlkhpfgkghhmaaZRewriteStarts4
set_option maxHeartbeats 8000000
set_option maxRecDepth 100000
-- ==== PL7a
/- Plain laws of chapter 7: ground terms; what is to be done for a term; the state ahead of its first op: the program's answers and the document's. -/
namespace Go.Proofs.Ytdlkhpfgkghhmaa.P
open Go.RowKit Go.Proofs.YtdlkhpfgkghhmaaW.PrintWords
set_option linter.unusedVariables false
set_option linter.unusedSimpArgs false
abbrev Opn := S70
abbrev Bnd7 := S104
/-! ### ground terms -/
def gndS (t : List Cel) : Bool := decide (checkS t = 0) && (varsS [] t).isEmpty
theorem len_beq_isEmpty {α : Type} (l : List α) : ((l.length : Int) == 0) = l.isEmpty := by cases l <;> rfl
theorem ev_ground (t : List Cel) : Ev (fun k => rewrite_ground.f k t) (gndS t) := by
 unfold rewrite_ground.f gndS
 by_cases h : checkS t = 0
 ·
  refine Ev.bind (ev_vars h) (evIfp rfl ?_)
  rw [decide_eq_true h, Bool.true_and, ← len_beq_isEmpty]
  exact Ev.now _
 ·
  refine Ev.bind (ev_vars_no h) (evIfn h ?_)
  rw [decide_eq_false h, Bool.false_and]
  exact Ev.now _
theorem ev_rGround (t : List Cel) : Ev (fun k => aumbryref07_Ground.f k t) (gndS t) := by
 unfold aumbryref07_Ground.f gndS
 refine Ev.bind (ev_refCheck t) ?_
 by_cases h : checkS t = 0
 ·
  have := checkS_len h
  refine evIfp h (Ev.bind (ev_rvars (by omega)) ?_)
  rw [decide_eq_true h, Bool.true_and, ← len_beq_isEmpty]
  exact Ev.now _
 ·
  refine evIfn h ?_
  rw [decide_eq_false h, Bool.false_and]
  exact Ev.now _
theorem varsS_ge : ∀ (u : List Cel) (out : List ByteArray), out.length ≤ (varsS out u).length
 | [], out => Nat.le_refl _
 | c :: l, out => by
  unfold varsS
  by_cases h : kindS c.f0 = 2
  ·
   rw [if_pos h]
   by_cases h2 : c.f0 ∈ out
   ·
    rw [if_pos h2]; exact varsS_ge l out
   ·
    rw [if_neg h2]
    have := varsS_ge l (out ++ [c.f0])
    simp at this
    omega
  ·
   rw [if_neg h]; exact varsS_ge l out
theorem varsS_nil : ∀ (u : List Cel), varsS [] u = [] ↔ ∀ c ∈ u, kindS c.f0 ≠ 2
 | [] => by simp [varsS]
 | c :: l => by
  unfold varsS
  by_cases h : kindS c.f0 = 2
  ·
   rw [if_pos h, if_neg (by simp)]
   refine ⟨fun e => ?_, fun e => absurd h (e c (by simp))⟩
   have := varsS_ge l ([] ++ [c.f0])
   rw [e] at this
   simp at this
  ·
   rw [if_neg h, varsS_nil l]
   simp [h]
theorem gndS_iff {t : List Cel} : gndS t = true ↔ checkS t = 0 ∧ ∀ c ∈ t, kindS c.f0 ≠ 2 := by
 unfold gndS
 rw [Bool.and_eq_true, decide_eq_true_eq, List.isEmpty_iff, varsS_nil]
/-! ### what is to be done -/
/-- What is to be done for n terms one behind the other, the next op first; H tells what a variable stands for. -/
inductive Po (H : ByteArray → List Cel) : Nat → List Cel → List Opn → Prop
 | nil : Po H 0 [] []
 | have_ {n : Nat} {c : Cel} {l : List Cel} {o : List Opn} : 0 < (H c.f0).length → Po H n l o → Po H (n + 1) (c :: l) (⟨2, z54, H c.f0⟩ :: o)
 | make {n : Nat} {c : Cel} {l1 l2 : List Cel} {o1 o2 : List Opn} : ¬ 0 < (H c.f0).length → Po H (ar c) l1 o1 → Po H n l2 o2 → Po H (n + 1) (c :: (l1 ++ l2)) (o1 ++ ⟨1, c, []⟩ :: o2)
theorem po_of {H : ByteArray → List Cel} : ∀ (m : Nat) (l : List Cel) (n : Nat), l.length ≤ m → (∀ c ∈ l, 0 < (H c.f0).length → ar c = 0) → segN l n = some [] → ∃ o, Po H n l o
 | m, [], n, _, _, h => by
  cases n with
  | zero => exact ⟨[], .nil⟩
  | succ n => cases h
 | 0, c :: l, n, hm, _, h => absurd hm (by simp)
 | m + 1, c :: l, n, hm, hv, h => by
  cases n with
  | zero => rw [segN_zero] at h; injection h with h; cases h
  | succ n =>
   have h' : segN l (n + ar c) = some [] := h
   have hm' : l.length ≤ m := by simpa using hm
   have hv' : ∀ c ∈ l, 0 < (H c.f0).length → ar c = 0 := fun x hx => hv x (List.mem_cons_of_mem _ hx)
   by_cases hc : 0 < (H c.f0).length
   ·
    rw [hv c (List.mem_cons_self ..) hc, Nat.add_zero] at h'
    obtain ⟨o, ho⟩ := po_of m l n hm' hv' h'
    exact ⟨_, .have_ hc ho⟩
   ·
    rw [show n + ar c = ar c + n from Nat.add_comm _ _, segN_add] at h'
    obtain ⟨r, h1, h2⟩ := Option.bind_eq_some_iff.mp h'
    obtain ⟨e, h3⟩ := segN_fst h1
    have hl : (fstT l r).length ≤ m := by rw [e] at hm'; simp at hm'; omega
    have hr : r.length ≤ m := by rw [e] at hm'; simp at hm'; omega
    obtain ⟨o1, p1⟩ := po_of m (fstT l r) (ar c) hl (fun x hx => hv' x (mem_fstT hx)) h3
    obtain ⟨o2, p2⟩ := po_of m r n hr (fun x hx => hv' x (by rw [e]; exact List.mem_append_right _ hx)) h2
    have := Po.make hc p1 p2
    rw [← e] at this
    exact ⟨_, this⟩
theorem po_len {H : ByteArray → List Cel} {n : Nat} {l : List Cel} {o : List Opn} (h : Po H n l o) : o.length = l.length := by
 induction h with
 | nil => rfl
 | have_ _ _ ih => simp [ih]
 | make _ _ _ ih1 ih2 => simp [ih1, ih2]; omega
theorem po_seg {H : ByteArray → List Cel} {n : Nat} {l : List Cel} {o : List Opn} (h : Po H n l o) : (∀ c ∈ l, 0 < (H c.f0).length → ar c = 0) → segN l n = some [] := by
 induction h with
 | nil => intro _; rfl
 | @have_ n c l o hc h ih =>
  intro hv
  show segN l (n + ar c) = some []
  rw [hv c (List.mem_cons_self ..) hc]
  exact ih fun x hx => hv x (List.mem_cons_of_mem _ hx)
 | @make n c l1 l2 o1 o2 hc h1 h2 ih1 ih2 =>
  intro hv
  show segN (l1 ++ l2) (n + ar c) = some []
  rw [Nat.add_comm, segN_add, segN_append l2 (ih1 fun x hx => hv x (by simp [hx]))]
  exact ih2 fun x hx => hv x (by simp [hx])
theorem ev_todoN {H : ByteArray → List Cel} (t : List Cel) (ht : t.length ≤ 64) {n : Nat} {l : List Cel} {o : List Opn} (h : Po H n l o) :
 ∀ (pos : Nat) (q : List Cel) (acc : List Opn), t.drop pos = l ++ q → (∀ c ∈ l, Okc c) → acc.length + o.length ≤ 1000 →
  Ev (fun k => todoN (todoL H t k) n (pos : Int) acc) (acc ++ o, ((pos + l.length : Nat) : Int)) := by
 induction h with
 | nil =>
  intro pos q acc _ _ _
  simp only [todoN, List.append_nil, List.length_nil, Nat.add_zero]
  exact Ev.now _
 | @have_ n c l o hc h ih =>
  intro pos q acc hd hok hs
  obtain ⟨hlt, _, hdr⟩ := drop_cons hd
  have hrd := rd_cel hd
  simp only [List.length_cons] at hs
  simp only [todoN]
  refine Ev.bind (a := (acc ++ [⟨2, z54, H c.f0⟩], (pos : Int) + 1)) ?_ ?_
  ·
   refine Ev.step (fun k => (show todoL H t (k + 1) (pos : Int) acc = _ from by rw [todoL])) ?_
   rw [hrd]
   exact evIfp ⟨by omega, by omega⟩ (evIfp hc (evIfp (by omega) (Ev.now _)))
  ·
   have := ih (pos + 1) q (acc ++ [⟨2, z54, H c.f0⟩]) hdr (fun x hx => hok x (List.mem_cons_of_mem _ hx)) (by simp; omega)
   rw [List.append_assoc, show (pos + 1 + l.length) = (pos + (c :: l).length) by simp; omega] at this
   exact this
 | @make n c l1 l2 o1 o2 hc h1 h2 ih1 ih2 =>
  intro pos q acc hd hok hs
  obtain ⟨hlt, _, hdr⟩ := drop_cons hd
  have hrd := rd_cel hd
  have hoc := hok c (List.mem_cons_self ..)
  simp only [List.length_cons, List.length_append] at hs
  replace hdr : t.drop (pos + 1) = l1 ++ (l2 ++ q) := hdr.trans (List.append_assoc _ _ _)
  simp only [todoN]
  refine Ev.bind (a := (acc ++ o1 ++ [⟨1, c, []⟩], ((pos + 1 + l1.length : Nat) : Int))) ?_ ?_
  ·
   refine Ev.step (fun k => (show todoL H t (k + 1) (pos : Int) acc = _ from by rw [todoL])) ?_
   rw [hrd]
   refine evIfp ⟨by omega, by omega⟩ (evIfn hc (evIfp hoc.hi ?_))
   refine Ev.bind (ih1 (pos + 1) (l2 ++ q) acc hdr (fun x hx => hok x (by simp [hx])) (by omega)) ?_
   exact evIfp (by simp; omega) (Ev.now _)
  ·
   have hdr2 : t.drop (pos + 1 + l1.length) = l2 ++ q := by
    rw [← List.drop_drop, hdr, List.drop_left]
   have := ih2 (pos + 1 + l1.length) q (acc ++ o1 ++ [⟨1, c, []⟩]) hdr2 (fun x hx => hok x (by simp [hx])) (by simp; omega)
   rw [show acc ++ o1 ++ [⟨1, c, []⟩] ++ o2 = acc ++ (o1 ++ ⟨1, c, []⟩ :: o2) by simp, show (pos + 1 + l1.length + l2.length) = (pos + (c :: (l1 ++ l2)).length) by simp; omega] at this
   exact this
theorem ev_todo {H : ByteArray → List Cel} {t : List Cel} (ht : checkS t = 0) {o : List Opn} (h : Po H 1 t o) : Ev (fun k => todoL H t k 0 []) (o, (t.length : Int)) := by
 obtain ⟨h1, h2, _⟩ := checkS_ok ht
 have := ev_todoN t h1 h 0 [] [] (by simp) h2 (by rw [po_len h]; simp; omega)
 obtain ⟨K, hK⟩ := this
 refine ⟨K, fun k hk => ?_⟩
 have h3 := hK k hk
 simp only [todoN, List.nil_append, Nat.zero_add] at h3
 obtain ⟨r, e1, e2⟩ := Option.bind_eq_some_iff.mp h3
 rw [show ((0 : Nat) : Int) = 0 from rfl] at e1
 show todoL H t k 0 [] = _
 rw [e1]
 exact e2
/-! ### the document's -/
theorem ev_var7 (p : List Cel) : Ev (fun k => aumbryref05_Var.f k p) (match p with | [c] => kindS c.f0 == 2 | _ => false) := by
 unfold aumbryref05_Var.f
 match p with
 | [] => exact evIfn (by simp) (Ev.now _)
 | [c] =>
  refine evIfp (by simp) (evIfp (by simp) ?_)
  exact Ev.bind (ev_refKind c.f0) (Ev.now _)
 | a :: b :: l => exact evIfn (by simp; omega) (Ev.now _)
/-- What the bindings must tell of a variable. -/
def Told (H : ByteArray → List Cel) (binds : List Bnd7) (c : Cel) : Prop :=
 ∃ j : Nat, Ev (fun k => aumbryref05_At.f k binds c.f0) (j : Int) ∧ j < binds.length ∧ (rd_T104 binds (j : Int)).f1 = H c.f0 ∧ (H c.f0).length < 5864062014805
theorem ev_rTodo_var {H : ByteArray → List Cel} {binds : List Bnd7} {c : Cel} (hk : kindS c.f0 = 2) (hb : Told H binds c) : Ev (fun k => aumbryref07_Todo.f k [c] binds) [⟨2, z54, H c.f0⟩] := by
 obtain ⟨j, h1, h2, h3, h4⟩ := hb
 refine Ev.step (fun k => (show aumbryref07_Todo.f (k + 1) [c] binds = _ from by rw [aumbryref07_Todo.f])) ?_
 refine Ev.bind (ev_var7 [c]) ?_
 refine evIfp (by show (kindS c.f0 == 2) = true; rw [hk]; rfl) (evIfp (by simp) (Ev.bind h1 (evIfp (by omega) (evIfp (by omega) ?_))))
 rw [h3]
 exact Ev.bind (evIs (copy_at _ h4)) (Ev.now _)
theorem ev_rTodo_make {binds : List Bnd7} {c : Cel} {l : List Cel} {o : List Opn} (hk : kindS c.f0 ≠ 2) (h1 : (c :: l).length ≤ 64) (h2 : ∀ x ∈ c :: l, Okc x) (h3 : segN l (ar c) = some [])
 (hl : Ev (fun k => aumbryref07_Todo.l0 k (c :: l) binds [] (splitT (ar c) l) ((splitT (ar c) l).length : Int) 0) o) : Ev (fun k => aumbryref07_Todo.f k (c :: l) binds) o := by
 refine Ev.step (fun k => (show aumbryref07_Todo.f (k + 1) (c :: l) binds = _ from by rw [aumbryref07_Todo.f])) ?_
 refine Ev.bind (ev_var7 (c :: l)) (evIfn ?_ (Ev.bind (ev_rkids h1 h2 h3) hl))
 cases l with
 | nil => simpa using hk
 | cons a l => simp
theorem splitT_cons {n : Nat} {c : Cel} {l1 l2 : List Cel} (h : segN l1 (ar c) = some []) : splitT (n + 1) (c :: (l1 ++ l2)) = (c :: l1) :: splitT n l2 := by
 have h1 : segN (c :: (l1 ++ l2)) 1 = some l2 := by
  show segN (l1 ++ l2) (0 + ar c) = some l2
  rw [Nat.zero_add, segN_append l2 h, List.nil_append]
 simp only [splitT, h1]
 congr 1
 unfold fstT
 rw [show (c :: (l1 ++ l2)).length - l2.length = (c :: l1).length by simp; omega, show c :: (l1 ++ l2) = (c :: l1) ++ l2 from rfl, List.take_left]
theorem ev_rTodo_kids {H : ByteArray → List Cel} (binds : List Bnd7) {n : Nat} {l : List Cel} {o : List Opn} (h : Po H n l o) :
 (∀ c ∈ l, (0 < (H c.f0).length ↔ kindS c.f0 = 2)) → (∀ c ∈ l, kindS c.f0 = 2 → Told H binds c) → (∀ c ∈ l, Okc c) → l.length ≤ 63 →
 ∀ (c0 : Cel) (rest : List Cel) (kids : List (List Cel)) (i : Nat) (acc : List Opn), kids.length ≤ 64 → i ≤ kids.length → kids.drop i = splitT n l → acc.length + o.length ≤ 1000 →
  Ev (fun k => aumbryref07_Todo.l0 k (c0 :: rest) binds acc kids (kids.length : Int) (i : Int)) (acc ++ o ++ [⟨1, c0, []⟩]) := by
 induction h with
 | nil =>
  intro _ _ _ _ c0 rest kids i acc hk hi hd hs
  have h1 := drop_nil_len hi hd
  refine Ev.step (fun k => (show aumbryref07_Todo.l0 (k + 1) (c0 :: rest) binds acc kids (kids.length : Int) (i : Int) = _ from by rw [aumbryref07_Todo.l0])) ?_
  refine evIfn (by omega) (evIfp (by simp) (evIfp (by simp at hs; omega) ?_))
  rw [List.append_nil]
  exact Ev.now _
 | @have_ n c l o hc h ih =>
  intro hv hb hok hl c0 rest kids i acc hk hi hd hs
  have hk2 := (hv c (List.mem_cons_self ..)).1 hc
  have hoc := hok c (List.mem_cons_self ..)
  have har : ar c = 0 := by unfold ar; rw [hoc.var hk2]; rfl
  rw [show c :: l = c :: ([] ++ l) from rfl, splitT_cons (by rw [har]; rfl)] at hd
  obtain ⟨p1, _, p3⟩ := drop_cons hd
  simp only [List.length_cons] at hs hl
  refine Ev.step (fun k => (show aumbryref07_Todo.l0 (k + 1) (c0 :: rest) binds acc kids (kids.length : Int) (i : Int) = _ from by rw [aumbryref07_Todo.l0])) ?_
  refine evIfp (by omega) (evIfp (by omega) (evIfp (by omega) ?_))
  simp only [rd_trm hd, up_cast i (by omega)]
  refine Ev.bind (ev_rTodo_var hk2 (hb c (List.mem_cons_self ..) hk2)) (evIfp (by simp; omega) ?_)
  have := ih (fun x hx => hv x (List.mem_cons_of_mem _ hx)) (fun x hx => hb x (List.mem_cons_of_mem _ hx)) (fun x hx => hok x (List.mem_cons_of_mem _ hx)) (by omega) c0 rest kids (i + 1) (acc ++ [⟨2, z54, H c.f0⟩]) hk (by omega) p3 (by simp; omega)
  rw [show acc ++ [⟨2, z54, H c.f0⟩] ++ o ++ [⟨1, c0, []⟩] = acc ++ ⟨2, z54, H c.f0⟩ :: o ++ [⟨1, c0, []⟩] by simp] at this
  exact this
 | @make n c l1 l2 o1 o2 hc h1 h2 ih1 ih2 =>
  intro hv hb hok hl c0 rest kids i acc hk hi hd hs
  have hk2 : kindS c.f0 ≠ 2 := fun e => hc ((hv c (List.mem_cons_self ..)).2 e)
  have hv1 : ∀ x ∈ l1, (0 < (H x.f0).length ↔ kindS x.f0 = 2) := fun x hx => hv x (by simp [hx])
  have hseg : segN l1 (ar c) = some [] := po_seg h1 fun x hx hp => by
   have := (hok x (by simp [hx])).var ((hv1 x hx).1 hp)
   unfold ar; rw [this]; rfl
  rw [splitT_cons hseg] at hd
  obtain ⟨p1, _, p3⟩ := drop_cons hd
  simp only [List.length_cons, List.length_append] at hs hl
  have har : ar c ≤ 4 := by have := (hok c (List.mem_cons_self ..)).hi; unfold ar; omega
  have hsl := (splitT_spec (ar c) l1 hseg).2.1
  have hlen1 := po_len h1
  refine Ev.step (fun k => (show aumbryref07_Todo.l0 (k + 1) (c0 :: rest) binds acc kids (kids.length : Int) (i : Int) = _ from by rw [aumbryref07_Todo.l0])) ?_
  refine evIfp (by omega) (evIfp (by omega) (evIfp (by omega) ?_))
  simp only [rd_trm hd, up_cast i (by omega)]
  have T := ih1 hv1 (fun x hx => hb x (by simp [hx])) (fun x hx => hok x (by simp [hx])) (by omega) c l1 (splitT (ar c) l1) 0 [] (by omega) (by omega) (by simp) (by simp; omega)
  refine Ev.bind (ev_rTodo_make hk2 (by simp; omega) (fun x hx => hok x (by rw [← List.cons_append]; exact List.mem_append_left _ hx)) hseg T) (evIfp (by simp; omega) ?_)
  have := ih2 (fun x hx => hv x (by simp [hx])) (fun x hx => hb x (by simp [hx])) (fun x hx => hok x (by simp [hx])) (by omega) c0 rest kids (i + 1) (acc ++ ([] ++ o1 ++ [⟨1, c, []⟩])) hk (by omega) p3 (by simp; omega)
  rw [show acc ++ ([] ++ o1 ++ [⟨1, c, []⟩]) ++ o2 ++ [⟨1, c0, []⟩] = acc ++ (o1 ++ ⟨1, c, []⟩ :: o2) ++ [⟨1, c0, []⟩] by simp] at this
  exact this
theorem ev_rTodo {H : ByteArray → List Cel} (binds : List Bnd7) {t : List Cel} {o : List Opn} (ht : checkS t = 0) (h : Po H 1 t o) (hv : ∀ c ∈ t, (0 < (H c.f0).length ↔ kindS c.f0 = 2)) (hb : ∀ c ∈ t, kindS c.f0 = 2 → Told H binds c) : Ev (fun k => aumbryref07_Todo.f k t binds) o := by
 obtain ⟨g1, g2, g3⟩ := checkS_ok ht
 cases h with
 | @have_ n c l o hc h =>
  cases h
  have hk2 := (hv c (List.mem_cons_self ..)).1 hc
  exact ev_rTodo_var hk2 (hb c (List.mem_cons_self ..) hk2)
 | @make n c l1 l2 o1 o2 hc h1 h2 =>
  cases h2
  rw [List.append_nil] at *
  have hk2 : kindS c.f0 ≠ 2 := fun e => hc ((hv c (List.mem_cons_self ..)).2 e)
  have hseg : segN l1 (ar c) = some [] := by
   have h4 : segN l1 (0 + ar c) = some [] := g3
   rwa [Nat.zero_add] at h4
  have hsl := (splitT_spec (ar c) l1 hseg).2.1
  have har : ar c ≤ 4 := by have := (g2 c (List.mem_cons_self ..)).hi; unfold ar; omega
  simp only [List.length_cons] at g1
  have T := ev_rTodo_kids binds h1 (fun x hx => hv x (by simp [hx])) (fun x hx => hb x (by simp [hx])) (fun x hx => g2 x (by simp [hx])) (by omega) c l1 (splitT (ar c) l1) 0 [] (by omega) (by omega) (by simp) (by rw [po_len h1]; simp; omega)
  exact ev_rTodo_make hk2 (by simp; omega) g2 hseg T
/-! ### the other way round; Start -/
theorem rd_opn {t : List Opn} {n : Nat} {c : Opn} {s : List Opn} (h : t.drop n = c :: s) : rd_T70 t (n : Int) = c := by
 have := (drop_cons h).2.1 z70
 unfold rd_T70
 simpa using this
theorem ev_turned_loop (t : List Opn) (ht : t.length ≤ 1000000) : ∀ (n : Nat) (acc : List Opn), n ≤ t.length → acc.length + n = t.length →
 Ev (fun k => aumbryref07_Turned.l0 k t acc ((n : Int) - 1)) (acc ++ (t.take n).reverse)
 | 0, acc, hn, ha => by
  refine Ev.step (fun k => (show aumbryref07_Turned.l0 (k + 1) t acc (((0 : Nat) : Int) - 1) = _ from by rw [aumbryref07_Turned.l0])) ?_
  refine evIfn (by omega) ?_
  simp only [List.take_zero, List.reverse_nil, List.append_nil]
  exact Ev.now _
 | n + 1, acc, hn, ha => by
  refine Ev.step (fun k => (show aumbryref07_Turned.l0 (k + 1) t acc (((n + 1 : Nat) : Int) - 1) = _ from by rw [aumbryref07_Turned.l0])) ?_
  rw [show ((n + 1 : Nat) : Int) - 1 = (n : Int) by omega]
  refine evIfp (by omega) (evIfp (by omega) (evIfp (by omega) (evIfp (by omega) ?_)))
  have hd : t.drop n = t[n] :: t.drop (n + 1) := (List.drop_eq_getElem_cons (by omega))
  simp only [rd_opn hd, wrap_id (i := (n : Int) - 1) (by omega) (by omega)]
  have := ev_turned_loop t ht n (acc ++ [t[n]]) (by omega) (by simp; omega)
  rw [List.take_succ_eq_append_getElem (by omega), List.reverse_append]
  simpa using this
theorem ev_turned (t : List Opn) (ht : t.length ≤ 1000000) : Ev (fun k => aumbryref07_Turned.f k t) t.reverse := by
 unfold aumbryref07_Turned.f
 rw [wrap_id (by omega) (by omega)]
 have := ev_turned_loop t ht t.length [] (by omega) (by simp)
 simpa using this
theorem gnd_po {t : List Cel} (h : gndS t = true) : ∃ o, Po (fun _ => []) 1 t o :=
 po_of t.length t 1 (Nat.le_refl _) (fun c _ h1 => by simp at h1) (checkS_ok (gndS_iff.1 h).1).2.2
theorem ev_start_ok {t : List Cel} (h : gndS t = true) {o : List Opn} (ho : Po (fun _ => []) 1 t o) : Ev (fun k => startF k t) (o.reverse, [], 0, [], 0) := by
 have hc := (gndS_iff.1 h).1
 unfold startF
 refine Ev.bind (ev_check t) (evIfp hc (Ev.bind (ev_ground t) (evIfp h ?_)))
 exact Ev.bind (ev_todo hc ho) (Ev.now _)
theorem ev_start_no {t : List Cel} (h : ¬ gndS t = true) : Ev (fun k => startF k t) ([], [], 0, [], if checkS t = 0 then 7 else checkS t) := by
 unfold startF
 refine Ev.bind (ev_check t) ?_
 by_cases hc : checkS t = 0
 ·
  rw [if_pos hc]
  exact evIfp hc (Ev.bind (ev_ground t) (evIfn h (Ev.now _)))
 ·
  rw [if_neg hc]
  exact evIfn hc (Ev.now _)
theorem ev_rStart_ok {t : List Cel} (h : gndS t = true) {o : List Opn} (ho : Po (fun _ => []) 1 t o) : Ev (fun k => aumbryref07_Start.f k t) (o.reverse, [], 0, [], 0) := by
 obtain ⟨hc, hv⟩ := gndS_iff.1 h
 have h1 := checkS_len hc
 unfold aumbryref07_Start.f
 refine Ev.bind (ev_refCheck t) (evIfp hc (Ev.bind (ev_rGround t) (evIfp h ?_)))
 refine Ev.bind (ev_rTodo [] hc ho (fun c hx => ⟨fun e => by simp at e, fun e => absurd e (hv c hx)⟩) (fun c hx e => absurd e (hv c hx))) ?_
 exact Ev.bind (ev_turned o (by rw [po_len ho]; omega)) (Ev.now _)
theorem ev_rStart_no {t : List Cel} (h : ¬ gndS t = true) : Ev (fun k => aumbryref07_Start.f k t) ([], [], 0, [], if checkS t = 0 then 7 else checkS t) := by
 unfold aumbryref07_Start.f
 refine Ev.bind (ev_refCheck t) ?_
 by_cases hc : checkS t = 0
 ·
  rw [if_pos hc]
  exact evIfp hc (Ev.bind (ev_rGround t) (evIfn h (Ev.now _)))
 ·
  rw [if_neg hc]
  exact evIfn hc (Ev.now _)
end Go.Proofs.Ytdlkhpfgkghhmaa.P

-- ==== PL7b
/- Plain laws of chapter 7: copies of states, states that are alike, whether a state may be: the program's answer and the document's. -/
namespace Go.Proofs.Ytdlkhpfgkghhmaa.P
open Go.RowKit Go.Proofs.YtdlkhpfgkghhmaaW.PrintWords
set_option linter.unusedVariables false
set_option linter.unusedSimpArgs false
theorem ev_copyAll_loop (l : List (List Cel)) (hl : l.length ≤ 5864062014804) (hs : ∀ a ∈ l, a.length < 5864062014805) : ∀ (u : List (List Cel)) (i : Nat) (x : List (List Cel)), i ≤ l.length → l.drop i = u → x = l.take i →
 Ev (fun k => aumbryref04_CopyAll.l0 k l x (l.length : Int) (i : Int)) l
 | [], i, x, hi, hu, hx => by
  have h1 := drop_nil_len hi hu
  refine Ev.step (fun k => (show aumbryref04_CopyAll.l0 (k + 1) l x (l.length : Int) (i : Int) = _ from by rw [aumbryref04_CopyAll.l0])) ?_
  refine evIfn (by omega) ?_
  have : x = l := by rw [hx, h1, List.take_length]
  rw [this]
  exact Ev.now _
 | a :: u, i, x, hi, hu, hx => by
  obtain ⟨h1, h2, h3⟩ := drop_cons hu
  refine Ev.step (fun k => (show aumbryref04_CopyAll.l0 (k + 1) l x (l.length : Int) (i : Int) = _ from by rw [aumbryref04_CopyAll.l0])) ?_
  refine evIfp (by omega) (evIfp (by omega) (evIfp (by omega) ?_))
  simp only [rd_trm hu, up_cast i (by omega)]
  have hm : a ∈ l := List.mem_of_mem_drop (hu ▸ List.mem_cons_self ..)
  refine Ev.bind (evIs (copy_at a (hs a hm))) ?_
  have hxl : x.length = i := by rw [hx, List.length_take]; omega
  refine evIfp (by omega) ?_
  refine ev_copyAll_loop l hl hs u (i + 1) (x ++ [a]) (by omega) h3 ?_
  rw [hx, List.take_succ_eq_append_getElem h1]
  have := h2 a
  rw [List.getD_eq_getElem?_getD, List.getElem?_eq_getElem h1] at this
  rw [show l[i] = a from this]
theorem ev_copyAll (l : List (List Cel)) (hl : l.length ≤ 5864062014804) (hs : ∀ a ∈ l, a.length < 5864062014805) : Ev (fun k => aumbryref04_CopyAll.f k l) l := by
 unfold aumbryref04_CopyAll.f
 exact ev_copyAll_loop l hl hs l 0 [] (by omega) rfl rfl
theorem ev_same3_loop (l : List ByteArray) (hl : l.length ≤ 9223372036854775806) : ∀ (u : List ByteArray) (i : Nat), i ≤ l.length → l.drop i = u →
 Ev (fun k => aumbryref03_Same.l0 k l l (l.length : Int) (i : Int)) true
 | [], i, hi, hu => by
  have h1 := drop_nil_len hi hu
  refine Ev.step (fun k => (show aumbryref03_Same.l0 (k + 1) l l (l.length : Int) (i : Int) = _ from by rw [aumbryref03_Same.l0])) ?_
  exact evIfn (by omega) (Ev.now _)
 | b :: u, i, hi, hu => by
  obtain ⟨h1, _, h3⟩ := drop_cons hu
  refine Ev.step (fun k => (show aumbryref03_Same.l0 (k + 1) l l (l.length : Int) (i : Int) = _ from by rw [aumbryref03_Same.l0])) ?_
  refine evIfp (by omega) (evIfp (by omega) (evIfp (by omega) (evIfp (by omega) (evIfp rfl ?_))))
  rw [up_cast i (by omega)]
  exact ev_same3_loop l hl u (i + 1) (by omega) h3
theorem ev_same3 (l : List ByteArray) (hl : l.length ≤ 9223372036854775806) : Ev (fun k => aumbryref03_Same.f k l l) true := by
 unfold aumbryref03_Same.f
 exact evIfp rfl (ev_same3_loop l hl l 0 (by omega) rfl)
theorem ev_sameAll_loop (l : List (List Cel)) (hl : l.length ≤ 9223372036854775806) (hs : ∀ a ∈ l, a.length ≤ 9223372036854775806) : ∀ (u : List (List Cel)) (i : Nat), i ≤ l.length → l.drop i = u →
 Ev (fun k => aumbryref04_SameAll.l0 k l l (l.length : Int) (i : Int)) true
 | [], i, hi, hu => by
  have h1 := drop_nil_len hi hu
  refine Ev.step (fun k => (show aumbryref04_SameAll.l0 (k + 1) l l (l.length : Int) (i : Int) = _ from by rw [aumbryref04_SameAll.l0])) ?_
  exact evIfn (by omega) (Ev.now _)
 | b :: u, i, hi, hu => by
  obtain ⟨h1, _, h3⟩ := drop_cons hu
  refine Ev.step (fun k => (show aumbryref04_SameAll.l0 (k + 1) l l (l.length : Int) (i : Int) = _ from by rw [aumbryref04_SameAll.l0])) ?_
  refine evIfp (by omega) (evIfp (by omega) (evIfp (by omega) (evIfp (by omega) ?_)))
  simp only [rd_trm hu, up_cast i (by omega)]
  refine Ev.bind (ev_refSame4 b b (.inl (hs b (List.mem_of_mem_drop (hu ▸ List.mem_cons_self ..))))) ?_
  exact evIfp (decide_eq_true rfl) (ev_sameAll_loop l hl hs u (i + 1) (by omega) h3)
theorem ev_sameAll (l : List (List Cel)) (hl : l.length ≤ 9223372036854775806) (hs : ∀ a ∈ l, a.length ≤ 9223372036854775806) : Ev (fun k => aumbryref04_SameAll.f k l l) true := by
 unfold aumbryref04_SameAll.f
 exact evIfp rfl (ev_sameAll_loop l hl hs l 0 (by omega) rfl)

/-! ### copies of states -/
theorem ev_copy7_loop (ops : List Opn) (vals : List (List Cel)) (st : Int) (hd : List ByteArray) (hl : ops.length ≤ 2513169434915) (hs : ∀ o ∈ ops, o.f2.length < 5864062014805) (hh : hd.length < 8796093022208) :
 ∀ (u : List Opn) (i : Nat) (x : List Opn), i ≤ ops.length → ops.drop i = u → x = ops.take i →
 Ev (fun k => aumbryref07_Copy.l0 k (ops.length : Int) (i : Int) ops vals st hd x vals st) (ops, vals, st, hd)
 | [], i, x, hi, hu, hx => by
  have h1 := drop_nil_len hi hu
  refine Ev.step (fun k => (show aumbryref07_Copy.l0 (k + 1) (ops.length : Int) (i : Int) ops vals st hd x vals st = _ from by rw [aumbryref07_Copy.l0])) ?_
  refine evIfn (by omega) (evIfp (by simpa using hh) ?_)
  have : x = ops := by rw [hx, h1, List.take_length]
  rw [this, List.nil_append]
  exact Ev.now _
 | a :: u, i, x, hi, hu, hx => by
  obtain ⟨h1, h2, h3⟩ := drop_cons hu
  refine Ev.step (fun k => (show aumbryref07_Copy.l0 (k + 1) (ops.length : Int) (i : Int) ops vals st hd x vals st = _ from by rw [aumbryref07_Copy.l0])) ?_
  refine evIfp (by omega) (evIfp (by omega) (evIfp (by omega) ?_))
  simp only [rd_opn hu, up_cast i (by omega)]
  have hm : a ∈ ops := List.mem_of_mem_drop (hu ▸ List.mem_cons_self ..)
  refine Ev.bind (evIs (copy_at a.f2 (hs a hm))) ?_
  have hxl : x.length = i := by rw [hx, List.length_take]; omega
  refine evIfp (by omega) ?_
  refine ev_copy7_loop ops vals st hd hl hs hh u (i + 1) (x ++ [a]) (by omega) h3 ?_
  rw [hx, List.take_succ_eq_append_getElem h1]
  have := h2 a
  rw [List.getD_eq_getElem?_getD, List.getElem?_eq_getElem h1] at this
  rw [show ops[i] = a from this]
theorem ev_copy7 (ops : List Opn) (vals : List (List Cel)) (st : Int) (hd : List ByteArray) (hl : ops.length ≤ 2513169434915) (hs : ∀ o ∈ ops, o.f2.length < 5864062014805) (hv : vals.length ≤ 5864062014804) (hvs : ∀ a ∈ vals, a.length < 5864062014805) (hh : hd.length < 8796093022208) :
 Ev (fun k => aumbryref07_Copy.f k ops vals st hd) (ops, vals, st, hd) := by
 unfold aumbryref07_Copy.f
 exact Ev.bind (ev_copyAll vals hv hvs) (ev_copy7_loop ops vals st hd hl hs hh ops 0 [] (by omega) rfl rfl)
/-! ### states that are alike -/
theorem ev_same7_loop (ops : List Opn) (vals : List (List Cel)) (st : Int) (hd : List ByteArray) (hl : ops.length ≤ 2513169434915) (hs : ∀ o ∈ ops, o.f2.length < 5864062014805) : ∀ (u : List Opn) (i : Nat), i ≤ ops.length → ops.drop i = u →
 Ev (fun k => aumbryref07_Same.l0 k (ops.length : Int) (i : Int) ops vals st hd ops vals st hd) true
 | [], i, hi, hu => by
  have h1 := drop_nil_len hi hu
  refine Ev.step (fun k => (show aumbryref07_Same.l0 (k + 1) (ops.length : Int) (i : Int) ops vals st hd ops vals st hd = _ from by rw [aumbryref07_Same.l0])) ?_
  exact evIfn (by omega) (Ev.now _)
 | a :: u, i, hi, hu => by
  obtain ⟨h1, h2, h3⟩ := drop_cons hu
  refine Ev.step (fun k => (show aumbryref07_Same.l0 (k + 1) (ops.length : Int) (i : Int) ops vals st hd ops vals st hd = _ from by rw [aumbryref07_Same.l0])) ?_
  refine evIfp (by omega) (evIfp (by omega) (evIfp (by omega) (evIfp (by omega) (evIfp rfl ?_))))
  simp only [rd_opn hu, up_cast i (by omega)]
  have hm : a ∈ ops := List.mem_of_mem_drop (hu ▸ List.mem_cons_self ..)
  have hz := hs a hm
  refine evIfn (by simp) (Ev.bind (ev_refSame4 a.f2 a.f2 (.inl (by omega))) (evIfp (decide_eq_true rfl) ?_))
  exact ev_same7_loop ops vals st hd hl hs u (i + 1) (by omega) h3
theorem ev_same7 (ops : List Opn) (vals : List (List Cel)) (st : Int) (hd : List ByteArray) (hl : ops.length ≤ 2513169434915) (hs : ∀ o ∈ ops, o.f2.length < 5864062014805) (hv : vals.length ≤ 5864062014804) (hvs : ∀ a ∈ vals, a.length < 5864062014805) (hh : hd.length < 8796093022208) :
 Ev (fun k => aumbryref07_Same.f k ops vals st hd ops vals st hd) true := by
 unfold aumbryref07_Same.f
 refine evIfp rfl (evIfp rfl (Ev.bind (ev_same3 hd (by omega)) (evIfp rfl (Ev.bind (ev_sameAll vals (by omega) (fun a ha => by have := hvs a ha; omega)) ?_))))
 refine Ev.step (fun k => (show aumbryref07_Same.j0 (k + 1) (!true) ops vals st hd ops vals st hd = _ from by rw [aumbryref07_Same.j0])) ?_
 exact evIfn (by decide) (ev_same7_loop ops vals st hd hl hs ops 0 (by omega) rfl)
/-! ### may a state be -/
def mayS (o : Opn) : Bool := if o.f0 = 1 then (o.f2.isEmpty && (kindS o.f1.f0 == 1) && decide (0 ≤ o.f1.f1) && decide (o.f1.f1 ≤ 4)) else if o.f0 = 2 then (o.f1.f0.toList == ([] : List UInt8) && (o.f1.f1 == 0) && gndS o.f2) else false
theorem ev_may (o : Opn) : Ev (fun k => rewrite_may.f k o.f0 o.f1.f0 o.f1.f1 o.f2) (mayS o) := by
 unfold rewrite_may.f mayS
 by_cases h1 : o.f0 = 1
 ·
  rw [if_pos h1]
  refine evIfp h1 ?_
  by_cases h2 : (o.f2.length : Int) = 0
  ·
   refine evIfp h2 (Ev.bind (ev_kind o.f1.f0) ?_)
   have h2' : o.f2.isEmpty = true := by rw [← len_beq_isEmpty, h2]; rfl
   by_cases h3 : kindS o.f1.f0 = 1
   ·
    refine evIfp h3 ?_
    by_cases h4 : o.f1.f1 ≥ 0
    ·
     refine evIfp h4 ?_
     rw [h2', h3, decide_eq_true h4]
     exact Ev.now _
    ·
     refine evIfn h4 ?_
     rw [decide_eq_false h4]
     simp only [Bool.and_false, Bool.false_and]
     exact Ev.now _
   ·
    refine evIfn h3 ?_
    rw [beq_eq_false_iff_ne.mpr h3]
    simp only [Bool.and_false, Bool.false_and]
    exact Ev.now _
  ·
   refine evIfn h2 ?_
   have h2' : o.f2.isEmpty = false := by rw [← len_beq_isEmpty]; exact beq_eq_false_iff_ne.mpr h2
   rw [h2']
   exact Ev.now _
 ·
  rw [if_neg h1]
  refine evIfn h1 ?_
  by_cases h2 : o.f0 = 2
  ·
   rw [if_pos h2]
   refine evIfp h2 ?_
   by_cases h3 : (o.f1.f0.toList == ([] : List UInt8) && (o.f1.f1 == 0)) = true
   ·
    refine evIfp h3 (Ev.bind (ev_ground o.f2) ?_)
    rw [h3, Bool.true_and]
    exact Ev.now _
   ·
    refine evIfn h3 ?_
    rw [Bool.eq_false_iff.mpr h3]
    exact Ev.now _
  ·
   rw [if_neg h2]
   exact evIfn h2 (Ev.now _)
theorem ev_mayL : ∀ (ops : List Opn), Ev (fun k => mayL k ops) (ops.map mayS)
 | [] => Ev.now _
 | o :: u => Ev.bind (f := fun k b => (mayL k u).bind fun l => some (b :: l)) (ev_may o) (Ev.bind (f := fun k l => some (mayS o :: l)) (ev_mayL u) (Ev.now _))
/-- How many values there are behind ops (the next op first), from n on. -/
def cntS : List Opn → Int → Option Int
 | [], n => some n
 | o :: u, n => if (mayS o && decide (o.f1.f1 ≤ n)) = true then cntS u (n + 1 - o.f1.f1) else none
theorem mayS_ar {o : Opn} (h : mayS o = true) : 0 ≤ o.f1.f1 ∧ o.f1.f1 ≤ 4 := by
 unfold mayS at h
 by_cases h1 : o.f0 = 1
 ·
  rw [if_pos h1] at h
  simp only [Bool.and_eq_true, decide_eq_true_eq] at h
  exact ⟨h.1.2, h.2⟩
 ·
  rw [if_neg h1] at h
  by_cases h2 : o.f0 = 2
  ·
   rw [if_pos h2] at h
   simp only [Bool.and_eq_true, beq_iff_eq] at h
   omega
  ·
   rw [if_neg h2] at h; cases h
theorem chkB_cnt (ops : List Opn) (hl : ops.length ≤ 2513169434915) : ∀ (xs : List Nat) (n : Int), (∀ x ∈ xs, x < ops.length) → 0 ≤ n → n + xs.length ≤ 100000000000000 →
 chkB ops (fun x => (ops.map mayS).getD x false) xs n = cntS (xs.map fun x : Nat => rd_T70 ops (x : Int)) n
 | [], n, _, _, _ => rfl
 | x :: u, n, hx, h0, hn => by
  have hxl := hx x (List.mem_cons_self ..)
  have h1 : (ops.map mayS).getD x false = mayS (rd_T70 ops (x : Int)) := by
   unfold rd_T70
   simp [List.getD_eq_getElem?_getD, hxl]
  simp only [List.length_cons] at hn
  simp only [chkB, List.map_cons, cntS, h1]
  have ea : arOf ops x = (rd_T70 ops (x : Int)).f1.f1 := rfl
  by_cases hm : mayS (rd_T70 ops (x : Int)) = true
  ·
   have ha := mayS_ar hm
   rw [hm, if_pos rfl, Bool.true_and]
   by_cases hg : (rd_T70 ops (x : Int)).f1.f1 > n
   ·
    rw [if_pos (show arOf ops x > n from hg), if_neg (by simp; omega)]
   ·
    rw [if_neg (show ¬ arOf ops x > n from hg), if_pos (by simp; omega), ea, wrap_id (i := 1 - _) (by omega) (by omega), wrap_id (by omega) (by omega)]
    rw [show n + (1 - (rd_T70 ops (x : Int)).f1.f1) = n + 1 - (rd_T70 ops (x : Int)).f1.f1 by omega]
    exact chkB_cnt ops hl u _ (fun y hy => hx y (List.mem_cons_of_mem _ hy)) (by omega) (by omega)
  ·
   rw [Bool.eq_false_iff.mpr hm, Bool.false_and]
   rw [if_neg (by decide), if_neg (by decide)]
theorem range_rd (ops : List Opn) : ((List.range ops.length).reverse.map fun x : Nat => rd_T70 ops (x : Int)) = ops.reverse := by
 rw [List.map_reverse]
 congr 1
 apply List.ext_getElem
 ·
  simp
 ·
  intro i h1 h2
  simp [rd_T70, h2]
def hdsS : Option ByteArray → List ByteArray → Bool
 | _, [] => true
 | p, h :: u => (kindS h == 1) && (okH p h && hdsS (some h) u)
def rightS (ops : List Opn) (vals : List (List Cel)) (st : Int) (hd : List ByteArray) : Bool := match cntS ops.reverse (vals.length : Int) with
 | none => false
 | some m => vals.all gndS && (hdsS none hd && ((m == 1) && decide (st ≥ 0)))
theorem ev_idxF : ∀ (vals : List (List Cel)) (i : Int), 0 ≤ i → ∃ j, Ev (fun k => idxF k vals i) j ∧ (vals.all gndS = true → j = -1) ∧ (¬ vals.all gndS = true → 0 ≤ j)
 | [], i, h0 => ⟨-1, Ev.now _, fun _ => rfl, fun h => absurd rfl h⟩
 | v :: u, i, h0 => by
  by_cases h : gndS v = true
  ·
   obtain ⟨j, h1, h2, h3⟩ := ev_idxF u (i + 1) (by omega)
   refine ⟨j, Ev.bind (f := fun k b => if b = true then idxF k u (i + 1) else some i) (ev_ground v) (evIfp h h1), ?_, ?_⟩
   ·
    simpa [h] using h2
   ·
    simpa [h] using h3
  ·
   refine ⟨i, Ev.bind (f := fun k b => if b = true then idxF k u (i + 1) else some i) (ev_ground v) (evIfn h (Ev.now _)), ?_, fun _ => h0⟩
   intro e
   simp only [List.all_cons, Bool.and_eq_true] at e
   exact absurd e.1 h
theorem ev_hdsF : ∀ (hd : List ByteArray) (p : Option ByteArray), Ev (fun k => hdsF k p hd) (if hdsS p hd = true then 0 else 3)
 | [], p => by rw [if_pos (by cases p <;> rfl)]; cases p <;> exact Ev.now _
 | h :: u, p => by
  refine Ev.congr (f := fun k => (name_Kind.f k h).bind fun c => if c = 1 then (if okH p h = true then hdsF k (some h) u else some 3) else some 3) (fun k => by cases p <;> rfl) ?_
  have e : hdsS p (h :: u) = ((kindS h == 1) && (okH p h && hdsS (some h) u)) := by cases p <;> rfl
  rw [e]
  refine Ev.bind (ev_kind h) ?_
  by_cases h1 : kindS h = 1
  ·
   refine evIfp h1 ?_
   rw [h1]
   by_cases h2 : okH p h = true
   ·
    refine evIfp h2 ?_
    rw [h2]
    exact ev_hdsF u (some h)
   ·
    refine evIfn h2 ?_
    rw [Bool.eq_false_iff.mpr h2]
    exact Ev.now _
  ·
   refine evIfn h1 ?_
   rw [beq_eq_false_iff_ne.mpr h1]
   exact Ev.now _
theorem ev_chk (ops : List Opn) (vals : List (List Cel)) (st : Int) (hd : List ByteArray) (hl : ops.length ≤ 2513169434915) (hv : vals.length ≤ 5864062014804) : Ev (fun k => chkF k ops vals st hd) (if rightS ops vals st hd = true then 0 else 3) := by
 unfold chkF
 refine Ev.bind (ev_mayL ops) ?_
 rw [chkB_cnt ops hl _ _ (fun x hx => by simpa using hx) (by omega) (by simp; omega), range_rd]
 unfold rightS
 cases cntS ops.reverse (vals.length : Int) with
 | none => exact Ev.now _
 | some m =>
  show Ev (fun k => if m = 1 then (if st < 0 then some 3 else (idxF k vals 0).bind fun i => if 0 ≤ i then some 3 else hdsF k none hd) else some 3) (if (vals.all gndS && (hdsS none hd && ((m == 1) && decide (st ≥ 0)))) = true then 0 else 3)
  by_cases h1 : m = 1
  ·
   refine evIfp h1 ?_
   by_cases h2 : st < 0
   ·
    refine evIfp h2 ?_
    rw [decide_eq_false (show ¬ st ≥ 0 by omega)]
    simp only [Bool.and_false]
    exact Ev.now _
   ·
    refine evIfn h2 ?_
    obtain ⟨j, g1, g2, g3⟩ := ev_idxF vals 0 (by omega)
    refine Ev.bind g1 ?_
    rw [decide_eq_true (show st ≥ 0 by omega), h1]
    by_cases h3 : vals.all gndS = true
    ·
     rw [g2 h3, h3]
     refine evIfn (by omega) ?_
     have := ev_hdsF hd none
     simpa using this
    ·
     refine evIfp (g3 h3) ?_
     rw [Bool.eq_false_iff.mpr h3]
     exact Ev.now _
  ·
   refine evIfn h1 ?_
   rw [beq_eq_false_iff_ne.mpr h1]
   simp only [Bool.and_false, Bool.false_and]
   exact Ev.now _
/-! ### the document's: may a state be -/
theorem ev_r2 (ops : List Opn) (vals : List (List Cel)) (st : Int) (hd : List ByteArray) (m : Int) (hh : hd.length < 8796093022208) : ∀ (u : List ByteArray) (i : Nat) (p : Option ByteArray), i ≤ hd.length → hd.drop i = u →
 ((p = none ∧ i = 0) ∨ ∃ q, p = some q ∧ 0 < i ∧ rdOf ByteArray.empty hd ((i : Int) - 1) = q) →
 Ev (fun k => aumbryref07_Right.l2 k m (hd.length : Int) (i : Int) ops vals st hd) (hdsS p u && ((m == 1) && decide (st ≥ 0)))
 | [], i, p, hi, hu, hp => by
  have h1 := drop_nil_len hi hu
  refine Ev.step (fun k => (show aumbryref07_Right.l2 (k + 1) m (hd.length : Int) (i : Int) ops vals st hd = _ from by rw [aumbryref07_Right.l2])) ?_
  refine evIfn (by omega) ?_
  have e : hdsS p [] = true := by cases p <;> rfl
  rw [e, Bool.true_and]
  by_cases h2 : m = 1
  ·
   refine evIfp h2 ?_
   rw [h2]
   exact Ev.now _
  ·
   refine evIfn h2 ?_
   rw [beq_eq_false_iff_ne.mpr h2]
   exact Ev.now _
 | h :: u, i, p, hi, hu, hp => by
  obtain ⟨h1, h2, h3⟩ := drop_cons hu
  refine Ev.step (fun k => (show aumbryref07_Right.l2 (k + 1) m (hd.length : Int) (i : Int) ops vals st hd = _ from by rw [aumbryref07_Right.l2])) ?_
  have e : hdsS p (h :: u) = ((kindS h == 1) && (okH p h && hdsS (some h) u)) := by cases p <;> rfl
  rw [e]
  refine evIfp (by omega) (evIfp (by omega) (evIfp (by omega) ?_))
  simp only [rd_txt hu, up_cast i (by omega)]
  refine Ev.bind (ev_refKind h) ?_
  by_cases g1 : kindS h = 1
  ·
   refine evIfp g1 ?_
   rw [show (kindS h == 1) = true from beq_iff_eq.mpr g1, Bool.true_and]
   have T := ev_r2 ops vals st hd m hh u (i + 1) (some h) (by omega) h3 (.inr ⟨h, rfl, by omega, by rw [show ((i + 1 : Nat) : Int) - 1 = (i : Int) by omega]; exact rd_txt hu⟩)
   rcases hp with ⟨rfl, rfl⟩ | ⟨q, rfl, hi0, hq⟩
   ·
    exact evIfn (by omega) T
   ·
    rw [wrap_id (by omega) (by omega), hq]
    refine evIfp (by omega) (evIfp (by omega) (evIfp (by omega) ?_))
    by_cases g2 : Op.bytesLess q.toList h.toList = true
    ·
     refine evIfp g2 ?_
     rw [show okH (some q) h = true from g2, Bool.true_and]
     exact T
    ·
     refine evIfn g2 ?_
     rw [show okH (some q) h = false from Bool.eq_false_iff.mpr g2]
     exact Ev.now _
  ·
   refine evIfn g1 ?_
   rw [beq_eq_false_iff_ne.mpr g1]
   exact Ev.now _
theorem ev_r1 (ops : List Opn) (vals : List (List Cel)) (st : Int) (hd : List ByteArray) (m : Int) (hh : hd.length < 8796093022208) (hv : vals.length ≤ 5864062014804) : ∀ (u : List (List Cel)) (i : Nat), i ≤ vals.length → vals.drop i = u →
 Ev (fun k => aumbryref07_Right.l1 k m (vals.length : Int) (i : Int) ops vals st hd) (u.all gndS && (hdsS none hd && ((m == 1) && decide (st ≥ 0))))
 | [], i, hi, hu => by
  have h1 := drop_nil_len hi hu
  refine Ev.step (fun k => (show aumbryref07_Right.l1 (k + 1) m (vals.length : Int) (i : Int) ops vals st hd = _ from by rw [aumbryref07_Right.l1])) ?_
  exact evIfn (by omega) (ev_r2 ops vals st hd m hh hd 0 none (by omega) rfl (.inl ⟨rfl, rfl⟩))
 | v :: u, i, hi, hu => by
  obtain ⟨h1, h2, h3⟩ := drop_cons hu
  refine Ev.step (fun k => (show aumbryref07_Right.l1 (k + 1) m (vals.length : Int) (i : Int) ops vals st hd = _ from by rw [aumbryref07_Right.l1])) ?_
  refine evIfp (by omega) (evIfp (by omega) (evIfp (by omega) ?_))
  simp only [rd_trm hu, up_cast i (by omega)]
  refine Ev.bind (ev_rGround v) ?_
  by_cases g1 : gndS v = true
  ·
   refine evIfp g1 ?_
   rw [List.all_cons, g1, Bool.true_and]
   exact ev_r1 ops vals st hd m hh hv u (i + 1) (by omega) h3
  ·
   refine evIfn g1 ?_
   rw [List.all_cons, Bool.eq_false_iff.mpr g1]
   exact Ev.now _
theorem ev_r0 (ops : List Opn) (vals : List (List Cel)) (st : Int) (hd : List ByteArray) (hh : hd.length < 8796093022208) (hv : vals.length ≤ 5864062014804) (hl : ops.length ≤ 2513169434915) : ∀ (n : Nat) (m : Int), n ≤ ops.length → 0 ≤ m → m + n ≤ 100000000000000 →
 Ev (fun k => aumbryref07_Right.l0 k m ((n : Int) - 1) ops vals st hd) (match cntS (ops.take n).reverse m with | none => false | some m => vals.all gndS && (hdsS none hd && ((m == 1) && decide (st ≥ 0))))
 | 0, m, hn, h0, hm => by
  refine Ev.step (fun k => (show aumbryref07_Right.l0 (k + 1) m (((0 : Nat) : Int) - 1) ops vals st hd = _ from by rw [aumbryref07_Right.l0])) ?_
  exact evIfn (by omega) (ev_r1 ops vals st hd m hh hv vals 0 (by omega) rfl)
 | n + 1, m, hn, h0, hm => by
  refine Ev.step (fun k => (show aumbryref07_Right.l0 (k + 1) m (((n + 1 : Nat) : Int) - 1) ops vals st hd = _ from by rw [aumbryref07_Right.l0])) ?_
  rw [show ((n + 1 : Nat) : Int) - 1 = (n : Int) by omega]
  refine evIfp (by omega) (evIfp (by omega) (evIfp (by omega) ?_))
  have hdr : ops.drop n = ops[n] :: ops.drop (n + 1) := (List.drop_eq_getElem_cons (by omega))
  rw [List.take_succ_eq_append_getElem (by omega), List.reverse_append]
  simp only [List.reverse_cons, List.reverse_nil, List.nil_append, List.cons_append, cntS]
  simp only [rd_opn hdr, wrap_id (i := (n : Int) - 1) (by omega) (by omega)]
  generalize ops[n] = o
  have T := ev_r0 ops vals st hd hh hv hl n
  by_cases h1 : o.f0 = 1
  ·
   refine evIfp h1 ?_
   by_cases h2 : (o.f2.length : Int) > 0
   ·
    refine evIfp h2 ?_
    have : mayS o = false := by unfold mayS; rw [if_pos h1]; cases hq : o.f2 with
     | nil => rw [hq] at h2; simp at h2
     | cons a l => rfl
    rw [this]
    exact Ev.now _
   ·
    refine evIfn h2 (Ev.bind (ev_refKind o.f1.f0) ?_)
    have h2' : o.f2.isEmpty = true := by cases hq : o.f2 with
     | nil => rfl
     | cons a l => rw [hq] at h2; simp at h2
    by_cases h3 : kindS o.f1.f0 = 1
    ·
     refine evIfp h3 ?_
     by_cases h4 : o.f1.f1 < 0
     ·
      refine evIfp h4 ?_
      have : mayS o = false := by unfold mayS; rw [if_pos h1, decide_eq_false (show ¬ 0 ≤ o.f1.f1 by omega)]; simp
      rw [this]
      exact Ev.now _
     ·
      refine evIfn h4 ?_
      by_cases h5 : o.f1.f1 > 4
      ·
       refine evIfp h5 ?_
       have : mayS o = false := by unfold mayS; rw [if_pos h1, decide_eq_false (show ¬ o.f1.f1 ≤ 4 by omega)]; simp
       rw [this]
       exact Ev.now _
      ·
       refine evIfn h5 ?_
       have hmay : mayS o = true := by unfold mayS; rw [if_pos h1, h2', beq_iff_eq.mpr h3, decide_eq_true (show 0 ≤ o.f1.f1 by omega), decide_eq_true (show o.f1.f1 ≤ 4 by omega)]; rfl
       rw [hmay, Bool.true_and]
       by_cases h6 : o.f1.f1 > m
       ·
        refine evIfp h6 ?_
        rw [if_neg (by simp; omega)]
        exact Ev.now _
       ·
        refine evIfn h6 ?_
        rw [if_pos (by simp; omega), wrap_id (i := m - _) (by omega) (by omega), wrap_id (by omega) (by omega), show m - o.f1.f1 + 1 = m + 1 - o.f1.f1 by omega]
        exact T _ (by omega) (by omega) (by omega)
    ·
     refine evIfn h3 ?_
     have : mayS o = false := by unfold mayS; rw [if_pos h1, beq_eq_false_iff_ne.mpr h3]; simp
     rw [this]
     exact Ev.now _
  ·
   refine evIfn h1 ?_
   by_cases h2 : o.f0 = 2
   ·
    refine evIfp h2 ?_
    by_cases h3 : o.f1.f0.toList = ([] : List UInt8)
    ·
     refine evIfp h3 ?_
     by_cases h4 : o.f1.f1 = 0
     ·
      refine evIfp h4 (Ev.bind (ev_rGround o.f2) ?_)
      by_cases h5 : gndS o.f2 = true
      ·
       refine evIfp h5 ?_
       have : mayS o = true := by unfold mayS; rw [if_neg h1, if_pos h2, h3, h4, h5]; rfl
       rw [this, h4, if_pos (by simpa using h0), wrap_id (by omega) (by omega), show m + 1 - 0 = m + 1 by omega]
       exact T _ (by omega) (by omega) (by omega)
      ·
       refine evIfn h5 ?_
       have : mayS o = false := by unfold mayS; rw [if_neg h1, if_pos h2, Bool.eq_false_iff.mpr h5]; simp
       rw [this]
       exact Ev.now _
     ·
      refine evIfn h4 ?_
      have : mayS o = false := by unfold mayS; rw [if_neg h1, if_pos h2, beq_eq_false_iff_ne.mpr h4]; simp
      rw [this]
      exact Ev.now _
    ·
     refine evIfn h3 ?_
     have : mayS o = false := by unfold mayS; rw [if_neg h1, if_pos h2, beq_eq_false_iff_ne.mpr h3]; simp
     rw [this]
     exact Ev.now _
   ·
    refine evIfn h2 ?_
    have : mayS o = false := by unfold mayS; rw [if_neg h1, if_neg h2]
    rw [this]
    exact Ev.now _
theorem ev_right (ops : List Opn) (vals : List (List Cel)) (st : Int) (hd : List ByteArray) (hh : hd.length < 8796093022208) (hv : vals.length ≤ 5864062014804) (hl : ops.length ≤ 2513169434915) : Ev (fun k => aumbryref07_Right.f k ops vals st hd) (rightS ops vals st hd) := by
 unfold aumbryref07_Right.f
 rw [wrap_id (by omega) (by omega)]
 have := ev_r0 ops vals st hd hh hv hl ops.length (vals.length : Int) (Nat.le_refl _) (by omega) (by omega)
 rwa [List.take_length] at this
end Go.Proofs.Ytdlkhpfgkghhmaa.P

-- ==== PureRewriteStarts
/- The state ahead of any term's first op, or why there is none; whether any state may be: for every term and state that can be read as data, the law answers true. -/
namespace Go.Proofs.Ytdlkhpfgkghhmaa.Pure
open Go.RowKit Go.Proofs.Ytdlkhpfgkghhmaa.P Go.Proofs.YtdlkhpfgkghhmaaW.PrintWords
theorem ev_j0 (ops : List Opn) (vals : List (List Cel)) (st : Int) (hd : List ByteArray) (hl : ops.length ≤ 2513169434915) (hs : ∀ o ∈ ops, o.f2.length < 5864062014805) (hv : vals.length ≤ 5864062014804) (hvs : ∀ a ∈ vals, a.length < 5864062014805) (hh : hd.length < 8796093022208) :
 Ev (fun k => aumbrylaw07_RewriteStarts.j0 k false ops vals st hd) true := by
 refine Ev.step (fun k => (show aumbrylaw07_RewriteStarts.j0 (k + 1) false ops vals st hd = _ from by rw [aumbrylaw07_RewriteStarts.j0])) ?_
 have C := ev_copy7 ops vals st hd hl hs hv hvs hh
 have K := ev_chk ops vals st hd hl hv
 have R := ev_right ops vals st hd hh hv hl
 refine evIfn (by decide) (Ev.bind C (Ev.bind K (Ev.bind R ?_)))
 by_cases h : rightS ops vals st hd = true
 ·
  rw [if_pos h, h]
  exact evIfp rfl (Ev.bind R (evIfp h (Ev.now _)))
 ·
  rw [if_neg h, Bool.eq_false_iff.mpr h]
  refine evIfp rfl (Ev.bind R (evIfn h (Ev.bind C (Ev.bind K ?_))))
  rw [if_neg h]
  exact Ev.now _
theorem RewriteStarts : aumbrylaw07_RewriteStarts.Pure := by
 intro t s ht hs
 have htl := sz_len ht
 obtain ⟨⟨s1, s2⟩, ⟨s3, s4⟩, s5, s6, s7⟩ := hs
 have hl : s.f0.length ≤ 2513169434915 := by omega
 have hos : ∀ o ∈ s.f0, o.f2.length < 5864062014805 := fun o ho => sz_len (s2 o ho).2.2
 have hv : s.f1.length ≤ 5864062014804 := by omega
 have hvs : ∀ a ∈ s.f1, a.length < 5864062014805 := fun a ha => sz_len (s4 a ha)
 have hh : s.f3.length < 8796093022208 := by omega
 have J := ev_j0 s.f0 s.f1 s.f2 s.f3 hl hos hv hvs hh
 refine Ev.rounds ?_
 unfold aumbrylaw07_RewriteStarts.f
 refine Ev.bind aumbrylaw07_wakes.ev_true (evIfp rfl (Ev.bind (evIs (copy_at t htl)) ?_))
 by_cases h : gndS t = true
 ·
  obtain ⟨o, ho⟩ := gnd_po h
  have hol := po_len ho
  have h64 := checkS_len (gndS_iff.1 h).1
  refine Ev.bind (ev_start_ok h ho) (Ev.bind (ev_rStart_ok h ho) ?_)
  refine Ev.bind (ev_same7 o.reverse [] 0 [] (by simp; omega) ?_ (by simp) (by simp) (by simp)) (evIfp rfl ?_)
  ·
   intro x hx
   have : ∀ {n : Nat} {l : List Cel} {o : List Opn}, Po (fun _ => []) n l o → ∀ x ∈ o, x.f2.length < 5864062014805 := by
    intro n l o h
    induction h with
    | nil => intro x hx; cases hx
    | have_ hc _ _ => simp at hc
    | make _ _ _ ih1 ih2 =>
     intro x hx
     rcases List.mem_append.1 hx with hx | hx
     ·
      exact ih1 x hx
     ·
      rcases List.mem_cons.1 hx with rfl | hx
      ·
       simp
      ·
       exact ih2 x hx
   exact this ho x (by simpa using hx)
  ·
   exact J
 ·
  refine Ev.bind (ev_start_no h) (Ev.bind (ev_rStart_no h) ?_)
  refine Ev.bind (ev_same7 [] [] 0 [] (by simp) (by simp) (by simp) (by simp) (by simp)) (evIfp rfl ?_)
  simp only [bne_self_eq_false]
  exact J
end Go.Proofs.Ytdlkhpfgkghhmaa.Pure

-- ==== RowRewriteStarts
namespace Go.Proofs.Ytdlkhpfgkghhmaa.rewriteStarts
open Go.ChangeShapes Go.WideShapes Go.ChangeAt Go.RowKit Go.Proofs.YtdlkhpfgkghhmaaW.PrintWords Go.Proofs.Ytdlkhpfgkghhmaa.P Go.Proofs.Ytdlkhpfgkghhmaa.Open
open Go.ChangeMaps (open_string shut_string)
set_option linter.unusedVariables false
theorem own : ownKnob Try.prog.godebug = none := by kernel_rfl
theorem laidOut : laidOutB Try.prog = true := by kernel_rfl
set_option maxRecDepth 100000 in
theorem core {H : Type} {enc : TypeId × Value → H} (W : World) (base : Nat) (args : Array Value) (ds gs : List (DataW H)) (before : List MemPlace)
 (hval : ∀ (j : Nat) t v, Try.f3.params[j]? = some t → args[j]? = some v → Value.okWide Try.prog W .any base t v)
 (hW : DataW.Whole enc Try.prog Try.f3.params.toList Rows.rewriteStartsSpec.vars false W args.toList ds gs before)
 (hsz : (DataW.weightsEach Try.prog (Try.f3.params.toList ++ Rows.rewriteStartsSpec.plain.varTypes Try.prog) (ds ++ gs)).all (· ≤ reachBytes) = true)
 :
 Calls Try.prog 3 args W fun e W' => ∃ v, e = .returned v ∧ Rows.rewriteStartsSpec.post enc Try.prog Try.f3 false true false false W args v W' := by
 have hW' := hW
 obtain ⟨p, q, hA, hV, rfl, hfz, hnd⟩ := hW
 rw [Try.params3] at hA hval hsz
 obtain ⟨v0, vs0, d0, ds0, p0, q0, hargs, rfl, rfl, h0, r0⟩ := trodAll_cons hA
 obtain ⟨v1, vs1, d1, ds1, p1, q1, rfl, rfl, rfl, h1, r1⟩ := trodAll_cons r0
 obtain ⟨rfl, rfl, rfl⟩ := trodAll_nil r1
 obtain rfl : args = #[v0, v1] := by cases args; simp_all
 obtain ⟨rfl, rfl⟩ := trodVars_none hV
 have k0 := h0
 obtain ⟨n0, hf0⟩ := h0
 obtain ⟨x0, hK0, hS0, hB0⟩ := op23.go hf0 (fun m hm => by have := List.all_eq_true.1 hsz m (DataW.weights_mem_each (j := 0) rfl rfl m hm); simpa using this)
 have lt0 : ∀ z ∈ p0, z.block < W.heap.size := by obtain ⟨m, hm⟩ := k0; exact DataW.trod_lt m _ _ _ hm
 obtain ⟨a0, len0, cap0, rfl⟩ := okWide_slice Try.underlying23 (hval 0 23 v0 rfl rfl)
 obtain ⟨A0, c0, hcs0, hc0, hr0⟩ := hK0
 have hcs0' : [(Value.slice a0 len0 cap0)] = [.slice A0 x0.length c0] := hcs0
 injection hcs0' with hcs0'
 injection hcs0' with ha0 hl0 hk0
 subst ha0 hl0 hk0
 have k1 := h1
 obtain ⟨n1, hf1⟩ := h1
 obtain ⟨x1, hK1, hS1, hB1⟩ := op28.go hf1 (fun m hm => by have := List.all_eq_true.1 hsz m (DataW.weights_mem_each (j := 1) rfl rfl m hm); simpa using this)
 have lt1 : ∀ z ∈ p1, z.block < W.heap.size := by obtain ⟨m, hm⟩ := k1; exact DataW.trod_lt m _ _ _ hm
 obtain ⟨cs1, rfl, hz1⟩ := okWide_struct Try.underlying28 (hval 1 28 v1 rfl rfl)
 obtain ⟨A1_0, c1_0, A1_1, c1_1, A1_3, c1_3, hcs1, hc1_0, hr1_0, hc1_1, hr1_1, hc1_3, hr1_3⟩ := k28_open hK1
 have hcs1' : cs1.toList = _ := hcs1
 obtain rfl : cs1 = #[.slice A1_0 (x1).f0.length c1_0, .slice A1_1 (x1).f1.length c1_1, .int .i64 ((x1).f2), .slice A1_3 (x1).f3.length c1_3] := by apply Array.toList_inj.1; exact hcs1'
 obtain ⟨k, h⟩ := Pure.RewriteStarts x0 x1 hS0 hS1
 refine (aumbrylaw07_RewriteStarts.calls k _ _ x0 _ _ (x1).f0 _ _ (x1).f1 (x1).f2 _ _ (x1).f3 true W hr0 hc0 hr1_0 hc1_0 hr1_1 hc1_1 hr1_3 hc1_3 h rfl).mono ?_
 rintro e W' ⟨rfl, hd⟩
 have bel : Below W.heap.size W W' := hd
 exact ⟨_, rfl, _, _, _, [], _, [], hW', trodAll_mk1 (shut_bool Try.underlying4 _), (trodAll_cons_mk (Below.trod laidOut (by kernel_rfl) (of_decide_eq_true (by kernel_rfl)) k0 bel lt0) (trodAll_cons_mk (Below.trod laidOut (by kernel_rfl) (of_decide_eq_true (by kernel_rfl)) k1 bel lt1) trodAll_mk0)), rfl, bel.frame _, fun h => by cases h⟩
set_option maxRecDepth 100000 in
theorem lifted (os : Os) (started : os.Started) (H : Type) (enc : TypeId × Value → H) :
 ReturnsInHanded {} Try.checked os 3 .any (Rows.rewriteStartsSpec.pre6 enc Try.prog Try.f3 Rows.rewriteStartsRow.domain false) (Rows.rewriteStartsSpec.post enc Try.prog Try.f3 false true false false) := by
 refine returnsInHanded_of_change_sized (C := Try.checked) own started (by kernel_rfl) Try.func3
  (ChangeSpec.witness6 (enc := enc) (C := Try.checked) false ⟨#[], #[.slice none 0 0, .agg #[.slice none 0 0, .slice none 0 0, .int .i64 0, .slice none 0 0]], []⟩ 8 (by kernel_rfl) (by kernel_rfl) (by kernel_rfl) (by kernel_rfl)) ?_
 intro W base args ds gs before hval0 hW hcnd hsz0 _
 exact core W base args ds gs before hval0 hW hsz0
theorem over : Rows.rewriteStartsRow.holds Try.pinned (OpenSpec.ofChange Rows.rewriteStartsSpec) :=
 OpenClaim.holds_of_wide 3 Try.f3 rfl rfl rfl rfl rfl rfl rfl ⟨rfl, rfl, rfl, rfl, rfl⟩ rfl rfl rfl rfl rfl (by kernel_rfl) Try.func3 (by kernel_rfl)
  (of_decide_eq_true (by kernel_rfl)) (by unfold Func.isWrapper; first | (rw [if_pos (by decide +kernel)]; kernel_rfl) | (rw [if_neg (by decide +kernel)]; exact ⟨rfl, rfl⟩))
  (fun os started H enc _ => lifted os started H enc)
theorem proved : Rows.RewriteStartsSaid := over
end Go.Proofs.Ytdlkhpfgkghhmaa.rewriteStarts
namespace Go.Proofs.Ytdlkhpfgkghhmaa
/-- The row, under a short name, for the claim. -/
theorem rewriteStarts_holds : Rows.RewriteStartsSaid := rewriteStarts.proved
#print axioms rewriteStarts_holds
end Go.Proofs.Ytdlkhpfgkghhmaa
