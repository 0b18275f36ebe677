/- CommandBlanks: the law answers true at every input that the given row speaks of. Conditions: those of the given row, none besides. (Part 5 of 5; written by programs of this session, which drive the kit's print, and by hand.) -/
import Derived.KernelRfl
import Derived.Test.YtmlddeogmckgmaaGreatDoorCards
import Derived.Test.YtmlddeogmckgmaaGreatDoorTie
import Derived.Deep.DeepWitnessRowRef
import Derived.Lay
import Derived.SevenTiedAt
import Derived.Test.YtmlddeogmckgmaaGreatDoorRows
import Derived.WalkKit
import Derived.ProofKit
import Derived.OpenShut
import Derived.ShutString
import Derived.ChangeOld
import Derived.Below
import Derived.Carry
import Derived.SizedLaws
import Derived.Test.YtmlddeogmckgmaaGreatDoorZCommandBlanks1
import Derived.Test.YtmlddeogmckgmaaGreatDoorZCommandBlanks3
set_option maxHeartbeats 8000000
set_option maxRecDepth 100000
set_option linter.unusedVariables false
set_option linter.unusedSimpArgs false
-- ==== PC1
/- Plain laws of chapter 22: any line's words are read; two commands are alike. -/
namespace Go.Proofs.YtmlddeogmckgmaaGreatDoor.P
open Go.RowKit Go.Proofs.YtmlddeogmckgmaaGreatDoorW.PrintWords
def smDr (x : Dr) : Prop := x.tm.length ≤ 64 ∧ x.lf.length ≤ 64 ∧ x.rt.length ≤ 64
theorem smDr0 (kd : Int) : smDr (dr0 kd) := ⟨Nat.zero_le _, Nat.zero_le _, Nat.zero_le _⟩
theorem num_ev (s : ByteArray) (h : s.size ≤ 281474976710656) : command_number.f s = some ((numS s).1, (numS s).2) := by
 unfold command_number.f name_Number.f
 rw [if_pos h]
 rfl
def isSign (w : ByteArray) : Prop := w.toList = [87] ∨ w.toList = [78] ∨ w.toList = [73] ∨ w.toList = [84] ∨ w.toList = [76] ∨ w.toList = [82] ∨ w.toList = [79]
theorem readF_ev (w s : ByteArray) (x : Dr) (hw : isSign w) (hs : s.size ≤ 281474976710656) (hx : smDr x) : ∃ y e, Ev (fun k => readF k w s x) (y, e) ∧ smDr y := by
 unfold readF
 by_cases c1 : w.toList = [87]
 ·
  by_cases ck : kindS s = 1
  ·
   exact ⟨_, _, evIfp c1 (Ev.bind (ev_kind s) (evIfp ck (Ev.now _))), hx⟩
  ·
   exact ⟨_, _, evIfp c1 (Ev.bind (ev_kind s) (evIfn ck (Ev.now _))), hx⟩
 by_cases c2 : w.toList = [78]
 ·
  exact ⟨_, _, evIfn c1 (evIfp c2 (Ev.bind (evIs (num_ev s hs)) (Ev.now _))), hx⟩
 by_cases c3 : w.toList = [73]
 ·
  exact ⟨_, _, evIfn c1 (evIfn c2 (evIfp c3 (Ev.bind (evIs (num_ev s hs)) (Ev.now _)))), hx⟩
 by_cases c4 : w.toList = [84]
 ·
  obtain ⟨u, a, e, h1, _, hl, hc⟩ := parse_sound s
  have hv : ∃ v, Ev (fun k => term_Vars.f k u) v := by
   by_cases hu : checkS u = 0
   ·
    exact ⟨_, ev_vars hu⟩
   ·
    exact ⟨_, ev_vars_no hu⟩
  obtain ⟨v, hv⟩ := hv
  exact ⟨_, _, evIfn c1 (evIfn c2 (evIfn c3 (evIfp c4 (Ev.bind h1 (Ev.bind hv (Ev.now _)))))), ⟨hl, hx.2⟩⟩
 by_cases c5 : w.toList = [76]
 ·
  exact ⟨_, _, evIfn c1 (evIfn c2 (evIfn c3 (evIfn c4 (evIfp c5 (Ev.now _))))), hx⟩
 by_cases c6 : w.toList = [82]
 ·
  obtain ⟨l, r, e, h1, _, hl, hr, _⟩ := ev_rparse x.left s
  exact ⟨_, _, evIfn c1 (evIfn c2 (evIfn c3 (evIfn c4 (evIfn c5 (evIfp c6 (Ev.bind h1 (Ev.now _))))))), ⟨hx.1, hl, hr⟩⟩
 by_cases c7 : w.toList = [79]
 ·
  exact ⟨_, _, evIfn c1 (evIfn c2 (evIfn c3 (evIfn c4 (evIfn c5 (evIfn c6 (evIfp c7 (Ev.now _))))))), hx⟩
 rcases hw with h | h | h | h | h | h | h
 ·
  exact absurd h c1
 ·
  exact absurd h c2
 ·
  exact absurd h c3
 ·
  exact absurd h c4
 ·
  exact absurd h c5
 ·
  exact absurd h c6
 ·
  exact absurd h c7
theorem readL_ev : ∀ (ws l : List ByteArray) (x : Dr), (∀ w ∈ ws, 1 < w.size ∨ isSign w) → (∀ s ∈ l, s.size ≤ 281474976710656) → smDr x → ∃ y e, Ev (fun k => readL k ws l x) (y, e) ∧ smDr y
 | [], l, x, _, _, hx => ⟨x, 0, by unfold readL; exact Ev.now _, hx⟩
 | w :: ws, [], x, _, _, hx => ⟨x, 0, by unfold readL; exact Ev.now _, hx⟩
 | w :: ws, s :: l, x, hw, hs, hx => by
  unfold readL
  by_cases c : 1 < w.size
  ·
   obtain ⟨y, e, h1, h2⟩ := readL_ev ws l x (fun w h => hw w (List.mem_cons_of_mem _ h)) (fun s h => hs s (List.mem_cons_of_mem _ h)) hx
   exact ⟨y, e, evIfp c h1, h2⟩
  ·
   obtain ⟨y, e, h1, h2⟩ := readF_ev w s x ((hw w List.mem_cons_self).resolve_left c) (hs s List.mem_cons_self) hx
   by_cases ce : e = 0
   ·
    obtain ⟨z, f, h3, h4⟩ := readL_ev ws l y (fun w h => hw w (List.mem_cons_of_mem _ h)) (fun s h => hs s (List.mem_cons_of_mem _ h)) h2
    exact ⟨z, f, evIfn c (Ev.bind h1 (evIfp ce h3)), h4⟩
   ·
    exact ⟨dr0 0, e, evIfn c (Ev.bind h1 (evIfn ce (Ev.now _))), smDr0 0⟩
theorem cmdL_ev (l : List ByteArray) (hs : ∀ s ∈ l, s.size ≤ 281474976710656) : ∀ fs : List (ByteArray × Int), (∀ f ∈ fs, ∀ w ∈ wordsOf f.1, 1 < w.size ∨ isSign w) → ∃ y e, Ev (fun k => cmdL k l fs) (y, e) ∧ smDr y
 | [], _ => ⟨dr0 0, 12, by unfold cmdL; exact Ev.now _, smDr0 0⟩
 | f :: fs, hf => by
  unfold cmdL
  by_cases c : fitsF (wordsOf f.1) l = true
  ·
   obtain ⟨y, e, h1, h2⟩ := readL_ev (wordsOf f.1) l (dr0 f.2) (hf f List.mem_cons_self) hs (smDr0 _)
   exact ⟨y, e, evIfp c h1, h2⟩
  ·
   obtain ⟨y, e, h1, h2⟩ := cmdL_ev l hs fs (fun g h => hf g (List.mem_cons_of_mem _ h))
   exact ⟨y, e, evIfn c h1, h2⟩
def signB (w : ByteArray) : Bool := decide (1 < w.size) || (w.data.toList == [87] || w.data.toList == [78] || w.data.toList == [73] || w.data.toList == [84] || w.data.toList == [76] || w.data.toList == [82] || w.data.toList == [79])
theorem signB_ok {w : ByteArray} (h : signB w = true) : 1 < w.size ∨ isSign w := by
 unfold signB at h
 simp only [Bool.or_eq_true, decide_eq_true_eq, beq_iff_eq] at h
 unfold isSign
 rcases h with h | (((((h | h) | h) | h) | h) | h) | h
 ·
  exact .inl h
 all_goals
  rw [ByteArray.toList_eq, h]
  simp
theorem forms_signs : ∀ f ∈ formsL, ∀ w ∈ wordsOf f.1, 1 < w.size ∨ isSign w := by
 have h : formsL.all (fun f => (wordsOf f.1).all signB) = true := by decide +kernel
 intro f hf w hw
 exact signB_ok (List.all_eq_true.1 (List.all_eq_true.1 h f hf) w hw)
theorem words_sz (s : ByteArray) (hs : s.size ≤ 256) : ∀ x ∈ wdsS s, x.size ≤ 281474976710656 := fun x hx => by have := (words_good s x hx).2.2; omega
theorem cmdF_ev (l : List ByteArray) (hl : ∀ x ∈ l, x.size ≤ 281474976710656) : ∃ y e, smDr y ∧ ∀ s : ByteArray, s.size ≤ 256 → wdsS s = l → Ev (fun k => cmdF k s) (y, e) := by
 obtain ⟨y, e, h, hy⟩ := cmdL_ev l hl formsL forms_signs
 refine ⟨y, e, hy, fun s hs hw => ?_⟩
 unfold cmdF
 exact evIfn (by omega) (Ev.bind (evIs ((words_at s (by omega)).trans (by rw [hw]))) h)
structure SameDr (x y : Dr) : Prop where
 kd : x.kd = y.kd
 nm : x.nm = y.nm
 n : x.n = y.n
 id : x.id = y.id
 on : x.on = y.on
 tm : x.tm = y.tm
 rid : x.rid = y.rid
 lf : x.lf = y.lf
 rt : x.rt = y.rt
theorem toL_iff {a b : ByteArray} : a.toList = b.toList ↔ a = b := ⟨toL_injC, fun h => by rw [h]⟩
theorem ev_rsameG (id id' : Int) (l r l' r' : List Cel) (hl : l.length ≤ 9223372036854775806 ∨ l'.length ≤ 9223372036854775806) (hr : r.length ≤ 9223372036854775806 ∨ r'.length ≤ 9223372036854775806) : ∃ b, Ev (fun k => aumbryref06_Same.f k id l r id' l' r') b ∧ (b = true ↔ id = id' ∧ l = l' ∧ r = r') := by
 unfold aumbryref06_Same.f
 by_cases c1 : id = id'
 ·
  by_cases c2 : l = l'
  ·
   exact ⟨_, evIfp c1 (Ev.bind (ev_refSame4 l l' hl) (evIfp (decide_eq_true c2) (Ev.bind (ev_refSame4 r r' hr) (Ev.now _)))), by simp [c1, c2]⟩
  ·
   exact ⟨_, evIfp c1 (Ev.bind (ev_refSame4 l l' hl) (evIfn (by simp [c2]) (Ev.now _))), by simp [c1, c2]⟩
 ·
  exact ⟨_, evIfn c1 (Ev.now _), by simp [c1]⟩
def SmallDr (x : Dr) : Prop := x.tm.length ≤ 9223372036854775806 ∧ x.lf.length ≤ 9223372036854775806 ∧ x.rt.length ≤ 9223372036854775806
theorem smDr.small {x : Dr} (h : smDr x) : SmallDr x := ⟨by have := h.1; omega, by have := h.2.1; omega, by have := h.2.2; omega⟩
theorem ev_same22 (x y : Dr) (hb : SmallDr x ∨ SmallDr y) : ∃ b, Ev (fun k => aumbryref22_Same.f k x.kd x.nm x.n x.id x.on x.tm x.rid x.lf x.rt y.kd y.nm y.n y.id y.on y.tm y.rid y.lf y.rt) b ∧ (b = true ↔ SameDr x y) := by
 have e : SameDr x y ↔ x.kd = y.kd ∧ x.nm = y.nm ∧ x.n = y.n ∧ x.id = y.id ∧ x.on = y.on ∧ x.tm = y.tm ∧ x.rid = y.rid ∧ x.lf = y.lf ∧ x.rt = y.rt := ⟨fun h => ⟨h.1, h.2, h.3, h.4, h.5, h.6, h.7, h.8, h.9⟩, fun ⟨h1, h2, h3, h4, h5, h6, h7, h8, h9⟩ => ⟨h1, h2, h3, h4, h5, h6, h7, h8, h9⟩⟩
 rw [e]
 unfold aumbryref22_Same.f
 by_cases c1 : x.kd = y.kd
 case neg => exact ⟨_, evIfn c1 (Ev.now _), by simp [c1]⟩
 by_cases c2 : x.nm = y.nm
 case neg => exact ⟨_, evIfp c1 (evIfn (fun h => c2 (toL_iff.1 h)) (Ev.now _)), by simp [c2]⟩
 by_cases c3 : x.n = y.n
 case neg => exact ⟨_, evIfp c1 (evIfp (toL_iff.2 c2) (evIfn c3 (Ev.now _))), by simp [c3]⟩
 by_cases c4 : x.id = y.id
 case neg => exact ⟨_, evIfp c1 (evIfp (toL_iff.2 c2) (evIfp c3 (evIfn c4 (Ev.now _)))), by simp [c4]⟩
 by_cases c5 : x.on = y.on
 case neg => exact ⟨_, evIfp c1 (evIfp (toL_iff.2 c2) (evIfp c3 (evIfp c4 (evIfn (by simpa using c5) (Ev.now _))))), by simp [c5]⟩
 by_cases c6 : x.tm = y.tm
 case neg => exact ⟨_, evIfp c1 (evIfp (toL_iff.2 c2) (evIfp c3 (evIfp c4 (evIfp (by simpa using c5) (Ev.bind (ev_refSame4 x.tm y.tm (hb.imp (·.1) (·.1))) (evIfn (by simp [c6]) (Ev.now _))))))), by simp [c6]⟩
 obtain ⟨b, h, hb2⟩ := ev_rsameG x.rid y.rid x.lf x.rt y.lf y.rt (hb.imp (·.2.1) (·.2.1)) (hb.imp (·.2.2) (·.2.2))
 exact ⟨_, evIfp c1 (evIfp (toL_iff.2 c2) (evIfp c3 (evIfp c4 (evIfp (by simpa using c5) (Ev.bind (ev_refSame4 x.tm y.tm (hb.imp (·.1) (·.1))) (evIfp (decide_eq_true c6) (Ev.bind h (Ev.now _)))))))), by rw [hb2]; simp [c1, c2, c3, c4, c5, c6]⟩
end Go.Proofs.YtmlddeogmckgmaaGreatDoor.P

-- ==== PC2
/- Plain laws of chapter 22: what the statements ask ahead (wakes). -/
namespace Go.Proofs.YtmlddeogmckgmaaGreatDoor.P
open Go.RowKit Go.Proofs.YtmlddeogmckgmaaGreatDoorW.PrintWords
theorem ev_wakes22 : Ev (fun k => wakesF k) true := Ev.of (g := fun k => wakesF k) wakesF_mono (k := 40) (by kernel_rfl)
end Go.Proofs.YtmlddeogmckgmaaGreatDoor.P

-- ==== PureCommandBlanks
/- Blanks between the words of a line, ahead of them and behind them change nothing, within a line's length: for every line and blanks, the law answers true. -/
namespace Go.Proofs.YtmlddeogmckgmaaGreatDoor.Pure
open Go.RowKit Go.Proofs.YtmlddeogmckgmaaGreatDoor.P Go.Proofs.YtmlddeogmckgmaaGreatDoorW.PrintWords
theorem u8_wf {v : Int} (h : (Lit.int .u8 v).wf = true) : 0 ≤ v ∧ v ≤ 255 := by
 simp only [Lit.wf, Bool.and_eq_true, decide_eq_true_eq] at h
 have e1 : IntKind.u8.min = 0 := by decide
 have e2 : IntKind.u8.max = 255 := by decide
 rw [e1, e2] at h
 exact h
theorem nB_ok {bs : List Int} (hbs : ∀ x ∈ bs, 0 ≤ x ∧ x ≤ 255) (i : Nat) : ∃ n : Nat, 1 ≤ n ∧ n ≤ 3 ∧ nB bs (i : Int) = (n : Int) := by
 unfold nB
 by_cases hi : (i : Int) < (bs.length : Int)
 ·
  rw [if_pos hi]
  have hlt : i < bs.length := by omega
  have hx : 0 ≤ rd bs (i : Int) ∧ rd bs (i : Int) ≤ 255 := by
   have : rd bs (i : Int) = bs[i] := by
    unfold rd
    simp [hlt]
   rw [this]
   exact hbs _ (List.getElem_mem hlt)
  obtain ⟨m, hm⟩ : ∃ m : Nat, rd bs (i : Int) = (m : Int) := ⟨(rd bs (i : Int)).toNat, by omega⟩
  rw [hm]
  have e6 : Int.tmod (m : Int) 3 = ((m % 3 : Nat) : Int) := by rw [Int.tmod_eq_emod_of_nonneg (by omega)]; omega
  have hm3 : m % 3 < 3 := Nat.mod_lt _ (by omega)
  have e7 : wrap64 (1 + wrap64 ((m % 3 : Nat) : Int)) = ((1 + m % 3 : Nat) : Int) := by
   rw [wrap_id (i := ((m % 3 : Nat) : Int)) (by omega) (by omega), wrap_id (by omega) (by omega)]
   omega
  exact ⟨1 + m % 3, by omega, by omega, by rw [e6, e7]⟩
 ·
  rw [if_neg hi]
  exact ⟨1, by omega, by omega, rfl⟩
theorem bl_blF : ∀ (n : Nat) (acc : ByteArray), bl (blF n acc) = bl acc ++ List.replicate n 32
 | 0, acc => by simp [blF]
 | n + 1, acc => by
  rw [blF, bl_append, bl_blF n acc, List.replicate_succ', List.append_assoc]
theorem wide_ok {bs : List Int} (hbs : ∀ x ∈ bs, 0 ≤ x ∧ x ≤ 255) : ∀ (u : List ByteArray) (i : Nat) (acc : ByteArray), (∀ x ∈ u, bl x ≠ [] ∧ (32 : UInt8) ∉ bl x ∧ x.size ≤ 2000) → acc.size + u.length * 2004 ≤ 4611686018427387904 →
 ∃ wide ps, wideF bs u (i : Int) acc = some wide ∧ bl wide = bl acc ++ jnL ps ∧ (∀ p ∈ ps, 1 ≤ p.1 ∧ p.2 ≠ [] ∧ (32 : UInt8) ∉ p.2) ∧ ps.map (fun p => baL p.2) = u
 | [], i, acc, _, _ => ⟨acc, [], rfl, by simp [jnL], fun p hp => (by cases hp), rfl⟩
 | w :: u, i, acc, hg, hs => by
  obtain ⟨n, h1, h3, hn⟩ := nB_ok hbs i
  obtain ⟨g1, g2, g3⟩ := hg w List.mem_cons_self
  rw [List.length_cons, Nat.add_mul] at hs
  have hz : (blF n acc ++ w).size = acc.size + n + w.size := by rw [ByteArray.size_append, blF_size]
  obtain ⟨wide, ps, e1, e2, e3, e4⟩ := wide_ok hbs u (i + 1) (blF n acc ++ w) (fun x hx => hg x (List.mem_cons_of_mem _ hx)) (by rw [hz]; omega)
  refine ⟨wide, (n, bl w) :: ps, ?_, ?_, ?_, ?_⟩
  ·
   rw [wideF, hn, if_pos ⟨by omega, by omega, by omega⟩, Int.toNat_natCast]
   exact e1
  ·
   rw [e2, bl_append, bl_blF, jnL]
   simp only [List.append_assoc]
  ·
   intro p hp
   rcases List.mem_cons.1 hp with rfl | h
   ·
    exact ⟨h1, g1, g2⟩
   ·
    exact e3 p h
  ·
   rw [List.map_cons, e4]
   show baL (bl w) :: u = w :: u
   rw [ba_bl]
theorem CommandBlanks : aumbrylaw22_CommandBlanks.Pure := by
 intro s bs hs hb
 refine Ev.rounds ?_
 unfold aumbrylaw22_CommandBlanks.f lawBl
 refine Ev.bind ev_wakes22 (evIfp rfl ?_)
 by_cases h2 : (s.size : Int) > 256
 ·
  exact evIfp h2 (Ev.now _)
 refine evIfn h2 (Ev.bind (ev_refWords s (by omega)) ?_)
 have hl := wdsS_len s
 obtain ⟨wide, ps, e1, e2, e3, e4⟩ := wide_ok (fun x hx => u8_wf (hb.2 x hx)) (wdsS s) 0 ⟨#[]⟩ (fun x hx => by
  obtain ⟨g1, g2, g3⟩ := words_good s x hx
  exact ⟨g1, g2, by omega⟩) (by have : (⟨#[]⟩ : ByteArray).size = 0 := rfl; omega)
 refine Ev.bind (evIs_ e1) ?_
 by_cases hw : (wide.size : Int) > 255
 ·
  exact evIfp hw (Ev.now _)
 have e5 : wdsS (wide ++ (⟨#[32]⟩ : ByteArray)) = wdsS s := by
  rw [wds_join (ps := ps) (t := [32]) (.inr rfl) e3 (by rw [bl_append, e2]; rfl), e4]
 have hsz : (wide ++ (⟨#[32]⟩ : ByteArray)).size ≤ 256 := by rw [ByteArray.size_append]; have : (⟨#[32]⟩ : ByteArray).size = 1 := rfl; omega
 obtain ⟨y, e, hy, hc⟩ := cmdF_ev (wdsS s) (words_sz s (by omega))
 obtain ⟨b, hb1, hb2⟩ := ev_same22 y y (.inl hy.small)
 obtain rfl : b = true := hb2.2 ⟨rfl, rfl, rfl, rfl, rfl, rfl, rfl, rfl, rfl⟩
 exact evIfn hw (Ev.bind (hc s (by omega) rfl) (Ev.bind (hc _ hsz e5) (evIfp rfl (Ev.bind hb1 (evIfp rfl (Ev.now _))))))
end Go.Proofs.YtmlddeogmckgmaaGreatDoor.Pure

-- ==== RowCommandBlanks
namespace Go.Proofs.YtmlddeogmckgmaaGreatDoor.commandBlanks
open Go.ChangeShapes Go.WideShapes Go.ChangeAt Go.RowKit Go.Proofs.YtmlddeogmckgmaaGreatDoorW.PrintWords Go.Proofs.YtmlddeogmckgmaaGreatDoor.P Go.Proofs.YtmlddeogmckgmaaGreatDoor.Open
open Go.ChangeMaps (open_string shut_string)
theorem own : ownKnob Tryz.prog.godebug = none := by kernel_rfl
theorem laidOut : laidOutB Tryz.prog = true := by kernel_rfl
theorem core {H : Type} {enc : TypeId × Value → H} (W : World) (base : Nat) (args : Array Value) (ds gs : List (DataW H)) (before : List MemPlace)
 (hval : ∀ (j : Nat) t v, Tryz.f6.params[j]? = some t → args[j]? = some v → Value.okWide Tryz.prog W .any base t v)
 (hW : DataW.Whole enc Tryz.prog Tryz.f6.params.toList Rows.commandBlanksSpec.vars false W args.toList ds gs before)
 (hsz : (DataW.weightsEach Tryz.prog (Tryz.f6.params.toList ++ Rows.commandBlanksSpec.plain.varTypes Tryz.prog) (ds ++ gs)).all (· ≤ reachBytes) = true)
 (hL : laidMetH Tryz.prog Rows.commandBlanksRow.laid W)
 :
 Calls Tryz.prog 6 args W fun e W' => ∃ v, e = .returned v ∧ Rows.commandBlanksSpec.post enc Tryz.prog Tryz.f6 false true false false W args v W' := by
 have hW' := hW
 obtain ⟨p, q, hA, hV, rfl, hfz, hnd⟩ := hW
 rw [Tryz.params6] at hA hval hsz
 obtain ⟨v0, vs0, d0, ds0, p0, q0, hargs, rfl, rfl, h0, r0⟩ := trodAll_cons hA
 obtain ⟨v1, vs1, d1, ds1, p1, q1, rfl, rfl, rfl, h1, r1⟩ := trodAll_cons r0
 obtain ⟨rfl, rfl, rfl⟩ := trodAll_nil r1
 obtain rfl : args = #[v0, v1] := by cases args; simp_all
 obtain ⟨rfl, rfl⟩ := trodVars_none hV
 have k0 := h0
 obtain ⟨n0, hf0⟩ := h0
 obtain ⟨x0, hK0, hS0, hB0⟩ := op9.go hf0 (fun m hm => by have := List.all_eq_true.1 hsz m (DataW.weights_mem_each (j := 0) rfl rfl m hm); simpa using this)
 have lt0 : ∀ z ∈ p0, z.block < W.heap.size := by obtain ⟨m, hm⟩ := k0; exact DataW.trod_lt m _ _ _ hm
 obtain ⟨y0, rfl⟩ := okWide_string Tryz.underlying9 (hval 0 9 v0 rfl rfl)
 have hcs0' : [_] = [_] := hK0
 injection hcs0' with hcs0'
 injection hcs0' with hq0
 subst hq0
 have k1 := h1
 obtain ⟨n1, hf1⟩ := h1
 obtain ⟨x1, hK1, hS1, hB1⟩ := op45.go hf1 (fun m hm => by have := List.all_eq_true.1 hsz m (DataW.weights_mem_each (j := 1) rfl rfl m hm); simpa using this)
 have lt1 : ∀ z ∈ p1, z.block < W.heap.size := by obtain ⟨m, hm⟩ := k1; exact DataW.trod_lt m _ _ _ hm
 obtain ⟨a1, len1, cap1, rfl⟩ := okWide_slice Tryz.underlying45 (hval 1 45 v1 rfl rfl)
 obtain ⟨A1, c1, hcs1, hc1, hr1⟩ := hK1
 have hcs1' : [(Value.slice a1 len1 cap1)] = [.slice A1 x1.length c1] := hcs1
 injection hcs1' with hcs1'
 injection hcs1' with ha1 hl1 hk1
 subst ha1 hl1 hk1
 obtain ⟨k, h⟩ := Pure.CommandBlanks y0 x1 hS0 hS1
 refine (aumbrylaw22_CommandBlanks.calls k y0 _ _ x1 true W hr1 hc1 h rfl (glob_row hL)).mono ?_
 rintro e W' ⟨rfl, hd⟩
 have bel : Below W.heap.size W W' := hd
 exact ⟨_, rfl, _, _, _, [], _, [], hW', trodAll_mk1 (shut_bool Tryz.underlying4 _), (trodAll_cons_mk (Below.trod laidOut (by kernel_rfl) (of_decide_eq_true (by kernel_rfl)) k0 bel lt0) (trodAll_cons_mk (Below.trod laidOut (by kernel_rfl) (of_decide_eq_true (by kernel_rfl)) k1 bel lt1) trodAll_mk0)), rfl, bel.frame _, fun h => by cases h⟩
theorem laid_met (os : Os) : laidMet Tryz.prog Rows.commandBlanksRow.laid ((World.laidAll Tryz.prog os Rows.commandBlanksRow.laid).forCall (fun _ _ => 0) ⟨#[], #[.string ByteArray.empty, .slice none 0 0], []⟩).memory :=
 laidMet_laidAll _ (by kernel_rfl) (by kernel_rfl)
theorem reads (os : Os) {H : Type} (enc : TypeId × Value → H) : (DataW.whole enc Tryz.prog ((World.laidAll Tryz.prog os Rows.commandBlanksRow.laid).forCall (fun _ _ => 0) ⟨#[], #[.string ByteArray.empty, .slice none 0 0], []⟩).memory Tryz.f6.params.toList Rows.commandBlanksSpec.vars false (#[.string ByteArray.empty, .slice none 0 0] : Array Value).toList 8).isSome = true := by kernel_rfl
theorem lifted (os : Os) (started : os.Started) (H : Type) (enc : TypeId × Value → H) (F : Stop.Interp) :
 ReturnsInHanded {} Tryz.checked os 6 .any ((OpenSpec.ofChange Rows.commandBlanksSpec).preRow enc Tryz.prog Tryz.f6 Rows.commandBlanksRow.domain false Rows.commandBlanksRow.laid) (((OpenSpec.ofChange Rows.commandBlanksSpec).at F).post enc Tryz.prog Tryz.f6 false true false false) := by
 obtain ⟨x, hx⟩ := Option.isSome_iff_exists.1 (reads os enc)
 refine returnsInHanded_of_row (C := Tryz.checked) (s := (OpenSpec.ofChange Rows.commandBlanksSpec)) own started (by kernel_rfl) Tryz.func6
  (witness_row_atRef (enc := enc) (C := Tryz.checked) false (World.laidAll Tryz.prog os Rows.commandBlanksRow.laid) #[.string ByteArray.empty, .slice none 0 0] rfl (by kernel_rfl) (by kernel_rfl) (by kernel_rfl)
   (OpenSpec.preRow_of_cond 8 hx rfl (fun k hk => by cases hk) (by kernel_rfl) (laid_met os))) ?_
 intro W base args ds gs before hval0 hW _ hk hsz0 hL _ _
 exact core W base args ds gs before hval0 hW hsz0 hL
theorem said : Rows.CommandBlanksSaid :=
 OpenClaim.holds_of_cond 6 Tryz.f6 rfl rfl rfl rfl rfl rfl rfl ⟨rfl, rfl, rfl, rfl, rfl⟩ rfl rfl rfl rfl rfl (by kernel_rfl) Tryz.func6 (by kernel_rfl)
  (of_decide_eq_true (by kernel_rfl)) (by unfold Func.isWrapper; first | (rw [if_pos (by decide +kernel)]; kernel_rfl) | (rw [if_neg (by decide +kernel)]; exact ⟨rfl, rfl⟩))
  (fun os started H enc _ F => by rw [OpenClaim.pre_eq_preRow]; exact lifted os started H enc F)
theorem plain (f : FuncId) (fn : Func) (hf : Tryz.pinned.checked.prog.funcNamed "aumbry/aumbrylaw22.CommandBlanks" = some f) (hfn : Tryz.pinned.checked.prog.funcs[f]? = some fn) :
 true = Tryz.pinned.checked.prog.looks [] ∧ ∀ (j : Nat) t, fn.params[j]? = some t → Tryz.pinned.checked.prog.wantsStandIn t = false := by
 obtain rfl : f = 6 := Option.some.inj ((show Tryz.prog.funcNamed "aumbry/aumbrylaw22.CommandBlanks" = some 6 by kernel_rfl).symm.trans hf) |>.symm
 obtain rfl : fn = Tryz.f6 := (Option.some.inj (Tryz.func6.symm.trans hfn)).symm
 refine ⟨by kernel_rfl, fun j t ht => ?_⟩
 rw [Tryz.params6] at ht
 have hm := Array.mem_of_getElem? ht
 have hm' : t = 9 ∨ t = 45 := by simpa using hm
 rcases hm' with rfl | rfl
 ·
  exact (show Tryz.prog.wantsStandIn 9 = false by kernel_rfl)
 ·
  exact (show Tryz.prog.wantsStandIn 45 = false by kernel_rfl)
theorem card : Rows.CommandBlanksCardSaid :=
 Claim7.holds_tied_plain_at .later [] _ _ _ _ said (fun _ h => by cases h) (by kernel_rfl) (fun _ h => by cases h) commandBlanks_row_tie rfl ⟨rfl, rfl⟩ (by kernel_rfl) rfl plain (by kernel_rfl)
end Go.Proofs.YtmlddeogmckgmaaGreatDoor.commandBlanks
namespace Go.Proofs.YtmlddeogmckgmaaGreatDoor
theorem commandBlanks_holds : Rows.CommandBlanksCardSaid := commandBlanks.card
#print axioms commandBlanks_holds
end Go.Proofs.YtmlddeogmckgmaaGreatDoor
