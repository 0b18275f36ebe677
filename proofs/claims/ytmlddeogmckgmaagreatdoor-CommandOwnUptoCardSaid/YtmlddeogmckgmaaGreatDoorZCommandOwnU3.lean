/- CommandOwn: the law answers true at every input that the given row speaks of. Conditions: those of the given row, none besides. (Part 4 of 5; written by programs of this session, which drive the kit's print, and by hand.) -/
import Derived.RangeFuncFrom
import Derived.RangeFuncWrites
import Derived.Lib.LaidTab
import Derived.KernelRfl
import Derived.Deep.RegionHeld3
import Derived.Laws.StructEq
import Derived.ChangeKeysEq
import Derived.Test.YtmlddeogmckgmaaGreatDoorZCommandOwnU0
import Derived.Test.YtmlddeogmckgmaaGreatDoorZCommandOwnU1
import Derived.Test.YtmlddeogmckgmaaGreatDoorZCommandOwnU2
set_option maxHeartbeats 8000000
set_option maxRecDepth 100000
set_option linter.unusedVariables false
set_option linter.unusedSimpArgs false
-- ==== Nw2
namespace Go.Proofs.YtmlddeogmckgmaaGreatDoor.P
open Go.RowKit Go.Shelf Go.Proofs.YtmlddeogmckgmaaGreatDoorW.PrintWords
attribute [local go_sem] Oper.semAt_some
def wdsS (s : ByteArray) : List ByteArray := wdsF s (s.size + 1) 0 0
theorem words_stops (F : Fence) (n : Nat) (h25 : F.fn 66) (hro : F.round = none) (hn : 1 ≤ n) (Bs n₀ : Nat) (s : ByteArray) (hs : s.size < 5864062014805) (hB0 : Bs < n₀) (w : World) (hn₀ : n₀ ≤ w.heap.size) (hc : w.cell? ⟨Bs, 0, none⟩ = some (.string s)) :
 SeqStopsK F n Tryz.prog 66 #[.pointer (some ⟨Bs, 0, none⟩)] (fun x : ByteArray => #[Value.string x]) (Below n₀) (fun ys => ys = wdsS s) (fun pre => ∃ q, pre ++ q = wdsS s) (s.size + 1) w := fun l J Jx W hW _ _ hY h0 =>
 words1_in F n h25 hro hn l Bs n₀ s hs hB0 J Jx hY W ((hW.cell (p := ⟨Bs, 0, none⟩) (by show Bs < w.heap.size; omega)).trans hc) h0
theorem info_str : (Tryz.prog.info? 9).map (fun i => (i.zero, i.size, i.bytes)) = some (some (.string ⟨#[]⟩), 1, 16) := by kernel_rfl
theorem appendSeq_in (F : Fence) (n : Nat) (h24 : F.fn 65) (h25 : F.fn 66) (hro : F.round = none) (hn : 3 ≤ n) (Bs : Nat) (s : ByteArray) (hs : s.size < 5864062014805) (w : World) (hB0 : Bs < w.heap.size) (hc0 : w.cell? ⟨Bs, 0, none⟩ = some (.string s)) :
 CallsIn F n Tryz.prog 65 #[.slice none 0 0, .func (.func 66) #[] #[.pointer (some ⟨Bs, 0, none⟩)]] w fun e W' => ∃ v, e = .returned v ∧ W'.ownsRow w.heap.size 9 1 v (wdsS s).length ((wdsS s).map Value.string) ∧ Below w.heap.size w W' := by
 have h1 : 1 ≤ n := by omega
 obtain ⟨i0, hi, hz0, hz1, hz2⟩ := info_parts info_str
 refine callsIn_of_wp_marks Tryz.func65 rfl h24 ?_ hro
 simp only [Tryz.ntmps65, List.size_toArray, List.length_cons, List.length_nil, Nat.reduceAdd, Nat.reduceSub, Array.replicate_succ, Array.replicate_zero, List.push_toArray, List.append_toArray, List.nil_append, List.cons_append]
 gi_wp2
 have bO := Boxed.new w 42 (.slice none 0 0)
 have hB1 : Below w.heap.size w (w.alloc (.cells #[.slice none 0 0] 42)) := (Below.refl _ w).alloc (Nat.le_refl _) _
 refine wpIn_rangeFunc_ownF hro h1 (gf := 66) (lb := #[.pointer (some ⟨Bs, 0, none⟩)]) rfl h25 (enters_of Tryz.func66 (by kernel_rfl) rfl)
  (words_stops F (n - 1) h25 hro (by omega) Bs w.heap.size s hs hB0 (w.alloc (.cells #[.slice none 0 0] 42)) (by simp) ((hB1.cell (p := ⟨Bs, 0, none⟩) hB0).trans hc0)) belowK_t (belowK_b (by simp)) (Below.refl _ _) (fun _ => rfl)
  (fun pre W => (∃ v, Boxed W w.heap.size 42 v ∧ W.ownsRow w.heap.size 9 1 v pre.length (pre.map Value.string) ∧ (v = .slice none 0 0 ↔ pre = [])) ∧ Below w.heap.size w W)
  (fun _ _ _ => False)
  (OwnFrom.and (Own.from (holdsRow_own w.heap.size w.heap.size 42 9 1 (fun pre => pre.length) (fun pre => pre.map Value.string) (fun pre v => v = .slice none 0 0 ↔ pre = [])) _) (ownFrom_below (Nat.le_refl _) (by simp)))
  (fun _ _ _ _ _ hs _ _ => hs)
  ⟨⟨_, bO, World.ownsRow_nil _ _ _ _, by simp⟩, hB1⟩
  (fun x => { tmps := #[.slice none 0 0, .func (.func 66) #[] #[.pointer (some ⟨Bs, 0, none⟩)], .pointer (some ⟨w.heap.size, 0, none⟩), undef, .slice none 0 0, .string x, .func (.func 66) #[] #[.pointer (some ⟨Bs, 0, none⟩)], .string x, undef, undef, undef, undef, undef], defers := [] }) ?assign ?body ?done ?stop
 case assign =>
  intro l x W K hK
  gi_wp2
  exact hK
 case body =>
  rintro l pre x W ⟨⟨v, hv, hrow, hnil⟩, hB⟩ hlt
  have hc := hv.cell
  gi_wp2_with (gi_at_builtin; refine wpListIn_append_own _ rfl _ _ 42 rfl w.heap.size 9 i0 (.string ⟨#[]⟩) 1 16 Tryz.underlying42 hi hz0 hz1 hz2 rfl (by decide) _ _ _ rfl (hrow.alloc _) ⟨W.heap.size, 0, none⟩ 1 1 [.string x] rfl rfl (cell_one_new _ _ _) (by simp [Value.oneCell']) (by unfold maxLen; omega) (by omega) (by have := hB.size; simp; omega) ?_; intro v' w1 hown' hgrow _; obtain ⟨g', cap', rfl⟩ := ownsRow_succ hown'; obtain ⟨hv1, hv2, hr2, hk2, hb2⟩ := hv.appended (by decide) hrow hB.size (Nat.le_refl _) hown' hgrow; have hc1 := hv1.cell; have hf1 := hv1.frozen)
  exact ⟨hk2, hb2, ⟨_, hv2, by simpa using hr2, by simp⟩, hB.trans hb2⟩
 case done =>
  rintro D ys W hD rfl ⟨⟨v, hv, hrow, hnil⟩, hB⟩ hK
  have hc := hv.cell
  gi_wp2
  refine ⟨by simp, .inl ⟨_, _, rfl, run_takeDeferred hK, ?_⟩⟩
  exact ⟨_, results_tmp rfl _ _ _, v, rfl, ownsRow_putObj hrow _ hK rfl, hB.trans (belowK_b (w := w) (Nat.le_refl _) W D _ _ (by simp at hD; omega) hK rfl rfl)⟩
 case stop =>
  rintro D c pre W _ _ h _
  exact h.elim

-- ==== Nw3
theorem collect_in (F : Fence) (n : Nat) (h20 : F.fn 32) (h24 : F.fn 65) (h25 : F.fn 66) (hro : F.round = none) (hn : 4 ≤ n) (Bs : Nat) (s : ByteArray) (hs : s.size < 5864062014805) (w : World) (hB0 : Bs < w.heap.size) (hc0 : w.cell? ⟨Bs, 0, none⟩ = some (.string s)) :
 CallsIn F n Tryz.prog 32 #[.func (.func 66) #[] #[.pointer (some ⟨Bs, 0, none⟩)]] w fun e W' => ∃ v, e = .returned v ∧ W'.ownsRow w.heap.size 9 1 v (wdsS s).length ((wdsS s).map Value.string) ∧ Below w.heap.size w W' := by
 have h1 : 1 ≤ n := by omega
 have hc := appendSeq_in F (n - 1) h24 h25 hro (by omega) Bs s hs w hB0 hc0
 refine callsIn_of_wp Tryz.func32 rfl h20 ?_ hro
 simp only [Tryz.ntmps32, List.size_toArray, List.length_cons, List.length_nil, Nat.reduceAdd, Nat.reduceSub, Array.replicate_succ, Array.replicate_zero, List.push_toArray, List.append_toArray, List.nil_append, List.cons_append]
 gi_wp2_with (gi_at_call 65; refine hc.mono ?_; rintro e w' ⟨v, rfl, hr, hb⟩)
 go_ret
 exact ⟨v, rfl, hr, hb⟩
theorem mkwords_in (F : Fence) (n : Nat) (h21 : F.fn 33) (hro : F.round = none) (s : ByteArray) (w : World) :
 CallsIn F n Tryz.prog 33 #[.string s] w fun e W' => e = .returned (.func (.func 66) #[] #[.pointer (some ⟨w.heap.size, 0, none⟩)]) ∧ W' = w.alloc (.cells #[.string s] 9) := by
 refine callsIn_of_wp Tryz.func33 rfl h21 ?_ hro
 simp only [Tryz.ntmps33, List.size_toArray, List.length_cons, List.length_nil, Nat.reduceAdd, Nat.reduceSub, Array.replicate_succ, Array.replicate_zero, List.push_toArray, List.append_toArray, List.nil_append, List.cons_append]
 gi_wp2
 go_ret
 exact ⟨rfl, rfl⟩
theorem words_calls (s : ByteArray) (hs : s.size < 5864062014805) (w : World) :
 Calls Tryz.prog 16 #[.string s] w fun e W' => ∃ v, e = .returned v ∧ Kd.R Kd.string 9 W' w.heap.size (fun _ => True) v (wdsS s) ∧ Below w.heap.size w W' := by
 refine (callsIn_wide (n := 6)).1 ?_
 have h20 : Fence.wide.fn 32 := trivial
 have h21 : Fence.wide.fn 33 := trivial
 have h24 : Fence.wide.fn 65 := trivial
 have h25 : Fence.wide.fn 66 := trivial
 have hm := mkwords_in Fence.wide (6 - 1) h21 rfl s w
 have bx := Boxed.new w 9 (.string s)
 have hc := collect_in Fence.wide (6 - 1) h20 h24 h25 rfl (by omega) w.heap.size s hs (w.alloc (.cells #[.string s] 9)) (by simp) bx.cell
 refine callsIn_of_wp Tryz.func16 rfl trivial ?_ rfl
 simp only [Tryz.ntmps16, List.size_toArray, List.length_cons, List.length_nil, Nat.reduceAdd, Nat.reduceSub, Array.replicate_succ, Array.replicate_zero, List.push_toArray, List.append_toArray, List.nil_append, List.cons_append]
 gi_wp2_with (first | (gi_at_call 33; refine hm.mono ?_; rintro e w' ⟨rfl, rfl⟩) | (gi_at_call 32; refine hc.mono ?_; rintro e w2 ⟨v, rfl, hr, hb⟩))
 go_ret
 exact ⟨v, rfl, Kd.R_of_own (own_weaken hr (by simp)) (fun _ _ => trivial), (((Below.refl _ w).alloc (Nat.le_refl _) _).trans (hb.mono (by simp)))⟩
end Go.Proofs.YtmlddeogmckgmaaGreatDoor.P

-- ==== PF16
namespace Go.Proofs.YtmlddeogmckgmaaGreatDoor.P
open Go.RowKit Go.Proofs.YtmlddeogmckgmaaGreatDoorW.PrintWords Go.Proofs.YtmlddeogmckgmaaGreatDoorW.PrintLast Go.Proofs.YtmlddeogmckgmaaGreatDoorW.PrintMore
attribute [local go_sem] max2_int min2_int max_two min_two max_three min_three max_four min_four

def name_Words.f (a0 : ByteArray) : Option (List ByteArray) := if a0.size < 5864062014805 then some (wdsS a0) else none
theorem name_Words.calls (a0 : ByteArray) (r : List ByteArray) (w : World) (h : name_Words.f a0 = some r) :
 Calls Tryz.prog 16 #[.string a0] w fun e w' => ∃ v0_ : Value, e = .returned (v0_) ∧ Kd.R Kd.string 9 w' w.heap.size (fun _ => True) v0_ r ∧ Below w.heap.size w w' := by
 unfold name_Words.f at h
 by_cases hs : a0.size < 5864062014805
 ·
  rw [if_pos hs] at h
  injection h with h
  subst h
  exact words_calls a0 hs w
 ·
  rw [if_neg hs] at h
  cases h


end Go.Proofs.YtmlddeogmckgmaaGreatDoor.P

-- ==== Cm5
/- Any sign's reader; what a line is read as. -/
namespace Go.Proofs.YtmlddeogmckgmaaGreatDoor.P
open Go.RowKit Go.ChangeMaps Go.Proofs.YtmlddeogmckgmaaGreatDoorW.PrintWords Go.Proofs.YtmlddeogmckgmaaGreatDoorW.PrintLast Go.Proofs.YtmlddeogmckgmaaGreatDoorW.PrintMore
theorem look_run {P : Program} {W : World} {t k e : TypeId} {b i clock : Nat} {es : Array MapEntry} {w : ByteArray} {v : Value} (ht : P.underlying t = some (.map k e)) (hk : P.underlying k = some .string) (hb : W.heap[b]? = some (.map es clock)) (he : es.isEmpty = false)
 (hf : Instr.findNow .string (.string w) es.toList 0 = some (some (i, v))) : (Instr.lookup t (.map (some b)) (.string w) false).run P W = .ok v W := by
 have hfk : (Instr.findKey k (.string w) es.toList).run P W = .ok (some (i, v)) W := by
  simp [Instr.findKey, run_underlying hk, hf, Result.andThen]
 have hck := run_checkS (P := P) (w := W) false 9999 hk w
 simp [Instr.lookup, run_underlying ht, MapKept.run_getObj_map hb, he, hck, hfk, Result.andThen]
abbrev Reads (x : Dr) (s : ByteArray) (y : Dr) (e : Int) (f : Nat) : Prop := ∀ W d, Glob W → DrAt W d x → Calls Tryz.prog f #[.pointer (some ⟨d, 0, none⟩), .string s] W fun r w' => r = .returned (.int .i64 e) ∧ DrAt w' d y ∧ Off d W w'
abbrev Look (w : ByteArray) (f : Nat) : Prop := ∀ (W : World) (b : Nat), W.heap[b]? = some (.map rdEs 7) → (Instr.lookup 57 (.map (some b)) (.string w) false).run Tryz.prog W = .ok (rdV f) W
theorem look_of {w : ByteArray} {f i : Nat} (hf : Instr.findNow .string (.string w) rdEs.toList 0 = some (some (i, rdV f))) : Look w f := fun W b hb => look_run Tryz.underlying57 Tryz.underlying9 hb rfl hf
theorem byte1 {w : ByteArray} {c : UInt8} (h : w.toList = [c]) : w = ⟨#[c]⟩ := toL_injC (by rw [h, ByteArray.toList_eq])
theorem read_cases {k : Nat} {w s : ByteArray} {x y : Dr} {e : Int} (h : readF k w s x = some (y, e)) :
 (Look w 34 ∧ Reads x s y e 34) ∨ (Look w 36 ∧ Reads x s y e 36) ∨ (Look w 38 ∧ Reads x s y e 38) ∨ (Look w 39 ∧ Reads x s y e 39)
 ∨ (Look w 42 ∧ Reads x s y e 42) ∨ (Look w 43 ∧ Reads x s y e 43) ∨ (Look w 45 ∧ Reads x s y e 45) := by
 unfold readF at h
 split at h
 ·
  rename_i c
  obtain ⟨kd, hk, h⟩ := Option.bind_eq_some_iff.mp h
  refine .inl ⟨look_of (i := 0) (by rw [byte1 c]; rfl), fun W d _ hd => (rdW_calls hd hk).mono ?_⟩
  rintro r w' ⟨rfl, h1, h2⟩
  by_cases c1 : kd = 1
  ·
   rw [if_pos c1] at h h1 ⊢
   obtain ⟨rfl, rfl⟩ := Prod.mk.inj (Option.some.inj h)
   exact ⟨rfl, h1, h2⟩
  ·
   rw [if_neg c1] at h h1 ⊢
   obtain ⟨rfl, rfl⟩ := Prod.mk.inj (Option.some.inj h)
   exact ⟨rfl, h1, h2⟩
 ·
  split at h
  ·
   rename_i c
   obtain ⟨r, hk, h⟩ := Option.bind_eq_some_iff.mp h
   obtain ⟨rfl, rfl⟩ := Prod.mk.inj (Option.some.inj h)
   exact .inr (.inl ⟨look_of (i := 1) (by rw [byte1 c]; rfl), fun W d hg hd => rdN_calls hd hk hg⟩)
  ·
   split at h
   ·
    rename_i c
    obtain ⟨r, hk, h⟩ := Option.bind_eq_some_iff.mp h
    obtain ⟨rfl, rfl⟩ := Prod.mk.inj (Option.some.inj h)
    exact .inr (.inr (.inl ⟨look_of (i := 2) (by rw [byte1 c]; rfl), fun W d hg hd => rdI_calls hd hk hg⟩))
   ·
    split at h
    ·
     rename_i c
     obtain ⟨p, hp, h⟩ := Option.bind_eq_some_iff.mp h
     obtain ⟨v, hv, h⟩ := Option.bind_eq_some_iff.mp h
     obtain ⟨rfl, rfl⟩ := Prod.mk.inj (Option.some.inj h)
     exact .inr (.inr (.inr (.inl ⟨look_of (i := 3) (by rw [byte1 c]; rfl), fun W d _ hd => rdT_calls hd hp hv⟩)))
    ·
     split at h
     ·
      rename_i c
      obtain ⟨rfl, rfl⟩ := Prod.mk.inj (Option.some.inj h)
      exact .inr (.inr (.inr (.inr (.inl ⟨look_of (i := 4) (by rw [byte1 c]; rfl), fun W d _ hd => rdL_calls hd⟩))))
     ·
      split at h
      ·
       rename_i c
       obtain ⟨r, hk, h⟩ := Option.bind_eq_some_iff.mp h
       obtain ⟨rfl, rfl⟩ := Prod.mk.inj (Option.some.inj h)
       exact .inr (.inr (.inr (.inr (.inr (.inl ⟨look_of (i := 5) (by rw [byte1 c]; rfl), fun W d _ hd => rdR_calls hd hk⟩)))))
      ·
       split at h
       ·
        rename_i c
        obtain ⟨rfl, rfl⟩ := Prod.mk.inj (Option.some.inj h)
        exact .inr (.inr (.inr (.inr (.inr (.inr ⟨look_of (i := 6) (by rw [byte1 c]; rfl), fun W d _ hd => rdO_calls hd⟩)))))
       ·
        cases h
def dr0 (kd : Int) : Dr := ⟨kd, ⟨#[]⟩, 0, 0, false, [], 0, [], [], ⟨#[]⟩⟩
def readL (k : Nat) : List ByteArray → List ByteArray → Dr → Option (Dr × Int)
 | w :: ws, s :: l, x => if 1 < w.size then readL k ws l x else (readF k w s x).bind fun r => if r.2 = 0 then readL k ws l r.1 else some (dr0 0, r.2)
 | _, _, x => some (x, 0)
def cmdL (k : Nat) (l : List ByteArray) : List (ByteArray × Int) → Option (Dr × Int)
 | [] => some (dr0 0, 12)
 | f :: fs => if fitsF (wordsOf f.1) l = true then readL k (wordsOf f.1) l (dr0 f.2) else cmdL k l fs
def cmdF (k : Nat) (s : ByteArray) : Option (Dr × Int) := if (s.size : Int) > 256 then some (dr0 0, 2) else (name_Words.f s).bind fun l => cmdL k l formsL
theorem readF_mono (k : Nat) (w s : ByteArray) (x : Dr) : LeO (readF k w s x) (readF (k + 1) w s x) := by
 unfold readF
 refine LeO.ite (LeO.bind (name_Kind.mono _ _) fun _ => LeO.refl _) (LeO.ite (LeO.refl _) (LeO.ite (LeO.refl _) (LeO.ite (LeO.bind (term_Parse.mono _ _) fun _ => LeO.bind (term_Vars.mono _ _) fun _ => LeO.refl _) (LeO.ite (LeO.refl _) (LeO.ite (LeO.bind (rule_Parse.mono _ _ _) fun _ => LeO.refl _) (LeO.ite (LeO.refl _) (LeO.refl _)))))))
theorem readL_mono (k : Nat) : ∀ (ws l : List ByteArray) (x : Dr), LeO (readL k ws l x) (readL (k + 1) ws l x)
 | [], _, _ => by unfold readL; exact LeO.refl _
 | _ :: _, [], _ => by unfold readL; exact LeO.refl _
 | w :: ws, s :: l, x => by
  unfold readL
  exact LeO.ite (readL_mono k ws l x) (LeO.bind (readF_mono k w s x) fun r => LeO.ite (readL_mono k ws l r.1) (LeO.refl _))
theorem cmdL_mono (k : Nat) (l : List ByteArray) : ∀ fs, LeO (cmdL k l fs) (cmdL (k + 1) l fs)
 | [] => LeO.refl _
 | f :: fs => by
  unfold cmdL
  exact LeO.ite (readL_mono k _ l _) (cmdL_mono k l fs)
theorem cmdF_mono (k : Nat) (s : ByteArray) : LeO (cmdF k s) (cmdF (k + 1) s) := LeO.ite (LeO.refl _) (LeO.bind (LeO.refl _) fun l => cmdL_mono k l _)
end Go.Proofs.YtmlddeogmckgmaaGreatDoor.P

-- ==== Cm6
/- command.Parse: what a line is read as. -/
namespace Go.Proofs.YtmlddeogmckgmaaGreatDoor.P
open Go.RowKit Go.Proofs.YtmlddeogmckgmaaGreatDoorW.PrintWords Go.Proofs.YtmlddeogmckgmaaGreatDoorW.PrintLast Go.Proofs.YtmlddeogmckgmaaGreatDoorW.PrintMore
theorem at9 {W : World} {g t : Nat} {v0 v1 v2 v3 v4 v5 v6 v7 v8 : Value} (h : W.heap[g]? = some (.cells #[v0, v1, v2, v3, v4, v5, v6, v7, v8] t (0, 0))) : W.cell? ⟨g, 0, none⟩ = some v0 ∧ W.cell? ⟨g, 1, none⟩ = some v1 ∧ W.cell? ⟨g, 2, none⟩ = some v2 ∧ W.cell? ⟨g, 3, none⟩ = some v3 ∧ W.cell? ⟨g, 4, none⟩ = some v4 ∧ W.cell? ⟨g, 5, none⟩ = some v5 ∧ W.cell? ⟨g, 6, none⟩ = some v6 ∧ W.cell? ⟨g, 7, none⟩ = some v7 ∧ W.cell? ⟨g, 8, none⟩ = some v8 :=
 ⟨(blk_cell h 0).trans rfl, (blk_cell h 1).trans rfl, (blk_cell h 2).trans rfl, (blk_cell h 3).trans rfl, (blk_cell h 4).trans rfl, (blk_cell h 5).trans rfl, (blk_cell h 6).trans rfl, (blk_cell h 7).trans rfl, (blk_cell h 8).trans rfl⟩
theorem fz9 {W : World} {g t : Nat} {cs : Array Value} (h : W.heap[g]? = some (.cells cs t (0, 0))) : W.frozen? ⟨g, 0, none⟩ = false ∧ W.frozen? ⟨g, 1, none⟩ = false ∧ W.frozen? ⟨g, 2, none⟩ = false ∧ W.frozen? ⟨g, 3, none⟩ = false ∧ W.frozen? ⟨g, 4, none⟩ = false ∧ W.frozen? ⟨g, 5, none⟩ = false ∧ W.frozen? ⟨g, 6, none⟩ = false ∧ W.frozen? ⟨g, 7, none⟩ = false ∧ W.frozen? ⟨g, 8, none⟩ = false :=
 ⟨blk_frozen h 0, blk_frozen h 1, blk_frozen h 2, blk_frozen h 3, blk_frozen h 4, blk_frozen h 5, blk_frozen h 6, blk_frozen h 7, blk_frozen h 8⟩
theorem set9_blk {W : World} {g t : Nat} {a0 a1 a2 a3 a4 a5 a6 a7 a8 : Value} (h : W.heap[g]? = some (.cells #[a0, a1, a2, a3, a4, a5, a6, a7, a8] t (0, 0))) (b0 b1 b2 b3 b4 b5 b6 b7 b8 : Value) :
 (((((((((W.setCell ⟨g, 0, none⟩ b0).setCell ⟨g, 1, none⟩ b1).setCell ⟨g, 2, none⟩ b2).setCell ⟨g, 3, none⟩ b3).setCell ⟨g, 4, none⟩ b4).setCell ⟨g, 5, none⟩ b5).setCell ⟨g, 6, none⟩ b6).setCell ⟨g, 7, none⟩ b7).setCell ⟨g, 8, none⟩ b8).heap[g]? = some (.cells #[b0, b1, b2, b3, b4, b5, b6, b7, b8] t (0, 0)) := by
 refine blk_put (cs := #[b0, b1, b2, b3, b4, b5, b6, b7, a8]) ?_ 8 _ rfl
 refine blk_put (cs := #[b0, b1, b2, b3, b4, b5, b6, a7, a8]) ?_ 7 _ rfl
 refine blk_put (cs := #[b0, b1, b2, b3, b4, b5, a6, a7, a8]) ?_ 6 _ rfl
 refine blk_put (cs := #[b0, b1, b2, b3, b4, a5, a6, a7, a8]) ?_ 5 _ rfl
 refine blk_put (cs := #[b0, b1, b2, b3, a4, a5, a6, a7, a8]) ?_ 4 _ rfl
 refine blk_put (cs := #[b0, b1, b2, a3, a4, a5, a6, a7, a8]) ?_ 3 _ rfl
 refine blk_put (cs := #[b0, b1, a2, a3, a4, a5, a6, a7, a8]) ?_ 2 _ rfl
 refine blk_put (cs := #[b0, a1, a2, a3, a4, a5, a6, a7, a8]) ?_ 1 _ rfl
 refine blk_put (cs := #[a0, a1, a2, a3, a4, a5, a6, a7, a8]) ?_ 0 _ rfl
 exact h
theorem set9_off {W : World} {g : Nat} (b0 b1 b2 b3 b4 b5 b6 b7 b8 : Value) (k : Nat) (hk : k ≠ g) : (((((((((W.setCell ⟨g, 0, none⟩ b0).setCell ⟨g, 1, none⟩ b1).setCell ⟨g, 2, none⟩ b2).setCell ⟨g, 3, none⟩ b3).setCell ⟨g, 4, none⟩ b4).setCell ⟨g, 5, none⟩ b5).setCell ⟨g, 6, none⟩ b6).setCell ⟨g, 7, none⟩ b7).setCell ⟨g, 8, none⟩ b8).heap[k]? = W.heap[k]? :=
 ((Below.heap_setCell _ _ _ k hk).trans ((Below.heap_setCell _ _ _ k hk).trans ((Below.heap_setCell _ _ _ k hk).trans ((Below.heap_setCell _ _ _ k hk).trans ((Below.heap_setCell _ _ _ k hk).trans ((Below.heap_setCell _ _ _ k hk).trans ((Below.heap_setCell _ _ _ k hk).trans ((Below.heap_setCell _ _ _ k hk).trans (Below.heap_setCell _ _ _ k hk)))))))))
theorem set9_below {W W0 : World} {B g : Nat} (h : Below B W0 W) (hb : B ≤ g) (b0 b1 b2 b3 b4 b5 b6 b7 b8 : Value) : Below B W0 (((((((((W.setCell ⟨g, 0, none⟩ b0).setCell ⟨g, 1, none⟩ b1).setCell ⟨g, 2, none⟩ b2).setCell ⟨g, 3, none⟩ b3).setCell ⟨g, 4, none⟩ b4).setCell ⟨g, 5, none⟩ b5).setCell ⟨g, 6, none⟩ b6).setCell ⟨g, 7, none⟩ b7).setCell ⟨g, 8, none⟩ b8) :=
 (((((((((h.setCell (p := ⟨g, 0, none⟩) hb _).setCell (p := ⟨g, 1, none⟩) hb _).setCell (p := ⟨g, 2, none⟩) hb _).setCell (p := ⟨g, 3, none⟩) hb _).setCell (p := ⟨g, 4, none⟩) hb _).setCell (p := ⟨g, 5, none⟩) hb _).setCell (p := ⟨g, 6, none⟩) hb _).setCell (p := ⟨g, 7, none⟩) hb _).setCell (p := ⟨g, 8, none⟩) hb _)
abbrev cmdZ : Array Value := #[.int .i64 0, .string ⟨#[]⟩, .int .i64 0, .int .i64 0, .bool false, .slice none 0 0, .int .i64 0, .slice none 0 0, .slice none 0 0]
def CmdV (B : Nat) (w : World) (v : Value) (x : Dr) : Prop := ∃ v5 v7 v8, v = .agg #[.int .i64 x.kd, .string x.nm, .int .i64 x.n, .int .i64 x.id, .bool x.on, v5, .int .i64 x.rid, v7, v8] ∧ CmR w B v7 v8 v5 x.tm ∧ CmR w B v5 v8 v7 x.lf ∧ CmR w B v5 v7 v8 x.rt
theorem cmdV_zero (B : Nat) (w : World) : CmdV B w (.agg cmdZ) (dr0 0) := ⟨_, _, _, rfl, Kd.R_nil _ _ _ _ _, Kd.R_nil _ _ _ _ _, Kd.R_nil _ _ _ _ _⟩
theorem DrAt.below {W W' : World} {d : Nat} {x : Dr} (h : DrAt W d x) (hb : Below W.heap.size W W') : DrAt W' d x := by
 obtain ⟨vT, vL, vR, hV⟩ := h
 exact ⟨vT, vL, vR, hV.below hb⟩
theorem DrAt.fresh (w : World) (kd : Int) : DrAt (w.alloc (.cells (drCs (dr0 kd) (.slice none 0 0) (.slice none 0 0) (.slice none 0 0)) 56)) w.heap.size (dr0 kd) :=
 ⟨_, _, _, heap_alloc_new w _, Kd.R_nil _ _ _ _ _, Kd.R_nil _ _ _ _ _, Kd.R_nil _ _ _ _ _⟩
theorem cell_heap {W W' : World} {a : Addr} (h : W'.heap[a.block]? = W.heap[a.block]?) : W'.cell? a = W.cell? a := by
 unfold World.cell?
 rw [h]
theorem DrAt.drewN {W : World} {d m : Nat} {x : Dr} (h : DrAt W d x) : DrAt (W.drewN m) d x := h.below (pw_below_drewN (Below.refl _ _) m)
theorem DrAt.drew {W : World} {d : Nat} {x : Dr} (h : DrAt W d x) : DrAt W.drew d x := h.below (below_drew (Below.refl _ _))
theorem Off.of_drewN {W W' : World} {d m : Nat} (h : Off d (W.drewN m) W') : Off d W W' := by
 have hb := pw_below_drewN (Below.refl W.heap.size W) m
 exact ⟨h.os.trans hb.os, h.tape.trans hb.tape, h.output.trans hb.output, Nat.le_trans hb.size h.size, fun k hk hd => (h.block k (Nat.lt_of_lt_of_le hk hb.size) hd).trans (hb.block k hk)⟩
theorem Off.trans {W W1 W2 : World} {d : Nat} (h : Off d W W1) (h2 : Off d W1 W2) : Off d W W2 :=
 ⟨h2.os.trans h.os, h2.tape.trans h.tape, h2.output.trans h.output, Nat.le_trans h.size h2.size, fun k hk hd => (h2.block k (Nat.lt_of_lt_of_le hk h.size) hd).trans (h.block k hk hd)⟩
theorem cell_off_lt {W W' : World} {d : Nat} {a : Addr} {v : Value} (ho : Off d W W') (h : W.cell? a = some v) (hd : a.block < d) : W'.cell? a = some v :=
 (cell_heap (ho.block _ (World.block_lt_of_cell? _ _ h) (by omega))).trans h
theorem C_off {W W' : World} {d n : Nat} {A : Option Addr} {xs : List ByteArray} (h : Kd.C Kd.string W A n xs) (hA : ∀ a, A = some a → a.block ≠ d) (ho : Off d W W') : Kd.C Kd.string W' A n xs := by
 obtain ⟨h1, h2, h3⟩ := h
 refine ⟨h1, h2, fun hp => ?_⟩
 obtain ⟨ad, e, hc⟩ := h3 hp
 refine ⟨ad, e, fun j p hj => ?_⟩
 obtain ⟨c, hl, hk, hi⟩ := hc j p hj
 refine ⟨c, hl, hk, fun i u hu => ?_⟩
 have h0 := hi i u hu
 have hb : (ad.add (j * Kd.string.sz + i)).block = ad.block := by unfold Addr.add; split <;> rfl
 refine (cell_heap (ho.block _ (World.block_lt_of_cell? _ _ h0) ?_)).trans h0
 rw [hb]
 exact hA ad e
theorem readL_step {k : Nat} {ws l : List ByteArray} {x : Dr} {out : Dr × Int} (hl : l.length = ws.length) (i : Int) (h0 : 0 ≤ i) (h1 : i < ws.length) (h : readL k (ws.drop i.toNat) (l.drop i.toNat) x = some out) :
 (if 1 < (rdOf ByteArray.empty ws i).size then readL k (ws.drop (i + 1).toNat) (l.drop (i + 1).toNat) x else (readF k (rdOf ByteArray.empty ws i) (rdOf ByteArray.empty l i) x).bind fun r => if r.2 = 0 then readL k (ws.drop (i + 1).toNat) (l.drop (i + 1).toNat) r.1 else some (dr0 0, r.2)) = some out := by
 obtain ⟨j, rfl⟩ := Int.eq_ofNat_of_zero_le h0
 have hj : j < ws.length := by omega
 rw [Int.toNat_natCast, List.drop_eq_getElem_cons hj, List.drop_eq_getElem_cons (show j < l.length by omega), readL] at h
 rw [show ((j : Int) + 1).toNat = j + 1 by omega]
 simpa [rdOf, List.getD_eq_getElem?_getD, List.getElem?_eq_getElem hj, List.getElem?_eq_getElem (show j < l.length by omega)] using h
theorem readL_end {k : Nat} {ws l : List ByteArray} {x : Dr} {out : Dr × Int} (h : readL k (ws.drop ws.length) (l.drop ws.length) x = some out) : out = (x, 0) := by
 rw [List.drop_length] at h
 simpa [readL] using h.symm
theorem forms_asc (i : Nat) (hi : i < 19) : Asc (formsL.getD i (⟨#[]⟩, 0)).1 := asc_of (by
 have h : ∀ j : Fin 19, ascB (formsL.getD j.1 (⟨#[]⟩, 0)).1 = true := by decide +kernel
 exact h ⟨i, hi⟩)
theorem cmdL_step {k i : Nat} {l : List ByteArray} {out : Dr × Int} (hi : i < 19) (h : cmdL k l (formsL.drop i) = some out) :
 (if fitsF (wordsOf (formsL.getD i (⟨#[]⟩, 0)).1) l = true then readL k (wordsOf (formsL.getD i (⟨#[]⟩, 0)).1) l (dr0 (formsL.getD i (⟨#[]⟩, 0)).2) else cmdL k l (formsL.drop (i + 1))) = some out := by
 have hi' : i < formsL.length := hi
 rw [List.drop_eq_getElem_cons hi', cmdL] at h
 simpa [List.getD_eq_getElem?_getD, List.getElem?_eq_getElem hi'] using h
theorem cmdP_calls {k : Nat} {s : ByteArray} {x : Dr} {e : Int} {w : World} (h : cmdF k s = some (x, e)) (hgl : Glob w) :
 Calls Tryz.prog 9 #[.string s] w fun r w' => ∃ v, r = .returned (.tuple #[v, .int .i64 e]) ∧ CmdV w.heap.size w' v x ∧ Below w.heap.size w w' := by
 obtain ⟨n0, hn0⟩ : ∃ n, n = w.heap.size := ⟨_, rfl⟩
 have HN0 := Aside0.mk hn0
 have hB := below_alloc (Below.refl w.heap.size w) (.cells cmdZ 28)
 have HG := Aside0.mk (hgl.below hB)
 have HZ := Aside0.mk (heap_alloc_new w (.cells cmdZ 28))
 have HB := Aside0.mk hB
 have H := Aside0.mk h
 clear hB h hgl
 go_enter Tryz.func9, Tryz.ntmps9
 go_upto_region 1 with fail
 generalize (w.alloc (.cells cmdZ 28)) = W0 at HG HZ HB ⊢
 rw [← hn0] at HZ ⊢
 clear hn0
 have h1 := H.out
 unfold cmdF at h1
 clear H
 by_cases c1 : (s.size : Int) > 256
 ·
  have d1 : decide ((s.size : Int) > 256) = true := decide_eq_true c1
  have d2 : decide (256 < s.size) = true := decide_eq_true (by omega)
  rw [if_pos c1] at h1
  obtain ⟨rfl, rfl⟩ := Prod.mk.inj (Option.some.inj h1)
  obtain ⟨f0, f1, f2, f3, f4, f5, f6, f7, f8⟩ := fz9 HZ.out
  obtain ⟨x0, x1, x2, x3, x4, x5, x6, x7, x8⟩ := at9 HZ.out
  clear c1
  go_wp2
  refine bodyPost_ret (results_ct rfl _ _ n0 28 _ (0, 0) _ rfl (set9_blk HZ.out _ _ _ _ _ _ _ _ _) Tryz.underlying28 rfl (by kernel_rfl)) rfl ?_
  exact ⟨_, rfl, cmdV_zero _ _, set9_below HB.out (Nat.le_of_eq HN0.out.symm) _ _ _ _ _ _ _ _ _⟩
 ·
  have d1 : decide ((s.size : Int) > 256) = false := decide_eq_false c1
  have d2 : decide (256 < s.size) = false := decide_eq_false (by omega)
  rw [if_neg c1] at h1
  obtain ⟨l, hl, h1⟩ := Option.bind_eq_some_iff.mp h1
  have HL1 := Aside0.mk h1
  have C1 := name_Words.calls s l W0 hl
  clear c1 h1 hl
  go_upto_region 4 with (first | (go_at_call 16; (with_reducible refine C1.mono ?_); rintro e w1 ⟨vl, rfl, hR_, hb_⟩; have HR := Aside0.mk hR_; have HX := Aside0.mk hb_; clear hR_ hb_))
  obtain ⟨Al, cl, el, hcl, hCl⟩ := Kd.R_reads HR.out
  subst el
  have HCL := Aside0.mk hCl
  have HCC := Aside0.mk hcl
  have HG1 := Aside0.mk (HG.out.below HX.out)
  have HZ1 := Aside0.mk (blk_below HZ.out HX.out)
  have HB1 := Aside0.mk (below_step HB.out HX.out)
  obtain ⟨af, hfv, hfa⟩ := HG1.out.fm
  have xg := World.var?_cell gFm hfv 0
  have xg := xg.trans rfl
  clear HG HZ HB HX HR hcl hCl C1
  go_wp2
  go_loopg [20] 19 (fun kq v20 w' => ∃ i : Int, v20 = .int .i64 i ∧ Aside0 (0 ≤ i ∧ i + kq = 19) ∧ Aside0 (cmdL k l (formsL.drop i.toNat) = some (x, e)) ∧ Aside0 (w'.heap[n0]? = some (.cells cmdZ 28 (0, 0))) ∧ Aside0 (Below w1.heap.size w1 w'))
  case atStart => exact ⟨0, rfl, ⟨by omega⟩, HL1, HZ1, ⟨Below.refl _ _⟩⟩
  case round =>
   obtain ⟨i, rfl, HI, HL, HZ, HX⟩ := hrel
   have HB := Aside0.mk (below_step HB1.out HX.out)
   have HG := Aside0.mk (HG1.out.below HX.out)
   cases gk with
   | zero =>
    have hi : i = 19 := by have := HI.out; omega
    subst hi
    have p3 : decide ((19 : Int) < 19) = false := decide_eq_false (by omega)
    have hl := HL.out
    obtain ⟨rfl, rfl⟩ := Prod.mk.inj (Option.some.inj (show some (dr0 0, (12 : Int)) = some (x, e) from hl))
    obtain ⟨f0, f1, f2, f3, f4, f5, f6, f7, f8⟩ := fz9 HZ.out
    obtain ⟨x0, x1, x2, x3, x4, x5, x6, x7, x8⟩ := at9 HZ.out
    clear hl
    go_wp2
    refine bodyPost_ret (results_ct rfl _ _ n0 28 _ (0, 0) _ rfl (set9_blk HZ.out _ _ _ _ _ _ _ _ _) Tryz.underlying28 rfl (by kernel_rfl)) rfl ?_
    exact ⟨_, rfl, cmdV_zero _ _, set9_below HB.out (Nat.le_of_eq HN0.out.symm) _ _ _ _ _ _ _ _ _⟩
   | succ k1 =>
    have hi : 0 ≤ i ∧ i < 19 := by have := HI.out; omega
    have hit : i.toNat < 19 := by omega
    have hfi := FormsAt.below hfa HX.out i.toNat hit
    have hl := cmdL_step hit HL.out
    have hasc := forms_asc i.toNat hit
    have HASC := Aside0.mk hasc
    clear hasc
    generalize (formsL.getD i.toNat (⟨#[]⟩, 0)) = fo at hfi hl HASC
    obtain ⟨fs, fk⟩ := fo
    simp only at hfi hl
    obtain ⟨y0, y1⟩ := hfi
    have HLL := Aside0.mk hl
    have p1 : (0 ≤ i) = True := eq_true hi.1
    have p2 : (i < 19) = True := eq_true hi.2
    have p3 : decide (i < 19) = true := decide_eq_true hi.2
    have HB7 := Aside0.mk (below_alloc (Below.refl wr.heap.size wr) (.cells #[.string fs, .int .i64 fk] 52))
    have HF := Aside0.mk (heap_alloc_new wr (.cells #[.string fs, .int .i64 fk] 52))
    clear hl hi
    go_upto_region 7 with fail
    obtain ⟨b6, hb6⟩ : ∃ b, b = wr.heap.size := ⟨_, rfl⟩
    rw [← hb6] at HF ⊢
    have HB6 := Aside0.mk hb6
    clear hb6
    generalize (wr.alloc (.cells #[.string fs, .int .i64 fk] 52)) = W7 at HB7 HF ⊢
    have HX7 := Aside0.mk (below_step HX.out HB7.out)
    have HZ7 := Aside0.mk (blk_below HZ.out HB7.out)
    have HG7 := Aside0.mk (HG.out.below HB7.out)
    have z0 := (blk_cell HF.out 0).trans rfl
    have z1 := (blk_cell HF.out 1).trans rfl
    have C2 := fits_calls (kd := fk) (c := cl) HASC.out HG7.out (Kd.C_below HCL.out HX7.out) HCC.out
    generalize hft : fitsF (wordsOf fs) l = ft at C2 HLL
    have HFT := Aside0.mk hft
    clear hft HX HB HG HZ HB7
    cases ft
    ·
     have hl := HLL.out
     rw [if_neg (by simp)] at hl
     have HL2 := Aside0.mk hl
     clear hl HLL HL HASC HFT
     go_wp2_with (first | (go_at_call 17; (with_reducible refine C2.mono ?_); rintro e w8 ⟨rfl, hb_⟩; have HY := Aside0.mk hb_; clear hb_))
     go_roundg k1
     case measure => omega
     case rel => exact ⟨i + 1, by have e_ : wrap64 (i + 1) = i + 1 := (by have := HI.out; unfold wrap64; omega); first | rfl | rw [e_] | (simp [e_]; done), ⟨by have := HI.out; omega⟩, ⟨by rw [show (i + 1).toNat = i.toNat + 1 by have := HI.out; omega]; exact HL2.out⟩, ⟨blk_below HZ7.out HY.out⟩, ⟨below_step HX7.out HY.out⟩⟩
    ·
     have hl := HLL.out
     rw [if_pos rfl] at hl
     have HL2 := Aside0.mk hl
     have hlen : l.length = (wordsOf fs).length := by
      have hf := HFT.out
      unfold fitsF at hf
      split at hf
      ·
       rename_i hq; exact hq
      ·
       cases hf
     have HLEN := Aside0.mk hlen
     clear hl HLL HL HFT hlen
     go_upto_region 8 with (first | (go_at_call 17; (with_reducible refine C2.mono ?_); rintro e w8 ⟨rfl, hb_⟩; have HY := Aside0.mk hb_; clear hb_))
     have HX8 := Aside0.mk (below_step HX7.out HY.out)
     have HZ8 := Aside0.mk (blk_below HZ7.out HY.out)
     have HF8 := Aside0.mk (blk_below HF.out HY.out)
     clear C2 z0 z1 HX7 HZ7 HF HG7 HY
     have z1 := (blk_cell HF8.out 1).trans rfl
     have HB9 := Aside0.mk (below_alloc (Below.refl w8.heap.size w8) (.cells (drCs (dr0 fk) (.slice none 0 0) (.slice none 0 0) (.slice none 0 0)) 56))
     have HD := Aside0.mk (DrAt.fresh w8 fk)
     go_upto_region 9 with fail
     obtain ⟨d, hd⟩ : ∃ b, b = w8.heap.size := ⟨_, rfl⟩
     rw [← hd] at HD ⊢
     have HDD := Aside0.mk (show n0 < d ∧ b6 < d ∧ w1.heap.size ≤ d ∧ d = w8.heap.size from ⟨by rw [hd]; exact blk_lt HZ8.out, by rw [hd]; exact blk_lt HF8.out, by rw [hd]; exact HX8.out.size, hd⟩)
     clear hd z1
     change Code.wp _ _ _ _ (w8.alloc (.cells (drCs (dr0 fk) (.slice none 0 0) (.slice none 0 0) (.slice none 0 0)) 56))
     generalize (w8.alloc (.cells (drCs (dr0 fk) (.slice none 0 0) (.slice none 0 0) (.slice none 0 0)) 56)) = W9 at HB9 HD ⊢
     have C3 := readers_calls W9
     go_upto_region 10 with (first | (go_at_call 18; (with_reducible refine C3.mono ?_); rintro e w10 ⟨mb, rfl, hm_, hmb_, hb_⟩; have HM := Aside0.mk hm_; have HMB := Aside0.mk hmb_; have HY := Aside0.mk hb_; clear hm_ hmb_ hb_))
     have HY10 := Aside0.mk (below_step HB9.out HY.out)
     have HX10 := Aside0.mk (below_step HX8.out HY10.out)
     have HZ10 := Aside0.mk (blk_below HZ8.out HY10.out)
     have HF10 := Aside0.mk (blk_below HF8.out HY10.out)
     have HD10 := Aside0.mk (HD.out.below HY.out)
     have HN10 := Aside0.mk (show d < mb ∧ d < W9.heap.size ∧ W9.heap.size ≤ w10.heap.size from ⟨by rw [HMB.out]; obtain ⟨vT, vL, vR, hV⟩ := HD.out; exact blk_lt hV.blk, by obtain ⟨vT, vL, vR, hV⟩ := HD.out; exact blk_lt hV.blk, HY.out.size⟩)
     have HG10 := Aside0.mk (HG1.out.below HX10.out)
     clear C3 HX8 HZ8 HF8 HB9 HD HY HY10 HMB
     have z0 := (blk_cell HF10.out 0).trans rfl
     have C4 := fields_calls HASC.out HG10.out
     go_wp2_with (first | (go_at_call 19; (with_reducible refine C4.mono ?_); rintro e w11 ⟨Aw, rfl, hc_, ha_, hb_, hs_⟩; have HW := Aside0.mk hc_; have HAW := Aside0.mk ha_; have HY := Aside0.mk hb_; clear hc_ ha_ hb_ hs_))
     have HX11 := Aside0.mk (below_step HX10.out HY.out)
     have HZ11 := Aside0.mk (blk_below HZ10.out HY.out)
     have HD11 := Aside0.mk (HD10.out.below HY.out)
     have HM11 := Aside0.mk (blk_below HM.out HY.out)
     have HN11 := Aside0.mk (show n0 < d ∧ d < mb ∧ d < w10.heap.size ∧ w1.heap.size ≤ d ∧ w10.heap.size ≤ w11.heap.size from ⟨HDD.out.1, HN10.out.1, Nat.lt_of_lt_of_le HN10.out.2.1 HN10.out.2.2, HDD.out.2.2.1, HY.out.size⟩)
     clear C4 HX10 HZ10 HF10 HD10 HM HN10 HDD HG10 z0 HASC HY
     generalize wordsOf fs = ws at HW HL2 HLEN ⊢
     have HWL := Aside0.mk HW.out.2.1
     go_loopg [38] ws.length (fun kq v38 w' => ∃ (j : Int) (x1 : Dr), v38 = .int .i64 j ∧ Aside0 (0 ≤ j ∧ j + kq = (ws.length : Int)) ∧ Aside0 (readL k (ws.drop j.toNat) (l.drop j.toNat) x1 = some (x, e)) ∧ Aside0 (DrAt w' d x1) ∧ Aside0 (Off d w11 w'))
     case atStart => exact ⟨0, dr0 fk, rfl, ⟨by omega⟩, HL2, HD11, ⟨Off.of_below (Below.refl _ _)⟩⟩
     case round =>
      clear HD11 HL2
      obtain ⟨j, x1, rfl, HJ, HLR, HD, HO⟩ := hrel
      have HXr := Aside0.mk (Off.below HX11.out HO.out (by have := HN11.out; omega) (Nat.le_refl _))
      have HGr := Aside0.mk (HG1.out.below HXr.out)
      have HZr := Aside0.mk ((HO.out.block n0 (blk_lt HZ11.out) (by have := HN11.out; omega)).trans HZ11.out)
      cases gk with
      | zero =>
       have hj : j = (ws.length : Int) := by have := HJ.out; omega
       subst hj
       have p4 : decide ((ws.length : Int) < (ws.length : Int)) = false := decide_eq_false (by omega)
       have hr := readL_end HLR.out
       obtain ⟨rfl, rfl⟩ := Prod.mk.inj hr
       obtain ⟨vT, vL, vR, hV⟩ := HD.out
       have HV := Aside0.mk hV
       obtain ⟨AT, cT, eT⟩ := Kd.R_slice hV.t
       obtain ⟨AL, cL, eL⟩ := Kd.R_slice hV.l
       obtain ⟨AR, cR, eR⟩ := Kd.R_slice hV.r
       subst eT eL eR
       obtain ⟨f0, f1, f2, f3, f4, f5, f6, f7, f8⟩ := fz9 HZr.out
       obtain ⟨x0, x1, x2, x3, x4, x5, x6, x7, x8⟩ := at9 HZr.out
       obtain ⟨v0, v1, v2, v3⟩ := zc4 hV.blk; have v4 := (blk_cell hV.blk 4).trans rfl; have v5 := (blk_cell hV.blk 5).trans rfl; have v6 := (blk_cell hV.blk 6).trans rfl; have v7 := (blk_cell hV.blk 7).trans rfl; have v8 := (blk_cell hV.blk 8).trans rfl
       clear hr hV HD
       go_wp2
       refine bodyPost_ret (results_ct rfl _ _ n0 28 _ (0, 0) _ rfl (set9_blk HZr.out _ _ _ _ _ _ _ _ _) Tryz.underlying28 rfl (by kernel_rfl)) rfl ?_
       have hoff := fun (k : Nat) (hk : d + 1 ≤ k) (_ : k < wr.heap.size) => set9_off (W := wr) (g := n0) (.int .i64 x.kd) (.string x.nm) (.int .i64 x.n) (.int .i64 x.id) (.bool x.on) (.slice AT x.tm.length cT) (.int .i64 x.rid) (.slice AL x.lf.length cL) (.slice AR x.rt.length cR) k (by have := HN11.out; omega)
       have hle : w.heap.size ≤ d + 1 := by have := HN11.out; have := HB1.out.size; omega
       exact ⟨_, rfl, ⟨_, _, _, rfl, Kd.R_lower (CmR.step HV.out.t hoff) hle, Kd.R_lower (CmR.step HV.out.l hoff) hle, Kd.R_lower (CmR.step HV.out.r hoff) hle⟩, set9_below (below_step HB1.out HXr.out) (Nat.le_of_eq HN0.out.symm) _ _ _ _ _ _ _ _ _⟩
      | succ k2 =>
       have hj : 0 ≤ j ∧ j < (ws.length : Int) := by have := HJ.out; omega
       obtain ⟨ad, eA, a0⟩ := Kd.at_string (C_off HW.out (fun a ha => by rw [HAW.out] at ha; cases ha; have := HN11.out; simp only; omega) HO.out) j hj.1 hj.2
       obtain ⟨bd, eB, b0⟩ := Kd.at_string (Kd.C_below HCL.out HXr.out) j hj.1 (by have := HLEN.out; omega)
       have HBD := Aside0.mk (show (bd.add j.toNat).block < d from by
        subst eB
        obtain ⟨bd2, e2, b2⟩ := Kd.at_string HCL.out j hj.1 (by have := HLEN.out; omega)
        obtain rfl := Option.some.inj e2
        have := World.block_lt_of_cell? _ _ b2
        have := HN11.out
        omega)
       have HLS := Aside0.mk (readL_step HLEN.out j hj.1 hj.2 HLR.out)
       have HMr := Aside0.mk ((HO.out.block mb (blk_lt HM11.out) (by have := HN11.out; omega)).trans HM11.out)
       subst eA
       subst eB
       have p1 : (0 ≤ j) = True := eq_true hj.1
       have p2 : (j < (ws.length : Int)) = True := eq_true hj.2
       have p3 : decide (j < (ws.length : Int)) = true := decide_eq_true hj.2
       have q2 : (j < (l.length : Int)) = True := eq_true (by have := HLEN.out; omega)
       generalize rdOf ByteArray.empty ws j = wd at a0 HLS
       generalize rdOf ByteArray.empty l j = sx at b0 HLS
       clear hj HLR
       by_cases c2 : 1 < wd.size
       ·
        have d3 : decide ((wd.size : Int) > 1) = true := decide_eq_true (by omega)
        have d4 : decide (1 < wd.size) = true := decide_eq_true c2
        have hl := HLS.out
        rw [if_pos c2] at hl
        have HL3 := Aside0.mk hl
        clear hl c2 HLS
        go_wp2
        go_roundg k2
        case measure => omega
        case rel => exact ⟨j + 1, x1, by have e_ : wrap64 (j + 1) = j + 1 := (by have := HJ.out; have := HWL.out; unfold wrap64; omega); first | rfl | rw [e_] | (simp [e_]; done), ⟨by have := HJ.out; omega⟩, HL3, HD, HO⟩
       ·
        have d3 : decide ((wd.size : Int) > 1) = false := decide_eq_false (by omega)
        have d4 : decide (1 < wd.size) = false := decide_eq_false c2
        have hl := HLS.out
        rw [if_neg c2] at hl
        obtain ⟨⟨y, e2⟩, hr, hl⟩ := Option.bind_eq_some_iff.mp hl
        have HL3 := Aside0.mk hl
        clear hl c2 HLS
        rcases read_cases hr with ⟨hlk, hrd⟩ | ⟨hlk, hrd⟩ | ⟨hlk, hrd⟩ | ⟨hlk, hrd⟩ | ⟨hlk, hrd⟩ | ⟨hlk, hrd⟩ | ⟨hlk, hrd⟩
        all_goals
         have HLK := Aside0.mk hlk
         have HRD := Aside0.mk hrd
         clear hlk hrd
        all_goals first
         | (have hS : wr.heap[mb]? = some (.map rdEs 7) ∧ (Go.Instr.lookup 57 (.map (some mb)) (.string wd) false).run Tryz.prog wr = .ok (.func (.func 34) #[] #[]) wr ∧ wr.cell? (bd.add j.toNat) = some (.string sx) := ⟨HMr.out, HLK.out _ _ HMr.out, b0⟩; go_upto_region 14 with fail; go_region_held3 (fun w' => w'.heap[mb]? = some (.map rdEs 7) ∧ (Go.Instr.lookup 57 (.map (some mb)) (.string wd) false).run Tryz.prog w' = .ok (.func (.func 34) #[] #[]) w' ∧ w'.cell? (bd.add j.toNat) = some (.string sx)) (first | exact ⟨hS.1, HLK.out _ _ hS.1, hS.2.2⟩ | exact ⟨by assumption, HLK.out _ _ (by assumption), by assumption⟩) (first | (go_at_call 34; (with_reducible refine (HRD.out _ d ?sg ?sd).mono ?_); (case sg => exact (by repeat (first | exact HGr.out | apply Glob.drewN | apply Glob.drew))); (case sd => exact (by repeat (first | exact HD.out | apply DrAt.drewN | apply DrAt.drew))); rintro r_ w15 ⟨rfl, hD_, hO_⟩; have HD15 := Aside0.mk hD_; have HO15 := Aside0.mk (show Off d wr w15 from by repeat (first | exact hO_ | apply Off.of_drewN | apply Off.of_drew)); clear hD_ hO_; have hm15 := (HO15.out.block mb (blk_lt HMr.out) (by have := HN11.out; omega)).trans HMr.out; have hb15 := cell_off_lt HO15.out b0 HBD.out)))
         | (have hS : wr.heap[mb]? = some (.map rdEs 7) ∧ (Go.Instr.lookup 57 (.map (some mb)) (.string wd) false).run Tryz.prog wr = .ok (.func (.func 36) #[] #[]) wr ∧ wr.cell? (bd.add j.toNat) = some (.string sx) := ⟨HMr.out, HLK.out _ _ HMr.out, b0⟩; go_upto_region 14 with fail; go_region_held3 (fun w' => w'.heap[mb]? = some (.map rdEs 7) ∧ (Go.Instr.lookup 57 (.map (some mb)) (.string wd) false).run Tryz.prog w' = .ok (.func (.func 36) #[] #[]) w' ∧ w'.cell? (bd.add j.toNat) = some (.string sx)) (first | exact ⟨hS.1, HLK.out _ _ hS.1, hS.2.2⟩ | exact ⟨by assumption, HLK.out _ _ (by assumption), by assumption⟩) (first | (go_at_call 36; (with_reducible refine (HRD.out _ d ?sg ?sd).mono ?_); (case sg => exact (by repeat (first | exact HGr.out | apply Glob.drewN | apply Glob.drew))); (case sd => exact (by repeat (first | exact HD.out | apply DrAt.drewN | apply DrAt.drew))); rintro r_ w15 ⟨rfl, hD_, hO_⟩; have HD15 := Aside0.mk hD_; have HO15 := Aside0.mk (show Off d wr w15 from by repeat (first | exact hO_ | apply Off.of_drewN | apply Off.of_drew)); clear hD_ hO_; have hm15 := (HO15.out.block mb (blk_lt HMr.out) (by have := HN11.out; omega)).trans HMr.out; have hb15 := cell_off_lt HO15.out b0 HBD.out)))
         | (have hS : wr.heap[mb]? = some (.map rdEs 7) ∧ (Go.Instr.lookup 57 (.map (some mb)) (.string wd) false).run Tryz.prog wr = .ok (.func (.func 38) #[] #[]) wr ∧ wr.cell? (bd.add j.toNat) = some (.string sx) := ⟨HMr.out, HLK.out _ _ HMr.out, b0⟩; go_upto_region 14 with fail; go_region_held3 (fun w' => w'.heap[mb]? = some (.map rdEs 7) ∧ (Go.Instr.lookup 57 (.map (some mb)) (.string wd) false).run Tryz.prog w' = .ok (.func (.func 38) #[] #[]) w' ∧ w'.cell? (bd.add j.toNat) = some (.string sx)) (first | exact ⟨hS.1, HLK.out _ _ hS.1, hS.2.2⟩ | exact ⟨by assumption, HLK.out _ _ (by assumption), by assumption⟩) (first | (go_at_call 38; (with_reducible refine (HRD.out _ d ?sg ?sd).mono ?_); (case sg => exact (by repeat (first | exact HGr.out | apply Glob.drewN | apply Glob.drew))); (case sd => exact (by repeat (first | exact HD.out | apply DrAt.drewN | apply DrAt.drew))); rintro r_ w15 ⟨rfl, hD_, hO_⟩; have HD15 := Aside0.mk hD_; have HO15 := Aside0.mk (show Off d wr w15 from by repeat (first | exact hO_ | apply Off.of_drewN | apply Off.of_drew)); clear hD_ hO_; have hm15 := (HO15.out.block mb (blk_lt HMr.out) (by have := HN11.out; omega)).trans HMr.out; have hb15 := cell_off_lt HO15.out b0 HBD.out)))
         | (have hS : wr.heap[mb]? = some (.map rdEs 7) ∧ (Go.Instr.lookup 57 (.map (some mb)) (.string wd) false).run Tryz.prog wr = .ok (.func (.func 39) #[] #[]) wr ∧ wr.cell? (bd.add j.toNat) = some (.string sx) := ⟨HMr.out, HLK.out _ _ HMr.out, b0⟩; go_upto_region 14 with fail; go_region_held3 (fun w' => w'.heap[mb]? = some (.map rdEs 7) ∧ (Go.Instr.lookup 57 (.map (some mb)) (.string wd) false).run Tryz.prog w' = .ok (.func (.func 39) #[] #[]) w' ∧ w'.cell? (bd.add j.toNat) = some (.string sx)) (first | exact ⟨hS.1, HLK.out _ _ hS.1, hS.2.2⟩ | exact ⟨by assumption, HLK.out _ _ (by assumption), by assumption⟩) (first | (go_at_call 39; (with_reducible refine (HRD.out _ d ?sg ?sd).mono ?_); (case sg => exact (by repeat (first | exact HGr.out | apply Glob.drewN | apply Glob.drew))); (case sd => exact (by repeat (first | exact HD.out | apply DrAt.drewN | apply DrAt.drew))); rintro r_ w15 ⟨rfl, hD_, hO_⟩; have HD15 := Aside0.mk hD_; have HO15 := Aside0.mk (show Off d wr w15 from by repeat (first | exact hO_ | apply Off.of_drewN | apply Off.of_drew)); clear hD_ hO_; have hm15 := (HO15.out.block mb (blk_lt HMr.out) (by have := HN11.out; omega)).trans HMr.out; have hb15 := cell_off_lt HO15.out b0 HBD.out)))
         | (have hS : wr.heap[mb]? = some (.map rdEs 7) ∧ (Go.Instr.lookup 57 (.map (some mb)) (.string wd) false).run Tryz.prog wr = .ok (.func (.func 42) #[] #[]) wr ∧ wr.cell? (bd.add j.toNat) = some (.string sx) := ⟨HMr.out, HLK.out _ _ HMr.out, b0⟩; go_upto_region 14 with fail; go_region_held3 (fun w' => w'.heap[mb]? = some (.map rdEs 7) ∧ (Go.Instr.lookup 57 (.map (some mb)) (.string wd) false).run Tryz.prog w' = .ok (.func (.func 42) #[] #[]) w' ∧ w'.cell? (bd.add j.toNat) = some (.string sx)) (first | exact ⟨hS.1, HLK.out _ _ hS.1, hS.2.2⟩ | exact ⟨by assumption, HLK.out _ _ (by assumption), by assumption⟩) (first | (go_at_call 42; (with_reducible refine (HRD.out _ d ?sg ?sd).mono ?_); (case sg => exact (by repeat (first | exact HGr.out | apply Glob.drewN | apply Glob.drew))); (case sd => exact (by repeat (first | exact HD.out | apply DrAt.drewN | apply DrAt.drew))); rintro r_ w15 ⟨rfl, hD_, hO_⟩; have HD15 := Aside0.mk hD_; have HO15 := Aside0.mk (show Off d wr w15 from by repeat (first | exact hO_ | apply Off.of_drewN | apply Off.of_drew)); clear hD_ hO_; have hm15 := (HO15.out.block mb (blk_lt HMr.out) (by have := HN11.out; omega)).trans HMr.out; have hb15 := cell_off_lt HO15.out b0 HBD.out)))
         | (have hS : wr.heap[mb]? = some (.map rdEs 7) ∧ (Go.Instr.lookup 57 (.map (some mb)) (.string wd) false).run Tryz.prog wr = .ok (.func (.func 43) #[] #[]) wr ∧ wr.cell? (bd.add j.toNat) = some (.string sx) := ⟨HMr.out, HLK.out _ _ HMr.out, b0⟩; go_upto_region 14 with fail; go_region_held3 (fun w' => w'.heap[mb]? = some (.map rdEs 7) ∧ (Go.Instr.lookup 57 (.map (some mb)) (.string wd) false).run Tryz.prog w' = .ok (.func (.func 43) #[] #[]) w' ∧ w'.cell? (bd.add j.toNat) = some (.string sx)) (first | exact ⟨hS.1, HLK.out _ _ hS.1, hS.2.2⟩ | exact ⟨by assumption, HLK.out _ _ (by assumption), by assumption⟩) (first | (go_at_call 43; (with_reducible refine (HRD.out _ d ?sg ?sd).mono ?_); (case sg => exact (by repeat (first | exact HGr.out | apply Glob.drewN | apply Glob.drew))); (case sd => exact (by repeat (first | exact HD.out | apply DrAt.drewN | apply DrAt.drew))); rintro r_ w15 ⟨rfl, hD_, hO_⟩; have HD15 := Aside0.mk hD_; have HO15 := Aside0.mk (show Off d wr w15 from by repeat (first | exact hO_ | apply Off.of_drewN | apply Off.of_drew)); clear hD_ hO_; have hm15 := (HO15.out.block mb (blk_lt HMr.out) (by have := HN11.out; omega)).trans HMr.out; have hb15 := cell_off_lt HO15.out b0 HBD.out)))
         | (have hS : wr.heap[mb]? = some (.map rdEs 7) ∧ (Go.Instr.lookup 57 (.map (some mb)) (.string wd) false).run Tryz.prog wr = .ok (.func (.func 45) #[] #[]) wr ∧ wr.cell? (bd.add j.toNat) = some (.string sx) := ⟨HMr.out, HLK.out _ _ HMr.out, b0⟩; go_upto_region 14 with fail; go_region_held3 (fun w' => w'.heap[mb]? = some (.map rdEs 7) ∧ (Go.Instr.lookup 57 (.map (some mb)) (.string wd) false).run Tryz.prog w' = .ok (.func (.func 45) #[] #[]) w' ∧ w'.cell? (bd.add j.toNat) = some (.string sx)) (first | exact ⟨hS.1, HLK.out _ _ hS.1, hS.2.2⟩ | exact ⟨by assumption, HLK.out _ _ (by assumption), by assumption⟩) (first | (go_at_call 45; (with_reducible refine (HRD.out _ d ?sg ?sd).mono ?_); (case sg => exact (by repeat (first | exact HGr.out | apply Glob.drewN | apply Glob.drew))); (case sd => exact (by repeat (first | exact HD.out | apply DrAt.drewN | apply DrAt.drew))); rintro r_ w15 ⟨rfl, hD_, hO_⟩; have HD15 := Aside0.mk hD_; have HO15 := Aside0.mk (show Off d wr w15 from by repeat (first | exact hO_ | apply Off.of_drewN | apply Off.of_drew)); clear hD_ hO_; have hm15 := (HO15.out.block mb (blk_lt HMr.out) (by have := HN11.out; omega)).trans HMr.out; have hb15 := cell_off_lt HO15.out b0 HBD.out)))
        all_goals
         have hl := HL3.out
         clear HL3
         by_cases c3 : e2 = 0
         ·
          have d5 : (e2 != 0) = false := bne_eq_false_iff_eq.mpr c3
          rw [if_pos c3] at hl
          have HL4 := Aside0.mk hl
          clear hl c3
          go_wp2
          go_roundg k2
          case measure => omega
          case rel => exact ⟨j + 1, y, by have e_ : wrap64 (j + 1) = j + 1 := (by have := HJ.out; have := HWL.out; unfold wrap64; omega); first | rfl | rw [e_] | (simp [e_]; done), ⟨by have := HJ.out; omega⟩, HL4, HD15, ⟨HO.out.trans HO15.out⟩⟩
         ·
          have d5 : (e2 != 0) = true := bne_iff_ne.mpr c3
          rw [if_neg c3] at hl
          obtain ⟨rfl, rfl⟩ := Prod.mk.inj (Option.some.inj hl)
          have hzz := (HO15.out.block n0 (blk_lt HZr.out) (by have := HN11.out; omega)).trans HZr.out
          have HZZ := Aside0.mk hzz
          have HXX := Aside0.mk (Off.below HXr.out HO15.out (by have := HN11.out; omega) (Nat.le_refl _))
          obtain ⟨f0, f1, f2, f3, f4, f5, f6, f7, f8⟩ := fz9 hzz
          obtain ⟨x0, x1, x2, x3, x4, x5, x6, x7, x8⟩ := at9 hzz
          clear hl c3 hzz
          go_wp2
          refine bodyPost_ret (results_ct rfl _ _ n0 28 _ (0, 0) _ rfl (set9_blk HZZ.out _ _ _ _ _ _ _ _ _) Tryz.underlying28 rfl (by kernel_rfl)) rfl ?_
          exact ⟨_, rfl, cmdV_zero _ _, set9_below (below_step HB1.out HXX.out) (Nat.le_of_eq HN0.out.symm) _ _ _ _ _ _ _ _ _⟩
end Go.Proofs.YtmlddeogmckgmaaGreatDoor.P

-- ==== Cm7
/- command.word: what stands for a sign. -/
namespace Go.Proofs.YtmlddeogmckgmaaGreatDoor.P
open Go.RowKit Go.Proofs.YtmlddeogmckgmaaGreatDoorW.PrintWords Go.Proofs.YtmlddeogmckgmaaGreatDoorW.PrintLast Go.Proofs.YtmlddeogmckgmaaGreatDoorW.PrintMore
abbrev cmdCs (x : Dr) (v5 v7 v8 : Value) : Array Value := #[.int .i64 x.kd, .string x.nm, .int .i64 x.n, .int .i64 x.id, .bool x.on, v5, .int .i64 x.rid, v7, v8]
def CmdC (w : World) (v : Value) (x : Dr) : Prop := ∃ A5 c5 A7 c7 A8 c8, v = .agg (cmdCs x (.slice A5 x.tm.length c5) (.slice A7 x.lf.length c7) (.slice A8 x.rt.length c8)) ∧ Kd.C k48 w A5 x.tm.length x.tm ∧ x.tm.length ≤ c5 ∧ Kd.C k48 w A7 x.lf.length x.lf ∧ x.lf.length ≤ c7 ∧ Kd.C k48 w A8 x.rt.length x.rt ∧ x.rt.length ≤ c8
theorem CmdC.below {W W' : World} {v : Value} {x : Dr} (h : CmdC W v x) (hb : Below W.heap.size W W') : CmdC W' v x := by
 obtain ⟨A5, c5, A7, c7, A8, c8, e, h1, h2, h3, h4, h5, h6⟩ := h
 exact ⟨A5, c5, A7, c7, A8, c8, e, Kd.C_below h1 hb, h2, Kd.C_below h3 hb, h4, Kd.C_below h5 hb, h6⟩
theorem CmdV.reads {B : Nat} {W : World} {v : Value} {x : Dr} (h : CmdV B W v x) : CmdC W v x := by
 obtain ⟨v5, v7, v8, rfl, h5, h7, h8⟩ := h
 obtain ⟨A5, c5, rfl, l5, k5⟩ := Kd.R_reads h5
 obtain ⟨A7, c7, rfl, l7, k7⟩ := Kd.R_reads h7
 obtain ⟨A8, c8, rfl, l8, k8⟩ := Kd.R_reads h8
 exact ⟨A5, c5, A7, c7, A8, c8, rfl, k5, l5, k7, l7, k8, l8⟩
def textF (k : Nat) (t : List CmC) : Option ByteArray := (term_Print.f k t).bind fun r => some r.1
def wordF (k : Nat) (x : Dr) (w : ByteArray) : Option ByteArray :=
 if w.toList = [87] then some x.nm else if w.toList = [78] then name_Write.f x.n else if w.toList = [73] then name_Write.f x.id
 else if w.toList = [84] then textF k x.tm else if w.toList = [76] then textF k x.lf else if w.toList = [82] then textF k x.rt
 else if w.toList = [79] then some (if x.on = true then ⟨#[111, 110]⟩ else ⟨#[111, 102, 102]⟩) else some w
theorem textF_mono (k : Nat) (t : List CmC) : LeO (textF k t) (textF (k + 1) t) := LeO.bind (term_Print.mono _ _) fun _ => LeO.refl _
theorem wordF_mono (k : Nat) (x : Dr) (w : ByteArray) : LeO (wordF k x w) (wordF (k + 1) x w) :=
 LeO.ite (LeO.refl _) (LeO.ite (LeO.refl _) (LeO.ite (LeO.refl _) (LeO.ite (textF_mono _ _) (LeO.ite (textF_mono _ _) (LeO.ite (textF_mono _ _) (LeO.refl _))))))
theorem text_calls {k c : Nat} {A : Option Addr} {t : List CmC} {r : ByteArray} {W : World} (hC : Kd.C k48 W A t.length t) (hc : t.length ≤ c) (h : textF k t = some r) :
 Calls Tryz.prog 53 #[.slice A t.length c] W fun e w' => e = .returned (.string r) ∧ Below W.heap.size W w' := by
 obtain ⟨⟨r1, r2⟩, hp, h⟩ := Option.bind_eq_some_iff.mp h
 obtain rfl := Option.some.inj h
 have C1 := term_Print.calls k A c t r1 r2 W hC hc hp
 clear hp h hC hc
 go_enter Tryz.func53, Tryz.ntmps53
 go_wp2_with (first | (go_at_call 54; (with_reducible refine C1.mono ?_); rintro e w1 ⟨rfl, hb_⟩; have HX := Aside0.mk hb_; clear hb_))
 go_ret
 exact ⟨rfl, HX.out⟩
theorem word_calls {k : Nat} {v : Value} {x : Dr} {w r : ByteArray} {W : World} (hv : CmdC W v x) (hgl : Glob W) (h : wordF k x w = some r) :
 Calls Tryz.prog 25 #[v, .string w] W fun e w' => e = .returned (.string r) ∧ Below W.heap.size W w' := by
 obtain ⟨A5, c5, A7, c7, A8, c8, rfl, h1, h2, h3, h4, h5, h6⟩ := hv
 have hB := below_alloc (Below.refl W.heap.size W) (.cells (cmdCs x (.slice A5 x.tm.length c5) (.slice A7 x.lf.length c7) (.slice A8 x.rt.length c8)) 28)
 have HZ := Aside0.mk (heap_alloc_new W (.cells (cmdCs x (.slice A5 x.tm.length c5) (.slice A7 x.lf.length c7) (.slice A8 x.rt.length c8)) 28))
 have HG := Aside0.mk (hgl.below hB)
 have HB := Aside0.mk hB
 have HT := Aside0.mk (Kd.C_below h1 hB)
 have HL := Aside0.mk (Kd.C_below h3 hB)
 have HR := Aside0.mk (Kd.C_below h5 hB)
 have H := Aside0.mk h
 have HC := Aside0.mk (And.intro h2 (And.intro h4 h6))
 clear hgl hB h1 h2 h3 h4 h5 h6 h
 go_enter Tryz.func25, Tryz.ntmps25
 go_upto_region 1 with fail
 change Code.wp _ _ _ _ (W.alloc (.cells (cmdCs x (.slice A5 x.tm.length c5) (.slice A7 x.lf.length c7) (.slice A8 x.rt.length c8)) 28))
 generalize (W.alloc (.cells (cmdCs x (.slice A5 x.tm.length c5) (.slice A7 x.lf.length c7) (.slice A8 x.rt.length c8)) 28)) = W0 at HZ HB HG HT HL HR ⊢
 have hl := H.out
 unfold wordF at hl
 clear H
 by_cases e87 : w.toList = [87]
 ·
  have f87 : (w.toList == ([87] : List UInt8)) = true := beq_iff_eq.mpr e87
  rw [if_pos e87] at hl
  have x0 := (blk_cell HZ.out 1).trans rfl
  obtain rfl := Option.some.inj hl
  clear hl e87
  go_wp2
  go_ret
  exact ⟨rfl, HB.out⟩
 have f87 : (w.toList == ([87] : List UInt8)) = false := beq_eq_false_iff_ne.mpr e87
 rw [if_neg e87] at hl
 clear e87
 by_cases e78 : w.toList = [78]
 ·
  have f78 : (w.toList == ([78] : List UInt8)) = true := beq_iff_eq.mpr e78
  rw [if_pos e78] at hl
  have x0 := (blk_cell HZ.out 2).trans rfl
  have C1 := name_Write.calls x.n r W0 hl HG.out
  clear hl e78
  go_wp2_with (first | (go_at_call 55; (with_reducible refine C1.mono ?_); rintro e w1 ⟨rfl, hb_⟩; have HX := Aside0.mk hb_; clear hb_))
  go_ret
  exact ⟨rfl, below_step HB.out HX.out⟩
 have f78 : (w.toList == ([78] : List UInt8)) = false := beq_eq_false_iff_ne.mpr e78
 rw [if_neg e78] at hl
 clear e78
 by_cases e73 : w.toList = [73]
 ·
  have f73 : (w.toList == ([73] : List UInt8)) = true := beq_iff_eq.mpr e73
  rw [if_pos e73] at hl
  have x0 := (blk_cell HZ.out 3).trans rfl
  have C1 := name_Write.calls x.id r W0 hl HG.out
  clear hl e73
  go_wp2_with (first | (go_at_call 55; (with_reducible refine C1.mono ?_); rintro e w1 ⟨rfl, hb_⟩; have HX := Aside0.mk hb_; clear hb_))
  go_ret
  exact ⟨rfl, below_step HB.out HX.out⟩
 have f73 : (w.toList == ([73] : List UInt8)) = false := beq_eq_false_iff_ne.mpr e73
 rw [if_neg e73] at hl
 clear e73
 by_cases e84 : w.toList = [84]
 ·
  have f84 : (w.toList == ([84] : List UInt8)) = true := beq_iff_eq.mpr e84
  rw [if_pos e84] at hl
  have x0 := (blk_cell HZ.out 5).trans rfl
  have C1 := text_calls HT.out HC.out.1 hl
  clear hl e84
  go_wp2_with (first | (go_at_call 53; (with_reducible refine C1.mono ?_); rintro e w1 ⟨rfl, hb_⟩; have HX := Aside0.mk hb_; clear hb_))
  go_ret
  exact ⟨rfl, below_step HB.out HX.out⟩
 have f84 : (w.toList == ([84] : List UInt8)) = false := beq_eq_false_iff_ne.mpr e84
 rw [if_neg e84] at hl
 clear e84
 by_cases e76 : w.toList = [76]
 ·
  have f76 : (w.toList == ([76] : List UInt8)) = true := beq_iff_eq.mpr e76
  rw [if_pos e76] at hl
  have x0 := (blk_cell HZ.out 7).trans rfl
  have C1 := text_calls HL.out HC.out.2.1 hl
  clear hl e76
  go_wp2_with (first | (go_at_call 53; (with_reducible refine C1.mono ?_); rintro e w1 ⟨rfl, hb_⟩; have HX := Aside0.mk hb_; clear hb_))
  go_ret
  exact ⟨rfl, below_step HB.out HX.out⟩
 have f76 : (w.toList == ([76] : List UInt8)) = false := beq_eq_false_iff_ne.mpr e76
 rw [if_neg e76] at hl
 clear e76
 by_cases e82 : w.toList = [82]
 ·
  have f82 : (w.toList == ([82] : List UInt8)) = true := beq_iff_eq.mpr e82
  rw [if_pos e82] at hl
  have x0 := (blk_cell HZ.out 8).trans rfl
  have C1 := text_calls HR.out HC.out.2.2 hl
  clear hl e82
  go_wp2_with (first | (go_at_call 53; (with_reducible refine C1.mono ?_); rintro e w1 ⟨rfl, hb_⟩; have HX := Aside0.mk hb_; clear hb_))
  go_ret
  exact ⟨rfl, below_step HB.out HX.out⟩
 have f82 : (w.toList == ([82] : List UInt8)) = false := beq_eq_false_iff_ne.mpr e82
 rw [if_neg e82] at hl
 clear e82
 by_cases e79 : w.toList = [79]
 ·
  have f79 : (w.toList == ([79] : List UInt8)) = true := beq_iff_eq.mpr e79
  rw [if_pos e79] at hl
  have x0 := (blk_cell HZ.out 4).trans rfl
  clear e79
  by_cases ho : x.on = true
  ·
   rw [if_pos ho] at hl
   obtain rfl := Option.some.inj hl
   clear hl
   go_wp2
   go_ret
   exact ⟨rfl, HB.out⟩
  ·
   rw [if_neg ho] at hl
   obtain rfl := Option.some.inj hl
   have ho2 : x.on = false := by simpa using ho
   clear hl ho
   go_wp2
   go_ret
   exact ⟨rfl, HB.out⟩
 have f79 : (w.toList == ([79] : List UInt8)) = false := beq_eq_false_iff_ne.mpr e79
 rw [if_neg e79] at hl
 clear e79
 obtain rfl := Option.some.inj hl
 clear hl
 go_wp2
 go_ret
 exact ⟨rfl, HB.out⟩
end Go.Proofs.YtmlddeogmckgmaaGreatDoor.P

-- ==== Cm8
/- A command's key; rows of words. -/
namespace Go.Proofs.YtmlddeogmckgmaaGreatDoor.P
open Go.RowKit Go.Proofs.YtmlddeogmckgmaaGreatDoorW.PrintWords Go.Proofs.YtmlddeogmckgmaaGreatDoorW.PrintLast Go.Proofs.YtmlddeogmckgmaaGreatDoorW.PrintMore
theorem eqArr3 (d : Nat) (w : World) (x0 x1 x2 y0 y1 y2 : Int) :
 (Op.equalIn (d + 2) 109 (.agg #[.int .i64 x0, .int .i64 x1, .int .i64 x2]) (.agg #[.int .i64 y0, .int .i64 y1, .int .i64 y2])).run Tryz.prog w = .ok (x0 == y0 && (x1 == y1 && (x2 == y2))) w := by
 have hs : (sizeOf 3).run Tryz.prog w = .ok 1 w := by go_simp
 have q0 : (part 3 #[Value.int .i64 x0, .int .i64 x1, .int .i64 x2] 0).run Tryz.prog w = .ok (.int .i64 x0) w := by go_simp
 have q1 : (part 3 #[Value.int .i64 x0, .int .i64 x1, .int .i64 x2] 1).run Tryz.prog w = .ok (.int .i64 x1) w := by go_simp
 have q2 : (part 3 #[Value.int .i64 x0, .int .i64 x1, .int .i64 x2] 2).run Tryz.prog w = .ok (.int .i64 x2) w := by go_simp
 have r0 : (part 3 #[Value.int .i64 y0, .int .i64 y1, .int .i64 y2] 0).run Tryz.prog w = .ok (.int .i64 y0) w := by go_simp
 have r1 : (part 3 #[Value.int .i64 y0, .int .i64 y1, .int .i64 y2] 1).run Tryz.prog w = .ok (.int .i64 y1) w := by go_simp
 have r2 : (part 3 #[Value.int .i64 y0, .int .i64 y1, .int .i64 y2] 2).run Tryz.prog w = .ok (.int .i64 y2) w := by go_simp
 have he := fun (a b : Int) => run_equalIn_int (P := Tryz.prog) w d 3 .i64 .i64 a b Tryz.underlying3
 obtain ⟨i3, hi3⟩ : ∃ i, Tryz.prog.info? 3 = some i := Option.isSome_iff_exists.mp (by kernel_rfl)
 have hc : Tryz.prog.cellsOf 3 = 1 := by kernel_rfl
 rw [Go.run_equalIn_array (P := Tryz.prog) w (d + 1) _ _ Tryz.underlying109 hi3, hc, show List.range 3 = [0, 1, 2] from rfl]
 generalize hb0 : (x0 == y0) = b0
 generalize hb1 : (x1 == y1) = b1
 generalize hb2 : (x2 == y2) = b2
 cases b0 <;> cases b1 <;> cases b2 <;> simp [Op.eqItems, Sem.run_bind, q0, q1, q2, r0, r1, r2, he, Result.andThen_ok, hb0, hb1, hb2]
def joinL (xs : List ByteArray) : List UInt8 := Lib.join (xs.map (·.data.toList)) [32]
def joinS (xs : List ByteArray) : ByteArray := ⟨(joinL xs).toArray⟩
theorem join_calls {base : Nat} {ok : Nat → Prop} {v : Value} {xs : List ByteArray} {W : World} (hR : Kd.R Kd.string 9 W base ok v xs) (hl : (joinL xs).length ≤ 140737488355328) (hn : xs.length ≤ 140737488355328) :
 Calls Tryz.prog 26 #[v, .string ⟨#[32]⟩] W fun e w' => e = .returned (.string (joinS xs)) ∧ Below W.heap.size W w' := by
 by_cases hp : 0 < xs.length
 ·
  obtain ⟨g, cap, rfl, _, hg, _⟩ := Kd.R_form hR hp
  obtain ⟨_, hc, hC⟩ := Kd.R_reads' hR
  refine Tryz.strings_Join g 0 cap xs ⟨#[32]⟩ W (fun j x hx => ?_) hg hn hc hl
  have hj : j < xs.length := (List.getElem?_eq_some_iff.1 hx).1
  obtain ⟨ad, e, h⟩ := Kd.at_string hC (j : Int) (by omega) (by omega)
  obtain rfl := Option.some.inj e
  have h2 : rdOf ByteArray.empty xs (j : Int) = x := by simp [rdOf, List.getD_eq_getElem?_getD, hx]
  rw [h2, Int.toNat_natCast] at h
  rw [Nat.zero_add]
  unfold Addr.add at h
  by_cases h0 : j = 0
  ·
   subst h0; exact h
  ·
   rw [if_neg h0] at h; simpa using h
 ·
  obtain rfl : xs = [] := List.length_eq_zero_iff.1 (by omega)
  obtain ⟨A, c, rfl⟩ := Kd.R_slice hR
  refine (Tryz.strings_Join_none A c ⟨#[32]⟩ W).mono ?_
  rintro e w' ⟨rfl, rfl⟩
  exact ⟨rfl, Below.refl _ _⟩
def wordsF (k : Nat) (x : Dr) : List ByteArray → Option (List ByteArray)
 | [] => some []
 | w :: ws => (wordF k x w).bind fun a => (wordsF k x ws).bind fun r => some (a :: r)
theorem wordsF_mono (k : Nat) (x : Dr) : ∀ ws, LeO (wordsF k x ws) (wordsF (k + 1) x ws)
 | [] => LeO.refl _
 | w :: ws => LeO.bind (wordF_mono k x w) fun _ => LeO.bind (wordsF_mono k x ws) fun _ => LeO.refl _
theorem wordsF_step {k : Nat} {x : Dr} {ws dn L : List ByteArray} (i : Int) (h0 : 0 ≤ i) (h1 : i < ws.length) (h : ∃ r, wordsF k x (ws.drop i.toNat) = some r ∧ dn ++ r = L) :
 ∃ a, wordF k x (rdOf ByteArray.empty ws i) = some a ∧ ∃ r, wordsF k x (ws.drop (i + 1).toNat) = some r ∧ (dn ++ [a]) ++ r = L := by
 obtain ⟨j, rfl⟩ := Int.eq_ofNat_of_zero_le h0
 have hj : j < ws.length := by omega
 obtain ⟨r, hr, rfl⟩ := h
 rw [Int.toNat_natCast, List.drop_eq_getElem_cons hj, wordsF] at hr
 obtain ⟨a, ha, hr⟩ := Option.bind_eq_some_iff.mp hr
 obtain ⟨r2, hr2, hr⟩ := Option.bind_eq_some_iff.mp hr
 obtain rfl := Option.some.inj hr
 refine ⟨a, ?_, r2, by rw [show ((j : Int) + 1).toNat = j + 1 by omega]; exact hr2, by simp⟩
 simpa [rdOf, List.getD_eq_getElem?_getD, List.getElem?_eq_getElem hj] using ha
def signsL : List ByteArray := [⟨#[87]⟩, ⟨#[78]⟩, ⟨#[73]⟩, ⟨#[84]⟩, ⟨#[76]⟩, ⟨#[82]⟩, ⟨#[79]⟩]
def keyF (k : Nat) (x : Dr) : Option ByteArray := (wordsF k x signsL).bind fun L => if (joinL L).length ≤ 140737488355328 then some (joinS L) else none
theorem keyF_mono (k : Nat) (x : Dr) : LeO (keyF k x) (keyF (k + 1) x) := LeO.bind (wordsF_mono k x _) fun _ => LeO.refl _
theorem key_calls {k : Nat} {v : Value} {x : Dr} {r : ByteArray} {W : World} (hv : CmdC W v x) (hgl : Glob W) (h : keyF k x = some r) :
 Calls Tryz.prog 59 #[v] W fun e w' => e = .returned (.string r) ∧ Below W.heap.size W w' := by
 obtain ⟨L, hL, h⟩ := Option.bind_eq_some_iff.mp h
 split at h
 ·
  rename_i hjl
  obtain rfl := Option.some.inj h
  clear h
  have HJL := Aside0.mk hjl
  have HLL := Aside0.mk (show ∃ r, wordsF k x (signsL.drop (0 : Int).toNat) = some r ∧ [] ++ r = L from ⟨L, hL, rfl⟩)
  have hcc := hv
  obtain ⟨A5, c5, A7, c7, A8, c8, ev, _⟩ := hv
  have hB := below_alloc (Below.refl W.heap.size W) (.cells (cmdCs x (.slice A5 x.tm.length c5) (.slice A7 x.lf.length c7) (.slice A8 x.rt.length c8)) 28)
  have HZ := Aside0.mk (heap_alloc_new W (.cells (cmdCs x (.slice A5 x.tm.length c5) (.slice A7 x.lf.length c7) (.slice A8 x.rt.length c8)) 28))
  have HG := Aside0.mk (hgl.below hB)
  have HB := Aside0.mk hB
  have HC := Aside0.mk (hcc.below hB)
  rw [ev] at HC ⊢
  clear hgl hB hjl hL hcc ev
  go_enter Tryz.func59, Tryz.ntmps59
  go_upto_region 2 with fail
  change Code.wp _ _ _ _ (W.alloc (.cells (cmdCs x (.slice A5 x.tm.length c5) (.slice A7 x.lf.length c7) (.slice A8 x.rt.length c8)) 28))
  generalize (W.alloc (.cells (cmdCs x (.slice A5 x.tm.length c5) (.slice A7 x.lf.length c7) (.slice A8 x.rt.length c8)) 28)) = W0 at HZ HB HG HC ⊢
  have HS := Aside0.mk (C_strs (heap_alloc_new W0 (.cells (signsL.map Value.string).toArray 9)) (by decide))
  have HX1 := Aside0.mk (below_alloc (Below.refl W0.heap.size W0) (.cells (signsL.map Value.string).toArray 9))
  go_wp2
  change Code.wp _ _ _ _ (W0.alloc (.cells (signsL.map Value.string).toArray 9))
  generalize (W0.alloc (.cells (signsL.map Value.string).toArray 9)) = W1 at HS HX1 ⊢
  have HB1 := Aside0.mk (below_step HB.out HX1.out)
  have HZ1 := Aside0.mk (blk_below HZ.out HX1.out)
  have HC1 := Aside0.mk (HC.out.below HX1.out)
  have HG1 := Aside0.mk (HG.out.below HX1.out)
  have HNW := Aside0.mk (show signsL.length = 7 from rfl)
  clear HB HZ HC HG HX1
  generalize signsL = ws at HS HLL HNW ⊢
  generalize (some ⟨W0.heap.size, 0, none⟩ : Option Addr) = Aw at HS ⊢
  go_loopg [3, 8] 7 (fun kq v3 v8 w' => ∃ (j : Int) (dn : List ByteArray), v8 = .int .i64 j ∧ Aside0 (0 ≤ j ∧ j + kq = 7) ∧ Aside0 (dn.length = j.toNat) ∧ Aside0 (∃ r, wordsF k x (ws.drop j.toNat) = some r ∧ dn ++ r = L) ∧ Aside0 (Kd.R Kd.string 9 w' W1.heap.size (fun _ => True) v3 dn) ∧ Aside0 (Below W1.heap.size W1 w'))
  case atStart => exact ⟨0, [], rfl, ⟨by omega⟩, ⟨rfl⟩, HLL, ⟨Kd.R_nil _ _ _ _ _⟩, ⟨Below.refl _ _⟩⟩
  case round =>
   clear HLL
   obtain ⟨j, dn, rfl, HJ, HDL, HLL, HO, HX⟩ := hrel
   obtain ⟨A3, c3, e3⟩ := Kd.R_slice HO.out
   have HBr := Aside0.mk (below_step HB1.out HX.out)
   cases gk with
   | zero =>
    have hj : j = 7 := by have := HJ.out; omega
    subst hj
    have p3 : decide ((7 : Int) < 7) = false := decide_eq_false (by omega)
    obtain ⟨r, hr, hdr⟩ := HLL.out
    rw [show ws.drop (7 : Int).toNat = [] from List.drop_eq_nil_of_le (by have := HNW.out; omega), wordsF] at hr
    obtain rfl := Option.some.inj hr
    rw [List.append_nil] at hdr
    have ho := HO.out
    rw [hdr] at ho
    have hn : L.length ≤ 140737488355328 := by have := HDL.out; rw [hdr] at this; omega
    have C9 := join_calls ho HJL.out hn
    clear hr hdr ho hn e3
    go_wp2_with (first | (go_at_call 26; (with_reducible refine C9.mono ?_); rintro e w9 ⟨rfl, hb_⟩; have HY := Aside0.mk hb_; clear hb_))
    go_ret
    exact ⟨rfl, below_step HBr.out HY.out⟩
   | succ k1 =>
    subst e3
    have hj : 0 ≤ j ∧ j < 7 := by have := HJ.out; omega
    obtain ⟨ad, eA, a0⟩ := Kd.at_string (Kd.C_below HS.out HX.out) j hj.1 (by have := HNW.out; omega)
    subst eA
    obtain ⟨aw, ha, hrest⟩ := wordsF_step j hj.1 (by have := HNW.out; omega) HLL.out
    have HL2 := Aside0.mk hrest
    have p1 : (0 ≤ j) = True := eq_true hj.1
    have p2 : (j < 7) = True := eq_true hj.2
    have p2b : (j < (ws.length : Int)) = True := eq_true (by have := HNW.out; omega)
    have p3 : decide (j < 7) = true := decide_eq_true hj.2
    have p3b : decide (j < (ws.length : Int)) = true := decide_eq_true (by have := HNW.out; omega)
    have hblk := blk_below HZ1.out HX.out
    obtain ⟨x0, x1, x2, x3⟩ := zc4 hblk; have x4 := (blk_cell hblk 4).trans rfl; have x5 := (blk_cell hblk 5).trans rfl; have x6 := (blk_cell hblk 6).trans rfl; have x7 := (blk_cell hblk 7).trans rfl; have x8 := (blk_cell hblk 8).trans rfl
    generalize rdOf ByteArray.empty ws j = wd at a0 ha
    have C5 := word_calls (HC1.out.below HX.out) (HG1.out.below HX.out) ha
    clear hj hrest ha hblk HLL
    go_wp2_with (first | (go_at_call 25; (with_reducible refine C5.mono ?_); rintro e w2 ⟨rfl, hb_⟩; have HY := Aside0.mk hb_; have HO2 := Aside0.mk (Kd.R_below HO.out hb_); have HB2 := Aside0.mk (below_step HX.out hb_); clear hb_) | (at_builtin; (with_reducible refine gate_builtin (b := .append) (xs := #[.tmp 12, .tmp 16]) rfl ?_); refine Kd.R_append Kd.string (w0 := W1) W1.heap.size rfl (.tmp 12) (.tmp 16) 42 9 (.string ⟨#[]⟩) 16 rfl Tryz.underlying42 info9 rfl (by decide) (by decide) _ dn aw [.string aw] (fun _ => True) (fun _ => False) rfl rfl rfl (fun _ hk => hk.elim) (fun _ _ => trivial) ?aO ?aB ?aS ?aL ?_; (case aO => exact HO2.out); (case aB => exact HB2.out); (case aS => exact HB2.out.size); (case aL => have := HDL.out; have := HJ.out; have := HNW.out; omega); intro v2 w4 ho hb hgr hat; have HO3 := Aside0.mk ho; have HB3 := Aside0.mk hb; clear ho hb hgr hat))
    go_roundg k1
    case measure => omega
    case rel => exact ⟨j + 1, dn ++ [aw], by have e_ : wrap64 (j + 1) = j + 1 := (by have := HJ.out; unfold wrap64; omega); first | rfl | rw [e_] | (simp [e_]; done), ⟨by have := HJ.out; omega⟩, ⟨by have := HDL.out; have := HJ.out; simp; omega⟩, HL2, HO3, HB3⟩
 ·
  cases h
end Go.Proofs.YtmlddeogmckgmaaGreatDoor.P

-- ==== Cm9
/- command.same: are two commands alike? -/
namespace Go.Proofs.YtmlddeogmckgmaaGreatDoor.P
open Go.RowKit Go.Proofs.YtmlddeogmckgmaaGreatDoorW.PrintWords Go.Proofs.YtmlddeogmckgmaaGreatDoorW.PrintLast Go.Proofs.YtmlddeogmckgmaaGreatDoorW.PrintMore
attribute [local go_sem high] eqArr3
def sameF (k : Nat) (a b : Dr) : Option Bool :=
 if a.kd = b.kd then (if a.rid = b.rid then (keyF k a).bind fun ka => (keyF k b).bind fun kb => if ka.toList = kb.toList then some (((a.tm.length : Int) == (b.tm.length : Int)) && (((a.lf.length : Int) == (b.lf.length : Int)) && ((a.rt.length : Int) == (b.rt.length : Int)))) else some false else some false) else some false
theorem sameF_mono (k : Nat) (a b : Dr) : LeO (sameF k a b) (sameF (k + 1) a b) := LeO.ite (LeO.ite (LeO.bind (keyF_mono k a) fun _ => LeO.bind (keyF_mono k b) fun _ => LeO.refl _) (LeO.refl _)) (LeO.refl _)
theorem same_calls {k : Nat} {va vb : Value} {a b : Dr} {r : Bool} {W : World} (hva : CmdC W va a) (hvb : CmdC W vb b) (hgl : Glob W) (h : sameF k a b = some r) :
 Calls Tryz.prog 27 #[va, vb] W fun e w' => e = .returned (.bool r) ∧ Below W.heap.size W w' := by
 have hca := hva
 have hcb := hvb
 obtain ⟨Aa5, ca5, Aa7, ca7, Aa8, ca8, ea, ta5, la5, ta7, la7, ta8, la8⟩ := hva
 obtain ⟨Ab5, cb5, Ab7, cb7, Ab8, cb8, eb, tb5, lb5, tb7, lb7, tb8, lb8⟩ := hvb
 rw [ea] at hca ⊢
 rw [eb] at hcb ⊢
 clear ea eb
 have hB1 := below_alloc (Below.refl W.heap.size W) (.cells (cmdCs a (.slice Aa5 a.tm.length ca5) (.slice Aa7 a.lf.length ca7) (.slice Aa8 a.rt.length ca8)) 28)
 have hB := below_alloc hB1 (.cells (cmdCs b (.slice Ab5 b.tm.length cb5) (.slice Ab7 b.lf.length cb7) (.slice Ab8 b.rt.length cb8)) 28)
 have HZ1 := Aside0.mk (blk_below (heap_alloc_new W (.cells (cmdCs a (.slice Aa5 a.tm.length ca5) (.slice Aa7 a.lf.length ca7) (.slice Aa8 a.rt.length ca8)) 28)) (below_alloc (Below.refl _ _) (.cells (cmdCs b (.slice Ab5 b.tm.length cb5) (.slice Ab7 b.lf.length cb7) (.slice Ab8 b.rt.length cb8)) 28)))
 have HZ2 := Aside0.mk (show ((W.alloc (.cells (cmdCs a (.slice Aa5 a.tm.length ca5) (.slice Aa7 a.lf.length ca7) (.slice Aa8 a.rt.length ca8)) 28)).alloc (.cells (cmdCs b (.slice Ab5 b.tm.length cb5) (.slice Ab7 b.lf.length cb7) (.slice Ab8 b.rt.length cb8)) 28)).heap[W.heap.size + 1]? = some (.cells (cmdCs b (.slice Ab5 b.tm.length cb5) (.slice Ab7 b.lf.length cb7) (.slice Ab8 b.rt.length cb8)) 28 (0, 0)) from by simpa using heap_alloc_new (W.alloc (.cells (cmdCs a (.slice Aa5 a.tm.length ca5) (.slice Aa7 a.lf.length ca7) (.slice Aa8 a.rt.length ca8)) 28)) (.cells (cmdCs b (.slice Ab5 b.tm.length cb5) (.slice Ab7 b.lf.length cb7) (.slice Ab8 b.rt.length cb8)) 28))
 have HG := Aside0.mk (hgl.below hB)
 have HB := Aside0.mk hB
 have HA := Aside0.mk (hca.below hB)
 have HBB := Aside0.mk (hcb.below hB)
 have HTA := Aside0.mk (And.intro (Kd.C_below ta5 hB) (And.intro la5 (And.intro (Kd.C_below ta7 hB) (And.intro la7 (And.intro (Kd.C_below ta8 hB) la8)))))
 have HTB := Aside0.mk (And.intro (Kd.C_below tb5 hB) (And.intro lb5 (And.intro (Kd.C_below tb7 hB) (And.intro lb7 (And.intro (Kd.C_below tb8 hB) lb8)))))
 have H := Aside0.mk h
 clear hca hcb hgl hB hB1 h ta5 la5 ta7 la7 ta8 la8 tb5 lb5 tb7 lb7 tb8 lb8
 go_enter Tryz.func27, Tryz.ntmps27
 go_upto_region 2 with fail
 obtain ⟨b1, hb1⟩ : ∃ n, n = W.heap.size := ⟨_, rfl⟩
 obtain ⟨b2, hb2⟩ : ∃ n, n = W.heap.size + 1 := ⟨_, rfl⟩
 have HN := Aside0.mk hb1
 rw [← hb2] at HZ2
 try rw [← hb2]
 rw [← hb1] at HZ1 ⊢
 clear hb1 hb2
 change Code.wp _ _ _ _ ((W.alloc (.cells (cmdCs a (.slice Aa5 a.tm.length ca5) (.slice Aa7 a.lf.length ca7) (.slice Aa8 a.rt.length ca8)) 28)).alloc (.cells (cmdCs b (.slice Ab5 b.tm.length cb5) (.slice Ab7 b.lf.length cb7) (.slice Ab8 b.rt.length cb8)) 28))
 generalize ((W.alloc (.cells (cmdCs a (.slice Aa5 a.tm.length ca5) (.slice Aa7 a.lf.length ca7) (.slice Aa8 a.rt.length ca8)) 28)).alloc (.cells (cmdCs b (.slice Ab5 b.tm.length cb5) (.slice Ab7 b.lf.length cb7) (.slice Ab8 b.rt.length cb8)) 28)) = W0 at HZ1 HZ2 HG HB HA HBB HTA HTB ⊢
 have hS : (W0.cell? ⟨b1, 0, none⟩ = some (.int .i64 a.kd) ∧ W0.cell? ⟨b1, 1, none⟩ = some (.string a.nm) ∧ W0.cell? ⟨b1, 2, none⟩ = some (.int .i64 a.n) ∧ W0.cell? ⟨b1, 3, none⟩ = some (.int .i64 a.id) ∧ W0.cell? ⟨b1, 4, none⟩ = some (.bool a.on) ∧ W0.cell? ⟨b1, 5, none⟩ = some (.slice Aa5 a.tm.length ca5) ∧ W0.cell? ⟨b1, 6, none⟩ = some (.int .i64 a.rid) ∧ W0.cell? ⟨b1, 7, none⟩ = some (.slice Aa7 a.lf.length ca7) ∧ W0.cell? ⟨b1, 8, none⟩ = some (.slice Aa8 a.rt.length ca8)) ∧ (W0.cell? ⟨b2, 0, none⟩ = some (.int .i64 b.kd) ∧ W0.cell? ⟨b2, 1, none⟩ = some (.string b.nm) ∧ W0.cell? ⟨b2, 2, none⟩ = some (.int .i64 b.n) ∧ W0.cell? ⟨b2, 3, none⟩ = some (.int .i64 b.id) ∧ W0.cell? ⟨b2, 4, none⟩ = some (.bool b.on) ∧ W0.cell? ⟨b2, 5, none⟩ = some (.slice Ab5 b.tm.length cb5) ∧ W0.cell? ⟨b2, 6, none⟩ = some (.int .i64 b.rid) ∧ W0.cell? ⟨b2, 7, none⟩ = some (.slice Ab7 b.lf.length cb7) ∧ W0.cell? ⟨b2, 8, none⟩ = some (.slice Ab8 b.rt.length cb8)) := ⟨at9 HZ1.out, at9 HZ2.out⟩
 obtain ⟨⟨u0, u1, u2, u3, u4, u5, u6, u7, u8⟩, v0, v1, v2, v3, v4, v5, v6, v7, v8⟩ := hS
 have hl := H.out
 unfold sameF at hl
 clear H
 by_cases c1 : a.kd = b.kd
 ·
  have d1 : (a.kd == b.kd) = true := beq_iff_eq.mpr c1
  rw [if_pos c1] at hl
  clear c1
  by_cases c2 : a.rid = b.rid
  ·
   have d2 : (a.rid == b.rid) = true := beq_iff_eq.mpr c2
   rw [if_pos c2] at hl
   obtain ⟨ka, hka, hl⟩ := Option.bind_eq_some_iff.mp hl
   obtain ⟨kb, hkb, hl⟩ := Option.bind_eq_some_iff.mp hl
   have C1 := fun (W' : World) (hW : Below W0.heap.size W0 W') => key_calls (HA.out.below hW) (HG.out.below hW) hka
   have C2 := fun (W' : World) (hW : Below W0.heap.size W0 W') => key_calls (HBB.out.below hW) (HG.out.below hW) hkb
   have HX := Aside0.mk (Below.refl W0.heap.size W0)
   clear c2 hka hkb
   by_cases c3 : ka.toList = kb.toList
   ·
    have d3 : (ka.toList == kb.toList) = true := beq_iff_eq.mpr c3
    rw [if_pos c3] at hl
    obtain rfl := Option.some.inj hl
    have C3 := fun (W' : World) (hW : Below W0.heap.size W0 W') => command_sizes.calls a.kd a.nm a.n a.id a.on Aa5 ca5 a.tm a.rid Aa7 ca7 a.lf Aa8 ca8 a.rt _ _ _ W' (Kd.C_below HTA.out.1 hW) HTA.out.2.1 (Kd.C_below HTA.out.2.2.1 hW) HTA.out.2.2.2.1 (Kd.C_below HTA.out.2.2.2.2.1 hW) HTA.out.2.2.2.2.2 rfl
    have C4 := fun (W' : World) (hW : Below W0.heap.size W0 W') => command_sizes.calls b.kd b.nm b.n b.id b.on Ab5 cb5 b.tm b.rid Ab7 cb7 b.lf Ab8 cb8 b.rt _ _ _ W' (Kd.C_below HTB.out.1 hW) HTB.out.2.1 (Kd.C_below HTB.out.2.2.1 hW) HTB.out.2.2.2.1 (Kd.C_below HTB.out.2.2.2.2.1 hW) HTB.out.2.2.2.2.2 rfl
    clear c3 hl
    go_region_held3 (fun w' => (w'.cell? ⟨b1, 0, none⟩ = some (.int .i64 a.kd) ∧ w'.cell? ⟨b1, 1, none⟩ = some (.string a.nm) ∧ w'.cell? ⟨b1, 2, none⟩ = some (.int .i64 a.n) ∧ w'.cell? ⟨b1, 3, none⟩ = some (.int .i64 a.id) ∧ w'.cell? ⟨b1, 4, none⟩ = some (.bool a.on) ∧ w'.cell? ⟨b1, 5, none⟩ = some (.slice Aa5 a.tm.length ca5) ∧ w'.cell? ⟨b1, 6, none⟩ = some (.int .i64 a.rid) ∧ w'.cell? ⟨b1, 7, none⟩ = some (.slice Aa7 a.lf.length ca7) ∧ w'.cell? ⟨b1, 8, none⟩ = some (.slice Aa8 a.rt.length ca8)) ∧ (w'.cell? ⟨b2, 0, none⟩ = some (.int .i64 b.kd) ∧ w'.cell? ⟨b2, 1, none⟩ = some (.string b.nm) ∧ w'.cell? ⟨b2, 2, none⟩ = some (.int .i64 b.n) ∧ w'.cell? ⟨b2, 3, none⟩ = some (.int .i64 b.id) ∧ w'.cell? ⟨b2, 4, none⟩ = some (.bool b.on) ∧ w'.cell? ⟨b2, 5, none⟩ = some (.slice Ab5 b.tm.length cb5) ∧ w'.cell? ⟨b2, 6, none⟩ = some (.int .i64 b.rid) ∧ w'.cell? ⟨b2, 7, none⟩ = some (.slice Ab7 b.lf.length cb7) ∧ w'.cell? ⟨b2, 8, none⟩ = some (.slice Ab8 b.rt.length cb8))) (first | exact ⟨⟨u0, u1, u2, u3, u4, u5, u6, u7, u8⟩, v0, v1, v2, v3, v4, v5, v6, v7, v8⟩ | assumption) (first | (go_at_call 59; (with_reducible refine (C1 _ ?sb).mono ?_); (case sb => exact (by repeat (first | exact HX.out | apply pw_below_drewN | apply below_drew1 | apply below_drew))); rintro e w1 ⟨rfl, hb_⟩; have n0_ := Aside0.mk (below_step (show Below W0.heap.size W0 _ from (by repeat (first | exact HX.out | apply pw_below_drewN | apply below_drew1 | apply below_drew))) hb_); clear hb_ HX; have HX := n0_; clear n0_; obtain ⟨⟨u0, u1, u2, u3, u4, u5, u6, u7, u8⟩, v0, v1, v2, v3, v4, v5, v6, v7, v8⟩ := (show (w1.cell? ⟨b1, 0, none⟩ = some (.int .i64 a.kd) ∧ w1.cell? ⟨b1, 1, none⟩ = some (.string a.nm) ∧ w1.cell? ⟨b1, 2, none⟩ = some (.int .i64 a.n) ∧ w1.cell? ⟨b1, 3, none⟩ = some (.int .i64 a.id) ∧ w1.cell? ⟨b1, 4, none⟩ = some (.bool a.on) ∧ w1.cell? ⟨b1, 5, none⟩ = some (.slice Aa5 a.tm.length ca5) ∧ w1.cell? ⟨b1, 6, none⟩ = some (.int .i64 a.rid) ∧ w1.cell? ⟨b1, 7, none⟩ = some (.slice Aa7 a.lf.length ca7) ∧ w1.cell? ⟨b1, 8, none⟩ = some (.slice Aa8 a.rt.length ca8)) ∧ (w1.cell? ⟨b2, 0, none⟩ = some (.int .i64 b.kd) ∧ w1.cell? ⟨b2, 1, none⟩ = some (.string b.nm) ∧ w1.cell? ⟨b2, 2, none⟩ = some (.int .i64 b.n) ∧ w1.cell? ⟨b2, 3, none⟩ = some (.int .i64 b.id) ∧ w1.cell? ⟨b2, 4, none⟩ = some (.bool b.on) ∧ w1.cell? ⟨b2, 5, none⟩ = some (.slice Ab5 b.tm.length cb5) ∧ w1.cell? ⟨b2, 6, none⟩ = some (.int .i64 b.rid) ∧ w1.cell? ⟨b2, 7, none⟩ = some (.slice Ab7 b.lf.length cb7) ∧ w1.cell? ⟨b2, 8, none⟩ = some (.slice Ab8 b.rt.length cb8)) from ⟨at9 (blk_below HZ1.out HX.out), at9 (blk_below HZ2.out HX.out)⟩)) | (go_at_call 59; (with_reducible refine (C2 _ ?sb).mono ?_); (case sb => exact (by repeat (first | exact HX.out | apply pw_below_drewN | apply below_drew1 | apply below_drew))); rintro e w1 ⟨rfl, hb_⟩; have n0_ := Aside0.mk (below_step (show Below W0.heap.size W0 _ from (by repeat (first | exact HX.out | apply pw_below_drewN | apply below_drew1 | apply below_drew))) hb_); clear hb_ HX; have HX := n0_; clear n0_; obtain ⟨⟨u0, u1, u2, u3, u4, u5, u6, u7, u8⟩, v0, v1, v2, v3, v4, v5, v6, v7, v8⟩ := (show (w1.cell? ⟨b1, 0, none⟩ = some (.int .i64 a.kd) ∧ w1.cell? ⟨b1, 1, none⟩ = some (.string a.nm) ∧ w1.cell? ⟨b1, 2, none⟩ = some (.int .i64 a.n) ∧ w1.cell? ⟨b1, 3, none⟩ = some (.int .i64 a.id) ∧ w1.cell? ⟨b1, 4, none⟩ = some (.bool a.on) ∧ w1.cell? ⟨b1, 5, none⟩ = some (.slice Aa5 a.tm.length ca5) ∧ w1.cell? ⟨b1, 6, none⟩ = some (.int .i64 a.rid) ∧ w1.cell? ⟨b1, 7, none⟩ = some (.slice Aa7 a.lf.length ca7) ∧ w1.cell? ⟨b1, 8, none⟩ = some (.slice Aa8 a.rt.length ca8)) ∧ (w1.cell? ⟨b2, 0, none⟩ = some (.int .i64 b.kd) ∧ w1.cell? ⟨b2, 1, none⟩ = some (.string b.nm) ∧ w1.cell? ⟨b2, 2, none⟩ = some (.int .i64 b.n) ∧ w1.cell? ⟨b2, 3, none⟩ = some (.int .i64 b.id) ∧ w1.cell? ⟨b2, 4, none⟩ = some (.bool b.on) ∧ w1.cell? ⟨b2, 5, none⟩ = some (.slice Ab5 b.tm.length cb5) ∧ w1.cell? ⟨b2, 6, none⟩ = some (.int .i64 b.rid) ∧ w1.cell? ⟨b2, 7, none⟩ = some (.slice Ab7 b.lf.length cb7) ∧ w1.cell? ⟨b2, 8, none⟩ = some (.slice Ab8 b.rt.length cb8)) from ⟨at9 (blk_below HZ1.out HX.out), at9 (blk_below HZ2.out HX.out)⟩)) | (go_at_call 60; (with_reducible refine (C3 _ ?sb).mono ?_); (case sb => exact (by repeat (first | exact HX.out | apply pw_below_drewN | apply below_drew1 | apply below_drew))); rintro e w1 ⟨rfl, hb_⟩; have n0_ := Aside0.mk (below_step (show Below W0.heap.size W0 _ from (by repeat (first | exact HX.out | apply pw_below_drewN | apply below_drew1 | apply below_drew))) hb_); clear hb_ HX; have HX := n0_; clear n0_; obtain ⟨⟨u0, u1, u2, u3, u4, u5, u6, u7, u8⟩, v0, v1, v2, v3, v4, v5, v6, v7, v8⟩ := (show (w1.cell? ⟨b1, 0, none⟩ = some (.int .i64 a.kd) ∧ w1.cell? ⟨b1, 1, none⟩ = some (.string a.nm) ∧ w1.cell? ⟨b1, 2, none⟩ = some (.int .i64 a.n) ∧ w1.cell? ⟨b1, 3, none⟩ = some (.int .i64 a.id) ∧ w1.cell? ⟨b1, 4, none⟩ = some (.bool a.on) ∧ w1.cell? ⟨b1, 5, none⟩ = some (.slice Aa5 a.tm.length ca5) ∧ w1.cell? ⟨b1, 6, none⟩ = some (.int .i64 a.rid) ∧ w1.cell? ⟨b1, 7, none⟩ = some (.slice Aa7 a.lf.length ca7) ∧ w1.cell? ⟨b1, 8, none⟩ = some (.slice Aa8 a.rt.length ca8)) ∧ (w1.cell? ⟨b2, 0, none⟩ = some (.int .i64 b.kd) ∧ w1.cell? ⟨b2, 1, none⟩ = some (.string b.nm) ∧ w1.cell? ⟨b2, 2, none⟩ = some (.int .i64 b.n) ∧ w1.cell? ⟨b2, 3, none⟩ = some (.int .i64 b.id) ∧ w1.cell? ⟨b2, 4, none⟩ = some (.bool b.on) ∧ w1.cell? ⟨b2, 5, none⟩ = some (.slice Ab5 b.tm.length cb5) ∧ w1.cell? ⟨b2, 6, none⟩ = some (.int .i64 b.rid) ∧ w1.cell? ⟨b2, 7, none⟩ = some (.slice Ab7 b.lf.length cb7) ∧ w1.cell? ⟨b2, 8, none⟩ = some (.slice Ab8 b.rt.length cb8)) from ⟨at9 (blk_below HZ1.out HX.out), at9 (blk_below HZ2.out HX.out)⟩)) | (go_at_call 60; (with_reducible refine (C4 _ ?sb).mono ?_); (case sb => exact (by repeat (first | exact HX.out | apply pw_below_drewN | apply below_drew1 | apply below_drew))); rintro e w1 ⟨rfl, hb_⟩; have n0_ := Aside0.mk (below_step (show Below W0.heap.size W0 _ from (by repeat (first | exact HX.out | apply pw_below_drewN | apply below_drew1 | apply below_drew))) hb_); clear hb_ HX; have HX := n0_; clear n0_; obtain ⟨⟨u0, u1, u2, u3, u4, u5, u6, u7, u8⟩, v0, v1, v2, v3, v4, v5, v6, v7, v8⟩ := (show (w1.cell? ⟨b1, 0, none⟩ = some (.int .i64 a.kd) ∧ w1.cell? ⟨b1, 1, none⟩ = some (.string a.nm) ∧ w1.cell? ⟨b1, 2, none⟩ = some (.int .i64 a.n) ∧ w1.cell? ⟨b1, 3, none⟩ = some (.int .i64 a.id) ∧ w1.cell? ⟨b1, 4, none⟩ = some (.bool a.on) ∧ w1.cell? ⟨b1, 5, none⟩ = some (.slice Aa5 a.tm.length ca5) ∧ w1.cell? ⟨b1, 6, none⟩ = some (.int .i64 a.rid) ∧ w1.cell? ⟨b1, 7, none⟩ = some (.slice Aa7 a.lf.length ca7) ∧ w1.cell? ⟨b1, 8, none⟩ = some (.slice Aa8 a.rt.length ca8)) ∧ (w1.cell? ⟨b2, 0, none⟩ = some (.int .i64 b.kd) ∧ w1.cell? ⟨b2, 1, none⟩ = some (.string b.nm) ∧ w1.cell? ⟨b2, 2, none⟩ = some (.int .i64 b.n) ∧ w1.cell? ⟨b2, 3, none⟩ = some (.int .i64 b.id) ∧ w1.cell? ⟨b2, 4, none⟩ = some (.bool b.on) ∧ w1.cell? ⟨b2, 5, none⟩ = some (.slice Ab5 b.tm.length cb5) ∧ w1.cell? ⟨b2, 6, none⟩ = some (.int .i64 b.rid) ∧ w1.cell? ⟨b2, 7, none⟩ = some (.slice Ab7 b.lf.length cb7) ∧ w1.cell? ⟨b2, 8, none⟩ = some (.slice Ab8 b.rt.length cb8)) from ⟨at9 (blk_below HZ1.out HX.out), at9 (blk_below HZ2.out HX.out)⟩)))
    all_goals
     go_wp2
     go_ret
     exact ⟨rfl, below_step HB.out HX.out⟩
   ·
    have d3 : (ka.toList == kb.toList) = false := beq_eq_false_iff_ne.mpr c3
    rw [if_neg c3] at hl
    obtain rfl := Option.some.inj hl
    clear c3 hl
    refine wp_region_held_drew (S := (fun w' => (w'.cell? ⟨b1, 0, none⟩ = some (.int .i64 a.kd) ∧ w'.cell? ⟨b1, 1, none⟩ = some (.string a.nm) ∧ w'.cell? ⟨b1, 2, none⟩ = some (.int .i64 a.n) ∧ w'.cell? ⟨b1, 3, none⟩ = some (.int .i64 a.id) ∧ w'.cell? ⟨b1, 4, none⟩ = some (.bool a.on) ∧ w'.cell? ⟨b1, 5, none⟩ = some (.slice Aa5 a.tm.length ca5) ∧ w'.cell? ⟨b1, 6, none⟩ = some (.int .i64 a.rid) ∧ w'.cell? ⟨b1, 7, none⟩ = some (.slice Aa7 a.lf.length ca7) ∧ w'.cell? ⟨b1, 8, none⟩ = some (.slice Aa8 a.rt.length ca8)) ∧ (w'.cell? ⟨b2, 0, none⟩ = some (.int .i64 b.kd) ∧ w'.cell? ⟨b2, 1, none⟩ = some (.string b.nm) ∧ w'.cell? ⟨b2, 2, none⟩ = some (.int .i64 b.n) ∧ w'.cell? ⟨b2, 3, none⟩ = some (.int .i64 b.id) ∧ w'.cell? ⟨b2, 4, none⟩ = some (.bool b.on) ∧ w'.cell? ⟨b2, 5, none⟩ = some (.slice Ab5 b.tm.length cb5) ∧ w'.cell? ⟨b2, 6, none⟩ = some (.int .i64 b.rid) ∧ w'.cell? ⟨b2, 7, none⟩ = some (.slice Ab7 b.lf.length cb7) ∧ w'.cell? ⟨b2, 8, none⟩ = some (.slice Ab8 b.rt.length cb8)))) (by kernel_rfl) ?_ (fun hHeld => ?_); (focus ((try dsimp only); (first | exact ⟨⟨u0, u1, u2, u3, u4, u5, u6, u7, u8⟩, v0, v1, v2, v3, v4, v5, v6, v7, v8⟩ | assumption)))
    refine wpAnyH_take (i := 0) (oi := ⟨some 6, .fieldAddr 28 (.tmp 2) 0, 0, "command.go:159", #[], none⟩) (v := ?_) rfl (by kernel_rfl) (by kernel_rfl) (by kernel_rfl) (fun _ _ _ h => h) (Or.inl ⟨by rfl, ?_⟩) (by assumption) ?_; rotate_left; (focus (intro w hSw; (try dsimp only at hSw); go_simp; try (with_reducible rfl))); try simp only [Act.put, List.setIfInBounds_toArray, List.set_cons_zero, List.set_cons_succ]
    refine wpAnyH_take (i := 1) (oi := ⟨some 7, .load 3 (.tmp 6), 3, "command.go:159", #[⟨0, .data⟩], none⟩) (v := ?_) rfl (by kernel_rfl) (by kernel_rfl) (by kernel_rfl) (fun _ _ _ h => h) (Or.inl ⟨by rfl, ?_⟩) (by assumption) ?_; rotate_left; (focus (intro w hSw; (try dsimp only at hSw); go_simp; try (with_reducible rfl))); try simp only [Act.put, List.setIfInBounds_toArray, List.set_cons_zero, List.set_cons_succ]
    refine wpAnyH_take (i := 2) (oi := ⟨some 8, .fieldAddr 28 (.tmp 3) 0, 0, "command.go:159", #[], none⟩) (v := ?_) rfl (by kernel_rfl) (by kernel_rfl) (by kernel_rfl) (fun _ _ _ h => h) (Or.inl ⟨by rfl, ?_⟩) (by assumption) ?_; rotate_left; (focus (intro w hSw; (try dsimp only at hSw); go_simp; try (with_reducible rfl))); try simp only [Act.put, List.setIfInBounds_toArray, List.set_cons_zero, List.set_cons_succ]
    refine wpAnyH_take (i := 3) (oi := ⟨some 9, .load 3 (.tmp 8), 3, "command.go:159", #[⟨2, .data⟩], none⟩) (v := ?_) rfl (by kernel_rfl) (by kernel_rfl) (by kernel_rfl) (fun _ _ _ h => h) (Or.inl ⟨by rfl, ?_⟩) (by assumption) ?_; rotate_left; (focus (intro w hSw; (try dsimp only at hSw); go_simp; try (with_reducible rfl))); try simp only [Act.put, List.setIfInBounds_toArray, List.set_cons_zero, List.set_cons_succ]
    refine wpAnyH_take (i := 4) (oi := ⟨some 10, .binOp .eql 3 (.tmp 7) (.tmp 9) 3, 4, "command.go:159", #[⟨1, .data⟩, ⟨3, .data⟩], none⟩) (v := ?_) rfl (by kernel_rfl) (by kernel_rfl) (by kernel_rfl) (fun _ _ _ h => h) (Or.inl ⟨by rfl, ?_⟩) (by assumption) ?_; rotate_left; (focus (intro w hSw; (try dsimp only at hSw); go_simp; try (with_reducible rfl))); try simp only [Act.put, List.setIfInBounds_toArray, List.set_cons_zero, List.set_cons_succ]
    refine wpAnyH_take (i := 5) (oi := ⟨some 11, .move (.tmp 10), 4, "command.go:159", #[⟨4, .data⟩], none⟩) (v := ?_) rfl (by kernel_rfl) (by kernel_rfl) (by kernel_rfl) (fun _ _ _ h => h) (Or.inl ⟨by rfl, ?_⟩) (by assumption) ?_; rotate_left; (focus (intro w hSw; (try dsimp only at hSw); go_simp; try (with_reducible rfl))); try simp only [Act.put, List.setIfInBounds_toArray, List.set_cons_zero, List.set_cons_succ]
    refine wpAnyH_take (i := 6) (oi := ⟨some 12, .fieldAddr 28 (.tmp 2) 6, 0, "command.go:159", #[⟨5, .guard⟩], some (5, true)⟩) (v := ?_) rfl (by kernel_rfl) (by kernel_rfl) (by kernel_rfl) (fun _ _ _ h => h) (Or.inl ⟨by rfl, ?_⟩) (by assumption) ?_; rotate_left; (focus (intro w hSw; (try dsimp only at hSw); go_simp; try (with_reducible rfl))); try simp only [Act.put, List.setIfInBounds_toArray, List.set_cons_zero, List.set_cons_succ]
    refine wpAnyH_take (i := 7) (oi := ⟨some 13, .fieldAddr 26 (.tmp 12) 0, 0, "command.go:159", #[⟨6, .data⟩, ⟨5, .guard⟩], some (5, true)⟩) (v := ?_) rfl (by kernel_rfl) (by kernel_rfl) (by kernel_rfl) (fun _ _ _ h => h) (Or.inl ⟨by rfl, ?_⟩) (by assumption) ?_; rotate_left; (focus (intro w hSw; (try dsimp only at hSw); go_simp; try (with_reducible rfl))); try simp only [Act.put, List.setIfInBounds_toArray, List.set_cons_zero, List.set_cons_succ]
    refine wpAnyH_take (i := 8) (oi := ⟨some 14, .load 3 (.tmp 13), 3, "command.go:159", #[⟨7, .data⟩, ⟨5, .guard⟩], some (5, true)⟩) (v := ?_) rfl (by kernel_rfl) (by kernel_rfl) (by kernel_rfl) (fun _ _ _ h => h) (Or.inl ⟨by rfl, ?_⟩) (by assumption) ?_; rotate_left; (focus (intro w hSw; (try dsimp only at hSw); go_simp; try (with_reducible rfl))); try simp only [Act.put, List.setIfInBounds_toArray, List.set_cons_zero, List.set_cons_succ]
    refine wpAnyH_take (i := 9) (oi := ⟨some 15, .fieldAddr 28 (.tmp 3) 6, 0, "command.go:159", #[⟨5, .guard⟩], some (5, true)⟩) (v := ?_) rfl (by kernel_rfl) (by kernel_rfl) (by kernel_rfl) (fun _ _ _ h => h) (Or.inl ⟨by rfl, ?_⟩) (by assumption) ?_; rotate_left; (focus (intro w hSw; (try dsimp only at hSw); go_simp; try (with_reducible rfl))); try simp only [Act.put, List.setIfInBounds_toArray, List.set_cons_zero, List.set_cons_succ]
    refine wpAnyH_take (i := 10) (oi := ⟨some 16, .fieldAddr 26 (.tmp 15) 0, 0, "command.go:159", #[⟨9, .data⟩, ⟨5, .guard⟩], some (5, true)⟩) (v := ?_) rfl (by kernel_rfl) (by kernel_rfl) (by kernel_rfl) (fun _ _ _ h => h) (Or.inl ⟨by rfl, ?_⟩) (by assumption) ?_; rotate_left; (focus (intro w hSw; (try dsimp only at hSw); go_simp; try (with_reducible rfl))); try simp only [Act.put, List.setIfInBounds_toArray, List.set_cons_zero, List.set_cons_succ]
    refine wpAnyH_take (i := 11) (oi := ⟨some 17, .load 3 (.tmp 16), 3, "command.go:159", #[⟨10, .data⟩, ⟨5, .guard⟩], some (5, true)⟩) (v := ?_) rfl (by kernel_rfl) (by kernel_rfl) (by kernel_rfl) (fun _ _ _ h => h) (Or.inl ⟨by rfl, ?_⟩) (by assumption) ?_; rotate_left; (focus (intro w hSw; (try dsimp only at hSw); go_simp; try (with_reducible rfl))); try simp only [Act.put, List.setIfInBounds_toArray, List.set_cons_zero, List.set_cons_succ]
    refine wpAnyH_take (i := 12) (oi := ⟨some 18, .binOp .eql 3 (.tmp 14) (.tmp 17) 3, 4, "command.go:159", #[⟨8, .data⟩, ⟨11, .data⟩, ⟨5, .guard⟩], some (5, true)⟩) (v := ?_) rfl (by kernel_rfl) (by kernel_rfl) (by kernel_rfl) (fun _ _ _ h => h) (Or.inl ⟨by rfl, ?_⟩) (by assumption) ?_; rotate_left; (focus (intro w hSw; (try dsimp only at hSw); go_simp; try (with_reducible rfl))); try simp only [Act.put, List.setIfInBounds_toArray, List.set_cons_zero, List.set_cons_succ]
    refine wpAnyH_take (i := 13) (oi := ⟨some 19, .pick (.tmp 11) (.tmp 18) (.const (.bool false)), 4, "command.go:159", #[⟨5, .data⟩, ⟨12, .data⟩], none⟩) (v := ?_) rfl (by kernel_rfl) (by kernel_rfl) (by kernel_rfl) (fun _ _ _ h => h) (Or.inl ⟨by rfl, ?_⟩) (by assumption) ?_; rotate_left; (focus (intro w hSw; (try dsimp only at hSw); go_simp; try (with_reducible rfl))); try simp only [Act.put, List.setIfInBounds_toArray, List.set_cons_zero, List.set_cons_succ]
    refine wpAnyH_take (i := 14) (oi := ⟨some 20, .move (.tmp 19), 4, "command.go:159", #[⟨13, .data⟩, ⟨5, .chain⟩], none⟩) (v := ?_) rfl (by kernel_rfl) (by kernel_rfl) (by kernel_rfl) (fun _ _ _ h => h) (Or.inl ⟨by rfl, ?_⟩) (by assumption) ?_; rotate_left; (focus (intro w hSw; (try dsimp only at hSw); go_simp; try (with_reducible rfl))); try simp only [Act.put, List.setIfInBounds_toArray, List.set_cons_zero, List.set_cons_succ]
    refine wpAnyH_take (i := 15) (oi := ⟨some 21, .move (.tmp 5), 73, "command.go:159", #[⟨14, .guard⟩], some (14, true)⟩) (v := ?_) rfl (by kernel_rfl) (by kernel_rfl) (by kernel_rfl) (fun _ _ _ h => h) (Or.inl ⟨by rfl, ?_⟩) (by assumption) ?_; rotate_left; (focus (intro w hSw; (try dsimp only at hSw); go_simp; try (with_reducible rfl))); try simp only [Act.put, List.setIfInBounds_toArray, List.set_cons_zero, List.set_cons_succ]
    refine wpAnyH_take (i := 16) (oi := ⟨some 22, .load 28 (.tmp 2), 28, "command.go:159", #[⟨14, .guard⟩], some (14, true)⟩) (v := ?_) rfl (by kernel_rfl) (by kernel_rfl) (by kernel_rfl) (fun _ _ _ h => h) (Or.inl ⟨by rfl, ?_⟩) (by assumption) ?_; rotate_left; (focus (intro w hSw; (try dsimp only at hSw); go_simp; try (with_reducible rfl))); try simp only [Act.put, List.setIfInBounds_toArray, List.set_cons_zero, List.set_cons_succ]
    refine wpAnyH_take (i := 18) (oi := ⟨some 24, .move (.tmp 5), 73, "command.go:159", #[⟨14, .guard⟩], some (14, true)⟩) (v := ?_) rfl (by kernel_rfl) (by kernel_rfl) (by kernel_rfl) (fun _ _ _ h => h) (Or.inl ⟨by rfl, ?_⟩) (by assumption) ?_; rotate_left; (focus (intro w hSw; (try dsimp only at hSw); go_simp; try (with_reducible rfl))); try simp only [Act.put, List.setIfInBounds_toArray, List.set_cons_zero, List.set_cons_succ]
    refine wpAnyH_take (i := 19) (oi := ⟨some 25, .load 28 (.tmp 3), 28, "command.go:159", #[⟨14, .guard⟩], some (14, true)⟩) (v := ?_) rfl (by kernel_rfl) (by kernel_rfl) (by kernel_rfl) (fun _ _ _ h => h) (Or.inl ⟨by rfl, ?_⟩) (by assumption) ?_; rotate_left; (focus (intro w hSw; (try dsimp only at hSw); go_simp; try (with_reducible rfl))); try simp only [Act.put, List.setIfInBounds_toArray, List.set_cons_zero, List.set_cons_succ]
    refine wpAnyH_ready (rs := [17]) (by kernel_rfl) (by simp) ?_; refine AllReadyH.cons (o := ⟨some 23, .call { callee := .value (.tmp 21), args := #[.tmp 22], argTypes := #[28] }, 9, "command.go:159", #[⟨15, .data⟩, ⟨16, .data⟩, ⟨14, .chain⟩, ⟨14, .guard⟩], some (14, true)⟩) rfl (fun K hK => ?_) AllReadyH.nil; go_simp; (go_at_call 59; (with_reducible refine (C1 _ ?sb).mono ?_); (case sb => exact (by repeat (first | exact HX.out | apply pw_below_drewN | apply below_drew1 | apply below_drew))); rintro e w1 ⟨rfl, hb_⟩; have n0_ := Aside0.mk (below_step (show Below W0.heap.size W0 _ from (by repeat (first | exact HX.out | apply pw_below_drewN | apply below_drew1 | apply below_drew))) hb_); clear hb_ HX; have HX := n0_; clear n0_; obtain ⟨⟨u0, u1, u2, u3, u4, u5, u6, u7, u8⟩, v0, v1, v2, v3, v4, v5, v6, v7, v8⟩ := (show (w1.cell? ⟨b1, 0, none⟩ = some (.int .i64 a.kd) ∧ w1.cell? ⟨b1, 1, none⟩ = some (.string a.nm) ∧ w1.cell? ⟨b1, 2, none⟩ = some (.int .i64 a.n) ∧ w1.cell? ⟨b1, 3, none⟩ = some (.int .i64 a.id) ∧ w1.cell? ⟨b1, 4, none⟩ = some (.bool a.on) ∧ w1.cell? ⟨b1, 5, none⟩ = some (.slice Aa5 a.tm.length ca5) ∧ w1.cell? ⟨b1, 6, none⟩ = some (.int .i64 a.rid) ∧ w1.cell? ⟨b1, 7, none⟩ = some (.slice Aa7 a.lf.length ca7) ∧ w1.cell? ⟨b1, 8, none⟩ = some (.slice Aa8 a.rt.length ca8)) ∧ (w1.cell? ⟨b2, 0, none⟩ = some (.int .i64 b.kd) ∧ w1.cell? ⟨b2, 1, none⟩ = some (.string b.nm) ∧ w1.cell? ⟨b2, 2, none⟩ = some (.int .i64 b.n) ∧ w1.cell? ⟨b2, 3, none⟩ = some (.int .i64 b.id) ∧ w1.cell? ⟨b2, 4, none⟩ = some (.bool b.on) ∧ w1.cell? ⟨b2, 5, none⟩ = some (.slice Ab5 b.tm.length cb5) ∧ w1.cell? ⟨b2, 6, none⟩ = some (.int .i64 b.rid) ∧ w1.cell? ⟨b2, 7, none⟩ = some (.slice Ab7 b.lf.length cb7) ∧ w1.cell? ⟨b2, 8, none⟩ = some (.slice Ab8 b.rt.length cb8)) from ⟨at9 (blk_below HZ1.out HX.out), at9 (blk_below HZ2.out HX.out)⟩)); refine hK.out _ _ ?_ (fun hHeld => ?_); (focus ((try dsimp only); (first | exact ⟨⟨u0, u1, u2, u3, u4, u5, u6, u7, u8⟩, v0, v1, v2, v3, v4, v5, v6, v7, v8⟩ | assumption))); clear hK K; try simp only [Act.put, List.setIfInBounds_toArray, List.set_cons_zero, List.set_cons_succ]
    refine wpAnyH_ready (rs := [20]) (by kernel_rfl) (by simp) ?_; refine AllReadyH.cons (o := ⟨some 26, .call { callee := .value (.tmp 24), args := #[.tmp 25], argTypes := #[28] }, 9, "command.go:159", #[⟨18, .data⟩, ⟨19, .data⟩, ⟨17, .chain⟩, ⟨14, .guard⟩], some (14, true)⟩) rfl (fun K hK => ?_) AllReadyH.nil; go_simp; (go_at_call 59; (with_reducible refine (C2 _ ?sb).mono ?_); (case sb => exact (by repeat (first | exact HX.out | apply pw_below_drewN | apply below_drew1 | apply below_drew))); rintro e w1 ⟨rfl, hb_⟩; have n0_ := Aside0.mk (below_step (show Below W0.heap.size W0 _ from (by repeat (first | exact HX.out | apply pw_below_drewN | apply below_drew1 | apply below_drew))) hb_); clear hb_ HX; have HX := n0_; clear n0_; obtain ⟨⟨u0, u1, u2, u3, u4, u5, u6, u7, u8⟩, v0, v1, v2, v3, v4, v5, v6, v7, v8⟩ := (show (w1.cell? ⟨b1, 0, none⟩ = some (.int .i64 a.kd) ∧ w1.cell? ⟨b1, 1, none⟩ = some (.string a.nm) ∧ w1.cell? ⟨b1, 2, none⟩ = some (.int .i64 a.n) ∧ w1.cell? ⟨b1, 3, none⟩ = some (.int .i64 a.id) ∧ w1.cell? ⟨b1, 4, none⟩ = some (.bool a.on) ∧ w1.cell? ⟨b1, 5, none⟩ = some (.slice Aa5 a.tm.length ca5) ∧ w1.cell? ⟨b1, 6, none⟩ = some (.int .i64 a.rid) ∧ w1.cell? ⟨b1, 7, none⟩ = some (.slice Aa7 a.lf.length ca7) ∧ w1.cell? ⟨b1, 8, none⟩ = some (.slice Aa8 a.rt.length ca8)) ∧ (w1.cell? ⟨b2, 0, none⟩ = some (.int .i64 b.kd) ∧ w1.cell? ⟨b2, 1, none⟩ = some (.string b.nm) ∧ w1.cell? ⟨b2, 2, none⟩ = some (.int .i64 b.n) ∧ w1.cell? ⟨b2, 3, none⟩ = some (.int .i64 b.id) ∧ w1.cell? ⟨b2, 4, none⟩ = some (.bool b.on) ∧ w1.cell? ⟨b2, 5, none⟩ = some (.slice Ab5 b.tm.length cb5) ∧ w1.cell? ⟨b2, 6, none⟩ = some (.int .i64 b.rid) ∧ w1.cell? ⟨b2, 7, none⟩ = some (.slice Ab7 b.lf.length cb7) ∧ w1.cell? ⟨b2, 8, none⟩ = some (.slice Ab8 b.rt.length cb8)) from ⟨at9 (blk_below HZ1.out HX.out), at9 (blk_below HZ2.out HX.out)⟩)); refine hK.out _ _ ?_ (fun hHeld => ?_); (focus ((try dsimp only); (first | exact ⟨⟨u0, u1, u2, u3, u4, u5, u6, u7, u8⟩, v0, v1, v2, v3, v4, v5, v6, v7, v8⟩ | assumption))); clear hK K; try simp only [Act.put, List.setIfInBounds_toArray, List.set_cons_zero, List.set_cons_succ]
    refine wpAnyH_take (i := 21) (oi := ⟨some 27, .binOp .eql 9 (.tmp 23) (.tmp 26) 9, 4, "command.go:159", #[⟨17, .data⟩, ⟨20, .data⟩, ⟨14, .guard⟩], some (14, true)⟩) (v := ?_) rfl (by kernel_rfl) (by kernel_rfl) (by kernel_rfl) (fun _ _ _ h => h) (Or.inl ⟨by rfl, ?_⟩) (by assumption) ?_; rotate_left; (focus (intro w hSw; (try dsimp only at hSw); go_simp; try (with_reducible rfl))); try simp only [Act.put, List.setIfInBounds_toArray, List.set_cons_zero, List.set_cons_succ]
    refine wpAnyH_take (i := 22) (oi := ⟨some 28, .pick (.tmp 20) (.tmp 27) (.const (.bool false)), 4, "command.go:159", #[⟨14, .data⟩, ⟨21, .data⟩], none⟩) (v := ?_) rfl (by kernel_rfl) (by kernel_rfl) (by kernel_rfl) (fun _ _ _ h => h) (Or.inl ⟨by rfl, ?_⟩) (by assumption) ?_; rotate_left; (focus (intro w hSw; (try dsimp only at hSw); go_simp; try (with_reducible rfl))); try simp only [Act.put, List.setIfInBounds_toArray, List.set_cons_zero, List.set_cons_succ]
    refine wpAnyH_take (i := 23) (oi := ⟨some 29, .move (.tmp 28), 4, "command.go:159", #[⟨22, .data⟩, ⟨20, .chain⟩], none⟩) (v := ?_) rfl (by kernel_rfl) (by kernel_rfl) (by kernel_rfl) (fun _ _ _ h => h) (Or.inl ⟨by rfl, ?_⟩) (by assumption) ?_; rotate_left; (focus (intro w hSw; (try dsimp only at hSw); go_simp; try (with_reducible rfl))); try simp only [Act.put, List.setIfInBounds_toArray, List.set_cons_zero, List.set_cons_succ]
    refine wpAnyH_take (i := 24) (oi := ⟨some 30, .load 28 (.tmp 2), 28, "command.go:159", #[⟨23, .guard⟩], some (23, true)⟩) (v := undef) rfl (by kernel_rfl) (by kernel_rfl) (by kernel_rfl) (fun _ _ _ h => h) (Or.inr ⟨by rfl, rfl⟩) (by assumption) ?_; try simp only [Act.put, List.setIfInBounds_toArray, List.set_cons_zero, List.set_cons_succ]
    refine wpAnyH_take (i := 25) (oi := ⟨some 31, .call { callee := .value (.func 60), args := #[.tmp 30], argTypes := #[28] }, 109, "command.go:159", #[⟨24, .data⟩, ⟨23, .chain⟩, ⟨23, .guard⟩], some (23, true)⟩) (v := undef) rfl (by kernel_rfl) (by kernel_rfl) (by kernel_rfl) (fun _ _ _ h => h) (Or.inr ⟨by rfl, rfl⟩) (by assumption) ?_; try simp only [Act.put, List.setIfInBounds_toArray, List.set_cons_zero, List.set_cons_succ]
    refine wpAnyH_take (i := 26) (oi := ⟨some 32, .load 28 (.tmp 3), 28, "command.go:159", #[⟨23, .guard⟩], some (23, true)⟩) (v := undef) rfl (by kernel_rfl) (by kernel_rfl) (by kernel_rfl) (fun _ _ _ h => h) (Or.inr ⟨by rfl, rfl⟩) (by assumption) ?_; try simp only [Act.put, List.setIfInBounds_toArray, List.set_cons_zero, List.set_cons_succ]
    refine wpAnyH_take (i := 27) (oi := ⟨some 33, .call { callee := .value (.func 60), args := #[.tmp 32], argTypes := #[28] }, 109, "command.go:159", #[⟨26, .data⟩, ⟨25, .chain⟩, ⟨23, .guard⟩], some (23, true)⟩) (v := undef) rfl (by kernel_rfl) (by kernel_rfl) (by kernel_rfl) (fun _ _ _ h => h) (Or.inr ⟨by rfl, rfl⟩) (by assumption) ?_; try simp only [Act.put, List.setIfInBounds_toArray, List.set_cons_zero, List.set_cons_succ]
    refine wpAnyH_take (i := 28) (oi := ⟨some 34, .binOp .eql 109 (.tmp 31) (.tmp 33) 109, 4, "command.go:159", #[⟨25, .data⟩, ⟨27, .data⟩, ⟨23, .guard⟩], some (23, true)⟩) (v := undef) rfl (by kernel_rfl) (by kernel_rfl) (by kernel_rfl) (fun _ _ _ h => h) (Or.inr ⟨by rfl, rfl⟩) (by assumption) ?_; try simp only [Act.put, List.setIfInBounds_toArray, List.set_cons_zero, List.set_cons_succ]
    refine wpAnyH_take (i := 29) (oi := ⟨some 35, .pick (.tmp 29) (.tmp 34) (.const (.bool false)), 4, "command.go:159", #[⟨23, .data⟩, ⟨28, .data⟩], none⟩) (v := ?_) rfl (by kernel_rfl) (by kernel_rfl) (by kernel_rfl) (fun _ _ _ h => h) (Or.inl ⟨by rfl, ?_⟩) (by assumption) ?_; rotate_left; (focus (intro w hSw; (try dsimp only at hSw); go_simp; try (with_reducible rfl))); try simp only [Act.put, List.setIfInBounds_toArray, List.set_cons_zero, List.set_cons_succ]
    refine wpAnyH_take (i := 30) (oi := ⟨some 4, .assign (.tmp 35), 4, "command.go:159", #[⟨29, .data⟩, ⟨27, .chain⟩, ⟨0, .phase⟩, ⟨1, .phase⟩, ⟨2, .phase⟩, ⟨3, .phase⟩, ⟨4, .phase⟩, ⟨5, .phase⟩, ⟨6, .phase⟩, ⟨7, .phase⟩, ⟨8, .phase⟩, ⟨9, .phase⟩, ⟨10, .phase⟩, ⟨11, .phase⟩, ⟨12, .phase⟩, ⟨13, .phase⟩, ⟨14, .phase⟩, ⟨15, .phase⟩, ⟨16, .phase⟩, ⟨17, .phase⟩, ⟨18, .phase⟩, ⟨19, .phase⟩, ⟨20, .phase⟩, ⟨21, .phase⟩, ⟨22, .phase⟩, ⟨23, .phase⟩, ⟨24, .phase⟩, ⟨25, .phase⟩, ⟨26, .phase⟩, ⟨27, .phase⟩, ⟨28, .phase⟩, ⟨29, .phase⟩], none⟩) (v := ?_) rfl (by kernel_rfl) (by kernel_rfl) (by kernel_rfl) (fun _ _ _ h => h) (Or.inl ⟨by rfl, ?_⟩) (by assumption) ?_; rotate_left; (focus (intro w hSw; (try dsimp only at hSw); go_simp; try (with_reducible rfl))); try simp only [Act.put, List.setIfInBounds_toArray, List.set_cons_zero, List.set_cons_succ]
    refine wpAnyH_done (by kernel_rfl) ?_ _
    all_goals
     go_wp2
     go_ret
     exact ⟨rfl, below_step HB.out HX.out⟩
  ·
   have d2 : (a.rid == b.rid) = false := beq_eq_false_iff_ne.mpr c2
   rw [if_neg c2] at hl
   obtain rfl := Option.some.inj hl
   clear c2 hl
   go_quiet (fail)
   all_goals
    go_wp2
    go_ret
    exact ⟨rfl, pw_below_drewN HB.out _⟩
 ·
  have d1 : (a.kd == b.kd) = false := beq_eq_false_iff_ne.mpr c1
  rw [if_neg c1] at hl
  obtain rfl := Option.some.inj hl
  clear c1 hl
  go_quiet (fail)
  all_goals
   go_wp2
   go_ret
   exact ⟨rfl, pw_below_drewN HB.out _⟩
end Go.Proofs.YtmlddeogmckgmaaGreatDoor.P

-- ==== Cm10
/- command.Print: a command's line. -/
namespace Go.Proofs.YtmlddeogmckgmaaGreatDoor.P
open Go.RowKit Go.Proofs.YtmlddeogmckgmaaGreatDoorW.PrintWords Go.Proofs.YtmlddeogmckgmaaGreatDoorW.PrintLast Go.Proofs.YtmlddeogmckgmaaGreatDoorW.PrintMore
def printL (k : Nat) (x : Dr) : List (ByteArray × Int) → Option (ByteArray × Int)
 | [] => some (⟨#[]⟩, 12)
 | f :: fs => if f.2 = x.kd then (wordsF k x (wordsOf f.1)).bind fun L => if (joinL L).length ≤ 140737488355328 then (cmdF k (joinS L)).bind fun p => if p.2 = 0 then (sameF k x p.1).bind fun b => if b = true then some (joinS L, 0) else printL k x fs else printL k x fs else none else printL k x fs
theorem printL_mono (k : Nat) (x : Dr) : ∀ fs, LeO (printL k x fs) (printL (k + 1) x fs)
 | [] => LeO.refl _
 | f :: fs => by
  unfold printL
  exact LeO.ite (LeO.bind (wordsF_mono k x _) fun _ => LeO.ite (LeO.bind (cmdF_mono k _) fun _ => LeO.ite (LeO.bind (sameF_mono k x _) fun _ => LeO.ite (LeO.refl _) (printL_mono k x fs)) (printL_mono k x fs)) (LeO.refl _)) (printL_mono k x fs)
theorem printL_step {k i : Nat} {x : Dr} {out : ByteArray × Int} (hi : i < 19) (h : printL k x (formsL.drop i) = some out) :
 (if (formsL.getD i (⟨#[]⟩, 0)).2 = x.kd then (wordsF k x (wordsOf (formsL.getD i (⟨#[]⟩, 0)).1)).bind fun L => if (joinL L).length ≤ 140737488355328 then (cmdF k (joinS L)).bind fun p => if p.2 = 0 then (sameF k x p.1).bind fun b => if b = true then some (joinS L, 0) else printL k x (formsL.drop (i + 1)) else printL k x (formsL.drop (i + 1)) else none else printL k x (formsL.drop (i + 1))) = some out := by
 have hi' : i < formsL.length := hi
 rw [List.drop_eq_getElem_cons hi', printL] at h
 simpa [List.getD_eq_getElem?_getD, List.getElem?_eq_getElem hi'] using h
theorem wordsOf_len {s : ByteArray} (h : Asc s) : (wordsOf s).length ≤ 4294967281 := by
 have hl := fieldsL_len s.data.toList (by have := h.1; rw [← Lib.size_eq]; exact this)
 simpa [wordsOf] using hl
theorem cmdPrint_calls {k : Nat} {v : Value} {x : Dr} {r : ByteArray} {e : Int} {W : World} (hv : CmdC W v x) (hgl : Glob W) (h : printL k x formsL = some (r, e)) :
 Calls Tryz.prog 12 #[v] W fun z w' => z = .returned (.tuple #[.string r, .int .i64 e]) ∧ Below W.heap.size W w' := by
 have hcc := hv
 obtain ⟨Aa5, ca5, Aa7, ca7, Aa8, ca8, ev, _⟩ := hv
 have hB := below_alloc (Below.refl W.heap.size W) (.cells (cmdCs x (.slice Aa5 x.tm.length ca5) (.slice Aa7 x.lf.length ca7) (.slice Aa8 x.rt.length ca8)) 28)
 have HZ := Aside0.mk (heap_alloc_new W (.cells (cmdCs x (.slice Aa5 x.tm.length ca5) (.slice Aa7 x.lf.length ca7) (.slice Aa8 x.rt.length ca8)) 28))
 have HG := Aside0.mk (hgl.below hB)
 have HB := Aside0.mk hB
 have HC := Aside0.mk (hcc.below hB)
 have H := Aside0.mk h
 rw [ev] at HC ⊢
 clear hgl hB hcc ev h
 go_enter Tryz.func12, Tryz.ntmps12
 go_upto_region 1 with fail
 obtain ⟨b0, hb0⟩ : ∃ b, b = W.heap.size := ⟨_, rfl⟩
 rw [← hb0] at HZ ⊢
 have HN0 := Aside0.mk hb0
 clear hb0
 change Code.wp _ _ _ _ (W.alloc (.cells (cmdCs x (.slice Aa5 x.tm.length ca5) (.slice Aa7 x.lf.length ca7) (.slice Aa8 x.rt.length ca8)) 28))
 generalize (W.alloc (.cells (cmdCs x (.slice Aa5 x.tm.length ca5) (.slice Aa7 x.lf.length ca7) (.slice Aa8 x.rt.length ca8)) 28)) = W0 at HZ HB HG HC ⊢
 obtain ⟨af, hfv, hfa⟩ := HG.out.fm
 have xg := World.var?_cell gFm hfv 0
 have xg := xg.trans rfl
 go_wp2
 go_loopg [14] 19 (fun kq v14 w' => ∃ i : Int, v14 = .int .i64 i ∧ Aside0 (0 ≤ i ∧ i + kq = 19) ∧ Aside0 (printL k x (formsL.drop i.toNat) = some (r, e)) ∧ Aside0 (Below W0.heap.size W0 w'))
 case atStart => exact ⟨0, rfl, ⟨by omega⟩, H, ⟨Below.refl _ _⟩⟩
 case round =>
  clear H
  obtain ⟨i, rfl, HI, HL, HX⟩ := hrel
  have HGr := Aside0.mk (HG.out.below HX.out)
  have HZr := Aside0.mk (blk_below HZ.out HX.out)
  cases gk with
  | zero =>
   have hi : i = 19 := by have := HI.out; omega
   subst hi
   have p3 : decide ((19 : Int) < 19) = false := decide_eq_false (by omega)
   have hl := HL.out
   obtain ⟨rfl, rfl⟩ := Prod.mk.inj (Option.some.inj (show some ((⟨#[]⟩ : ByteArray), (12 : Int)) = some (r, e) from hl))
   clear hl
   go_wp2
   go_ret2
   exact ⟨rfl, below_step HB.out HX.out⟩
  | succ k1 =>
   have hi : 0 ≤ i ∧ i < 19 := by have := HI.out; omega
   have hit : i.toNat < 19 := by omega
   have hfi := FormsAt.below hfa HX.out i.toNat hit
   have hl := printL_step hit HL.out
   have HASC := Aside0.mk (forms_asc i.toNat hit)
   have HNX := Aside0.mk (show (i + 1).toNat = i.toNat + 1 by omega)
   generalize (formsL.getD i.toNat (⟨#[]⟩, 0)) = fo at hfi hl HASC
   obtain ⟨fs, fk⟩ := fo
   simp only at hfi hl
   obtain ⟨y0, y1⟩ := hfi
   have HLL := Aside0.mk hl
   have p1 : (0 ≤ i) = True := eq_true hi.1
   have p2 : (i < 19) = True := eq_true hi.2
   have p3 : decide (i < 19) = true := decide_eq_true hi.2
   have HB7 := Aside0.mk (below_alloc (Below.refl wr.heap.size wr) (.cells #[.string fs, .int .i64 fk] 52))
   have HF := Aside0.mk (heap_alloc_new wr (.cells #[.string fs, .int .i64 fk] 52))
   clear hl hi HL
   go_upto_region 4 with fail
   obtain ⟨b6, hb6⟩ : ∃ b, b = wr.heap.size := ⟨_, rfl⟩
   rw [← hb6] at HF ⊢
   clear hb6
   generalize (wr.alloc (.cells #[.string fs, .int .i64 fk] 52)) = W7 at HB7 HF ⊢
   have HX7 := Aside0.mk (below_step HX.out HB7.out)
   have HZ7 := Aside0.mk (blk_below HZr.out HB7.out)
   have HG7 := Aside0.mk (HGr.out.below HB7.out)
   have z0 := (blk_cell HF.out 0).trans rfl
   have z1 := (blk_cell HF.out 1).trans rfl
   have x0 := (blk_cell HZ7.out 0).trans rfl
   clear HX HZr HGr HB7 HF
   have hl := HLL.out
   by_cases c1 : fk = x.kd
   ·
    rw [if_pos c1] at hl
    have d1 : (fk != x.kd) = false := bne_eq_false_iff_eq.mpr c1
    obtain ⟨L, hL, hl⟩ := Option.bind_eq_some_iff.mp hl
    by_cases c2 : (joinL L).length ≤ 140737488355328
    ·
     rw [if_pos c2] at hl
     have HJL := Aside0.mk c2
     have HLT := Aside0.mk hl
     have HW0 := Aside0.mk (show ∃ r, wordsF k x ((wordsOf fs).drop (0 : Int).toNat) = some r ∧ [] ++ r = L from ⟨L, hL, rfl⟩)
     have HWL := Aside0.mk (wordsOf_len HASC.out)
     have C4 := fields_calls HASC.out HG7.out
     clear c1 c2 hl hL HLL HASC
     go_wp2_with (first | (go_at_call 19; (with_reducible refine C4.mono ?_); rintro ez W1 ⟨Aw, rfl, hc_, ha_, hb_, hs_⟩; have HW := Aside0.mk hc_; have HY := Aside0.mk hb_; clear hc_ ha_ hb_ hs_))
     have HX1 := Aside0.mk (below_step HX7.out HY.out)
     have HZ1 := Aside0.mk (blk_below HZ7.out HY.out)
     clear C4 HX7 HZ7 HG7 HY z0 z1 x0
     generalize wordsOf fs = ws at HW HW0 HWL ⊢
     go_loopg [6, 27] ws.length (fun kq v6 v27 w' => ∃ (j : Int) (dn : List ByteArray), v27 = .int .i64 j ∧ Aside0 (0 ≤ j ∧ j + kq = (ws.length : Int)) ∧ Aside0 (dn.length = j.toNat) ∧ Aside0 (∃ r, wordsF k x (ws.drop j.toNat) = some r ∧ dn ++ r = L) ∧ Aside0 (Kd.R Kd.string 9 w' W1.heap.size (fun _ => True) v6 dn) ∧ Aside0 (Below W1.heap.size W1 w'))
     case atStart => exact ⟨0, [], rfl, ⟨by omega⟩, ⟨rfl⟩, HW0, ⟨Kd.R_nil _ _ _ _ _⟩, ⟨Below.refl _ _⟩⟩
     case round =>
      clear HW0
      obtain ⟨j, dn, rfl, HJ, HDL, HLR, HO, HX⟩ := hrel
      obtain ⟨A3, c3, e3⟩ := Kd.R_slice HO.out
      have HXr := Aside0.mk (below_step HX1.out HX.out)
      have hblk := blk_below HZ1.out HX.out
      cases gk with
      | zero =>
       have hj : j = (ws.length : Int) := by have := HJ.out; omega
       subst hj
       have p3 : decide ((ws.length : Int) < (ws.length : Int)) = false := decide_eq_false (by omega)
       obtain ⟨r1, hr, hdr⟩ := HLR.out
       rw [Int.toNat_natCast, List.drop_length, wordsF] at hr
       obtain rfl := Option.some.inj hr
       rw [List.append_nil] at hdr
       have ho := HO.out
       rw [hdr] at ho
       have hn : L.length ≤ 140737488355328 := by have h1 := HDL.out; have h2 := HWL.out; rw [hdr] at h1; omega
       have C9 := join_calls ho HJL.out hn
       obtain ⟨⟨y, e2⟩, hcm, hl⟩ := Option.bind_eq_some_iff.mp HLT.out
       have HL5 := Aside0.mk hl
       have HZB := Aside0.mk hblk
       clear hr hdr ho hn e3 hl hblk HLR HLT HWL
       go_upto_region 12 with (first | (go_at_call 26; (with_reducible refine C9.mono ?_); rintro ez w9 ⟨rfl, hb_⟩; have HY := Aside0.mk hb_; clear hb_))
       have HX9 := Aside0.mk (below_step HXr.out HY.out)
       have C10 := cmdP_calls hcm (HG.out.below HX9.out)
       clear C9 hcm
       go_upto_region 13 with (first | (go_at_call 9; (with_reducible refine C10.mono ?_); rintro ez w10 ⟨vd, rfl, hd_, hb_⟩; obtain ⟨Ab5, cb5, Ab7, cb7, Ab8, cb8, ed, hd2⟩ := hd_.reads; have HD := Aside0.mk hd_.reads; rw [ed] at HD; subst ed; have HY2 := Aside0.mk hb_; clear hd_ hb_ hd2))
       have HX10 := Aside0.mk (below_step HX9.out HY2.out)
       have HZ10 := Aside0.mk (blk_below (blk_below HZB.out HY.out) HY2.out)
       have HB11 := Aside0.mk (below_alloc (Below.refl w10.heap.size w10) (.cells (cmdCs y (.slice Ab5 y.tm.length cb5) (.slice Ab7 y.lf.length cb7) (.slice Ab8 y.rt.length cb8)) 28))
       have HZD := Aside0.mk (heap_alloc_new w10 (.cells (cmdCs y (.slice Ab5 y.tm.length cb5) (.slice Ab7 y.lf.length cb7) (.slice Ab8 y.rt.length cb8)) 28))
       change Code.wp _ _ _ _ (w10.alloc (.cells (cmdCs y (.slice Ab5 y.tm.length cb5) (.slice Ab7 y.lf.length cb7) (.slice Ab8 y.rt.length cb8)) 28))
       obtain ⟨b9, hb9⟩ : ∃ b, b = w10.heap.size := ⟨_, rfl⟩
       rw [← hb9] at HZD ⊢
       clear hb9
       generalize (w10.alloc (.cells (cmdCs y (.slice Ab5 y.tm.length cb5) (.slice Ab7 y.lf.length cb7) (.slice Ab8 y.rt.length cb8)) 28)) = W11 at HB11 HZD ⊢
       have HX11 := Aside0.mk (below_step HX10.out HB11.out)
       have HZ11 := Aside0.mk (blk_below HZ10.out HB11.out)
       have HD11 := Aside0.mk (HD.out.below HB11.out)
       obtain ⟨x0, x1, x2, x3, x4, x5, x6, x7, x8⟩ := at9 HZ11.out
       obtain ⟨y0, y1, y2, y3, y4, y5, y6, y7, y8⟩ := at9 HZD.out
       have hl := HL5.out
       try simp only at hl
       clear HL5 C10 HY HY2 HX9 HX10 HZ10 HB11 HD HO
       by_cases c5 : e2 = 0
       ·
        have d5 : (e2 == 0) = true := beq_iff_eq.mpr c5
        rw [if_pos c5] at hl
        obtain ⟨bb, hbb, hl⟩ := Option.bind_eq_some_iff.mp hl
        have C11 := same_calls (HC.out.below HX11.out) HD11.out (HG.out.below HX11.out) hbb
        cases bb
        ·
         rw [if_neg (by simp)] at hl
         have HL6 := Aside0.mk hl
         clear c5 hl hbb
         go_wp2_with (first | (go_at_call 27; (with_reducible refine C11.mono ?_); rintro ez w12 ⟨rfl, hb_⟩; have HY := Aside0.mk hb_; clear hb_))
         go_roundg k1
         case measure => omega
         case rel => exact ⟨i + 1, by have e_ : wrap64 (i + 1) = i + 1 := (by have := HI.out; unfold wrap64; omega); first | rfl | rw [e_] | (simp [e_]; done), ⟨by have := HI.out; omega⟩, ⟨by rw [HNX.out]; exact HL6.out⟩, ⟨below_step HX11.out HY.out⟩⟩
        ·
         rw [if_pos rfl] at hl
         obtain ⟨rfl, rfl⟩ := Prod.mk.inj (Option.some.inj hl)
         clear c5 hl hbb
         go_wp2_with (first | (go_at_call 27; (with_reducible refine C11.mono ?_); rintro ez w12 ⟨rfl, hb_⟩; have HY := Aside0.mk hb_; clear hb_))
         go_ret2
         exact ⟨rfl, below_step HB.out (below_step HX11.out HY.out)⟩
       ·
        have d5 : (e2 == 0) = false := beq_eq_false_iff_ne.mpr c5
        rw [if_neg c5] at hl
        have HL6 := Aside0.mk hl
        clear c5 hl
        go_wp2
        go_roundg k1
        case measure => omega
        case rel => exact ⟨i + 1, by have e_ : wrap64 (i + 1) = i + 1 := (by have := HI.out; unfold wrap64; omega); first | rfl | rw [e_] | (simp [e_]; done), ⟨by have := HI.out; omega⟩, ⟨by rw [HNX.out]; exact HL6.out⟩, HX11⟩
      | succ k2 =>
       subst e3
       have hj : 0 ≤ j ∧ j < (ws.length : Int) := by have := HJ.out; omega
       obtain ⟨ad, eA, a0⟩ := Kd.at_string (Kd.C_below HW.out HX.out) j hj.1 hj.2
       subst eA
       obtain ⟨aw, ha, hrest⟩ := wordsF_step j hj.1 hj.2 HLR.out
       have HL2 := Aside0.mk hrest
       have p1 : (0 ≤ j) = True := eq_true hj.1
       have p2 : (j < (ws.length : Int)) = True := eq_true hj.2
       have p3 : decide (j < (ws.length : Int)) = true := decide_eq_true hj.2
       obtain ⟨x0, x1, x2, x3, x4, x5, x6, x7, x8⟩ := at9 hblk
       generalize rdOf ByteArray.empty ws j = wd at a0 ha
       have C5 := word_calls (HC.out.below HXr.out) (HG.out.below HXr.out) ha
       clear hj hrest ha hblk HLR
       go_wp2_with (first | (go_at_call 25; (with_reducible refine C5.mono ?_); rintro ez w2 ⟨rfl, hb_⟩; have HY := Aside0.mk hb_; have HO2 := Aside0.mk (Kd.R_below HO.out hb_); have HB2 := Aside0.mk (below_step HX.out hb_); clear hb_) | (at_builtin; (with_reducible refine gate_builtin (b := .append) (xs := #[.tmp 31, .tmp 35]) rfl ?_); refine Kd.R_append Kd.string (w0 := W1) W1.heap.size rfl (.tmp 31) (.tmp 35) 42 9 (.string ⟨#[]⟩) 16 rfl Tryz.underlying42 info9 rfl (by decide) (by decide) _ dn aw [.string aw] (fun _ => True) (fun _ => False) rfl rfl rfl (fun _ hk => hk.elim) (fun _ _ => trivial) ?aO ?aB ?aS ?aL ?_; (case aO => exact HO2.out); (case aB => exact HB2.out); (case aS => exact HB2.out.size); (case aL => have := HDL.out; have := HJ.out; have := HWL.out; omega); intro v2 w4 ho hb hgr hat; have HO3 := Aside0.mk ho; have HB3 := Aside0.mk hb; clear ho hb hgr hat))
       go_roundg k2
       case measure => omega
       case rel => exact ⟨j + 1, dn ++ [aw], by have e_ : wrap64 (j + 1) = j + 1 := (by have := HJ.out; have := HWL.out; unfold wrap64; omega); first | rfl | rw [e_] | (simp [e_]; done), ⟨by have := HJ.out; omega⟩, ⟨by have := HDL.out; have := HJ.out; simp; omega⟩, HL2, HO3, HB3⟩
    ·
     rw [if_neg c2] at hl
     cases hl
   ·
    rw [if_neg c1] at hl
    have d1 : (fk != x.kd) = true := bne_iff_ne.mpr c1
    have HL6 := Aside0.mk hl
    clear c1 hl HLL
    go_wp2
    go_roundg k1
    case measure => omega
    case rel => exact ⟨i + 1, by have e_ : wrap64 (i + 1) = i + 1 := (by have := HI.out; unfold wrap64; omega); first | rfl | rw [e_] | (simp [e_]; done), ⟨by have := HI.out; omega⟩, ⟨by rw [HNX.out]; exact HL6.out⟩, HX7⟩
end Go.Proofs.YtmlddeogmckgmaaGreatDoor.P

-- ==== Cw1
/- wakes, by hand; commands alike, copies of commands. -/
namespace Go.Proofs.YtmlddeogmckgmaaGreatDoor.P
open Go.RowKit Go.Proofs.YtmlddeogmckgmaaGreatDoorW.PrintWords Go.Proofs.YtmlddeogmckgmaaGreatDoorW.PrintLast Go.Proofs.YtmlddeogmckgmaaGreatDoorW.PrintMore
theorem bindS {α β : Type} {x : Option α} {f : α → Option β} {r : β} (h : x.bind f = some r) : ∃ a, x = some a ∧ f a = some r := Option.bind_eq_some_iff.mp h
def sameG (k : Nat) (a b : Dr) : Option Bool :=
 if a.kd = b.kd then (if a.nm.toList = b.nm.toList then (if a.n = b.n then (if a.id = b.id then (if (a.on == b.on) = true then ((aumbryref04_Same.f k a.tm b.tm).bind fun t => if t = true then aumbryref06_Same.f k a.rid a.lf a.rt b.rid b.lf b.rt else some false) else some false) else some false) else some false) else some false) else some false
theorem same22_calls {k : Nat} {va vb : Value} {a b : Dr} {r : Bool} {W : World} (hva : CmdC W va a) (hvb : CmdC W vb b) (h : sameG k a b = some r) :
 Calls Tryz.prog 11 #[va, vb] W fun e w' => e = .returned (.bool r) ∧ Below W.heap.size W w' := by
 obtain ⟨A5, c5, A7, c7, A8, c8, rfl, ha⟩ := hva
 obtain ⟨B5, d5, B7, d7, B8, d8, rfl, hb⟩ := hvb
 have HA := Aside0.mk ha
 have HB := Aside0.mk hb
 clear ha hb
 unfold sameG at h
 have HX := Aside0.mk (below_alloc (below_alloc (Below.refl W.heap.size W) (.cells (cmdCs a (.slice A5 a.tm.length c5) (.slice A7 a.lf.length c7) (.slice A8 a.rt.length c8)) 28)) (.cells (cmdCs b (.slice B5 b.tm.length d5) (.slice B7 b.lf.length d7) (.slice B8 b.rt.length d8)) 28))
 have HZ := Aside0.mk (blk_below (heap_alloc_new W (.cells (cmdCs a (.slice A5 a.tm.length c5) (.slice A7 a.lf.length c7) (.slice A8 a.rt.length c8)) 28)) (below_alloc (Below.refl _ _) (.cells (cmdCs b (.slice B5 b.tm.length d5) (.slice B7 b.lf.length d7) (.slice B8 b.rt.length d8)) 28)))
 have HY := Aside0.mk (heap_alloc_new (W.alloc (.cells (cmdCs a (.slice A5 a.tm.length c5) (.slice A7 a.lf.length c7) (.slice A8 a.rt.length c8)) 28)) (.cells (cmdCs b (.slice B5 b.tm.length d5) (.slice B7 b.lf.length d7) (.slice B8 b.rt.length d8)) 28))
 go_enter Tryz.func11, Tryz.ntmps11
 go_upto_region 1 with fail
 change Code.wp _ _ _ _ ((W.alloc (.cells (cmdCs a (.slice A5 a.tm.length c5) (.slice A7 a.lf.length c7) (.slice A8 a.rt.length c8)) 28)).alloc (.cells (cmdCs b (.slice B5 b.tm.length d5) (.slice B7 b.lf.length d7) (.slice B8 b.rt.length d8)) 28))
 have hbb : (W.alloc (.cells (cmdCs a (.slice A5 a.tm.length c5) (.slice A7 a.lf.length c7) (.slice A8 a.rt.length c8)) 28)).heap.size = W.heap.size + 1 := Array.size_push ..
 rw [hbb] at HY
 clear hbb
 obtain ⟨bb, hbb⟩ : ∃ n, n = W.heap.size + 1 := ⟨_, rfl⟩
 rw [← hbb] at HY ⊢
 clear hbb
 obtain ⟨ba, hba⟩ : ∃ n, n = W.heap.size := ⟨_, rfl⟩
 rw [← hba] at HZ ⊢
 clear hba
 generalize ((W.alloc (.cells (cmdCs a (.slice A5 a.tm.length c5) (.slice A7 a.lf.length c7) (.slice A8 a.rt.length c8)) 28)).alloc (.cells (cmdCs b (.slice B5 b.tm.length d5) (.slice B7 b.lf.length d7) (.slice B8 b.rt.length d8)) 28)) = W1 at HX HZ HY ⊢
 obtain ⟨x0, x1, x2, x3, x4, x5, x6, x7, x8⟩ := at9 HZ.out
 obtain ⟨y0, y1, y2, y3, y4, y5, y6, y7, y8⟩ := at9 HY.out
 by_cases c : a.kd = b.kd
 case neg =>
  rw [if_neg c] at h
  obtain rfl := Option.some.inj h
  have g0 : (a.kd == b.kd) = false := beq_eq_false_iff_ne.mpr c
  clear h c
  go_wp2
  go_ret
  exact ⟨rfl, HX.out⟩
 rw [if_pos c] at h
 have g0 : (a.kd == b.kd) = true := beq_iff_eq.mpr c
 clear c
 by_cases c : a.nm.toList = b.nm.toList
 case neg =>
  rw [if_neg c] at h
  obtain rfl := Option.some.inj h
  have g1 : (a.nm.toList == b.nm.toList) = false := beq_eq_false_iff_ne.mpr c
  clear h c
  go_wp2
  go_ret
  exact ⟨rfl, HX.out⟩
 rw [if_pos c] at h
 have g1 : (a.nm.toList == b.nm.toList) = true := beq_iff_eq.mpr c
 clear c
 by_cases c : a.n = b.n
 case neg =>
  rw [if_neg c] at h
  obtain rfl := Option.some.inj h
  have g2 : (a.n == b.n) = false := beq_eq_false_iff_ne.mpr c
  clear h c
  go_wp2
  go_ret
  exact ⟨rfl, HX.out⟩
 rw [if_pos c] at h
 have g2 : (a.n == b.n) = true := beq_iff_eq.mpr c
 clear c
 by_cases c : a.id = b.id
 case neg =>
  rw [if_neg c] at h
  obtain rfl := Option.some.inj h
  have g3 : (a.id == b.id) = false := beq_eq_false_iff_ne.mpr c
  clear h c
  go_wp2
  go_ret
  exact ⟨rfl, HX.out⟩
 rw [if_pos c] at h
 have g3 : (a.id == b.id) = true := beq_iff_eq.mpr c
 clear c
 by_cases c : (a.on == b.on) = true
 case neg =>
  rw [if_neg c] at h
  obtain rfl := Option.some.inj h
  have g4 : (a.on == b.on) = false := Bool.eq_false_iff.mpr c
  clear h c
  go_wp2
  go_ret
  exact ⟨rfl, HX.out⟩
 rw [if_pos c] at h
 have g4 : (a.on == b.on) = true := c
 clear c
 obtain ⟨t, ht, h⟩ := bindS h
 have C1 := fun (W' : World) (hw : Below W.heap.size W W') => aumbryref04_Same.calls k A5 c5 a.tm B5 d5 b.tm t W' (Kd.C_below HA.out.1 hw) HA.out.2.1 (Kd.C_below HB.out.1 hw) HB.out.2.1 ht
 cases t with
 | false =>
  rw [if_neg (by decide)] at h
  obtain rfl := Option.some.inj h
  clear h ht
  go_wp2_with (first | (go_at_call 23; (with_reducible refine (C1 _ HX.out).mono ?_); rintro ez w1 ⟨rfl, hb_⟩; have HS := Aside0.mk (Drawn0.below hb_ : Below W1.heap.size W1 w1); clear hb_))
  go_ret
  exact ⟨rfl, below_step HX.out HS.out⟩
 | true =>
  rw [if_pos rfl] at h
  have C2 := fun (W' : World) (hw : Below W.heap.size W W') => aumbryref06_Same.calls k a.rid A7 c7 a.lf A8 c8 a.rt b.rid B7 d7 b.lf B8 d8 b.rt r W' (Kd.C_below HA.out.2.2.1 hw) HA.out.2.2.2.1 (Kd.C_below HA.out.2.2.2.2.1 hw) HA.out.2.2.2.2.2 (Kd.C_below HB.out.2.2.1 hw) HB.out.2.2.2.1 (Kd.C_below HB.out.2.2.2.2.1 hw) HB.out.2.2.2.2.2 h
  clear h ht
  go_wp2_with (first | (go_at_call 23; (with_reducible refine (C1 _ HX.out).mono ?_); rintro ez w1 ⟨rfl, hb_⟩; have HS := Aside0.mk (below_step HX.out (Drawn0.below hb_ : Below W1.heap.size W1 w1)); have HZ2 := Aside0.mk (blk_below HZ.out (Drawn0.below hb_ : Below W1.heap.size W1 w1)); have HY2 := Aside0.mk (blk_below HY.out (Drawn0.below hb_ : Below W1.heap.size W1 w1)); clear hb_; obtain ⟨x0, x1, x2, x3, x4, x5, x6, x7, x8⟩ := at9 HZ2.out; obtain ⟨y0, y1, y2, y3, y4, y5, y6, y7, y8⟩ := at9 HY2.out) | (go_at_call 24; (with_reducible refine (C2 _ HS.out).mono ?_); rintro ez w2 ⟨rfl, hb_⟩; have HS2 := Aside0.mk hb_; clear hb_))
  go_ret
  exact ⟨rfl, below_step HS.out HS2.out⟩
abbrev wk1 : ByteArray := ⟨#[32, 32, 110, 111, 114, 109, 32, 32, 102, 40, 97, 41, 32, 32, 32, 45, 51]⟩
abbrev wk2 : ByteArray := ⟨#[109, 101, 109, 111, 32, 117, 112]⟩
def wakesF (k : Nat) : Option Bool := (cmdF k wk1).bind fun p => (printL k p.1 formsL).bind fun q => (cmdF k wk2).bind fun z => if p.2 = 0 ∧ q.2 = 0 ∧ p.1.kd = 10 ∧ p.1.n = -3 ∧ (p.1.tm.length : Int) = 2 ∧ q.1.toList = [110, 111, 114, 109, 32, 102, 40, 97, 41, 32, 45, 51] ∧ z.2 = 12 then some true else none
theorem wakesF_mono (k : Nat) : LeO (wakesF k) (wakesF (k + 1)) := LeO.bind (cmdF_mono k _) fun _ => LeO.bind (printL_mono k _ _) fun _ => LeO.bind (cmdF_mono k _) fun _ => LeO.refl _
theorem wakes_calls {k : Nat} {r : Bool} {W : World} (h : wakesF k = some r) (hgl : Glob W) : Calls Tryz.prog 8 #[] W fun e w' => e = .returned (.bool r) ∧ Below W.heap.size W w' := by
 obtain ⟨⟨p, pe⟩, hp, h⟩ := Option.bind_eq_some_iff.mp h
 obtain ⟨⟨q, qe⟩, hq, h⟩ := Option.bind_eq_some_iff.mp h
 obtain ⟨⟨z, ze⟩, hz, h⟩ := Option.bind_eq_some_iff.mp h
 split at h
 case isFalse => cases h
 rename_i hc
 obtain rfl := Option.some.inj h
 obtain ⟨e1, e2, e3, e4, e5, e6, e7⟩ := hc
 simp only at e1 e2 e3 e4 e5 e6 e7
 have f1 : (pe == 0) = true := beq_iff_eq.mpr e1
 have f2 : (qe == 0) = true := beq_iff_eq.mpr e2
 have f3 : (p.kd == 10) = true := beq_iff_eq.mpr e3
 have f4 : (p.n == -3) = true := beq_iff_eq.mpr e4
 have f5 : ((p.tm.length : Int) == 2) = true := beq_iff_eq.mpr e5
 have f6 : (q.toList == ([110, 111, 114, 109, 32, 102, 40, 97, 41, 32, 45, 51] : List UInt8)) = true := beq_iff_eq.mpr e6
 have f7 : (ze == 12) = true := beq_iff_eq.mpr e7
 have HG := Aside0.mk hgl
 have HQ := Aside0.mk hq
 have HZ := Aside0.mk hz
 have C1 := cmdP_calls hp hgl
 clear e1 e2 e3 e4 e5 e6 e7 h hp hq hz hgl
 go_enter Tryz.func8, Tryz.ntmps8
 go_upto_region 2 with (first | (go_at_call 9; (with_reducible refine C1.mono ?_); rintro ez w1 ⟨vp, rfl, hd_, hb_⟩; obtain ⟨A5, c5, A7, c7, A8, c8, ed, hd2⟩ := hd_.reads; have HP := Aside0.mk hd_.reads; rw [ed] at HP; subst ed; have HX := Aside0.mk hb_; clear hd_ hb_ hd2))
 have HXA := Aside0.mk (below_alloc (Below.refl w1.heap.size w1) (.cells (cmdCs p (.slice A5 p.tm.length c5) (.slice A7 p.lf.length c7) (.slice A8 p.rt.length c8)) 28))
 have HZ1 := Aside0.mk (heap_alloc_new w1 (.cells (cmdCs p (.slice A5 p.tm.length c5) (.slice A7 p.lf.length c7) (.slice A8 p.rt.length c8)) 28))
 change Code.wp _ _ _ _ (w1.alloc (.cells (cmdCs p (.slice A5 p.tm.length c5) (.slice A7 p.lf.length c7) (.slice A8 p.rt.length c8)) 28))
 generalize (w1.alloc (.cells (cmdCs p (.slice A5 p.tm.length c5) (.slice A7 p.lf.length c7) (.slice A8 p.rt.length c8)) 28)) = W1 at HXA HZ1 ⊢
 generalize w1.heap.size = b1 at HZ1 ⊢
 have HX1 := Aside0.mk (below_step HX.out HXA.out)
 have C2 := cmdPrint_calls (HP.out.below HXA.out) (HG.out.below HX1.out) HQ.out
 obtain ⟨x0, x1, x2, x3⟩ := zc4 HZ1.out; have x4 := (blk_cell HZ1.out 4).trans rfl; have x5 := (blk_cell HZ1.out 5).trans rfl; have x6 := (blk_cell HZ1.out 6).trans rfl; have x7 := (blk_cell HZ1.out 7).trans rfl; have x8 := (blk_cell HZ1.out 8).trans rfl
 clear C1 HX HXA
 go_upto_region 3 with (first | (go_at_call 12; (with_reducible refine C2.mono ?_); rintro ez w2 ⟨rfl, hb_⟩; have HX := Aside0.mk hb_; clear hb_))
 have HX2 := Aside0.mk (below_step HX1.out HX.out)
 have HZ2 := Aside0.mk (blk_below HZ1.out HX.out)
 have C3 := cmdP_calls HZ.out (HG.out.below HX2.out)
 clear C2 HX HX1 HZ1 x0 x1 x2 x3 x4 x5 x6 x7 x8
 go_upto_region 4 with (first | (go_at_call 9; (with_reducible refine C3.mono ?_); rintro ez w3 ⟨vz, rfl, hd_, hb_⟩; obtain ⟨B5, d5, B7, d7, B8, d8, ed, hd2⟩ := hd_.reads; subst ed; have HX := Aside0.mk hb_; clear hd_ hb_ hd2))
 have HX3 := Aside0.mk (below_alloc (below_step HX2.out HX.out) (.cells (cmdCs z (.slice B5 z.tm.length d5) (.slice B7 z.lf.length d7) (.slice B8 z.rt.length d8)) 28))
 have HZ3 := Aside0.mk (blk_below (blk_below HZ2.out HX.out) (below_alloc (Below.refl _ _) (.cells (cmdCs z (.slice B5 z.tm.length d5) (.slice B7 z.lf.length d7) (.slice B8 z.rt.length d8)) 28)))
 change Code.wp _ _ _ _ (w3.alloc (.cells (cmdCs z (.slice B5 z.tm.length d5) (.slice B7 z.lf.length d7) (.slice B8 z.rt.length d8)) 28))
 generalize (w3.alloc (.cells (cmdCs z (.slice B5 z.tm.length d5) (.slice B7 z.lf.length d7) (.slice B8 z.rt.length d8)) 28)) = W3 at HX3 HZ3 ⊢
 obtain ⟨x0, x1, x2, x3⟩ := zc4 HZ3.out; have x4 := (blk_cell HZ3.out 4).trans rfl; have x5 := (blk_cell HZ3.out 5).trans rfl; have x6 := (blk_cell HZ3.out 6).trans rfl; have x7 := (blk_cell HZ3.out 7).trans rfl; have x8 := (blk_cell HZ3.out 8).trans rfl
 clear C3 HX HX2 HZ2
 go_wp2
 go_ret
 exact ⟨rfl, HX3.out⟩
end Go.Proofs.YtmlddeogmckgmaaGreatDoor.P

-- ==== Cr0
/- Commands that the document's reader makes. -/
namespace Go.Proofs.YtmlddeogmckgmaaGreatDoor.P
open Go.RowKit Go.Proofs.YtmlddeogmckgmaaGreatDoorW.PrintWords Go.Proofs.YtmlddeogmckgmaaGreatDoorW.PrintLast Go.Proofs.YtmlddeogmckgmaaGreatDoorW.PrintMore
structure CmV (W : World) (d : Nat) (x : Dr) (vT vL vR : Value) : Prop where
 blk : W.heap[d]? = some (.cells (cmdCs x vT vL vR) 28 (0, 0))
 t : CmR W (d + 1) vL vR vT x.tm
 l : CmR W (d + 1) vT vR vL x.lf
 r : CmR W (d + 1) vT vL vR x.rt
theorem CmV.below {W W' : World} {d : Nat} {x : Dr} {vT vL vR : Value} (h : CmV W d x vT vL vR) (hb : Below W.heap.size W W') : CmV W' d x vT vL vR :=
 ⟨blk_below h.blk hb, Kd.R_below h.t hb, Kd.R_below h.l hb, Kd.R_below h.r hb⟩
theorem CmV.set {W : World} {d i : Nat} {x y : Dr} {vT vL vR u : Value} (h : CmV W d x vT vL vR) (he : (cmdCs x vT vL vR).setIfInBounds i u = cmdCs y vT vL vR) (e1 : y.tm = x.tm) (e2 : y.lf = x.lf) (e3 : y.rt = x.rt) : CmV (W.setCell ⟨d, i, none⟩ u) d y vT vL vR :=
 ⟨by rw [← he]; exact blk_set h.blk i u, by rw [e1]; exact CmR.step h.t (set_off u), by rw [e2]; exact CmR.step h.l (set_off u), by rw [e3]; exact CmR.step h.r (set_off u)⟩
theorem CmV.putT {W W1 : World} {d : Nat} {x : Dr} {vT vL vR v : Value} {t : List CmC} (h : CmV W d x vT vL vR) (hb : Below W.heap.size W W1) (hR : Kd.R k48 48 W1 W.heap.size (fun _ => True) v t) :
 CmV (W1.setCell ⟨d, 5, none⟩ v) d { x with tm := t } v vL vR := by
 have hd := blk_lt h.blk
 refine ⟨blk_set (blk_below h.blk hb) 5 v, ?_, ?_, ?_⟩
 ·
  exact CmR.step (CmR.new hR (by omega) (fun k _ hk => ne_lt h.l hk) (fun k _ hk => ne_lt h.r hk)) (set_off v)
 ·
  exact CmR.step (CmR.old h.l hb (.inr (Kd.R_base hR)) (.inl rfl)) (set_off v)
 ·
  exact CmR.step (CmR.old h.r hb (.inr (Kd.R_base hR)) (.inl rfl)) (set_off v)
theorem CmV.putR {W W1 : World} {d : Nat} {x : Dr} {vT vL vR v1 v2 : Value} {i : Int} {l r : List CmC} (h : CmV W d x vT vL vR) (hb : Below W.heap.size W W1)
 (hL : Kd.R k48 48 W1 W.heap.size (fun k_ => some k_ ≠ v2.ownBlock) v1 l) (hR : Kd.R k48 48 W1 W.heap.size (fun k_ => some k_ ≠ v1.ownBlock) v2 r) :
 CmV (((W1.setCell ⟨d, 6, none⟩ (.int .i64 i)).setCell ⟨d, 7, none⟩ v1).setCell ⟨d, 8, none⟩ v2) d { x with rid := i, lf := l, rt := r } vT v1 v2 := by
 have hd := blk_lt h.blk
 have s3 : ∀ {base : Nat} {u1 u2 v : Value} {xs : List CmC}, d + 1 ≤ base → CmR W1 base u1 u2 v xs → CmR (((W1.setCell ⟨d, 6, none⟩ (.int .i64 i)).setCell ⟨d, 7, none⟩ v1).setCell ⟨d, 8, none⟩ v2) base u1 u2 v xs := fun hbs h =>
  CmR.step h (fun k hk hlt => (Below.heap_setCell _ _ _ k (by simp only; omega)).trans ((Below.heap_setCell _ _ _ k (by simp only; omega)).trans (Below.heap_setCell _ _ _ k (by simp only; omega))))
 refine ⟨blk_set (blk_set (blk_set (blk_below h.blk hb) 6 (.int .i64 i)) 7 v1) 8 v2, ?_, ?_, ?_⟩
 ·
  exact s3 (Nat.le_refl _) (CmR.old h.t hb (.inr (Kd.R_base hL)) (.inr (Kd.R_base hR)))
 ·
  exact s3 (Nat.le_refl _) (CmR.new hL (by omega) (fun k _ hk => ne_lt h.t hk) (fun k hk _ => hk))
 ·
  exact s3 (Nat.le_refl _) (CmR.new hR (by omega) (fun k _ hk => ne_lt h.t hk) (fun k hk _ => hk))
theorem CmV.fresh {W : World} {d : Nat} (h : W.heap[d]? = some (.cells cmdZ 28 (0, 0))) : CmV W d (dr0 0) (.slice none 0 0) (.slice none 0 0) (.slice none 0 0) := ⟨h, Kd.R_nil _ _ _ _ _, Kd.R_nil _ _ _ _ _, Kd.R_nil _ _ _ _ _⟩
theorem cmV_end {W : World} {d br n : Nat} {x : Dr} {vT vL vR : Value} {b0 b1 b2 b3 b4 b5 b6 b7 b8 : Value} (h : CmV W d x vT vL vR) (hb : br < d + 1 ∧ n ≤ d + 1) :
 CmdV n ((((((((((W.setCell ⟨br, 0, none⟩ b0).setCell ⟨br, 1, none⟩ b1).setCell ⟨br, 2, none⟩ b2).setCell ⟨br, 3, none⟩ b3).setCell ⟨br, 4, none⟩ b4).setCell ⟨br, 5, none⟩ b5).setCell ⟨br, 6, none⟩ b6).setCell ⟨br, 7, none⟩ b7).setCell ⟨br, 8, none⟩ b8)) (.agg (cmdCs x vT vL vR)) x :=
 have hoff := fun (k : Nat) (hk : d + 1 ≤ k) (_ : k < W.heap.size) => set9_off (W := W) (g := br) b0 b1 b2 b3 b4 b5 b6 b7 b8 k (by omega)
 ⟨vT, vL, vR, rfl, Kd.R_lower (CmR.step h.t hoff) hb.2, Kd.R_lower (CmR.step h.l hoff) hb.2, Kd.R_lower (CmR.step h.r hoff) hb.2⟩
theorem fin9 {W w0 : World} {B br bc : Nat} {x : Dr} {vT vL vR u b0 b1 b2 b3 b4 b5 b6 b7 b8 : Value} (h : CmV W bc x vT vL vR) (hb : Below B w0 W) (hl : br < bc + 1 ∧ B ≤ bc + 1 ∧ B ≤ bc) (hB : B ≤ br) :
 ∃ v, Ending.returned (.tuple #[.agg (cmdCs x vT vL vR), u]) = .returned (.tuple #[v, u]) ∧ CmdV B (((((((((W.setCell ⟨br, 0, none⟩ b0).setCell ⟨br, 1, none⟩ b1).setCell ⟨br, 2, none⟩ b2).setCell ⟨br, 3, none⟩ b3).setCell ⟨br, 4, none⟩ b4).setCell ⟨br, 5, none⟩ b5).setCell ⟨br, 6, none⟩ b6).setCell ⟨br, 7, none⟩ b7).setCell ⟨br, 8, none⟩ b8) v x ∧ Below B w0 (((((((((W.setCell ⟨br, 0, none⟩ b0).setCell ⟨br, 1, none⟩ b1).setCell ⟨br, 2, none⟩ b2).setCell ⟨br, 3, none⟩ b3).setCell ⟨br, 4, none⟩ b4).setCell ⟨br, 5, none⟩ b5).setCell ⟨br, 6, none⟩ b6).setCell ⟨br, 7, none⟩ b7).setCell ⟨br, 8, none⟩ b8) := ⟨_, rfl, cmV_end h ⟨hl.1, hl.2.1⟩, set9_below hb hB _ _ _ _ _ _ _ _ _⟩
theorem endR {fn : Func} {a : Act} {W : World} {p u : Tmp} {br : Nat} {b0 b1 b2 b3 b4 b5 b6 b7 b8 : Value} {R : Ending → World → Prop} (hs : fn.results = #[.cell p 28, .tmp u]) (hp : a.tmps.getD p undef = .pointer (some ⟨br, 0, none⟩)) (hd : a.defers = []) (hr : W.heap[br]? = some (.cells cmdZ 28 (0, 0)))
 (hR : R (.returned (.tuple #[.agg #[b0, b1, b2, b3, b4, b5, b6, b7, b8], a.tmps.getD u undef])) (((((((((W.setCell ⟨br, 0, none⟩ b0).setCell ⟨br, 1, none⟩ b1).setCell ⟨br, 2, none⟩ b2).setCell ⟨br, 3, none⟩ b3).setCell ⟨br, 4, none⟩ b4).setCell ⟨br, 5, none⟩ b5).setCell ⟨br, 6, none⟩ b6).setCell ⟨br, 7, none⟩ b7).setCell ⟨br, 8, none⟩ b8)) : bodyPost Tryz.prog fn R .ret a (((((((((W.setCell ⟨br, 0, none⟩ b0).setCell ⟨br, 1, none⟩ b1).setCell ⟨br, 2, none⟩ b2).setCell ⟨br, 3, none⟩ b3).setCell ⟨br, 4, none⟩ b4).setCell ⟨br, 5, none⟩ b5).setCell ⟨br, 6, none⟩ b6).setCell ⟨br, 7, none⟩ b7).setCell ⟨br, 8, none⟩ b8) := bodyPost_ret (results_ct hs _ _ br 28 _ (0, 0) _ hp (set9_blk hr _ _ _ _ _ _ _ _ _) Tryz.underlying28 rfl (by kernel_rfl)) hd hR
theorem put9 {W : World} {br bc i : Nat} {w0 : World} {x y : Dr} {vT vL vR u : Value} (h : CmV W bc x vT vL vR) (hr : W.heap[br]? = some (.cells cmdZ 28 (0, 0))) (hb : Below w0.heap.size w0 W) (hne : br ≠ bc) (hl : w0.heap.size ≤ bc) (he : (cmdCs x vT vL vR).setIfInBounds i u = cmdCs y vT vL vR) (e1 : y.tm = x.tm) (e2 : y.lf = x.lf) (e3 : y.rt = x.rt) :
 CmV (W.setCell ⟨bc, i, none⟩ u) bc y vT vL vR ∧ (W.setCell ⟨bc, i, none⟩ u).heap[br]? = some (.cells cmdZ 28 (0, 0)) ∧ Below w0.heap.size w0 (W.setCell ⟨bc, i, none⟩ u) := ⟨h.set he e1 e2 e3, blk_far hr (p := ⟨bc, i, none⟩) hne u, hb.setCell (p := ⟨bc, i, none⟩) hl u⟩
theorem mov9 {W W' : World} {br bc : Nat} {w0 : World} {x : Dr} {vT vL vR : Value} (h : CmV W bc x vT vL vR) (hr : W.heap[br]? = some (.cells cmdZ 28 (0, 0))) (hb : Below w0.heap.size w0 W) (hs : Below W.heap.size W W') : CmV W' bc x vT vL vR ∧ W'.heap[br]? = some (.cells cmdZ 28 (0, 0)) ∧ Below w0.heap.size w0 W' := ⟨h.below hs, blk_below hr hs, below_step hb hs⟩
end Go.Proofs.YtmlddeogmckgmaaGreatDoor.P

-- ==== Cw2
/- Helps for the laws of chapter 22. -/
namespace Go.Proofs.YtmlddeogmckgmaaGreatDoor.P
open Go.RowKit Go.Proofs.YtmlddeogmckgmaaGreatDoorW.PrintWords Go.Proofs.YtmlddeogmckgmaaGreatDoorW.PrintLast Go.Proofs.YtmlddeogmckgmaaGreatDoorW.PrintMore
theorem copy22_calls {va : Value} {a : Dr} {W : World} (hva : CmdC W va a) (h5 : a.tm.length < 5864062014805) (h7 : a.lf.length < 5864062014805) (h8 : a.rt.length < 5864062014805) :
 Calls Tryz.prog 13 #[va] W fun e w' => ∃ v, e = .returned v ∧ CmdV W.heap.size w' v a ∧ Below W.heap.size W w' := by
 obtain ⟨A5, c5, A7, c7, A8, c8, rfl, ht⟩ := hva
 have HT := Aside0.mk ht
 clear ht
 have cp : ∀ x : List CmC, x.length < 5864062014805 → aumbryref04_Copy.f x = some x := fun x h => by
  unfold aumbryref04_Copy.f
  rw [if_pos (by simpa using h)]
  rfl
 have HC5 := Aside0.mk (cp _ h5)
 have HC6 := Aside0.mk (show aumbryref06_Copy.f a.rid a.lf a.rt = some (a.rid, a.lf, a.rt) by
  unfold aumbryref06_Copy.f
  rw [cp _ h7, Option.bind_some, cp _ h8]
  rfl)
 clear cp h5 h7 h8
 have HX := Aside0.mk (below_alloc (below_alloc (Below.refl W.heap.size W) (.cells (cmdCs a (.slice A5 a.tm.length c5) (.slice A7 a.lf.length c7) (.slice A8 a.rt.length c8)) 28)) (.cells cmdZ 28))
 have HZ := Aside0.mk (blk_below (heap_alloc_new W (.cells (cmdCs a (.slice A5 a.tm.length c5) (.slice A7 a.lf.length c7) (.slice A8 a.rt.length c8)) 28)) (below_alloc (Below.refl _ _) (.cells cmdZ 28)))
 have HR := Aside0.mk (heap_alloc_new (W.alloc (.cells (cmdCs a (.slice A5 a.tm.length c5) (.slice A7 a.lf.length c7) (.slice A8 a.rt.length c8)) 28)) (.cells cmdZ 28))
 have hbb : (W.alloc (.cells (cmdCs a (.slice A5 a.tm.length c5) (.slice A7 a.lf.length c7) (.slice A8 a.rt.length c8)) 28)).heap.size = W.heap.size + 1 := Array.size_push ..
 rw [hbb] at HR
 clear hbb
 go_enter Tryz.func13, Tryz.ntmps13
 go_upto_region 1 with fail
 change Code.wp _ _ _ _ ((W.alloc (.cells (cmdCs a (.slice A5 a.tm.length c5) (.slice A7 a.lf.length c7) (.slice A8 a.rt.length c8)) 28)).alloc (.cells cmdZ 28))
 obtain ⟨b, hb⟩ : ∃ n, n = W.heap.size := ⟨_, rfl⟩
 have HLB := Aside0.mk (Nat.le_of_eq hb.symm)
 rw [← hb] at HZ HR ⊢
 clear hb
 generalize ((W.alloc (.cells (cmdCs a (.slice A5 a.tm.length c5) (.slice A7 a.lf.length c7) (.slice A8 a.rt.length c8)) 28)).alloc (.cells cmdZ 28)) = W1 at HX HZ HR ⊢
 have HL1 := Aside0.mk (blk_lt HR.out)
 have x5 := (blk_cell HZ.out 5).trans rfl
 have C1 := aumbryref04_Copy.calls A5 c5 a.tm a.tm W1 (Kd.C_below HT.out.1 HX.out) HT.out.2.1 HC5.out
 go_upto_region 2 with (first | (go_at_call 28; (with_reducible refine C1.mono ?_); rintro ez w2 ⟨u5, rfl, hR_, hb_⟩; obtain ⟨Au, cu, rfl⟩ := Kd.R_slice hR_; have HK := Aside0.mk hR_; have HS := Aside0.mk hb_; have HZ2 := Aside0.mk (blk_below HZ.out hb_); clear hR_ hb_; have x5 := (blk_cell HZ2.out 5).trans rfl; have f5 := blk_frozen HZ2.out 5))
 clear x5 f5 C1
 change Code.wp _ _ _ _ (w2.setCell ⟨b, 5, none⟩ (.slice Au a.tm.length cu))
 have HT5 := Aside0.mk (CmR.step (CmR.new (base := b + 2) (u3 := .slice none 0 0) (u4 := .slice none 0 0) HK.out (by have := HL1.out; omega) (fun _ _ _ => by simp [Value.ownBlock]) (fun _ _ _ => by simp [Value.ownBlock])) (fun k hk hl => set_off (d := b) (i := 5) (.slice Au a.tm.length cu) k (by omega) hl))
 have n1_ := Aside0.mk (blk_set HZ2.out 5 (.slice Au a.tm.length cu))
 have n2_ := Aside0.mk (blk_far (blk_below HR.out HS.out) (p := ⟨b, 5, none⟩) (by simp) (.slice Au a.tm.length cu))
 have n3_ := Aside0.mk ((below_step HX.out HS.out).setCell (p := ⟨b, 5, none⟩) HLB.out (.slice Au a.tm.length cu))
 generalize (w2.setCell ⟨b, 5, none⟩ (.slice Au a.tm.length cu)) = W2 at HT5 n1_ n2_ n3_ ⊢
 clear HZ HR HX HS HZ2 HK
 have HZ := n1_
 have HR := n2_
 have HX := n3_
 clear n1_ n2_ n3_
 have x6 := (blk_cell HZ.out 6).trans rfl; have x7 := (blk_cell HZ.out 7).trans rfl; have x8 := (blk_cell HZ.out 8).trans rfl
 have C1 := aumbryref06_Copy.calls a.rid A7 c7 a.lf A8 c8 a.rt a.rid a.lf a.rt W2 (Kd.C_below HT.out.2.2.1 HX.out) HT.out.2.2.2.1 (Kd.C_below HT.out.2.2.2.2.1 HX.out) HT.out.2.2.2.2.2 HC6.out
 go_upto_region 3 with (first | (go_at_call 29; (with_reducible refine C1.mono ?_); rintro ez w3 ⟨u7, u8, rfl, h7_, h8_, hb_⟩; obtain ⟨Al, cl, rfl⟩ := Kd.R_slice h7_; obtain ⟨Ar, cr, rfl⟩ := Kd.R_slice h8_; have HK := Aside0.mk (And.intro h7_ h8_); have HS := Aside0.mk hb_; have HZ2 := Aside0.mk (blk_below HZ.out hb_); clear h7_ h8_ hb_; have x6 := (blk_cell HZ2.out 6).trans rfl; have x7 := (blk_cell HZ2.out 7).trans rfl; have x8 := (blk_cell HZ2.out 8).trans rfl; have f6 := blk_frozen HZ2.out 6; have f7 := blk_frozen HZ2.out 7; have f8 := blk_frozen HZ2.out 8))
 clear x6 x7 x8 f6 f7 f8 C1
 change Code.wp _ _ _ _ (((w3.setCell ⟨b, 6, none⟩ (.int .i64 a.rid)).setCell ⟨b, 7, none⟩ (.slice Al a.lf.length cl)).setCell ⟨b, 8, none⟩ (.slice Ar a.rt.length cr))
 have hd := HL1.out
 have h2 := blk_lt HR.out
 have hs3 : ∀ k, b + 2 ≤ k → k < w3.heap.size → (((w3.setCell ⟨b, 6, none⟩ (.int .i64 a.rid)).setCell ⟨b, 7, none⟩ (.slice Al a.lf.length cl)).setCell ⟨b, 8, none⟩ (.slice Ar a.rt.length cr)).heap[k]? = w3.heap[k]? := fun k hk _ => (Below.heap_setCell _ _ _ k (by simp only; omega)).trans ((Below.heap_setCell _ _ _ k (by simp only; omega)).trans (Below.heap_setCell _ _ _ k (by simp only; omega)))
 have HC := Aside0.mk (show (((w3.setCell ⟨b, 6, none⟩ (.int .i64 a.rid)).setCell ⟨b, 7, none⟩ (.slice Al a.lf.length cl)).setCell ⟨b, 8, none⟩ (.slice Ar a.rt.length cr)).heap[b]? = some (.cells (cmdCs a (.slice Au a.tm.length cu) (.slice Al a.lf.length cl) (.slice Ar a.rt.length cr)) 28 (0, 0)) ∧ CmR (((w3.setCell ⟨b, 6, none⟩ (.int .i64 a.rid)).setCell ⟨b, 7, none⟩ (.slice Al a.lf.length cl)).setCell ⟨b, 8, none⟩ (.slice Ar a.rt.length cr)) (b + 2) (.slice Al a.lf.length cl) (.slice Ar a.rt.length cr) (.slice Au a.tm.length cu) a.tm ∧ CmR (((w3.setCell ⟨b, 6, none⟩ (.int .i64 a.rid)).setCell ⟨b, 7, none⟩ (.slice Al a.lf.length cl)).setCell ⟨b, 8, none⟩ (.slice Ar a.rt.length cr)) (b + 2) (.slice Au a.tm.length cu) (.slice Ar a.rt.length cr) (.slice Al a.lf.length cl) a.lf ∧ CmR (((w3.setCell ⟨b, 6, none⟩ (.int .i64 a.rid)).setCell ⟨b, 7, none⟩ (.slice Al a.lf.length cl)).setCell ⟨b, 8, none⟩ (.slice Ar a.rt.length cr)) (b + 2) (.slice Au a.tm.length cu) (.slice Al a.lf.length cl) (.slice Ar a.rt.length cr) a.rt from
  ⟨blk_set (blk_set (blk_set HZ2.out 6 (.int .i64 a.rid)) 7 (.slice Al a.lf.length cl)) 8 (.slice Ar a.rt.length cr), CmR.step (CmR.old HT5.out HS.out (.inr (Kd.R_base HK.out.1)) (.inr (Kd.R_base HK.out.2))) hs3, CmR.step (CmR.new HK.out.1 (by omega) (fun k _ hk => ne_lt HT5.out hk) (fun k hk _ => hk)) hs3, CmR.step (CmR.new HK.out.2 (by omega) (fun k _ hk => ne_lt HT5.out hk) (fun k hk _ => hk)) hs3⟩)
 have n2_ := Aside0.mk (blk_far (blk_far (blk_far (blk_below HR.out HS.out) (p := ⟨b, 6, none⟩) (by simp) (.int .i64 a.rid)) (p := ⟨b, 7, none⟩) (by simp) (.slice Al a.lf.length cl)) (p := ⟨b, 8, none⟩) (by simp) (.slice Ar a.rt.length cr))
 have n3_ := Aside0.mk ((((below_step HX.out HS.out).setCell (p := ⟨b, 6, none⟩) HLB.out (.int .i64 a.rid)).setCell (p := ⟨b, 7, none⟩) HLB.out (.slice Al a.lf.length cl)).setCell (p := ⟨b, 8, none⟩) HLB.out (.slice Ar a.rt.length cr))
 generalize (((w3.setCell ⟨b, 6, none⟩ (.int .i64 a.rid)).setCell ⟨b, 7, none⟩ (.slice Al a.lf.length cl)).setCell ⟨b, 8, none⟩ (.slice Ar a.rt.length cr)) = W3 at HC n2_ n3_ ⊢
 clear HZ HR HX HS HZ2 HK hs3 hd h2
 have HR := n2_
 have HX := n3_
 clear n2_ n3_
 obtain ⟨x0, x1, x2, x3, x4, x5, x6, x7, x8⟩ := at9 HC.out.1
 obtain ⟨y0, y1, y2, y3, y4, y5, y6, y7, y8⟩ := at9 HR.out
 obtain ⟨g0, g1, g2, g3, g4, g5, g6, g7, g8⟩ := fz9 HR.out
 go_wp2
 refine bodyPost_ret (results_cell_row rfl _ _ (b + 1) 28 _ (0, 0) _ rfl (set9_blk HR.out _ _ _ _ _ _ _ _ _) Tryz.underlying28 rfl (by kernel_rfl)) rfl ?_
 exact ⟨_, rfl, ⟨_, _, _, rfl, Kd.R_lower (CmR.step HC.out.2.1 (fun k hk _ => set9_off _ _ _ _ _ _ _ _ _ k (by omega))) (by have := HLB.out; omega), Kd.R_lower (CmR.step HC.out.2.2.1 (fun k hk _ => set9_off _ _ _ _ _ _ _ _ _ k (by omega))) (by have := HLB.out; omega), Kd.R_lower (CmR.step HC.out.2.2.2 (fun k hk _ => set9_off _ _ _ _ _ _ _ _ _ k (by omega))) (by have := HLB.out; omega)⟩, set9_below HX.out (by have := HLB.out; omega) _ _ _ _ _ _ _ _ _⟩
def smallC (c : Dr) : Prop := c.tm.length < 5864062014805 ∧ c.lf.length < 5864062014805 ∧ c.rt.length < 5864062014805
def decSm (c : Dr) : Decidable (smallC c) := inferInstanceAs (Decidable (_ ∧ _ ∧ _))
end Go.Proofs.YtmlddeogmckgmaaGreatDoor.P

-- ==== Cr1
/- aumbryref22.one, by hand. -/
namespace Go.Proofs.YtmlddeogmckgmaaGreatDoor.P
open Go.RowKit Go.Proofs.YtmlddeogmckgmaaGreatDoorW.PrintWords Go.Proofs.YtmlddeogmckgmaaGreatDoorW.PrintLast Go.Proofs.YtmlddeogmckgmaaGreatDoorW.PrintMore
def kindR (k : Nat) (s : ByteArray) (kd : Int) : Option (Dr × Int) := (aumbryref03_Kind.f k s).bind fun q => some ({ dr0 kd with nm := s }, if q = 1 then 0 else 4)
def numR (k : Nat) (s : ByteArray) (f : Int → Dr) : Option (Dr × Int) := (aumbryref22_number.f k s).bind fun p => some (f p.1, p.2)
def groR (k : Nat) (s : ByteArray) (f : List CmC → Dr) : Option (Dr × Int) := (aumbryref22_ground.f k s).bind fun p => some (f p.1, p.2)
def oneR (k : Nat) (s0 s1 : ByteArray) : Option (Dr × Int) :=
 if s0.toList = [102, 111, 114, 103, 101, 116] then kindR k s1 3 else if s0.toList = [115, 104, 111, 119] then kindR k s1 4
 else if s0.toList = [117, 110, 114, 117, 108, 101] then numR k s1 fun i => { dr0 8 with id := i }
 else if s0.toList = [109, 101, 109, 111] then some ({ dr0 11 with on := s1.toList == [111, 110] }, if s1.toList = [111, 110] then 0 else if s1.toList = [111, 102, 102] then 0 else 12)
 else if s0.toList = [106, 111, 98] then groR k s1 fun t => { dr0 13 with tm := t }
 else if s0.toList = [108, 111, 111, 107] then numR k s1 fun i => { dr0 15 with id := i } else if s0.toList = [100, 114, 111, 112] then numR k s1 fun i => { dr0 16 with id := i }
 else if s0.toList = [114, 101, 99, 108, 97, 105, 109] then numR k s1 fun i => { dr0 18 with n := i }
 else some (dr0 0, 12)
theorem one_calls {k : Nat} {s0 s1 : ByteArray} {x : Dr} {e : Int} {W : World} (h : oneR k s0 s1 = some (x, e)) :
 Calls Tryz.prog 20 #[.string s0, .string s1] W fun r w' => ∃ v, r = .returned (.tuple #[v, .int .i64 e]) ∧ CmdV W.heap.size w' v x ∧ Below W.heap.size W w' := by
 obtain ⟨br, hbr⟩ : ∃ n, n = W.heap.size := ⟨_, rfl⟩
 have HLE := Aside0.mk (Nat.le_of_eq hbr.symm)
 have HB := Aside0.mk (below_alloc (Below.refl W.heap.size W) (.cells cmdZ 28))
 have HR := Aside0.mk (heap_alloc_new W (.cells cmdZ 28))
 have HH := Aside0.mk h
 clear h
 go_enter Tryz.func20, Tryz.ntmps20
 go_upto_region 1 with fail
 generalize (W.alloc (.cells cmdZ 28)) = W0 at HR HB ⊢
 rw [← hbr] at HR ⊢
 clear hbr
 have HNE := Aside0.mk (Nat.ne_of_lt (blk_lt HR.out))
 have HLB := Aside0.mk (show br < W0.heap.size + 1 ∧ W.heap.size ≤ W0.heap.size + 1 ∧ W.heap.size ≤ W0.heap.size from ⟨by have := blk_lt HR.out; omega, by have := blk_lt HR.out; have := HLE.out; omega, by have := blk_lt HR.out; have := HLE.out; omega⟩)
 have HS := Aside0.mk (below_alloc (Below.refl W0.heap.size W0) (.cells cmdZ 28))
 have HC := Aside0.mk (CmV.fresh (heap_alloc_new W0 (.cells cmdZ 28)))
 have HN := heap_alloc_new W0 (.cells cmdZ 28)
 obtain ⟨x0, x1, x2, x3, x4, x5, x6, x7, x8⟩ := at9 HN; obtain ⟨f0, f1, f2, f3, f4, f5, f6, f7, f8⟩ := fz9 HN
 go_upto_region 2 with fail
 clear HN x0 f0 x1 f1 x2 f2 x3 f3 x4 f4 x5 f5 x6 f6 x7 f7 x8 f8
 change Code.wp _ _ _ _ (W0.alloc (.cells cmdZ 28))
 generalize (W0.alloc (.cells cmdZ 28)) = W1 at HC HS ⊢
 obtain ⟨bc, hbc⟩ : ∃ n, n = W0.heap.size := ⟨_, rfl⟩
 rw [← hbc] at HC HNE HLB ⊢
 have n1_ := Aside0.mk (blk_below HR.out HS.out)
 have n2_ := Aside0.mk (below_step HB.out HS.out)
 clear HR; have HR := n1_; clear n1_
 clear HB; have HB := n2_; clear n2_
 clear HS hbc
 have h1 := HH.out
 unfold oneR at h1
 clear HH
 by_cases e1 : s0.toList = [102, 111, 114, 103, 101, 116]
 ·
  rw [if_pos e1] at h1
  have f1 : (s0.toList == ([102, 111, 114, 103, 101, 116] : List UInt8)) = true := beq_iff_eq.mpr e1
  have f0 : (s0.toList == ([115, 104, 111, 119] : List UInt8)) = false := by rw [e1]; decide
  clear e1
  obtain ⟨q, hq, h1⟩ := bindS h1
  have HH := Aside0.mk h1
  have HQ := Aside0.mk hq
  clear h1 hq
  have x0 := (blk_cell HC.out.blk 0).trans rfl; have f0 := blk_frozen HC.out.blk 0
  go_upto_region 8 with fail
  clear x0 f0
  change Code.wp _ _ _ _ (W1.setCell ⟨bc, 0, none⟩ (.int .i64 3))
  have n_ := put9 (i := 0) (u := .int .i64 3) (y := dr0 3) HC.out HR.out HB.out HNE.out HLB.out.2.2 rfl rfl rfl rfl
  generalize (W1.setCell ⟨bc, 0, none⟩ (.int .i64 3)) = W2 at n_ ⊢
  clear HC HR HB; have HC := Aside0.mk n_.1; have HR := Aside0.mk n_.2.1; have HB := Aside0.mk n_.2.2; clear n_
  have x1 := (blk_cell HC.out.blk 1).trans rfl; have f1 := blk_frozen HC.out.blk 1
  go_upto_region 11 with fail
  clear x1 f1
  change Code.wp _ _ _ _ (W2.setCell ⟨bc, 1, none⟩ (.string s1))
  have n_ := put9 (i := 1) (u := .string s1) (y := { dr0 3 with nm := s1 }) HC.out HR.out HB.out HNE.out HLB.out.2.2 rfl rfl rfl rfl
  generalize (W2.setCell ⟨bc, 1, none⟩ (.string s1)) = W3 at n_ ⊢
  clear HC HR HB; have HC := Aside0.mk n_.1; have HR := Aside0.mk n_.2.1; have HB := Aside0.mk n_.2.2; clear n_
  by_cases c : q = 1
  ·
   have g : (q != 1) = false := bne_eq_false_iff_eq.mpr c
   have h1 := HH.out
   rw [if_pos c] at h1
   obtain ⟨rfl, rfl⟩ := Prod.mk.inj (Option.some.inj h1)
   clear c h1 HH
   have C1 := fun W' : World => aumbryref03_Kind.calls k s1 q W' HQ.out
   go_upto_region 43 with (first | (go_at_call 48; (with_reducible refine (C1 _).mono ?_); rintro ez W4 ⟨rfl, hb_⟩; have HS := Aside0.mk (Drawn0.below hb_ : Below W3.heap.size W3 W4); clear hb_))
   clear C1
   have n_ := mov9 HC.out HR.out HB.out HS.out
   clear HC HR HB; have HC := Aside0.mk n_.1; have HR := Aside0.mk n_.2.1; have HB := Aside0.mk n_.2.2; clear n_
   clear HS
   obtain ⟨x0, x1, x2, x3, x4, x5, x6, x7, x8⟩ := at9 HC.out.blk
   obtain ⟨f0, f1, f2, f3, f4, f5, f6, f7, f8⟩ := fz9 HC.out.blk
   obtain ⟨y0, y1, y2, y3, y4, y5, y6, y7, y8⟩ := at9 HR.out
   obtain ⟨g0, g1, g2, g3, g4, g5, g6, g7, g8⟩ := fz9 HR.out
   go_wp2
   exact endR rfl rfl rfl HR.out (fin9 HC.out HB.out HLB.out HLE.out)
  ·
   have g : (q != 1) = true := bne_iff_ne.mpr c
   have h1 := HH.out
   rw [if_neg c] at h1
   obtain ⟨rfl, rfl⟩ := Prod.mk.inj (Option.some.inj h1)
   clear c h1 HH
   have C1 := fun W' : World => aumbryref03_Kind.calls k s1 q W' HQ.out
   go_upto_region 43 with (first | (go_at_call 48; (with_reducible refine (C1 _).mono ?_); rintro ez W4 ⟨rfl, hb_⟩; have HS := Aside0.mk (Drawn0.below hb_ : Below W3.heap.size W3 W4); clear hb_))
   clear C1
   have n_ := mov9 HC.out HR.out HB.out HS.out
   clear HC HR HB; have HC := Aside0.mk n_.1; have HR := Aside0.mk n_.2.1; have HB := Aside0.mk n_.2.2; clear n_
   clear HS
   obtain ⟨x0, x1, x2, x3, x4, x5, x6, x7, x8⟩ := at9 HC.out.blk
   obtain ⟨f0, f1, f2, f3, f4, f5, f6, f7, f8⟩ := fz9 HC.out.blk
   obtain ⟨y0, y1, y2, y3, y4, y5, y6, y7, y8⟩ := at9 HR.out
   obtain ⟨g0, g1, g2, g3, g4, g5, g6, g7, g8⟩ := fz9 HR.out
   go_wp2
   exact endR rfl rfl rfl HR.out (fin9 HC.out HB.out HLB.out HLE.out)
 rw [if_neg e1] at h1
 have f1 : (s0.toList == ([102, 111, 114, 103, 101, 116] : List UInt8)) = false := beq_eq_false_iff_ne.mpr e1
 clear e1
 by_cases e2 : s0.toList = [115, 104, 111, 119]
 ·
  rw [if_pos e2] at h1
  have f2 : (s0.toList == ([115, 104, 111, 119] : List UInt8)) = true := beq_iff_eq.mpr e2
  clear e2
  obtain ⟨q, hq, h1⟩ := bindS h1
  have HH := Aside0.mk h1
  have HQ := Aside0.mk hq
  clear h1 hq
  have x0 := (blk_cell HC.out.blk 0).trans rfl; have f0 := blk_frozen HC.out.blk 0
  go_upto_region 8 with fail
  clear x0 f0
  change Code.wp _ _ _ _ (W1.setCell ⟨bc, 0, none⟩ (.int .i64 3))
  have n_ := put9 (i := 0) (u := .int .i64 3) (y := dr0 3) HC.out HR.out HB.out HNE.out HLB.out.2.2 rfl rfl rfl rfl
  generalize (W1.setCell ⟨bc, 0, none⟩ (.int .i64 3)) = W2 at n_ ⊢
  clear HC HR HB; have HC := Aside0.mk n_.1; have HR := Aside0.mk n_.2.1; have HB := Aside0.mk n_.2.2; clear n_
  have x0 := (blk_cell HC.out.blk 0).trans rfl; have f0 := blk_frozen HC.out.blk 0
  go_upto_region 10 with fail
  clear x0 f0
  change Code.wp _ _ _ _ (W2.setCell ⟨bc, 0, none⟩ (.int .i64 4))
  have n_ := put9 (i := 0) (u := .int .i64 4) (y := dr0 4) HC.out HR.out HB.out HNE.out HLB.out.2.2 rfl rfl rfl rfl
  generalize (W2.setCell ⟨bc, 0, none⟩ (.int .i64 4)) = W3 at n_ ⊢
  clear HC HR HB; have HC := Aside0.mk n_.1; have HR := Aside0.mk n_.2.1; have HB := Aside0.mk n_.2.2; clear n_
  have x1 := (blk_cell HC.out.blk 1).trans rfl; have f1 := blk_frozen HC.out.blk 1
  go_upto_region 11 with fail
  clear x1 f1
  change Code.wp _ _ _ _ (W3.setCell ⟨bc, 1, none⟩ (.string s1))
  have n_ := put9 (i := 1) (u := .string s1) (y := { dr0 4 with nm := s1 }) HC.out HR.out HB.out HNE.out HLB.out.2.2 rfl rfl rfl rfl
  generalize (W3.setCell ⟨bc, 1, none⟩ (.string s1)) = W4 at n_ ⊢
  clear HC HR HB; have HC := Aside0.mk n_.1; have HR := Aside0.mk n_.2.1; have HB := Aside0.mk n_.2.2; clear n_
  by_cases c : q = 1
  ·
   have g : (q != 1) = false := bne_eq_false_iff_eq.mpr c
   have h1 := HH.out
   rw [if_pos c] at h1
   obtain ⟨rfl, rfl⟩ := Prod.mk.inj (Option.some.inj h1)
   clear c h1 HH
   have C1 := fun W' : World => aumbryref03_Kind.calls k s1 q W' HQ.out
   go_upto_region 43 with (first | (go_at_call 48; (with_reducible refine (C1 _).mono ?_); rintro ez W5 ⟨rfl, hb_⟩; have HS := Aside0.mk (Drawn0.below hb_ : Below W4.heap.size W4 W5); clear hb_))
   clear C1
   have n_ := mov9 HC.out HR.out HB.out HS.out
   clear HC HR HB; have HC := Aside0.mk n_.1; have HR := Aside0.mk n_.2.1; have HB := Aside0.mk n_.2.2; clear n_
   clear HS
   obtain ⟨x0, x1, x2, x3, x4, x5, x6, x7, x8⟩ := at9 HC.out.blk
   obtain ⟨f0, f1, f2, f3, f4, f5, f6, f7, f8⟩ := fz9 HC.out.blk
   obtain ⟨y0, y1, y2, y3, y4, y5, y6, y7, y8⟩ := at9 HR.out
   obtain ⟨g0, g1, g2, g3, g4, g5, g6, g7, g8⟩ := fz9 HR.out
   go_wp2
   exact endR rfl rfl rfl HR.out (fin9 HC.out HB.out HLB.out HLE.out)
  ·
   have g : (q != 1) = true := bne_iff_ne.mpr c
   have h1 := HH.out
   rw [if_neg c] at h1
   obtain ⟨rfl, rfl⟩ := Prod.mk.inj (Option.some.inj h1)
   clear c h1 HH
   have C1 := fun W' : World => aumbryref03_Kind.calls k s1 q W' HQ.out
   go_upto_region 43 with (first | (go_at_call 48; (with_reducible refine (C1 _).mono ?_); rintro ez W5 ⟨rfl, hb_⟩; have HS := Aside0.mk (Drawn0.below hb_ : Below W4.heap.size W4 W5); clear hb_))
   clear C1
   have n_ := mov9 HC.out HR.out HB.out HS.out
   clear HC HR HB; have HC := Aside0.mk n_.1; have HR := Aside0.mk n_.2.1; have HB := Aside0.mk n_.2.2; clear n_
   clear HS
   obtain ⟨x0, x1, x2, x3, x4, x5, x6, x7, x8⟩ := at9 HC.out.blk
   obtain ⟨f0, f1, f2, f3, f4, f5, f6, f7, f8⟩ := fz9 HC.out.blk
   obtain ⟨y0, y1, y2, y3, y4, y5, y6, y7, y8⟩ := at9 HR.out
   obtain ⟨g0, g1, g2, g3, g4, g5, g6, g7, g8⟩ := fz9 HR.out
   go_wp2
   exact endR rfl rfl rfl HR.out (fin9 HC.out HB.out HLB.out HLE.out)
 rw [if_neg e2] at h1
 have f2 : (s0.toList == ([115, 104, 111, 119] : List UInt8)) = false := beq_eq_false_iff_ne.mpr e2
 clear e2
 by_cases e3 : s0.toList = [117, 110, 114, 117, 108, 101]
 ·
  rw [if_pos e3] at h1
  have f3 : (s0.toList == ([117, 110, 114, 117, 108, 101] : List UInt8)) = true := beq_iff_eq.mpr e3
  clear e3
  obtain ⟨⟨p1, p2⟩, hp, h1⟩ := bindS h1
  obtain ⟨rfl, rfl⟩ := Prod.mk.inj (Option.some.inj h1)
  have HP := Aside0.mk hp
  clear h1 hp
  have x0 := (blk_cell HC.out.blk 0).trans rfl; have f0 := blk_frozen HC.out.blk 0
  go_upto_region 15 with fail
  clear x0 f0
  change Code.wp _ _ _ _ (W1.setCell ⟨bc, 0, none⟩ (.int .i64 8))
  have n_ := put9 (i := 0) (u := .int .i64 8) (y := dr0 8) HC.out HR.out HB.out HNE.out HLB.out.2.2 rfl rfl rfl rfl
  generalize (W1.setCell ⟨bc, 0, none⟩ (.int .i64 8)) = W2 at n_ ⊢
  clear HC HR HB; have HC := Aside0.mk n_.1; have HR := Aside0.mk n_.2.1; have HB := Aside0.mk n_.2.2; clear n_
  have C1 := fun W' : World => aumbryref22_number.calls k s1 p1 p2 W' HP.out
  go_upto_region 16 with (first | (go_at_call 49; (with_reducible refine (C1 _).mono ?_); rintro ez W3 ⟨rfl, hb_⟩; have HS := Aside0.mk (Drawn0.below hb_ : Below W2.heap.size W2 W3); clear hb_))
  clear C1
  have n_ := mov9 HC.out HR.out HB.out HS.out
  clear HC HR HB; have HC := Aside0.mk n_.1; have HR := Aside0.mk n_.2.1; have HB := Aside0.mk n_.2.2; clear n_
  clear HS
  have x3 := (blk_cell HC.out.blk 3).trans rfl; have f3 := blk_frozen HC.out.blk 3
  go_upto_region 43 with fail
  clear x3 f3
  change Code.wp _ _ _ _ (W3.setCell ⟨bc, 3, none⟩ (.int .i64 p1))
  have n_ := put9 (i := 3) (u := .int .i64 p1) (y := { dr0 8 with id := p1 }) HC.out HR.out HB.out HNE.out HLB.out.2.2 rfl rfl rfl rfl
  generalize (W3.setCell ⟨bc, 3, none⟩ (.int .i64 p1)) = W4 at n_ ⊢
  clear HC HR HB; have HC := Aside0.mk n_.1; have HR := Aside0.mk n_.2.1; have HB := Aside0.mk n_.2.2; clear n_
  obtain ⟨x0, x1, x2, x3, x4, x5, x6, x7, x8⟩ := at9 HC.out.blk
  obtain ⟨f0, f1, f2, f3, f4, f5, f6, f7, f8⟩ := fz9 HC.out.blk
  obtain ⟨y0, y1, y2, y3, y4, y5, y6, y7, y8⟩ := at9 HR.out
  obtain ⟨g0, g1, g2, g3, g4, g5, g6, g7, g8⟩ := fz9 HR.out
  go_wp2
  exact endR rfl rfl rfl HR.out (fin9 HC.out HB.out HLB.out HLE.out)
 rw [if_neg e3] at h1
 have f3 : (s0.toList == ([117, 110, 114, 117, 108, 101] : List UInt8)) = false := beq_eq_false_iff_ne.mpr e3
 clear e3
 by_cases e4 : s0.toList = [109, 101, 109, 111]
 ·
  rw [if_pos e4] at h1
  have f4 : (s0.toList == ([109, 101, 109, 111] : List UInt8)) = true := beq_iff_eq.mpr e4
  clear e4
  have HH := Aside0.mk h1
  clear h1
  have x0 := (blk_cell HC.out.blk 0).trans rfl; have f0 := blk_frozen HC.out.blk 0
  go_upto_region 20 with fail
  clear x0 f0
  change Code.wp _ _ _ _ (W1.setCell ⟨bc, 0, none⟩ (.int .i64 11))
  have n_ := put9 (i := 0) (u := .int .i64 11) (y := dr0 11) HC.out HR.out HB.out HNE.out HLB.out.2.2 rfl rfl rfl rfl
  generalize (W1.setCell ⟨bc, 0, none⟩ (.int .i64 11)) = W2 at n_ ⊢
  clear HC HR HB; have HC := Aside0.mk n_.1; have HR := Aside0.mk n_.2.1; have HB := Aside0.mk n_.2.2; clear n_
  have x4 := (blk_cell HC.out.blk 4).trans rfl; have f4 := blk_frozen HC.out.blk 4
  go_upto_region 21 with fail
  clear x4 f4
  change Code.wp _ _ _ _ (W2.setCell ⟨bc, 4, none⟩ (.bool (s1.toList == [111, 110])))
  have n_ := put9 (i := 4) (u := .bool (s1.toList == [111, 110])) (y := { dr0 11 with on := s1.toList == [111, 110] }) HC.out HR.out HB.out HNE.out HLB.out.2.2 rfl rfl rfl rfl
  generalize (W2.setCell ⟨bc, 4, none⟩ (.bool (s1.toList == [111, 110]))) = W3 at n_ ⊢
  clear HC HR HB; have HC := Aside0.mk n_.1; have HR := Aside0.mk n_.2.1; have HB := Aside0.mk n_.2.2; clear n_
  generalize (s1.toList == ([111, 110] : List UInt8)) = ob at HC HH ⊢
  by_cases c : s1.toList = [111, 110]
  ·
   have h1 := HH.out
   rw [if_pos c] at h1
   obtain ⟨rfl, rfl⟩ := Prod.mk.inj (Option.some.inj h1)
   clear h1 HH
   have g1 : (s1.toList == ([111, 110] : List UInt8)) = true := beq_iff_eq.mpr c
   clear c
   go_upto_region 43 with fail
   obtain ⟨x0, x1, x2, x3, x4, x5, x6, x7, x8⟩ := at9 HC.out.blk
   obtain ⟨f0, f1, f2, f3, f4, f5, f6, f7, f8⟩ := fz9 HC.out.blk
   obtain ⟨y0, y1, y2, y3, y4, y5, y6, y7, y8⟩ := at9 HR.out
   obtain ⟨g0, g1, g2, g3, g4, g5, g6, g7, g8⟩ := fz9 HR.out
   go_wp2
   exact endR rfl rfl rfl HR.out (fin9 HC.out HB.out HLB.out HLE.out)
  have h1 := HH.out
  rw [if_neg c] at h1
  clear HH
  have HH := Aside0.mk h1
  clear h1
  have g1 : (s1.toList == ([111, 110] : List UInt8)) = false := beq_eq_false_iff_ne.mpr c
  clear c
  by_cases c : s1.toList = [111, 102, 102]
  ·
   have h1 := HH.out
   rw [if_pos c] at h1
   obtain ⟨rfl, rfl⟩ := Prod.mk.inj (Option.some.inj h1)
   clear h1 HH
   have g2 : (s1.toList == ([111, 102, 102] : List UInt8)) = true := beq_iff_eq.mpr c
   clear c
   go_upto_region 43 with fail
   obtain ⟨x0, x1, x2, x3, x4, x5, x6, x7, x8⟩ := at9 HC.out.blk
   obtain ⟨f0, f1, f2, f3, f4, f5, f6, f7, f8⟩ := fz9 HC.out.blk
   obtain ⟨y0, y1, y2, y3, y4, y5, y6, y7, y8⟩ := at9 HR.out
   obtain ⟨g0, g1, g2, g3, g4, g5, g6, g7, g8⟩ := fz9 HR.out
   go_wp2
   exact endR rfl rfl rfl HR.out (fin9 HC.out HB.out HLB.out HLE.out)
  ·
   have h1 := HH.out
   rw [if_neg c] at h1
   obtain ⟨rfl, rfl⟩ := Prod.mk.inj (Option.some.inj h1)
   clear h1 HH
   have g2 : (s1.toList == ([111, 102, 102] : List UInt8)) = false := beq_eq_false_iff_ne.mpr c
   clear c
   go_upto_region 43 with fail
   obtain ⟨x0, x1, x2, x3, x4, x5, x6, x7, x8⟩ := at9 HC.out.blk
   obtain ⟨f0, f1, f2, f3, f4, f5, f6, f7, f8⟩ := fz9 HC.out.blk
   obtain ⟨y0, y1, y2, y3, y4, y5, y6, y7, y8⟩ := at9 HR.out
   obtain ⟨g0, g1, g2, g3, g4, g5, g6, g7, g8⟩ := fz9 HR.out
   go_wp2
   exact endR rfl rfl rfl HR.out (fin9 HC.out HB.out HLB.out HLE.out)
 rw [if_neg e4] at h1
 have f4 : (s0.toList == ([109, 101, 109, 111] : List UInt8)) = false := beq_eq_false_iff_ne.mpr e4
 clear e4
 by_cases e5 : s0.toList = [106, 111, 98]
 ·
  rw [if_pos e5] at h1
  have f5 : (s0.toList == ([106, 111, 98] : List UInt8)) = true := beq_iff_eq.mpr e5
  clear e5
  obtain ⟨⟨p1, p2⟩, hp, h1⟩ := bindS h1
  obtain ⟨rfl, rfl⟩ := Prod.mk.inj (Option.some.inj h1)
  have HP := Aside0.mk hp
  clear h1 hp
  have x0 := (blk_cell HC.out.blk 0).trans rfl; have f0 := blk_frozen HC.out.blk 0
  go_upto_region 25 with fail
  clear x0 f0
  change Code.wp _ _ _ _ (W1.setCell ⟨bc, 0, none⟩ (.int .i64 13))
  have n_ := put9 (i := 0) (u := .int .i64 13) (y := dr0 13) HC.out HR.out HB.out HNE.out HLB.out.2.2 rfl rfl rfl rfl
  generalize (W1.setCell ⟨bc, 0, none⟩ (.int .i64 13)) = W2 at n_ ⊢
  clear HC HR HB; have HC := Aside0.mk n_.1; have HR := Aside0.mk n_.2.1; have HB := Aside0.mk n_.2.2; clear n_
  have C1 := fun W' : World => aumbryref22_ground.calls k s1 p1 p2 W' HP.out
  go_upto_region 26 with (first | (go_at_call 50; (with_reducible refine (C1 _).mono ?_); rintro ez W3 ⟨u, rfl, hR_, hb_⟩; have HK := Aside0.mk hR_; have HS := Aside0.mk hb_; clear hR_ hb_))
  clear C1
  have n4_ := Aside0.mk (HC.out.putT HS.out HK.out)
  obtain ⟨Au, cu, eu, hcu, hCu⟩ := Kd.R_reads HK.out
  subst eu
  clear hcu hCu
  have n_ := mov9 HC.out HR.out HB.out HS.out
  clear HC HR HB; have HC := Aside0.mk n_.1; have HR := Aside0.mk n_.2.1; have HB := Aside0.mk n_.2.2; clear n_
  clear HS
  have x5 := (blk_cell HC.out.blk 5).trans rfl; have f5 := blk_frozen HC.out.blk 5
  go_upto_region 43 with fail
  clear x5 f5
  change Code.wp _ _ _ _ (W3.setCell ⟨bc, 5, none⟩ (.slice Au p1.length cu))
  have n1_ := Aside0.mk (blk_far HR.out (p := ⟨bc, 5, none⟩) HNE.out (.slice Au p1.length cu))
  have n2_ := Aside0.mk (HB.out.setCell (p := ⟨bc, 5, none⟩) HLB.out.2.2 (.slice Au p1.length cu))
  generalize (W3.setCell ⟨bc, 5, none⟩ (.slice Au p1.length cu)) = W4 at n1_ n2_ n4_ ⊢
  clear HK
  clear HR; have HR := n1_; clear n1_
  clear HB; have HB := n2_; clear n2_
  clear HC; have HC := n4_; clear n4_
  obtain ⟨x0, x1, x2, x3, x4, x5, x6, x7, x8⟩ := at9 HC.out.blk
  obtain ⟨f0, f1, f2, f3, f4, f5, f6, f7, f8⟩ := fz9 HC.out.blk
  obtain ⟨y0, y1, y2, y3, y4, y5, y6, y7, y8⟩ := at9 HR.out
  obtain ⟨g0, g1, g2, g3, g4, g5, g6, g7, g8⟩ := fz9 HR.out
  go_wp2
  exact endR rfl rfl rfl HR.out (fin9 HC.out HB.out HLB.out HLE.out)
 rw [if_neg e5] at h1
 have f5 : (s0.toList == ([106, 111, 98] : List UInt8)) = false := beq_eq_false_iff_ne.mpr e5
 clear e5
 by_cases e6 : s0.toList = [108, 111, 111, 107]
 ·
  rw [if_pos e6] at h1
  have f6 : (s0.toList == ([108, 111, 111, 107] : List UInt8)) = true := beq_iff_eq.mpr e6
  clear e6
  obtain ⟨⟨p1, p2⟩, hp, h1⟩ := bindS h1
  obtain ⟨rfl, rfl⟩ := Prod.mk.inj (Option.some.inj h1)
  have HP := Aside0.mk hp
  clear h1 hp
  have x0 := (blk_cell HC.out.blk 0).trans rfl; have f0 := blk_frozen HC.out.blk 0
  go_upto_region 30 with fail
  clear x0 f0
  change Code.wp _ _ _ _ (W1.setCell ⟨bc, 0, none⟩ (.int .i64 15))
  have n_ := put9 (i := 0) (u := .int .i64 15) (y := dr0 15) HC.out HR.out HB.out HNE.out HLB.out.2.2 rfl rfl rfl rfl
  generalize (W1.setCell ⟨bc, 0, none⟩ (.int .i64 15)) = W2 at n_ ⊢
  clear HC HR HB; have HC := Aside0.mk n_.1; have HR := Aside0.mk n_.2.1; have HB := Aside0.mk n_.2.2; clear n_
  have C1 := fun W' : World => aumbryref22_number.calls k s1 p1 p2 W' HP.out
  go_upto_region 31 with (first | (go_at_call 49; (with_reducible refine (C1 _).mono ?_); rintro ez W3 ⟨rfl, hb_⟩; have HS := Aside0.mk (Drawn0.below hb_ : Below W2.heap.size W2 W3); clear hb_))
  clear C1
  have n_ := mov9 HC.out HR.out HB.out HS.out
  clear HC HR HB; have HC := Aside0.mk n_.1; have HR := Aside0.mk n_.2.1; have HB := Aside0.mk n_.2.2; clear n_
  clear HS
  have x3 := (blk_cell HC.out.blk 3).trans rfl; have f3 := blk_frozen HC.out.blk 3
  go_upto_region 43 with fail
  clear x3 f3
  change Code.wp _ _ _ _ (W3.setCell ⟨bc, 3, none⟩ (.int .i64 p1))
  have n_ := put9 (i := 3) (u := .int .i64 p1) (y := { dr0 15 with id := p1 }) HC.out HR.out HB.out HNE.out HLB.out.2.2 rfl rfl rfl rfl
  generalize (W3.setCell ⟨bc, 3, none⟩ (.int .i64 p1)) = W4 at n_ ⊢
  clear HC HR HB; have HC := Aside0.mk n_.1; have HR := Aside0.mk n_.2.1; have HB := Aside0.mk n_.2.2; clear n_
  obtain ⟨x0, x1, x2, x3, x4, x5, x6, x7, x8⟩ := at9 HC.out.blk
  obtain ⟨f0, f1, f2, f3, f4, f5, f6, f7, f8⟩ := fz9 HC.out.blk
  obtain ⟨y0, y1, y2, y3, y4, y5, y6, y7, y8⟩ := at9 HR.out
  obtain ⟨g0, g1, g2, g3, g4, g5, g6, g7, g8⟩ := fz9 HR.out
  go_wp2
  exact endR rfl rfl rfl HR.out (fin9 HC.out HB.out HLB.out HLE.out)
 rw [if_neg e6] at h1
 have f6 : (s0.toList == ([108, 111, 111, 107] : List UInt8)) = false := beq_eq_false_iff_ne.mpr e6
 clear e6
 by_cases e7 : s0.toList = [100, 114, 111, 112]
 ·
  rw [if_pos e7] at h1
  have f7 : (s0.toList == ([100, 114, 111, 112] : List UInt8)) = true := beq_iff_eq.mpr e7
  clear e7
  obtain ⟨⟨p1, p2⟩, hp, h1⟩ := bindS h1
  obtain ⟨rfl, rfl⟩ := Prod.mk.inj (Option.some.inj h1)
  have HP := Aside0.mk hp
  clear h1 hp
  have x0 := (blk_cell HC.out.blk 0).trans rfl; have f0 := blk_frozen HC.out.blk 0
  go_upto_region 35 with fail
  clear x0 f0
  change Code.wp _ _ _ _ (W1.setCell ⟨bc, 0, none⟩ (.int .i64 16))
  have n_ := put9 (i := 0) (u := .int .i64 16) (y := dr0 16) HC.out HR.out HB.out HNE.out HLB.out.2.2 rfl rfl rfl rfl
  generalize (W1.setCell ⟨bc, 0, none⟩ (.int .i64 16)) = W2 at n_ ⊢
  clear HC HR HB; have HC := Aside0.mk n_.1; have HR := Aside0.mk n_.2.1; have HB := Aside0.mk n_.2.2; clear n_
  have C1 := fun W' : World => aumbryref22_number.calls k s1 p1 p2 W' HP.out
  go_upto_region 36 with (first | (go_at_call 49; (with_reducible refine (C1 _).mono ?_); rintro ez W3 ⟨rfl, hb_⟩; have HS := Aside0.mk (Drawn0.below hb_ : Below W2.heap.size W2 W3); clear hb_))
  clear C1
  have n_ := mov9 HC.out HR.out HB.out HS.out
  clear HC HR HB; have HC := Aside0.mk n_.1; have HR := Aside0.mk n_.2.1; have HB := Aside0.mk n_.2.2; clear n_
  clear HS
  have x3 := (blk_cell HC.out.blk 3).trans rfl; have f3 := blk_frozen HC.out.blk 3
  go_upto_region 43 with fail
  clear x3 f3
  change Code.wp _ _ _ _ (W3.setCell ⟨bc, 3, none⟩ (.int .i64 p1))
  have n_ := put9 (i := 3) (u := .int .i64 p1) (y := { dr0 16 with id := p1 }) HC.out HR.out HB.out HNE.out HLB.out.2.2 rfl rfl rfl rfl
  generalize (W3.setCell ⟨bc, 3, none⟩ (.int .i64 p1)) = W4 at n_ ⊢
  clear HC HR HB; have HC := Aside0.mk n_.1; have HR := Aside0.mk n_.2.1; have HB := Aside0.mk n_.2.2; clear n_
  obtain ⟨x0, x1, x2, x3, x4, x5, x6, x7, x8⟩ := at9 HC.out.blk
  obtain ⟨f0, f1, f2, f3, f4, f5, f6, f7, f8⟩ := fz9 HC.out.blk
  obtain ⟨y0, y1, y2, y3, y4, y5, y6, y7, y8⟩ := at9 HR.out
  obtain ⟨g0, g1, g2, g3, g4, g5, g6, g7, g8⟩ := fz9 HR.out
  go_wp2
  exact endR rfl rfl rfl HR.out (fin9 HC.out HB.out HLB.out HLE.out)
 rw [if_neg e7] at h1
 have f7 : (s0.toList == ([100, 114, 111, 112] : List UInt8)) = false := beq_eq_false_iff_ne.mpr e7
 clear e7
 by_cases e8 : s0.toList = [114, 101, 99, 108, 97, 105, 109]
 ·
  rw [if_pos e8] at h1
  have f8 : (s0.toList == ([114, 101, 99, 108, 97, 105, 109] : List UInt8)) = true := beq_iff_eq.mpr e8
  clear e8
  obtain ⟨⟨p1, p2⟩, hp, h1⟩ := bindS h1
  obtain ⟨rfl, rfl⟩ := Prod.mk.inj (Option.some.inj h1)
  have HP := Aside0.mk hp
  clear h1 hp
  have x0 := (blk_cell HC.out.blk 0).trans rfl; have f0 := blk_frozen HC.out.blk 0
  go_upto_region 40 with fail
  clear x0 f0
  change Code.wp _ _ _ _ (W1.setCell ⟨bc, 0, none⟩ (.int .i64 18))
  have n_ := put9 (i := 0) (u := .int .i64 18) (y := dr0 18) HC.out HR.out HB.out HNE.out HLB.out.2.2 rfl rfl rfl rfl
  generalize (W1.setCell ⟨bc, 0, none⟩ (.int .i64 18)) = W2 at n_ ⊢
  clear HC HR HB; have HC := Aside0.mk n_.1; have HR := Aside0.mk n_.2.1; have HB := Aside0.mk n_.2.2; clear n_
  have C1 := fun W' : World => aumbryref22_number.calls k s1 p1 p2 W' HP.out
  go_upto_region 41 with (first | (go_at_call 49; (with_reducible refine (C1 _).mono ?_); rintro ez W3 ⟨rfl, hb_⟩; have HS := Aside0.mk (Drawn0.below hb_ : Below W2.heap.size W2 W3); clear hb_))
  clear C1
  have n_ := mov9 HC.out HR.out HB.out HS.out
  clear HC HR HB; have HC := Aside0.mk n_.1; have HR := Aside0.mk n_.2.1; have HB := Aside0.mk n_.2.2; clear n_
  clear HS
  have x2 := (blk_cell HC.out.blk 2).trans rfl; have f2 := blk_frozen HC.out.blk 2
  go_upto_region 43 with fail
  clear x2 f2
  change Code.wp _ _ _ _ (W3.setCell ⟨bc, 2, none⟩ (.int .i64 p1))
  have n_ := put9 (i := 2) (u := .int .i64 p1) (y := { dr0 18 with n := p1 }) HC.out HR.out HB.out HNE.out HLB.out.2.2 rfl rfl rfl rfl
  generalize (W3.setCell ⟨bc, 2, none⟩ (.int .i64 p1)) = W4 at n_ ⊢
  clear HC HR HB; have HC := Aside0.mk n_.1; have HR := Aside0.mk n_.2.1; have HB := Aside0.mk n_.2.2; clear n_
  obtain ⟨x0, x1, x2, x3, x4, x5, x6, x7, x8⟩ := at9 HC.out.blk
  obtain ⟨f0, f1, f2, f3, f4, f5, f6, f7, f8⟩ := fz9 HC.out.blk
  obtain ⟨y0, y1, y2, y3, y4, y5, y6, y7, y8⟩ := at9 HR.out
  obtain ⟨g0, g1, g2, g3, g4, g5, g6, g7, g8⟩ := fz9 HR.out
  go_wp2
  exact endR rfl rfl rfl HR.out (fin9 HC.out HB.out HLB.out HLE.out)
 rw [if_neg e8] at h1
 have f8 : (s0.toList == ([114, 101, 99, 108, 97, 105, 109] : List UInt8)) = false := beq_eq_false_iff_ne.mpr e8
 clear e8
 obtain ⟨rfl, rfl⟩ := Prod.mk.inj (Option.some.inj h1)
 clear h1
 go_upto_region 43 with fail
 obtain ⟨x0, x1, x2, x3, x4, x5, x6, x7, x8⟩ := at9 HC.out.blk
 obtain ⟨f0, f1, f2, f3, f4, f5, f6, f7, f8⟩ := fz9 HC.out.blk
 obtain ⟨y0, y1, y2, y3, y4, y5, y6, y7, y8⟩ := at9 HR.out
 obtain ⟨g0, g1, g2, g3, g4, g5, g6, g7, g8⟩ := fz9 HR.out
 go_wp2
 exact endR rfl rfl rfl HR.out (fin9 HC.out HB.out HLB.out HLE.out)
end Go.Proofs.YtmlddeogmckgmaaGreatDoor.P

-- ==== Cr2
/- aumbryref22.two, by hand. -/
namespace Go.Proofs.YtmlddeogmckgmaaGreatDoor.P
open Go.RowKit Go.Proofs.YtmlddeogmckgmaaGreatDoorW.PrintWords Go.Proofs.YtmlddeogmckgmaaGreatDoorW.PrintLast Go.Proofs.YtmlddeogmckgmaaGreatDoorW.PrintMore
def twoR (k : Nat) (s0 s1 s2 : ByteArray) : Option (Dr × Int) :=
 if s0.toList = [115, 121, 109, 98, 111, 108] then (aumbryref03_Kind.f k s1).bind fun q => if q = 1 then numR k s2 fun i => { dr0 1 with nm := s1, n := i } else some ({ dr0 0 with nm := s1 }, 4)
 else if s0.toList = [110, 97, 109, 101] then (aumbryref03_Kind.f k s1).bind fun q => if q = 1 then groR k s2 fun t => { dr0 2 with nm := s1, tm := t } else some ({ dr0 0 with nm := s1 }, 4)
 else if s0.toList = [110, 111, 114, 109] then (aumbryref22_ground.f k s1).bind fun p => if p.2 = 0 then numR k s2 fun i => { dr0 10 with tm := p.1, n := i } else some ({ dr0 10 with tm := p.1 }, p.2)
 else if s0.toList = [114, 117, 110] then (aumbryref22_number.f k s1).bind fun p => if p.2 = 0 then numR k s2 fun i => { dr0 14 with id := p.1, n := i } else some ({ dr0 14 with id := p.1 }, p.2)
 else some (dr0 0, 12)
theorem two_calls {k : Nat} {s0 s1 s2 : ByteArray} {x : Dr} {e : Int} {W : World} (h : twoR k s0 s1 s2 = some (x, e)) :
 Calls Tryz.prog 21 #[.string s0, .string s1, .string s2] W fun r w' => ∃ v, r = .returned (.tuple #[v, .int .i64 e]) ∧ CmdV W.heap.size w' v x ∧ Below W.heap.size W w' := by
 obtain ⟨br, hbr⟩ : ∃ n, n = W.heap.size := ⟨_, rfl⟩
 have HLE := Aside0.mk (Nat.le_of_eq hbr.symm)
 have HB := Aside0.mk (below_alloc (Below.refl W.heap.size W) (.cells cmdZ 28))
 have HR := Aside0.mk (heap_alloc_new W (.cells cmdZ 28))
 have HH := Aside0.mk h
 clear h
 go_enter Tryz.func21, Tryz.ntmps21
 go_upto_region 1 with fail
 generalize (W.alloc (.cells cmdZ 28)) = W0 at HR HB ⊢
 rw [← hbr] at HR ⊢
 clear hbr
 have HNE := Aside0.mk (Nat.ne_of_lt (blk_lt HR.out))
 have HLB := Aside0.mk (show br < W0.heap.size + 1 ∧ W.heap.size ≤ W0.heap.size + 1 ∧ W.heap.size ≤ W0.heap.size from ⟨by have := blk_lt HR.out; omega, by have := blk_lt HR.out; have := HLE.out; omega, by have := blk_lt HR.out; have := HLE.out; omega⟩)
 have HS := Aside0.mk (below_alloc (Below.refl W0.heap.size W0) (.cells cmdZ 28))
 have HC := Aside0.mk (CmV.fresh (heap_alloc_new W0 (.cells cmdZ 28)))
 have HN := heap_alloc_new W0 (.cells cmdZ 28)
 obtain ⟨x0, x1, x2, x3, x4, x5, x6, x7, x8⟩ := at9 HN; obtain ⟨f0, f1, f2, f3, f4, f5, f6, f7, f8⟩ := fz9 HN
 go_upto_region 2 with fail
 clear HN x0 f0 x1 f1 x2 f2 x3 f3 x4 f4 x5 f5 x6 f6 x7 f7 x8 f8
 change Code.wp _ _ _ _ (W0.alloc (.cells cmdZ 28))
 generalize (W0.alloc (.cells cmdZ 28)) = W1 at HC HS ⊢
 obtain ⟨bc, hbc⟩ : ∃ n, n = W0.heap.size := ⟨_, rfl⟩
 rw [← hbc] at HC HNE HLB ⊢
 have n1_ := Aside0.mk (blk_below HR.out HS.out)
 have n2_ := Aside0.mk (below_step HB.out HS.out)
 clear HR; have HR := n1_; clear n1_
 clear HB; have HB := n2_; clear n2_
 clear HS hbc
 have h1 := HH.out
 unfold twoR at h1
 clear HH
 by_cases e1 : s0.toList = [115, 121, 109, 98, 111, 108]
 ·
  rw [if_pos e1] at h1
  have f1 : (s0.toList == ([115, 121, 109, 98, 111, 108] : List UInt8)) = true := beq_iff_eq.mpr e1
  clear e1
  obtain ⟨q, hq, h1⟩ := bindS h1
  have HH := Aside0.mk h1
  have HQ := Aside0.mk hq
  clear h1 hq
  have x1 := (blk_cell HC.out.blk 1).trans rfl; have f1 := blk_frozen HC.out.blk 1
  go_upto_region 8 with fail
  clear x1 f1
  change Code.wp _ _ _ _ (W1.setCell ⟨bc, 1, none⟩ (.string s1))
  have n_ := put9 (i := 1) (u := .string s1) (y := { dr0 0 with nm := s1 }) HC.out HR.out HB.out HNE.out HLB.out.2.2 rfl rfl rfl rfl
  generalize (W1.setCell ⟨bc, 1, none⟩ (.string s1)) = W2 at n_ ⊢
  clear HC HR HB; have HC := Aside0.mk n_.1; have HR := Aside0.mk n_.2.1; have HB := Aside0.mk n_.2.2; clear n_
  by_cases c : q = 1
  ·
   have g : (q != 1) = false := bne_eq_false_iff_eq.mpr c
   have h1 := HH.out
   rw [if_pos c] at h1
   obtain ⟨⟨p1, p2⟩, hp, h1⟩ := bindS h1
   obtain ⟨rfl, rfl⟩ := Prod.mk.inj (Option.some.inj h1)
   have HP := Aside0.mk hp
   clear c h1 HH hp
   have C1 := fun W' : World => aumbryref03_Kind.calls k s1 q W' HQ.out
   go_upto_region 10 with (first | (go_at_call 48; (with_reducible refine (C1 _).mono ?_); rintro ez W3 ⟨rfl, hb_⟩; have HS := Aside0.mk (Drawn0.below hb_ : Below W2.heap.size W2 W3); clear hb_))
   clear C1
   have n_ := mov9 HC.out HR.out HB.out HS.out
   clear HC HR HB; have HC := Aside0.mk n_.1; have HR := Aside0.mk n_.2.1; have HB := Aside0.mk n_.2.2; clear n_
   clear HS
   have x0 := (blk_cell HC.out.blk 0).trans rfl; have f0 := blk_frozen HC.out.blk 0
   go_upto_region 12 with fail
   clear x0 f0
   change Code.wp _ _ _ _ (W3.setCell ⟨bc, 0, none⟩ (.int .i64 1))
   have n_ := put9 (i := 0) (u := .int .i64 1) (y := { dr0 1 with nm := s1 }) HC.out HR.out HB.out HNE.out HLB.out.2.2 rfl rfl rfl rfl
   generalize (W3.setCell ⟨bc, 0, none⟩ (.int .i64 1)) = W4 at n_ ⊢
   clear HC HR HB; have HC := Aside0.mk n_.1; have HR := Aside0.mk n_.2.1; have HB := Aside0.mk n_.2.2; clear n_
   have C1 := fun W' : World => aumbryref22_number.calls k s2 p1 p2 W' HP.out
   go_upto_region 13 with (first | (go_at_call 49; (with_reducible refine (C1 _).mono ?_); rintro ez W5 ⟨rfl, hb_⟩; have HS := Aside0.mk (Drawn0.below hb_ : Below W4.heap.size W4 W5); clear hb_))
   clear C1
   have n_ := mov9 HC.out HR.out HB.out HS.out
   clear HC HR HB; have HC := Aside0.mk n_.1; have HR := Aside0.mk n_.2.1; have HB := Aside0.mk n_.2.2; clear n_
   clear HS
   have x2 := (blk_cell HC.out.blk 2).trans rfl; have f2 := blk_frozen HC.out.blk 2
   go_upto_region 14 with fail
   clear x2 f2
   change Code.wp _ _ _ _ (W5.setCell ⟨bc, 2, none⟩ (.int .i64 p1))
   have n_ := put9 (i := 2) (u := .int .i64 p1) (y := { dr0 1 with nm := s1, n := p1 }) HC.out HR.out HB.out HNE.out HLB.out.2.2 rfl rfl rfl rfl
   generalize (W5.setCell ⟨bc, 2, none⟩ (.int .i64 p1)) = W6 at n_ ⊢
   clear HC HR HB; have HC := Aside0.mk n_.1; have HR := Aside0.mk n_.2.1; have HB := Aside0.mk n_.2.2; clear n_
   obtain ⟨x0, x1, x2, x3, x4, x5, x6, x7, x8⟩ := at9 HC.out.blk
   obtain ⟨f0, f1, f2, f3, f4, f5, f6, f7, f8⟩ := fz9 HC.out.blk
   obtain ⟨y0, y1, y2, y3, y4, y5, y6, y7, y8⟩ := at9 HR.out
   obtain ⟨g0, g1, g2, g3, g4, g5, g6, g7, g8⟩ := fz9 HR.out
   go_wp2
   exact endR rfl rfl rfl HR.out (fin9 HC.out HB.out HLB.out HLE.out)
  ·
   have g : (q != 1) = true := bne_iff_ne.mpr c
   have h1 := HH.out
   rw [if_neg c] at h1
   obtain ⟨rfl, rfl⟩ := Prod.mk.inj (Option.some.inj h1)
   clear c h1 HH
   have C1 := fun W' : World => aumbryref03_Kind.calls k s1 q W' HQ.out
   go_upto_region 9 with (first | (go_at_call 48; (with_reducible refine (C1 _).mono ?_); rintro ez W3 ⟨rfl, hb_⟩; have HS := Aside0.mk (Drawn0.below hb_ : Below W2.heap.size W2 W3); clear hb_))
   clear C1
   have n_ := mov9 HC.out HR.out HB.out HS.out
   clear HC HR HB; have HC := Aside0.mk n_.1; have HR := Aside0.mk n_.2.1; have HB := Aside0.mk n_.2.2; clear n_
   clear HS
   obtain ⟨x0, x1, x2, x3, x4, x5, x6, x7, x8⟩ := at9 HC.out.blk
   obtain ⟨f0, f1, f2, f3, f4, f5, f6, f7, f8⟩ := fz9 HC.out.blk
   obtain ⟨y0, y1, y2, y3, y4, y5, y6, y7, y8⟩ := at9 HR.out
   obtain ⟨g0, g1, g2, g3, g4, g5, g6, g7, g8⟩ := fz9 HR.out
   go_wp2
   exact endR rfl rfl rfl HR.out (fin9 HC.out HB.out HLB.out HLE.out)
 rw [if_neg e1] at h1
 have f1 : (s0.toList == ([115, 121, 109, 98, 111, 108] : List UInt8)) = false := beq_eq_false_iff_ne.mpr e1
 clear e1
 by_cases e2 : s0.toList = [110, 97, 109, 101]
 ·
  rw [if_pos e2] at h1
  have f2 : (s0.toList == ([110, 97, 109, 101] : List UInt8)) = true := beq_iff_eq.mpr e2
  clear e2
  obtain ⟨q, hq, h1⟩ := bindS h1
  have HH := Aside0.mk h1
  have HQ := Aside0.mk hq
  clear h1 hq
  have x1 := (blk_cell HC.out.blk 1).trans rfl; have f1 := blk_frozen HC.out.blk 1
  go_upto_region 8 with fail
  clear x1 f1
  change Code.wp _ _ _ _ (W1.setCell ⟨bc, 1, none⟩ (.string s1))
  have n_ := put9 (i := 1) (u := .string s1) (y := { dr0 0 with nm := s1 }) HC.out HR.out HB.out HNE.out HLB.out.2.2 rfl rfl rfl rfl
  generalize (W1.setCell ⟨bc, 1, none⟩ (.string s1)) = W2 at n_ ⊢
  clear HC HR HB; have HC := Aside0.mk n_.1; have HR := Aside0.mk n_.2.1; have HB := Aside0.mk n_.2.2; clear n_
  by_cases c : q = 1
  ·
   have g : (q != 1) = false := bne_eq_false_iff_eq.mpr c
   have h1 := HH.out
   rw [if_pos c] at h1
   obtain ⟨⟨p1, p2⟩, hp, h1⟩ := bindS h1
   obtain ⟨rfl, rfl⟩ := Prod.mk.inj (Option.some.inj h1)
   have HP := Aside0.mk hp
   clear c h1 HH hp
   have C1 := fun W' : World => aumbryref03_Kind.calls k s1 q W' HQ.out
   go_upto_region 10 with (first | (go_at_call 48; (with_reducible refine (C1 _).mono ?_); rintro ez W3 ⟨rfl, hb_⟩; have HS := Aside0.mk (Drawn0.below hb_ : Below W2.heap.size W2 W3); clear hb_))
   clear C1
   have n_ := mov9 HC.out HR.out HB.out HS.out
   clear HC HR HB; have HC := Aside0.mk n_.1; have HR := Aside0.mk n_.2.1; have HB := Aside0.mk n_.2.2; clear n_
   clear HS
   have x0 := (blk_cell HC.out.blk 0).trans rfl; have f0 := blk_frozen HC.out.blk 0
   go_upto_region 17 with fail
   clear x0 f0
   change Code.wp _ _ _ _ (W3.setCell ⟨bc, 0, none⟩ (.int .i64 2))
   have n_ := put9 (i := 0) (u := .int .i64 2) (y := { dr0 2 with nm := s1 }) HC.out HR.out HB.out HNE.out HLB.out.2.2 rfl rfl rfl rfl
   generalize (W3.setCell ⟨bc, 0, none⟩ (.int .i64 2)) = W4 at n_ ⊢
   clear HC HR HB; have HC := Aside0.mk n_.1; have HR := Aside0.mk n_.2.1; have HB := Aside0.mk n_.2.2; clear n_
   have C1 := fun W' : World => aumbryref22_ground.calls k s2 p1 p2 W' HP.out
   go_upto_region 18 with (first | (go_at_call 50; (with_reducible refine (C1 _).mono ?_); rintro ez W5 ⟨u, rfl, hR_, hb_⟩; have HK := Aside0.mk hR_; have HS := Aside0.mk hb_; clear hR_ hb_))
   clear C1
   have n4_ := Aside0.mk (HC.out.putT HS.out HK.out)
   obtain ⟨Au, cu, eu, hcu, hCu⟩ := Kd.R_reads HK.out
   subst eu
   clear hcu hCu
   have n_ := mov9 HC.out HR.out HB.out HS.out
   clear HC HR HB; have HC := Aside0.mk n_.1; have HR := Aside0.mk n_.2.1; have HB := Aside0.mk n_.2.2; clear n_
   clear HS
   have x5 := (blk_cell HC.out.blk 5).trans rfl; have f5 := blk_frozen HC.out.blk 5
   go_upto_region 19 with fail
   clear x5 f5
   change Code.wp _ _ _ _ (W5.setCell ⟨bc, 5, none⟩ (.slice Au p1.length cu))
   have n1_ := Aside0.mk (blk_far HR.out (p := ⟨bc, 5, none⟩) HNE.out (.slice Au p1.length cu))
   have n2_ := Aside0.mk (HB.out.setCell (p := ⟨bc, 5, none⟩) HLB.out.2.2 (.slice Au p1.length cu))
   generalize (W5.setCell ⟨bc, 5, none⟩ (.slice Au p1.length cu)) = W6 at n1_ n2_ n4_ ⊢
   clear HK
   clear HR; have HR := n1_; clear n1_
   clear HB; have HB := n2_; clear n2_
   clear HC; have HC := n4_; clear n4_
   obtain ⟨x0, x1, x2, x3, x4, x5, x6, x7, x8⟩ := at9 HC.out.blk
   obtain ⟨f0, f1, f2, f3, f4, f5, f6, f7, f8⟩ := fz9 HC.out.blk
   obtain ⟨y0, y1, y2, y3, y4, y5, y6, y7, y8⟩ := at9 HR.out
   obtain ⟨g0, g1, g2, g3, g4, g5, g6, g7, g8⟩ := fz9 HR.out
   go_wp2
   exact endR rfl rfl rfl HR.out (fin9 HC.out HB.out HLB.out HLE.out)
  ·
   have g : (q != 1) = true := bne_iff_ne.mpr c
   have h1 := HH.out
   rw [if_neg c] at h1
   obtain ⟨rfl, rfl⟩ := Prod.mk.inj (Option.some.inj h1)
   clear c h1 HH
   have C1 := fun W' : World => aumbryref03_Kind.calls k s1 q W' HQ.out
   go_upto_region 9 with (first | (go_at_call 48; (with_reducible refine (C1 _).mono ?_); rintro ez W3 ⟨rfl, hb_⟩; have HS := Aside0.mk (Drawn0.below hb_ : Below W2.heap.size W2 W3); clear hb_))
   clear C1
   have n_ := mov9 HC.out HR.out HB.out HS.out
   clear HC HR HB; have HC := Aside0.mk n_.1; have HR := Aside0.mk n_.2.1; have HB := Aside0.mk n_.2.2; clear n_
   clear HS
   obtain ⟨x0, x1, x2, x3, x4, x5, x6, x7, x8⟩ := at9 HC.out.blk
   obtain ⟨f0, f1, f2, f3, f4, f5, f6, f7, f8⟩ := fz9 HC.out.blk
   obtain ⟨y0, y1, y2, y3, y4, y5, y6, y7, y8⟩ := at9 HR.out
   obtain ⟨g0, g1, g2, g3, g4, g5, g6, g7, g8⟩ := fz9 HR.out
   go_wp2
   exact endR rfl rfl rfl HR.out (fin9 HC.out HB.out HLB.out HLE.out)
 rw [if_neg e2] at h1
 have f2 : (s0.toList == ([110, 97, 109, 101] : List UInt8)) = false := beq_eq_false_iff_ne.mpr e2
 clear e2
 by_cases e3 : s0.toList = [110, 111, 114, 109]
 ·
  rw [if_pos e3] at h1
  have f3 : (s0.toList == ([110, 111, 114, 109] : List UInt8)) = true := beq_iff_eq.mpr e3
  clear e3
  obtain ⟨⟨p1, p2⟩, hp, h1⟩ := bindS h1
  have HP := Aside0.mk hp
  have HH := Aside0.mk (show (if p2 = 0 then numR k s2 fun i => { dr0 10 with tm := p1, n := i } else some ({ dr0 10 with tm := p1 }, p2)) = some (x, e) from h1)
  clear h1 hp
  have x0 := (blk_cell HC.out.blk 0).trans rfl; have f0 := blk_frozen HC.out.blk 0
  go_upto_region 22 with fail
  clear x0 f0
  change Code.wp _ _ _ _ (W1.setCell ⟨bc, 0, none⟩ (.int .i64 10))
  have n_ := put9 (i := 0) (u := .int .i64 10) (y := dr0 10) HC.out HR.out HB.out HNE.out HLB.out.2.2 rfl rfl rfl rfl
  generalize (W1.setCell ⟨bc, 0, none⟩ (.int .i64 10)) = W2 at n_ ⊢
  clear HC HR HB; have HC := Aside0.mk n_.1; have HR := Aside0.mk n_.2.1; have HB := Aside0.mk n_.2.2; clear n_
  have C1 := fun W' : World => aumbryref22_ground.calls k s1 p1 p2 W' HP.out
  go_upto_region 23 with (first | (go_at_call 50; (with_reducible refine (C1 _).mono ?_); rintro ez W3 ⟨u, rfl, hR_, hb_⟩; have HK := Aside0.mk hR_; have HS := Aside0.mk hb_; clear hR_ hb_))
  clear C1
  have n4_ := Aside0.mk (HC.out.putT HS.out HK.out)
  obtain ⟨Au, cu, eu, hcu, hCu⟩ := Kd.R_reads HK.out
  subst eu
  clear hcu hCu
  have n_ := mov9 HC.out HR.out HB.out HS.out
  clear HC HR HB; have HC := Aside0.mk n_.1; have HR := Aside0.mk n_.2.1; have HB := Aside0.mk n_.2.2; clear n_
  clear HS
  have x5 := (blk_cell HC.out.blk 5).trans rfl; have f5 := blk_frozen HC.out.blk 5
  go_upto_region 24 with fail
  clear x5 f5
  change Code.wp _ _ _ _ (W3.setCell ⟨bc, 5, none⟩ (.slice Au p1.length cu))
  have n1_ := Aside0.mk (blk_far HR.out (p := ⟨bc, 5, none⟩) HNE.out (.slice Au p1.length cu))
  have n2_ := Aside0.mk (HB.out.setCell (p := ⟨bc, 5, none⟩) HLB.out.2.2 (.slice Au p1.length cu))
  generalize (W3.setCell ⟨bc, 5, none⟩ (.slice Au p1.length cu)) = W4 at n1_ n2_ n4_ ⊢
  clear HK
  clear HR; have HR := n1_; clear n1_
  clear HB; have HB := n2_; clear n2_
  clear HC; have HC := n4_; clear n4_
  by_cases c : p2 = 0
  ·
   have g : (p2 == 0) = true := beq_iff_eq.mpr c
   have h1 := HH.out
   rw [if_pos c] at h1
   obtain ⟨⟨q1, q2⟩, hq, h1⟩ := bindS h1
   obtain ⟨rfl, rfl⟩ := Prod.mk.inj (Option.some.inj h1)
   have HQ := Aside0.mk hq
   clear c h1 HH hq
   have C1 := fun W' : World => aumbryref22_number.calls k s2 q1 q2 W' HQ.out
   go_upto_region 27 with (first | (go_at_call 49; (with_reducible refine (C1 _).mono ?_); rintro ez W5 ⟨rfl, hb_⟩; have HS := Aside0.mk (Drawn0.below hb_ : Below W4.heap.size W4 W5); clear hb_))
   clear C1
   have n_ := mov9 HC.out HR.out HB.out HS.out
   clear HC HR HB; have HC := Aside0.mk n_.1; have HR := Aside0.mk n_.2.1; have HB := Aside0.mk n_.2.2; clear n_
   clear HS
   have x2 := (blk_cell HC.out.blk 2).trans rfl; have f2 := blk_frozen HC.out.blk 2
   go_upto_region 28 with fail
   clear x2 f2
   change Code.wp _ _ _ _ (W5.setCell ⟨bc, 2, none⟩ (.int .i64 q1))
   have n_ := put9 (i := 2) (u := .int .i64 q1) (y := { dr0 10 with tm := p1, n := q1 }) HC.out HR.out HB.out HNE.out HLB.out.2.2 rfl rfl rfl rfl
   generalize (W5.setCell ⟨bc, 2, none⟩ (.int .i64 q1)) = W6 at n_ ⊢
   clear HC HR HB; have HC := Aside0.mk n_.1; have HR := Aside0.mk n_.2.1; have HB := Aside0.mk n_.2.2; clear n_
   obtain ⟨x0, x1, x2, x3, x4, x5, x6, x7, x8⟩ := at9 HC.out.blk
   obtain ⟨f0, f1, f2, f3, f4, f5, f6, f7, f8⟩ := fz9 HC.out.blk
   obtain ⟨y0, y1, y2, y3, y4, y5, y6, y7, y8⟩ := at9 HR.out
   obtain ⟨g0, g1, g2, g3, g4, g5, g6, g7, g8⟩ := fz9 HR.out
   go_wp2
   exact endR rfl rfl rfl HR.out (fin9 HC.out HB.out HLB.out HLE.out)
  ·
   have g : (p2 == 0) = false := beq_eq_false_iff_ne.mpr c
   have h1 := HH.out
   rw [if_neg c] at h1
   obtain ⟨rfl, rfl⟩ := Prod.mk.inj (Option.some.inj h1)
   clear c h1 HH
   obtain ⟨x0, x1, x2, x3, x4, x5, x6, x7, x8⟩ := at9 HC.out.blk
   obtain ⟨f0, f1, f2, f3, f4, f5, f6, f7, f8⟩ := fz9 HC.out.blk
   obtain ⟨y0, y1, y2, y3, y4, y5, y6, y7, y8⟩ := at9 HR.out
   obtain ⟨g0, g1, g2, g3, g4, g5, g6, g7, g8⟩ := fz9 HR.out
   go_wp2
   exact endR rfl rfl rfl HR.out (fin9 HC.out HB.out HLB.out HLE.out)
 rw [if_neg e3] at h1
 have f3 : (s0.toList == ([110, 111, 114, 109] : List UInt8)) = false := beq_eq_false_iff_ne.mpr e3
 clear e3
 by_cases e4 : s0.toList = [114, 117, 110]
 ·
  rw [if_pos e4] at h1
  have f4 : (s0.toList == ([114, 117, 110] : List UInt8)) = true := beq_iff_eq.mpr e4
  clear e4
  obtain ⟨⟨p1, p2⟩, hp, h1⟩ := bindS h1
  have HP := Aside0.mk hp
  have HH := Aside0.mk (show (if p2 = 0 then numR k s2 fun i => { dr0 14 with id := p1, n := i } else some ({ dr0 14 with id := p1 }, p2)) = some (x, e) from h1)
  clear h1 hp
  have x0 := (blk_cell HC.out.blk 0).trans rfl; have f0 := blk_frozen HC.out.blk 0
  go_upto_region 31 with fail
  clear x0 f0
  change Code.wp _ _ _ _ (W1.setCell ⟨bc, 0, none⟩ (.int .i64 14))
  have n_ := put9 (i := 0) (u := .int .i64 14) (y := dr0 14) HC.out HR.out HB.out HNE.out HLB.out.2.2 rfl rfl rfl rfl
  generalize (W1.setCell ⟨bc, 0, none⟩ (.int .i64 14)) = W2 at n_ ⊢
  clear HC HR HB; have HC := Aside0.mk n_.1; have HR := Aside0.mk n_.2.1; have HB := Aside0.mk n_.2.2; clear n_
  have C1 := fun W' : World => aumbryref22_number.calls k s1 p1 p2 W' HP.out
  go_upto_region 32 with (first | (go_at_call 49; (with_reducible refine (C1 _).mono ?_); rintro ez W3 ⟨rfl, hb_⟩; have HS := Aside0.mk (Drawn0.below hb_ : Below W2.heap.size W2 W3); clear hb_))
  clear C1
  have n_ := mov9 HC.out HR.out HB.out HS.out
  clear HC HR HB; have HC := Aside0.mk n_.1; have HR := Aside0.mk n_.2.1; have HB := Aside0.mk n_.2.2; clear n_
  clear HS
  have x3 := (blk_cell HC.out.blk 3).trans rfl; have f3 := blk_frozen HC.out.blk 3
  go_upto_region 33 with fail
  clear x3 f3
  change Code.wp _ _ _ _ (W3.setCell ⟨bc, 3, none⟩ (.int .i64 p1))
  have n_ := put9 (i := 3) (u := .int .i64 p1) (y := { dr0 14 with id := p1 }) HC.out HR.out HB.out HNE.out HLB.out.2.2 rfl rfl rfl rfl
  generalize (W3.setCell ⟨bc, 3, none⟩ (.int .i64 p1)) = W4 at n_ ⊢
  clear HC HR HB; have HC := Aside0.mk n_.1; have HR := Aside0.mk n_.2.1; have HB := Aside0.mk n_.2.2; clear n_
  by_cases c : p2 = 0
  ·
   have g : (p2 == 0) = true := beq_iff_eq.mpr c
   have h1 := HH.out
   rw [if_pos c] at h1
   obtain ⟨⟨q1, q2⟩, hq, h1⟩ := bindS h1
   obtain ⟨rfl, rfl⟩ := Prod.mk.inj (Option.some.inj h1)
   have HQ := Aside0.mk hq
   clear c h1 HH hq
   have C1 := fun W' : World => aumbryref22_number.calls k s2 q1 q2 W' HQ.out
   go_upto_region 36 with (first | (go_at_call 49; (with_reducible refine (C1 _).mono ?_); rintro ez W5 ⟨rfl, hb_⟩; have HS := Aside0.mk (Drawn0.below hb_ : Below W4.heap.size W4 W5); clear hb_))
   clear C1
   have n_ := mov9 HC.out HR.out HB.out HS.out
   clear HC HR HB; have HC := Aside0.mk n_.1; have HR := Aside0.mk n_.2.1; have HB := Aside0.mk n_.2.2; clear n_
   clear HS
   have x2 := (blk_cell HC.out.blk 2).trans rfl; have f2 := blk_frozen HC.out.blk 2
   go_upto_region 37 with fail
   clear x2 f2
   change Code.wp _ _ _ _ (W5.setCell ⟨bc, 2, none⟩ (.int .i64 q1))
   have n_ := put9 (i := 2) (u := .int .i64 q1) (y := { dr0 14 with id := p1, n := q1 }) HC.out HR.out HB.out HNE.out HLB.out.2.2 rfl rfl rfl rfl
   generalize (W5.setCell ⟨bc, 2, none⟩ (.int .i64 q1)) = W6 at n_ ⊢
   clear HC HR HB; have HC := Aside0.mk n_.1; have HR := Aside0.mk n_.2.1; have HB := Aside0.mk n_.2.2; clear n_
   obtain ⟨x0, x1, x2, x3, x4, x5, x6, x7, x8⟩ := at9 HC.out.blk
   obtain ⟨f0, f1, f2, f3, f4, f5, f6, f7, f8⟩ := fz9 HC.out.blk
   obtain ⟨y0, y1, y2, y3, y4, y5, y6, y7, y8⟩ := at9 HR.out
   obtain ⟨g0, g1, g2, g3, g4, g5, g6, g7, g8⟩ := fz9 HR.out
   go_wp2
   exact endR rfl rfl rfl HR.out (fin9 HC.out HB.out HLB.out HLE.out)
  ·
   have g : (p2 == 0) = false := beq_eq_false_iff_ne.mpr c
   have h1 := HH.out
   rw [if_neg c] at h1
   obtain ⟨rfl, rfl⟩ := Prod.mk.inj (Option.some.inj h1)
   clear c h1 HH
   obtain ⟨x0, x1, x2, x3, x4, x5, x6, x7, x8⟩ := at9 HC.out.blk
   obtain ⟨f0, f1, f2, f3, f4, f5, f6, f7, f8⟩ := fz9 HC.out.blk
   obtain ⟨y0, y1, y2, y3, y4, y5, y6, y7, y8⟩ := at9 HR.out
   obtain ⟨g0, g1, g2, g3, g4, g5, g6, g7, g8⟩ := fz9 HR.out
   go_wp2
   exact endR rfl rfl rfl HR.out (fin9 HC.out HB.out HLB.out HLE.out)
 rw [if_neg e4] at h1
 have f4 : (s0.toList == ([114, 117, 110] : List UInt8)) = false := beq_eq_false_iff_ne.mpr e4
 clear e4
 obtain ⟨rfl, rfl⟩ := Prod.mk.inj (Option.some.inj h1)
 clear h1
 go_upto_region 38 with fail
 obtain ⟨x0, x1, x2, x3, x4, x5, x6, x7, x8⟩ := at9 HC.out.blk
 obtain ⟨f0, f1, f2, f3, f4, f5, f6, f7, f8⟩ := fz9 HC.out.blk
 obtain ⟨y0, y1, y2, y3, y4, y5, y6, y7, y8⟩ := at9 HR.out
 obtain ⟨g0, g1, g2, g3, g4, g5, g6, g7, g8⟩ := fz9 HR.out
 go_wp2
 exact endR rfl rfl rfl HR.out (fin9 HC.out HB.out HLB.out HLE.out)
end Go.Proofs.YtmlddeogmckgmaaGreatDoor.P

-- ==== Cr3
/- aumbryref22.Parse, by hand. -/
namespace Go.Proofs.YtmlddeogmckgmaaGreatDoor.P
open Go.RowKit Go.Proofs.YtmlddeogmckgmaaGreatDoorW.PrintWords Go.Proofs.YtmlddeogmckgmaaGreatDoorW.PrintLast Go.Proofs.YtmlddeogmckgmaaGreatDoorW.PrintMore
def bareL : List ByteArray := [⟨#[110, 97, 109, 101, 115]⟩, ⟨#[115, 121, 109, 98, 111, 108, 115]⟩, ⟨#[114, 117, 108, 101, 115]⟩, ⟨#[109, 101, 109, 111, 115]⟩, ⟨#[106, 111, 98, 115]⟩, ⟨#[118, 101, 114, 115, 105, 111, 110]⟩]
def bareK : List Int := [5, 6, 9, 12, 17, 19]
def bareF (a : ByteArray) : List (ByteArray × Int) → Dr × Int
 | [] => (dr0 0, 12)
 | p :: ps => if a.toList = p.1.toList then (dr0 p.2, 0) else bareF a ps
abbrev rdW (l : List ByteArray) (i : Int) : ByteArray := rdOf ByteArray.empty l i
def ruleR (k : Nat) (a b : ByteArray) : Option (Dr × Int) := (aumbryref06_Parse.f k a b).bind fun r => some ({ dr0 7 with rid := r.1, lf := r.2.1, rt := r.2.2.1 }, r.2.2.2)
def finR (p : Dr × Int) : Option (Dr × Int) := if p.2 = 0 then some (p.1, 0) else some (dr0 0, p.2)
def refB (k : Nat) (l : List ByteArray) : Option (Dr × Int) :=
 if (l.length : Int) = 1 then some (bareF (rdW l 0) (bareL.zip bareK))
 else if (l.length : Int) = 2 then (oneR k (rdW l 0) (rdW l 1)).bind finR
 else if (l.length : Int) = 3 then (twoR k (rdW l 0) (rdW l 1) (rdW l 2)).bind finR
 else if (l.length : Int) = 4 then (if (rdW l 0).toList = [114, 117, 108, 101] then (if (rdW l 2).toList = [45, 62] then (ruleR k (rdW l 1) (rdW l 3)).bind finR else some (dr0 0, 12)) else some (dr0 0, 12))
 else some (dr0 0, 12)
def refF (k : Nat) (s : ByteArray) : Option (Dr × Int) := if (s.size : Int) > 256 then some (dr0 0, 2) else (aumbryref03_Words.f k s).bind (refB k)
theorem bareF_step (a : ByteArray) (i : Int) (h0 : 0 ≤ i) (h1 : i < 6) : bareF a ((bareL.zip bareK).drop i.toNat) = if a.toList = (rdOf ByteArray.empty bareL i).toList then (dr0 (rd bareK i), 0) else bareF a ((bareL.zip bareK).drop (i + 1).toNat) := by
 have h : i = 0 ∨ i = 1 ∨ i = 2 ∨ i = 3 ∨ i = 4 ∨ i = 5 := by omega
 rcases h with rfl | rfl | rfl | rfl | rfl | rfl <;> rfl
theorem cmdV_kd (B : Nat) (w : World) (kd : Int) : CmdV B w (.agg (cmdCs (dr0 kd) (.slice none 0 0) (.slice none 0 0) (.slice none 0 0))) (dr0 kd) := ⟨_, _, _, rfl, Kd.R_nil _ _ _ _ _, Kd.R_nil _ _ _ _ _, Kd.R_nil _ _ _ _ _⟩
theorem CmV.of {W : World} {B d : Nat} {x y : Dr} {v5 v7 v8 u5 u7 u8 : Value} (hb : W.heap[d]? = some (.cells (cmdCs y u5 u7 u8) 28 (0, 0))) (hB : d + 1 ≤ B) (h5 : CmR W B v7 v8 v5 x.tm) (h7 : CmR W B v5 v8 v7 x.lf) (h8 : CmR W B v5 v7 v8 x.rt) :
 CmV (((((((((W.setCell ⟨d, 0, none⟩ (.int .i64 x.kd)).setCell ⟨d, 1, none⟩ (.string x.nm)).setCell ⟨d, 2, none⟩ (.int .i64 x.n)).setCell ⟨d, 3, none⟩ (.int .i64 x.id)).setCell ⟨d, 4, none⟩ (.bool x.on)).setCell ⟨d, 5, none⟩ (v5)).setCell ⟨d, 6, none⟩ (.int .i64 x.rid)).setCell ⟨d, 7, none⟩ (v7)).setCell ⟨d, 8, none⟩ (v8)) d x v5 v7 v8 :=
 have hoff := fun (k : Nat) (hk : d + 1 ≤ k) (_ : k < W.heap.size) => set9_off (W := W) (g := d) (.int .i64 x.kd) (.string x.nm) (.int .i64 x.n) (.int .i64 x.id) (.bool x.on) v5 (.int .i64 x.rid) v7 v8 k (by omega)
 ⟨set9_blk hb _ _ _ _ _ _ _ _ _, CmR.step (Kd.R_lower h5 hB) hoff, CmR.step (Kd.R_lower h7 hB) hoff, CmR.step (Kd.R_lower h8 hB) hoff⟩
theorem keepB {W W' : World} {a : Addr} {v : Value} (h : W.cell? a = some v) (hb : Below W.heap.size W W') : W'.cell? a = some v := (cell_heap (hb.block _ (World.block_lt_of_cell? _ _ h))).trans h
theorem keep3 {W : World} {g : Nat} {a : Addr} {v : Value} (b0 b1 b2 : Value) (h : W.cell? a = some v) (hd : a.block ≠ g) : (((W.setCell ⟨g, 0, none⟩ b0).setCell ⟨g, 1, none⟩ b1).setCell ⟨g, 2, none⟩ b2).cell? a = some v :=
 (cell_heap ((Below.heap_setCell _ _ _ _ hd).trans ((Below.heap_setCell _ _ _ _ hd).trans (Below.heap_setCell _ _ _ _ hd)))).trans h
theorem set3_blk {W : World} {g t : Nat} {a0 a1 a2 : Value} (h : W.heap[g]? = some (.cells #[a0, a1, a2] t (0, 0))) (b0 b1 b2 : Value) : (((W.setCell ⟨g, 0, none⟩ b0).setCell ⟨g, 1, none⟩ b1).setCell ⟨g, 2, none⟩ b2).heap[g]? = some (.cells #[b0, b1, b2] t (0, 0)) := by
 refine blk_put (cs := #[b0, b1, a2]) ?_ 2 _ rfl
 refine blk_put (cs := #[b0, a1, a2]) ?_ 1 _ rfl
 exact blk_put h 0 _ rfl
theorem R_set3 {W : World} {g base : Nat} {ok : Nat → Prop} {v : Value} {xs : List CmC} (b0 b1 b2 : Value) (h : Kd.R k48 48 W base ok v xs) (hg : g < base) : Kd.R k48 48 (((W.setCell ⟨g, 0, none⟩ b0).setCell ⟨g, 1, none⟩ b1).setCell ⟨g, 2, none⟩ b2) base ok v xs :=
 Kd.R_mono (Kd.R_step (Kd.R_bound h) (fun k ho hlt => (Below.heap_setCell _ _ _ k (by have := ho.2.1; simp only; omega)).trans ((Below.heap_setCell _ _ _ k (by have := ho.2.1; simp only; omega)).trans (Below.heap_setCell _ _ _ k (by have := ho.2.1; simp only; omega))))) (fun k hk => hk.1)
theorem keep9 {W : World} {g : Nat} {a : Addr} {v : Value} (b0 b1 b2 b3 b4 b5 b6 b7 b8 : Value) (h : W.cell? a = some v) (hd : a.block ≠ g) : (((((((((W.setCell ⟨g, 0, none⟩ (b0)).setCell ⟨g, 1, none⟩ (b1)).setCell ⟨g, 2, none⟩ (b2)).setCell ⟨g, 3, none⟩ (b3)).setCell ⟨g, 4, none⟩ (b4)).setCell ⟨g, 5, none⟩ (b5)).setCell ⟨g, 6, none⟩ (b6)).setCell ⟨g, 7, none⟩ (b7)).setCell ⟨g, 8, none⟩ (b8)).cell? a = some v := (cell_heap (set9_off b0 b1 b2 b3 b4 b5 b6 b7 b8 a.block hd)).trans h
theorem refP_calls {k : Nat} {s : ByteArray} {x : Dr} {e : Int} {W : World} (h : refF k s = some (x, e)) :
 Calls Tryz.prog 10 #[.string s] W fun r w' => ∃ v, r = .returned (.tuple #[v, .int .i64 e]) ∧ CmdV W.heap.size w' v x ∧ Below W.heap.size W w' := by
 obtain ⟨br, hbr⟩ : ∃ n, n = W.heap.size := ⟨_, rfl⟩
 have HLE := Aside0.mk (Nat.le_of_eq hbr.symm)
 have HB := Aside0.mk (below_alloc (Below.refl W.heap.size W) (.cells cmdZ 28))
 have HR := Aside0.mk (heap_alloc_new W (.cells cmdZ 28))
 have HH := Aside0.mk h
 clear h
 go_enter Tryz.func10, Tryz.ntmps10
 go_upto_region 1 with fail
 generalize (W.alloc (.cells cmdZ 28)) = W0 at HR HB ⊢
 rw [← hbr] at HR ⊢
 clear hbr
 have h1 := HH.out
 unfold refF at h1
 clear HH
 by_cases c1 : (s.size : Int) > 256
 ·
  have d1 : decide ((s.size : Int) > 256) = true := decide_eq_true c1
  have d2 : decide (256 < s.size) = true := decide_eq_true (by omega)
  rw [if_pos c1] at h1
  obtain ⟨rfl, rfl⟩ := Prod.mk.inj (Option.some.inj h1)
  clear c1 h1
  obtain ⟨y0, y1, y2, y3, y4, y5, y6, y7, y8⟩ := at9 HR.out
  obtain ⟨g0, g1, g2, g3, g4, g5, g6, g7, g8⟩ := fz9 HR.out
  go_wp2
  exact endR rfl rfl rfl HR.out ⟨_, rfl, cmdV_zero _ _, set9_below HB.out HLE.out _ _ _ _ _ _ _ _ _⟩
 rw [if_neg c1] at h1
 have d1 : decide ((s.size : Int) > 256) = false := decide_eq_false c1
 have d2 : decide (256 < s.size) = false := decide_eq_false (by omega)
 obtain ⟨l, hl, h1⟩ := bindS h1
 have HH := Aside0.mk h1
 have C1 := aumbryref03_Words.calls k s l W0 hl
 clear c1 h1 hl
 go_upto_region 4 with (first | (go_at_call 15; (with_reducible refine C1.mono ?_); rintro ez W1 ⟨vl, rfl, hR_, hb_⟩; obtain ⟨Al, cl, el, hcl, hCl⟩ := Kd.R_reads hR_; subst el; have HCL := Aside0.mk hCl; have HCC := Aside0.mk hcl; have HS := Aside0.mk hb_; clear hR_ hb_ hCl hcl))
 clear C1 d1 d2
 have n1_ := Aside0.mk (blk_below HR.out HS.out)
 have n2_ := Aside0.mk (below_step HB.out HS.out)
 clear HR; have HR := n1_; clear n1_
 clear HB; have HB := n2_; clear n2_
 clear HS
 have HNE := Aside0.mk (Nat.ne_of_lt (blk_lt HR.out))
 have HLB := Aside0.mk (show br < W1.heap.size + 1 ∧ W.heap.size ≤ W1.heap.size + 1 ∧ W.heap.size ≤ W1.heap.size from ⟨by have := blk_lt HR.out; omega, by have := blk_lt HR.out; have := HLE.out; omega, by have := blk_lt HR.out; have := HLE.out; omega⟩)
 have HS := Aside0.mk (below_alloc (Below.refl W1.heap.size W1) (.cells cmdZ 28))
 have HC := Aside0.mk (CmV.fresh (heap_alloc_new W1 (.cells cmdZ 28)))
 have HN := heap_alloc_new W1 (.cells cmdZ 28)
 obtain ⟨x0, x1, x2, x3, x4, x5, x6, x7, x8⟩ := at9 HN; obtain ⟨f0, f1, f2, f3, f4, f5, f6, f7, f8⟩ := fz9 HN
 go_upto_region 5 with fail
 clear HN x0 f0 x1 f1 x2 f2 x3 f3 x4 f4 x5 f5 x6 f6 x7 f7 x8 f8
 change Code.wp _ _ _ _ (W1.alloc (.cells cmdZ 28))
 have HCB := Aside0.mk (show ∀ ad, Al = some ad → 0 < l.length → ad.block ≠ W1.heap.size from fun ad ea hp => by obtain ⟨ad', ea', z⟩ := Kd.at_string HCL.out 0 (by omega) (by omega); rw [ea] at ea'; obtain rfl := Option.some.inj ea'; have h_ := World.block_lt_of_cell? _ _ z; rw [show ((0 : Int)).toNat = 0 from rfl, Addr.add_zero'] at h_; omega)
 generalize (W1.alloc (.cells cmdZ 28)) = W2 at HC HS ⊢
 obtain ⟨bc, hbc⟩ : ∃ n, n = W1.heap.size := ⟨_, rfl⟩
 rw [← hbc] at HC HNE HLB HCB ⊢
 have n1_ := Aside0.mk (blk_below HR.out HS.out)
 have n2_ := Aside0.mk (below_step HB.out HS.out)
 clear HR; have HR := n1_; clear n1_
 clear HB; have HB := n2_; clear n2_
 have n0_ := Aside0.mk (Kd.C_below HCL.out HS.out)
 clear HCL
 have HCL := n0_
 clear n0_
 clear HS hbc
 have h1 := HH.out
 unfold refB at h1
 clear HH
 go_upto_region 6 with fail
 by_cases c : (l.length : Int) = 1
 ·
  rw [if_pos c] at h1
  have q1 : ((l.length : Int) == 1) = true := beq_iff_eq.mpr c
  have q2 : ((l.length : Int) == 2) = false := beq_eq_false_iff_ne.mpr (by omega)
  have q3 : ((l.length : Int) == 3) = false := beq_eq_false_iff_ne.mpr (by omega)
  have q4 : ((l.length : Int) == 4) = false := beq_eq_false_iff_ne.mpr (by omega)
  have HH := Aside0.mk (Option.some.inj h1)
  clear h1
  obtain ⟨ad0, ea0, z0⟩ := Kd.at_string HCL.out 0 (by omega) (by omega)
  subst ea0
  rw [show ((0 : Int)).toNat = 0 from rfl] at z0
  rw [Addr.add_zero'] at z0
  have qi0 : (0 < l.length) = True := eq_true (by omega)
  have qj0 : (0 < (l.length : Int)) = True := eq_true (by omega)
  have HZ0 := Aside0.mk z0
  clear z0 c
  go_upto_region 9 with (first | ((with_reducible refine gate_dst (N := 22) rfl ?_); refine Kd.R_lit Kd.string _ 9 ?hg (N := 22) ?hd (xs := [(⟨#[110, 97, 109, 101, 115]⟩ : ByteArray), (⟨#[115, 121, 109, 98, 111, 108, 115]⟩ : ByteArray), (⟨#[114, 117, 108, 101, 115]⟩ : ByteArray), (⟨#[109, 101, 109, 111, 115]⟩ : ByteArray), (⟨#[106, 111, 98, 115]⟩ : ByteArray), (⟨#[118, 101, 114, 115, 105, 111, 110]⟩ : ByteArray)]) (inner := [.string (⟨#[110, 97, 109, 101, 115]⟩ : ByteArray), .string (⟨#[115, 121, 109, 98, 111, 108, 115]⟩ : ByteArray), .string (⟨#[114, 117, 108, 101, 115]⟩ : ByteArray), .string (⟨#[109, 101, 109, 111, 115]⟩ : ByteArray), .string (⟨#[106, 111, 98, 115]⟩ : ByteArray), .string (⟨#[118, 101, 114, 115, 105, 111, 110]⟩ : ByteArray)]) (ok := fun _ => True) (okp := fun _ => True) ?hr ?hp (fun _ hk => hk) trivial (Below.refl _ _) (Nat.le_refl _) (by simp) ?_; (case hd => rfl); (case hg => rfl); (case hr => first | (go_simp; done) | (go_simp; rfl)); (case hp => exact (Reps.one (show Kd.M Kd.string _ _ _ (⟨#[110, 97, 109, 101, 115]⟩ : ByteArray) [.string (⟨#[110, 97, 109, 101, 115]⟩ : ByteArray)] from rfl) (Reps.one (show Kd.M Kd.string _ _ _ (⟨#[115, 121, 109, 98, 111, 108, 115]⟩ : ByteArray) [.string (⟨#[115, 121, 109, 98, 111, 108, 115]⟩ : ByteArray)] from rfl) (Reps.one (show Kd.M Kd.string _ _ _ (⟨#[114, 117, 108, 101, 115]⟩ : ByteArray) [.string (⟨#[114, 117, 108, 101, 115]⟩ : ByteArray)] from rfl) (Reps.one (show Kd.M Kd.string _ _ _ (⟨#[109, 101, 109, 111, 115]⟩ : ByteArray) [.string (⟨#[109, 101, 109, 111, 115]⟩ : ByteArray)] from rfl) (Reps.one (show Kd.M Kd.string _ _ _ (⟨#[106, 111, 98, 115]⟩ : ByteArray) [.string (⟨#[106, 111, 98, 115]⟩ : ByteArray)] from rfl) (Reps.one (show Kd.M Kd.string _ _ _ (⟨#[118, 101, 114, 115, 105, 111, 110]⟩ : ByteArray) [.string (⟨#[118, 101, 114, 115, 105, 111, 110]⟩ : ByteArray)] from rfl) (Reps.none _ _)))))))); intro v0 w2_ ho_ hb_ hg_ hnew_; obtain ⟨An, cn, en, hcn, hCn⟩ := Kd.R_reads ho_; subst en; have HNM := Aside0.mk (show Kd.C Kd.string _ An 6 bareL from hCn); have n1_ := Aside0.mk (blk_below HR.out hb_); have n2_ := Aside0.mk (below_step HB.out hb_); have n3_ := Aside0.mk (HC.out.below hb_); have n4_ := Aside0.mk (keepB HZ0.out hb_); clear HR HB HC HZ0; have HR := n1_; have HB := n2_; have HC := n3_; have HZ0 := n4_; clear n1_ n2_ n3_ n4_; clear hb_ hg_ hnew_ ho_ hcn hCn) | ((with_reducible refine gate_dst (N := 23) rfl ?_); refine Kd.R_lit (Kd.int .i64) _ 3 ?hg (N := 23) ?hd (xs := [5, 6, 9, 12, 17, 19]) (inner := [.int .i64 5, .int .i64 6, .int .i64 9, .int .i64 12, .int .i64 17, .int .i64 19]) (ok := fun _ => True) (okp := fun _ => True) ?hr ?hp (fun _ hk => hk) trivial (Below.refl _ _) (Nat.le_refl _) (by simp) ?_; (case hd => rfl); (case hg => rfl); (case hr => first | (go_simp; done) | (go_simp; rfl)); (case hp => exact (Reps.one (show Kd.M (Kd.int .i64) _ _ _ 5 [.int .i64 5] from rfl) (Reps.one (show Kd.M (Kd.int .i64) _ _ _ 6 [.int .i64 6] from rfl) (Reps.one (show Kd.M (Kd.int .i64) _ _ _ 9 [.int .i64 9] from rfl) (Reps.one (show Kd.M (Kd.int .i64) _ _ _ 12 [.int .i64 12] from rfl) (Reps.one (show Kd.M (Kd.int .i64) _ _ _ 17 [.int .i64 17] from rfl) (Reps.one (show Kd.M (Kd.int .i64) _ _ _ 19 [.int .i64 19] from rfl) (Reps.none _ _)))))))); intro v0 w2_ ho_ hb_ hg_ hnew_; obtain ⟨Ak, ck, ek, hck, hCk⟩ := Kd.R_reads ho_; subst ek; have HKM := Aside0.mk (show Kd.C (Kd.int .i64) _ Ak 6 bareK from hCk); have n0_ := Aside0.mk (Kd.C_below HNM.out hb_); clear HNM; have HNM := n0_; clear n0_; have n1_ := Aside0.mk (blk_below HR.out hb_); have n2_ := Aside0.mk (below_step HB.out hb_); have n3_ := Aside0.mk (HC.out.below hb_); have n4_ := Aside0.mk (keepB HZ0.out hb_); clear HR HB HC HZ0; have HR := n1_; have HB := n2_; have HC := n3_; have HZ0 := n4_; clear n1_ n2_ n3_ n4_; clear hb_ hg_ hnew_ ho_ hck hCk))
  skip
  go_wp2
  go_loopg [26] 6 (fun kq v26 w' => ∃ i : Int, v26 = .int .i64 i ∧ Aside0 (0 ≤ i ∧ i + kq = 6) ∧ Aside0 (bareF (rdW l 0) ((bareL.zip bareK).drop i.toNat) = (x, e)) ∧ Aside0 (Below w2_.heap.size w2_ w'))
  case atStart => exact ⟨0, rfl, ⟨by omega⟩, HH, ⟨Below.refl _ _⟩⟩
  case round =>
   obtain ⟨i, rfl, HI, HL, HX⟩ := hrel
   have n1_ := Aside0.mk (blk_below HR.out HX.out)
   have n2_ := Aside0.mk (below_step HB.out HX.out)
   clear HR HB
   have HR := n1_
   have HB := n2_
   have z0 := keepB HZ0.out HX.out
   clear n1_ n2_
   cases gk with
   | zero =>
    have hi : i = 6 := by have := HI.out; omega
    subst hi
    have hl := HL.out
    obtain ⟨rfl, rfl⟩ := Prod.mk.inj (show ((dr0 0, 12) : Dr × Int) = (x, e) from hl)
    have p3 : decide ((6 : Int) < 6) = false := decide_eq_false (by omega)
    clear hl z0
    obtain ⟨y0, y1, y2, y3, y4, y5, y6, y7, y8⟩ := at9 HR.out
    obtain ⟨g0, g1, g2, g3, g4, g5, g6, g7, g8⟩ := fz9 HR.out
    go_wp2
    exact endR rfl rfl rfl HR.out ⟨_, rfl, cmdV_zero _ _, set9_below HB.out HLE.out _ _ _ _ _ _ _ _ _⟩
   | succ k1 =>
    have hi : 0 ≤ i ∧ i < 6 := by have := HI.out; omega
    have p1 : (0 ≤ i) = True := eq_true hi.1
    have p2 : (i < 6) = True := eq_true hi.2
    have p3 : decide (i < 6) = true := decide_eq_true hi.2
    obtain ⟨an, en, z1⟩ := Kd.at_string (Kd.C_below HNM.out HX.out) i hi.1 hi.2
    subst en
    obtain ⟨ak, ek, z2⟩ := Kd.at_int (Kd.C_below HKM.out HX.out) i hi.1 hi.2
    subst ek
    have hl := HL.out
    rw [bareF_step _ i hi.1 hi.2] at hl
    have HZ2 := Aside0.mk z2
    clear z2 hi HL
    by_cases c : (rdOf ByteArray.empty l 0).toList = (rdOf ByteArray.empty bareL i).toList
    ·
     have g1 : ((rdOf ByteArray.empty l 0).toList == (rdOf ByteArray.empty bareL i).toList) = true := beq_iff_eq.mpr c
     rw [if_pos c] at hl
     obtain ⟨rfl, rfl⟩ := Prod.mk.inj hl
     clear hl c
     go_wp2
     go_quiet (fail)
     have z2 := HZ2.out
     skip
     obtain ⟨y0, y1, y2, y3, y4, y5, y6, y7, y8⟩ := at9 HR.out
     obtain ⟨g0, g1, g2, g3, g4, g5, g6, g7, g8⟩ := fz9 HR.out
     go_wp2
     exact endR rfl rfl rfl HR.out ⟨_, rfl, cmdV_kd _ _ _, set9_below (pw_below_drewN HB.out _) HLE.out _ _ _ _ _ _ _ _ _⟩
    ·
     have g1 : ((rdOf ByteArray.empty l 0).toList == (rdOf ByteArray.empty bareL i).toList) = false := beq_eq_false_iff_ne.mpr c
     rw [if_neg c] at hl
     have HL2 := Aside0.mk hl
     clear hl c
     go_wp2
     go_quiet (fail)
     go_wp2
     go_roundg k1
     case measure => omega
     case rel => exact ⟨i + 1, by have e_ : wrap64 (i + 1) = i + 1 := (by have := HI.out; unfold wrap64; omega); first | rfl | rw [e_] | (simp [e_]; done), ⟨by have := HI.out; omega⟩, HL2, ⟨pw_below_drewN HX.out _⟩⟩
 rw [if_neg c] at h1
 have n0 := c
 clear c
 by_cases c : (l.length : Int) = 2
 ·
  rw [if_pos c] at h1
  have q1 : ((l.length : Int) == 1) = false := beq_eq_false_iff_ne.mpr (by omega)
  have q2 : ((l.length : Int) == 2) = true := beq_iff_eq.mpr c
  have q3 : ((l.length : Int) == 3) = false := beq_eq_false_iff_ne.mpr (by omega)
  have q4 : ((l.length : Int) == 4) = false := beq_eq_false_iff_ne.mpr (by omega)
  obtain ⟨⟨p1, p2⟩, hp, h1⟩ := bindS h1
  have HP := Aside0.mk hp
  have HH := Aside0.mk h1
  clear h1 hp n0
  obtain ⟨ad0, ea0, z0⟩ := Kd.at_string HCL.out 0 (by omega) (by omega)
  subst ea0
  rw [show ((0 : Int)).toNat = 0 from rfl] at z0
  rw [Addr.add_zero'] at z0
  have qi0 : (0 < l.length) = True := eq_true (by omega)
  have qj0 : (0 < (l.length : Int)) = True := eq_true (by omega)
  obtain ⟨ad1, ea1, z1⟩ := Kd.at_string HCL.out 1 (by omega) (by omega)
  obtain rfl : ad0 = ad1 := by injection ea1
  simp only [show (1 : Int).toNat = 1 from rfl, Nat.reduceMul, Nat.reduceEqDiff, Go.Addr.add, ↓reduceIte] at z1
  have qi1 : (1 < l.length) = True := eq_true (by omega)
  have qj1 : (1 < (l.length : Int)) = True := eq_true (by omega)
  clear c
  go_upto_region 16 with fail
  have HZB := Aside0.mk (show ad0.block ≠ bc from HCB.out ad0 rfl (by have := of_eq_true qi0; omega))
  have C1 := fun W' : World => one_calls (k := k) (W := W') HP.out
  go_region_held3 (fun w' => w'.cell? ad0 = some (.string (rdW l 0)) ∧ w'.cell? ⟨ad0.block, ad0.off + 1, none⟩ = some (.string (rdW l 1))) (first | with_reducible exact ⟨z0, z1⟩ | with_reducible exact ⟨keep9 _ _ _ _ _ _ _ _ _ z0 HZB.out, keep9 _ _ _ _ _ _ _ _ _ z1 HZB.out⟩ | exact ⟨z0, z1⟩) (first | (go_at_call 20; (with_reducible refine (C1 _).mono ?_); rintro ez W3 ⟨v, rfl, hv_, hb_⟩; obtain ⟨v5, v7, v8, rfl, k5, k7, k8⟩ := hv_; obtain ⟨A5, c5, e5⟩ := Kd.R_slice k5; obtain ⟨A7, c7, e7⟩ := Kd.R_slice k7; obtain ⟨A8, c8, e8⟩ := Kd.R_slice k8; subst e5; subst e7; subst e8; have HS := Aside0.mk (below_step (show Below W2.heap.size W2 _ from (by repeat (first | exact Below.refl _ _ | apply pw_below_drewN | apply below_drew1 | apply below_drew))) hb_); have HK := Aside0.mk (And.intro k5 (And.intro k7 k8)); clear hb_ k5 k7 k8; have z0 := keepB z0 HS.out; have z1 := keepB z1 HS.out; have HBK := Aside0.mk (blk_below HC.out.blk HS.out); obtain ⟨x0, x1, x2, x3, x4, x5, x6, x7, x8⟩ := at9 HBK.out; obtain ⟨f0, f1, f2, f3, f4, f5, f6, f7, f8⟩ := fz9 HBK.out))
  have n3_ := Aside0.mk (CmV.of (x := p1) HBK.out (Nat.succ_le_of_lt (blk_lt HC.out.blk)) HK.out.1 HK.out.2.1 HK.out.2.2)
  have n1_ := Aside0.mk ((set9_off (.int .i64 p1.kd) (.string p1.nm) (.int .i64 p1.n) (.int .i64 p1.id) (.bool p1.on) (.slice A5 p1.tm.length c5) (.int .i64 p1.rid) (.slice A7 p1.lf.length c7) (.slice A8 p1.rt.length c8) br HNE.out).trans (blk_below HR.out HS.out))
  have n2_ := Aside0.mk (set9_below (below_step HB.out HS.out) HLB.out.2.2 (.int .i64 p1.kd) (.string p1.nm) (.int .i64 p1.n) (.int .i64 p1.id) (.bool p1.on) (.slice A5 p1.tm.length c5) (.int .i64 p1.rid) (.slice A7 p1.lf.length c7) (.slice A8 p1.rt.length c8))
  go_upto_region 17 with fail
  change Code.wp _ _ _ _ (((((((((W3.setCell ⟨bc, 0, none⟩ (.int .i64 p1.kd)).setCell ⟨bc, 1, none⟩ (.string p1.nm)).setCell ⟨bc, 2, none⟩ (.int .i64 p1.n)).setCell ⟨bc, 3, none⟩ (.int .i64 p1.id)).setCell ⟨bc, 4, none⟩ (.bool p1.on)).setCell ⟨bc, 5, none⟩ (.slice A5 p1.tm.length c5)).setCell ⟨bc, 6, none⟩ (.int .i64 p1.rid)).setCell ⟨bc, 7, none⟩ (.slice A7 p1.lf.length c7)).setCell ⟨bc, 8, none⟩ (.slice A8 p1.rt.length c8))
  generalize (((((((((W3.setCell ⟨bc, 0, none⟩ (.int .i64 p1.kd)).setCell ⟨bc, 1, none⟩ (.string p1.nm)).setCell ⟨bc, 2, none⟩ (.int .i64 p1.n)).setCell ⟨bc, 3, none⟩ (.int .i64 p1.id)).setCell ⟨bc, 4, none⟩ (.bool p1.on)).setCell ⟨bc, 5, none⟩ (.slice A5 p1.tm.length c5)).setCell ⟨bc, 6, none⟩ (.int .i64 p1.rid)).setCell ⟨bc, 7, none⟩ (.slice A7 p1.lf.length c7)).setCell ⟨bc, 8, none⟩ (.slice A8 p1.rt.length c8)) = W4 at n1_ n2_ n3_ ⊢
  clear HBK C1 HK HS x0 f0 x1 f1 x2 f2 x3 f3 x4 f4 x5 f5 x6 f6 x7 f7 x8 f8 z0 z1
  clear HR; have HR := n1_; clear n1_
  clear HB; have HB := n2_; clear n2_
  clear HC; have HC := n3_; clear n3_
  have h1 := HH.out
  clear HH HP
  have h1 : (if p2 = 0 then some ((p1 : Dr), (0 : Int)) else some (dr0 0, p2)) = some (x, e) := h1
  by_cases ce : p2 = 0
  ·
   have d1 : (p2 != 0) = false := bne_eq_false_iff_eq.mpr ce
   rw [if_pos ce] at h1
   obtain ⟨rfl, rfl⟩ := Prod.mk.inj (Option.some.inj h1)
   clear ce h1
   obtain ⟨x0, x1, x2, x3, x4, x5, x6, x7, x8⟩ := at9 HC.out.blk
   obtain ⟨f0, f1, f2, f3, f4, f5, f6, f7, f8⟩ := fz9 HC.out.blk
   obtain ⟨y0, y1, y2, y3, y4, y5, y6, y7, y8⟩ := at9 HR.out
   obtain ⟨g0, g1, g2, g3, g4, g5, g6, g7, g8⟩ := fz9 HR.out
   go_wp2
   exact endR rfl rfl rfl HR.out (fin9 HC.out HB.out HLB.out HLE.out)
  ·
   have d1 : (p2 != 0) = true := bne_iff_ne.mpr ce
   rw [if_neg ce] at h1
   obtain ⟨rfl, rfl⟩ := Prod.mk.inj (Option.some.inj h1)
   clear ce h1
   obtain ⟨y0, y1, y2, y3, y4, y5, y6, y7, y8⟩ := at9 HR.out
   obtain ⟨g0, g1, g2, g3, g4, g5, g6, g7, g8⟩ := fz9 HR.out
   go_wp2
   exact endR rfl rfl rfl HR.out ⟨_, rfl, cmdV_zero _ _, set9_below HB.out HLE.out _ _ _ _ _ _ _ _ _⟩
 rw [if_neg c] at h1
 have n1 := c
 clear c
 by_cases c : (l.length : Int) = 3
 ·
  rw [if_pos c] at h1
  have q1 : ((l.length : Int) == 1) = false := beq_eq_false_iff_ne.mpr (by omega)
  have q2 : ((l.length : Int) == 2) = false := beq_eq_false_iff_ne.mpr (by omega)
  have q3 : ((l.length : Int) == 3) = true := beq_iff_eq.mpr c
  have q4 : ((l.length : Int) == 4) = false := beq_eq_false_iff_ne.mpr (by omega)
  obtain ⟨⟨p1, p2⟩, hp, h1⟩ := bindS h1
  have HP := Aside0.mk hp
  have HH := Aside0.mk h1
  clear h1 hp n0 n1
  obtain ⟨ad0, ea0, z0⟩ := Kd.at_string HCL.out 0 (by omega) (by omega)
  subst ea0
  rw [show ((0 : Int)).toNat = 0 from rfl] at z0
  rw [Addr.add_zero'] at z0
  have qi0 : (0 < l.length) = True := eq_true (by omega)
  have qj0 : (0 < (l.length : Int)) = True := eq_true (by omega)
  obtain ⟨ad1, ea1, z1⟩ := Kd.at_string HCL.out 1 (by omega) (by omega)
  obtain rfl : ad0 = ad1 := by injection ea1
  simp only [show (1 : Int).toNat = 1 from rfl, Nat.reduceMul, Nat.reduceEqDiff, Go.Addr.add, ↓reduceIte] at z1
  have qi1 : (1 < l.length) = True := eq_true (by omega)
  have qj1 : (1 < (l.length : Int)) = True := eq_true (by omega)
  obtain ⟨ad2, ea2, z2⟩ := Kd.at_string HCL.out 2 (by omega) (by omega)
  obtain rfl : ad0 = ad2 := by injection ea2
  simp only [show (2 : Int).toNat = 2 from rfl, Nat.reduceMul, Nat.reduceEqDiff, Go.Addr.add, ↓reduceIte] at z2
  have qi2 : (2 < l.length) = True := eq_true (by omega)
  have qj2 : (2 < (l.length : Int)) = True := eq_true (by omega)
  clear c
  go_upto_region 18 with fail
  have HZB := Aside0.mk (show ad0.block ≠ bc from HCB.out ad0 rfl (by have := of_eq_true qi0; omega))
  have C1 := fun W' : World => two_calls (k := k) (W := W') HP.out
  go_region_held3 (fun w' => w'.cell? ad0 = some (.string (rdW l 0)) ∧ w'.cell? ⟨ad0.block, ad0.off + 1, none⟩ = some (.string (rdW l 1)) ∧ w'.cell? ⟨ad0.block, ad0.off + 2, none⟩ = some (.string (rdW l 2))) (first | with_reducible exact ⟨z0, z1, z2⟩ | with_reducible exact ⟨keep9 _ _ _ _ _ _ _ _ _ z0 HZB.out, keep9 _ _ _ _ _ _ _ _ _ z1 HZB.out, keep9 _ _ _ _ _ _ _ _ _ z2 HZB.out⟩ | exact ⟨z0, z1, z2⟩) (first | (go_at_call 21; (with_reducible refine (C1 _).mono ?_); rintro ez W3 ⟨v, rfl, hv_, hb_⟩; obtain ⟨v5, v7, v8, rfl, k5, k7, k8⟩ := hv_; obtain ⟨A5, c5, e5⟩ := Kd.R_slice k5; obtain ⟨A7, c7, e7⟩ := Kd.R_slice k7; obtain ⟨A8, c8, e8⟩ := Kd.R_slice k8; subst e5; subst e7; subst e8; have HS := Aside0.mk (below_step (show Below W2.heap.size W2 _ from (by repeat (first | exact Below.refl _ _ | apply pw_below_drewN | apply below_drew1 | apply below_drew))) hb_); have HK := Aside0.mk (And.intro k5 (And.intro k7 k8)); clear hb_ k5 k7 k8; have z0 := keepB z0 HS.out; have z1 := keepB z1 HS.out; have z2 := keepB z2 HS.out; have HBK := Aside0.mk (blk_below HC.out.blk HS.out); obtain ⟨x0, x1, x2, x3, x4, x5, x6, x7, x8⟩ := at9 HBK.out; obtain ⟨f0, f1, f2, f3, f4, f5, f6, f7, f8⟩ := fz9 HBK.out))
  have n3_ := Aside0.mk (CmV.of (x := p1) HBK.out (Nat.succ_le_of_lt (blk_lt HC.out.blk)) HK.out.1 HK.out.2.1 HK.out.2.2)
  have n1_ := Aside0.mk ((set9_off (.int .i64 p1.kd) (.string p1.nm) (.int .i64 p1.n) (.int .i64 p1.id) (.bool p1.on) (.slice A5 p1.tm.length c5) (.int .i64 p1.rid) (.slice A7 p1.lf.length c7) (.slice A8 p1.rt.length c8) br HNE.out).trans (blk_below HR.out HS.out))
  have n2_ := Aside0.mk (set9_below (below_step HB.out HS.out) HLB.out.2.2 (.int .i64 p1.kd) (.string p1.nm) (.int .i64 p1.n) (.int .i64 p1.id) (.bool p1.on) (.slice A5 p1.tm.length c5) (.int .i64 p1.rid) (.slice A7 p1.lf.length c7) (.slice A8 p1.rt.length c8))
  go_upto_region 19 with fail
  change Code.wp _ _ _ _ (((((((((W3.setCell ⟨bc, 0, none⟩ (.int .i64 p1.kd)).setCell ⟨bc, 1, none⟩ (.string p1.nm)).setCell ⟨bc, 2, none⟩ (.int .i64 p1.n)).setCell ⟨bc, 3, none⟩ (.int .i64 p1.id)).setCell ⟨bc, 4, none⟩ (.bool p1.on)).setCell ⟨bc, 5, none⟩ (.slice A5 p1.tm.length c5)).setCell ⟨bc, 6, none⟩ (.int .i64 p1.rid)).setCell ⟨bc, 7, none⟩ (.slice A7 p1.lf.length c7)).setCell ⟨bc, 8, none⟩ (.slice A8 p1.rt.length c8))
  generalize (((((((((W3.setCell ⟨bc, 0, none⟩ (.int .i64 p1.kd)).setCell ⟨bc, 1, none⟩ (.string p1.nm)).setCell ⟨bc, 2, none⟩ (.int .i64 p1.n)).setCell ⟨bc, 3, none⟩ (.int .i64 p1.id)).setCell ⟨bc, 4, none⟩ (.bool p1.on)).setCell ⟨bc, 5, none⟩ (.slice A5 p1.tm.length c5)).setCell ⟨bc, 6, none⟩ (.int .i64 p1.rid)).setCell ⟨bc, 7, none⟩ (.slice A7 p1.lf.length c7)).setCell ⟨bc, 8, none⟩ (.slice A8 p1.rt.length c8)) = W4 at n1_ n2_ n3_ ⊢
  clear HBK C1 HK HS x0 f0 x1 f1 x2 f2 x3 f3 x4 f4 x5 f5 x6 f6 x7 f7 x8 f8 z0 z1 z2
  clear HR; have HR := n1_; clear n1_
  clear HB; have HB := n2_; clear n2_
  clear HC; have HC := n3_; clear n3_
  have h1 := HH.out
  clear HH HP
  have h1 : (if p2 = 0 then some ((p1 : Dr), (0 : Int)) else some (dr0 0, p2)) = some (x, e) := h1
  by_cases ce : p2 = 0
  ·
   have d1 : (p2 != 0) = false := bne_eq_false_iff_eq.mpr ce
   rw [if_pos ce] at h1
   obtain ⟨rfl, rfl⟩ := Prod.mk.inj (Option.some.inj h1)
   clear ce h1
   obtain ⟨x0, x1, x2, x3, x4, x5, x6, x7, x8⟩ := at9 HC.out.blk
   obtain ⟨f0, f1, f2, f3, f4, f5, f6, f7, f8⟩ := fz9 HC.out.blk
   obtain ⟨y0, y1, y2, y3, y4, y5, y6, y7, y8⟩ := at9 HR.out
   obtain ⟨g0, g1, g2, g3, g4, g5, g6, g7, g8⟩ := fz9 HR.out
   go_wp2
   exact endR rfl rfl rfl HR.out (fin9 HC.out HB.out HLB.out HLE.out)
  ·
   have d1 : (p2 != 0) = true := bne_iff_ne.mpr ce
   rw [if_neg ce] at h1
   obtain ⟨rfl, rfl⟩ := Prod.mk.inj (Option.some.inj h1)
   clear ce h1
   obtain ⟨y0, y1, y2, y3, y4, y5, y6, y7, y8⟩ := at9 HR.out
   obtain ⟨g0, g1, g2, g3, g4, g5, g6, g7, g8⟩ := fz9 HR.out
   go_wp2
   exact endR rfl rfl rfl HR.out ⟨_, rfl, cmdV_zero _ _, set9_below HB.out HLE.out _ _ _ _ _ _ _ _ _⟩
 rw [if_neg c] at h1
 have n2 := c
 clear c
 by_cases c : (l.length : Int) = 4
 ·
  rw [if_pos c] at h1
  have q1 : ((l.length : Int) == 1) = false := beq_eq_false_iff_ne.mpr (by omega)
  have q2 : ((l.length : Int) == 2) = false := beq_eq_false_iff_ne.mpr (by omega)
  have q3 : ((l.length : Int) == 3) = false := beq_eq_false_iff_ne.mpr (by omega)
  have q4 : ((l.length : Int) == 4) = true := beq_iff_eq.mpr c
  clear n0 n1 n2
  obtain ⟨ad0, ea0, z0⟩ := Kd.at_string HCL.out 0 (by omega) (by omega)
  subst ea0
  rw [show ((0 : Int)).toNat = 0 from rfl] at z0
  rw [Addr.add_zero'] at z0
  have qi0 : (0 < l.length) = True := eq_true (by omega)
  have qj0 : (0 < (l.length : Int)) = True := eq_true (by omega)
  obtain ⟨ad1, ea1, z1⟩ := Kd.at_string HCL.out 1 (by omega) (by omega)
  obtain rfl : ad0 = ad1 := by injection ea1
  simp only [show (1 : Int).toNat = 1 from rfl, Nat.reduceMul, Nat.reduceEqDiff, Go.Addr.add, ↓reduceIte] at z1
  have qi1 : (1 < l.length) = True := eq_true (by omega)
  have qj1 : (1 < (l.length : Int)) = True := eq_true (by omega)
  obtain ⟨ad2, ea2, z2⟩ := Kd.at_string HCL.out 2 (by omega) (by omega)
  obtain rfl : ad0 = ad2 := by injection ea2
  simp only [show (2 : Int).toNat = 2 from rfl, Nat.reduceMul, Nat.reduceEqDiff, Go.Addr.add, ↓reduceIte] at z2
  have qi2 : (2 < l.length) = True := eq_true (by omega)
  have qj2 : (2 < (l.length : Int)) = True := eq_true (by omega)
  obtain ⟨ad3, ea3, z3⟩ := Kd.at_string HCL.out 3 (by omega) (by omega)
  obtain rfl : ad0 = ad3 := by injection ea3
  simp only [show (3 : Int).toNat = 3 from rfl, Nat.reduceMul, Nat.reduceEqDiff, Go.Addr.add, ↓reduceIte] at z3
  have qi3 : (3 < l.length) = True := eq_true (by omega)
  have qj3 : (3 < (l.length : Int)) = True := eq_true (by omega)
  have HHC := Aside0.mk c
  clear c
  by_cases c4 : (rdW l 0).toList = [114, 117, 108, 101]
  ·
   rw [if_pos c4] at h1
   have g4 : ((rdW l 0).toList == ([114, 117, 108, 101] : List UInt8)) = true := beq_iff_eq.mpr c4
   clear c4
   by_cases c5 : (rdW l 2).toList = [45, 62]
   ·
    rw [if_pos c5] at h1
    have g5 : ((rdW l 2).toList == ([45, 62] : List UInt8)) = true := beq_iff_eq.mpr c5
    clear c5
    obtain ⟨⟨p1, p2⟩, hp, h1⟩ := bindS h1
    obtain ⟨⟨r1, r2, r3, r4⟩, hr, hp⟩ := bindS hp
    obtain ⟨rfl, rfl⟩ := Prod.mk.inj (Option.some.inj hp)
    have HP := Aside0.mk hr
    have HH := Aside0.mk h1
    clear h1 hp hr
    have HZB := Aside0.mk (show ad0.block ≠ bc from HCB.out ad0 rfl (by have := of_eq_true qi0; omega))
    have x0 := (blk_cell HC.out.blk 0).trans rfl; have f0 := blk_frozen HC.out.blk 0
    go_upto_region 21 with fail
    clear x0 f0
    change Code.wp _ _ _ _ (W2.setCell ⟨bc, 0, none⟩ (.int .i64 7))
    have n_ := put9 (i := 0) (u := .int .i64 7) (y := dr0 7) HC.out HR.out HB.out HNE.out HLB.out.2.2 rfl rfl rfl rfl
    have z1 := (cell_heap (a := ⟨ad0.block, ad0.off + 1, none⟩) (Below.heap_setCell W2 ⟨bc, 0, none⟩ (.int .i64 7) _ HZB.out)).trans z1
    have z3 := (cell_heap (a := ⟨ad0.block, ad0.off + 3, none⟩) (Below.heap_setCell W2 ⟨bc, 0, none⟩ (.int .i64 7) _ HZB.out)).trans z3
    generalize (W2.setCell ⟨bc, 0, none⟩ (.int .i64 7)) = W3 at n_ z1 z3 ⊢
    clear HC HR HB; have HC := Aside0.mk n_.1; have HR := Aside0.mk n_.2.1; have HB := Aside0.mk n_.2.2; clear n_
    have HZW := Aside0.mk (show ad0.block ≠ W3.heap.size from Nat.ne_of_lt (World.block_lt_of_cell? _ ⟨ad0.block, ad0.off + 1, none⟩ z1))
    have C1 := fun W' : World => aumbryref06_Parse.calls k (rdW l 1) (rdW l 3) r1 r2 r3 r4 W' HP.out
    go_region_held3 (fun w' => w'.cell? ⟨ad0.block, ad0.off + 1, none⟩ = some (.string (rdW l 1)) ∧ w'.cell? ⟨ad0.block, ad0.off + 3, none⟩ = some (.string (rdW l 3))) (first | with_reducible exact ⟨z1, z3⟩ | with_reducible exact ⟨keepB z1 (below_alloc (Below.refl _ _) _), keepB z3 (below_alloc (Below.refl _ _) _)⟩ | with_reducible exact ⟨keepB z1 (below_drew (below_alloc (Below.refl _ _) _)), keepB z3 (below_drew (below_alloc (Below.refl _ _) _))⟩ | with_reducible exact ⟨keep3 _ _ _ z1 HZW.out, keep3 _ _ _ z3 HZW.out⟩ | exact ⟨z1, z3⟩) (first | (go_at_call 22; (with_reducible refine (C1 _).mono ?_); rintro ez W4 ⟨v1, v2, rfl, hL_, hR_, hb_⟩; obtain ⟨A1, c1, e1⟩ := Kd.R_slice hL_; obtain ⟨A2, c2, e2⟩ := Kd.R_slice hR_; subst e1; subst e2; have HS := Aside0.mk (below_step (show Below W3.heap.size W3 _ from (by repeat (first | exact Below.refl _ _ | apply below_alloc | apply pw_below_drewN | apply below_drew1 | apply below_drew))) hb_); have z1 := keepB z1 HS.out; have z3 := keepB z3 HS.out; have HK := Aside0.mk (And.intro hL_ hR_); clear hL_ hR_; have HA1 := Aside0.mk (blk_below (show (W3.alloc (.cells #[.int .i64 0, .slice none 0 0, .slice none 0 0] 26)).drew.heap[W3.heap.size]? = some (.cells #[.int .i64 0, .slice none 0 0, .slice none 0 0] 26 (0, 0)) from heap_alloc_new W3 (.cells #[.int .i64 0, .slice none 0 0, .slice none 0 0] 26)) hb_); have xa0 := (blk_cell HA1.out 0).trans rfl; have fa0 := blk_frozen HA1.out 0; have xa1 := (blk_cell HA1.out 1).trans rfl; have fa1 := blk_frozen HA1.out 1; have xa2 := (blk_cell HA1.out 2).trans rfl; have fa2 := blk_frozen HA1.out 2; clear hb_) | (go_at_call 22; (with_reducible refine (C1 _).mono ?_); rintro ez W4 ⟨v1, v2, rfl, hL_, hR_, hb_⟩; obtain ⟨A1, c1, e1⟩ := Kd.R_slice hL_; obtain ⟨A2, c2, e2⟩ := Kd.R_slice hR_; subst e1; subst e2; have HS := Aside0.mk (below_step (show Below W3.heap.size W3 _ from (by repeat (first | exact Below.refl _ _ | apply below_alloc | apply pw_below_drewN | apply below_drew1 | apply below_drew))) hb_); have z1 := keepB z1 HS.out; have z3 := keepB z3 HS.out; have HK := Aside0.mk (And.intro hL_ hR_); clear hL_ hR_; have HA1 := heap_alloc_new W4 (.cells #[.int .i64 0, .slice none 0 0, .slice none 0 0] 26); have xa0 := (blk_cell HA1 0).trans rfl; have fa0 := blk_frozen HA1 0; have xa1 := (blk_cell HA1 1).trans rfl; have fa1 := blk_frozen HA1 1; have xa2 := (blk_cell HA1 2).trans rfl; have fa2 := blk_frozen HA1 2; clear HA1; clear hb_))
    all_goals go_upto_region 22 with fail
    clear xa0 fa0 xa1 fa1 xa2 fa2 z0 z1 z2 z3 C1
    have HBX := Aside0.mk (heap_alloc_new W4 (.cells #[.int .i64 r1, .slice A1 r2.length c1, .slice A2 r3.length c2] 26))
    have H5 := Aside0.mk (below_alloc HS.out (.cells #[.int .i64 r1, .slice A1 r2.length c1, .slice A2 r3.length c2] 26))
    have HL5 := Aside0.mk (show Kd.R k48 48 _ W3.heap.size _ _ _ from Kd.R_below HK.out.1 (below_alloc (Below.refl _ _) (.cells #[.int .i64 r1, .slice A1 r2.length c1, .slice A2 r3.length c2] 26)))
    have HR5 := Aside0.mk (show Kd.R k48 48 _ W3.heap.size _ _ _ from Kd.R_below HK.out.2 (below_alloc (Below.refl _ _) (.cells #[.int .i64 r1, .slice A1 r2.length c1, .slice A2 r3.length c2] 26)))
    change Code.wp _ _ _ _ (W4.alloc (.cells #[.int .i64 r1, .slice A1 r2.length c1, .slice A2 r3.length c2] 26))
    generalize (W4.alloc (.cells #[.int .i64 r1, .slice A1 r2.length c1, .slice A2 r3.length c2] 26)) = W5 at HBX H5 HL5 HR5 ⊢
    obtain ⟨gb, hgb⟩ : ∃ n, n = W4.heap.size := ⟨_, rfl⟩
    rw [← hgb] at HBX ⊢
    clear hgb
    rotate_left
    clear xa0 fa0 xa1 fa1 xa2 fa2 z0 z1 z2 z3 C1
    have hl_ := blk_lt (heap_alloc_new W3 (.cells #[.int .i64 0, .slice none 0 0, .slice none 0 0] 26))
    have HBX := Aside0.mk (set3_blk HA1.out (.int .i64 r1) (.slice A1 r2.length c1) (.slice A2 r3.length c2))
    have H5 := Aside0.mk (below_set (below_set (below_set (j := 0) (v := .int .i64 r1) HS.out (Nat.le_refl _)) (Nat.le_refl _) (j := 1) (v := .slice A1 r2.length c1)) (Nat.le_refl _) (j := 2) (v := .slice A2 r3.length c2))
    have HL5 := Aside0.mk (Kd.R_lower (R_set3 (.int .i64 r1) (.slice A1 r2.length c1) (.slice A2 r3.length c2) HK.out.1 (show W3.heap.size < _ from hl_)) (show W3.heap.size ≤ _ from Nat.le_of_lt hl_))
    have HR5 := Aside0.mk (Kd.R_lower (R_set3 (.int .i64 r1) (.slice A1 r2.length c1) (.slice A2 r3.length c2) HK.out.2 (show W3.heap.size < _ from hl_)) (show W3.heap.size ≤ _ from Nat.le_of_lt hl_))
    clear hl_ HA1
    change Code.wp _ _ _ _ (((W4.setCell ⟨W3.heap.size, 0, none⟩ (.int .i64 r1)).setCell ⟨W3.heap.size, 1, none⟩ (.slice A1 r2.length c1)).setCell ⟨W3.heap.size, 2, none⟩ (.slice A2 r3.length c2))
    generalize (((W4.setCell ⟨W3.heap.size, 0, none⟩ (.int .i64 r1)).setCell ⟨W3.heap.size, 1, none⟩ (.slice A1 r2.length c1)).setCell ⟨W3.heap.size, 2, none⟩ (.slice A2 r3.length c2)) = W5 at HBX H5 HL5 HR5 ⊢
    obtain ⟨gb, hgb⟩ : ∃ n, n = W3.heap.size := ⟨_, rfl⟩
    rw [← hgb] at HBX ⊢
    clear hgb
    all_goals
     have xa0 := (blk_cell HBX.out 0).trans rfl; have xa1 := (blk_cell HBX.out 1).trans rfl; have xa2 := (blk_cell HBX.out 2).trans rfl
     have HBK := Aside0.mk (blk_below HC.out.blk H5.out)
     have x6 := (blk_cell HBK.out 6).trans rfl; have f6 := blk_frozen HBK.out 6; have x7 := (blk_cell HBK.out 7).trans rfl; have f7 := blk_frozen HBK.out 7; have x8 := (blk_cell HBK.out 8).trans rfl; have f8 := blk_frozen HBK.out 8
     go_upto_region 23 with fail
     clear xa0 xa1 xa2 x6 f6 x7 f7 x8 f8 HBK HBX
     change Code.wp _ _ _ _ (((W5.setCell ⟨bc, 6, none⟩ (.int .i64 r1)).setCell ⟨bc, 7, none⟩ (.slice A1 r2.length c1)).setCell ⟨bc, 8, none⟩ (.slice A2 r3.length c2))
     have n3_ := Aside0.mk (HC.out.putR (i := r1) H5.out HL5.out HR5.out)
     have n1_ := Aside0.mk (blk_far (blk_far (blk_far (blk_below HR.out H5.out) (p := ⟨bc, 6, none⟩) HNE.out (.int .i64 r1)) (p := ⟨bc, 7, none⟩) HNE.out (.slice A1 r2.length c1)) (p := ⟨bc, 8, none⟩) HNE.out (.slice A2 r3.length c2))
     have n2_ := Aside0.mk ((((below_step HB.out H5.out).setCell (p := ⟨bc, 6, none⟩) HLB.out.2.2 (.int .i64 r1)).setCell (p := ⟨bc, 7, none⟩) HLB.out.2.2 (.slice A1 r2.length c1)).setCell (p := ⟨bc, 8, none⟩) HLB.out.2.2 (.slice A2 r3.length c2))
     generalize (((W5.setCell ⟨bc, 6, none⟩ (.int .i64 r1)).setCell ⟨bc, 7, none⟩ (.slice A1 r2.length c1)).setCell ⟨bc, 8, none⟩ (.slice A2 r3.length c2)) = W6 at n1_ n2_ n3_ ⊢
     clear HR; have HR := n1_; clear n1_
     clear HB; have HB := n2_; clear n2_
     clear HC; have HC := n3_; clear n3_
     clear H5 HL5 HR5 HS HK HP
     have h1 := HH.out
     clear HH
     have h1 : (if r4 = 0 then some (({ dr0 7 with rid := r1, lf := r2, rt := r3 } : Dr), (0 : Int)) else some (dr0 0, r4)) = some (x, e) := h1
     by_cases ce : r4 = 0
     ·
      have d1 : (r4 != 0) = false := bne_eq_false_iff_eq.mpr ce
      rw [if_pos ce] at h1
      obtain ⟨rfl, rfl⟩ := Prod.mk.inj (Option.some.inj h1)
      clear ce h1
      obtain ⟨x0, x1, x2, x3, x4, x5, x6, x7, x8⟩ := at9 HC.out.blk
      obtain ⟨f0, f1, f2, f3, f4, f5, f6, f7, f8⟩ := fz9 HC.out.blk
      obtain ⟨y0, y1, y2, y3, y4, y5, y6, y7, y8⟩ := at9 HR.out
      obtain ⟨g0, g1, g2, g3, g4, g5, g6, g7, g8⟩ := fz9 HR.out
      go_wp2
      exact endR rfl rfl rfl HR.out (fin9 HC.out HB.out HLB.out HLE.out)
     ·
      have d1 : (r4 != 0) = true := bne_iff_ne.mpr ce
      rw [if_neg ce] at h1
      obtain ⟨rfl, rfl⟩ := Prod.mk.inj (Option.some.inj h1)
      clear ce h1
      obtain ⟨y0, y1, y2, y3, y4, y5, y6, y7, y8⟩ := at9 HR.out
      obtain ⟨g0, g1, g2, g3, g4, g5, g6, g7, g8⟩ := fz9 HR.out
      go_wp2
      exact endR rfl rfl rfl HR.out ⟨_, rfl, cmdV_zero _ _, set9_below HB.out HLE.out _ _ _ _ _ _ _ _ _⟩
   ·
    rw [if_neg c5] at h1
    have g5 : ((rdW l 2).toList == ([45, 62] : List UInt8)) = false := beq_eq_false_iff_ne.mpr c5
    clear c5
    obtain ⟨rfl, rfl⟩ := Prod.mk.inj (Option.some.inj h1)
    clear h1
    go_upto_region 24 with fail
    obtain ⟨y0, y1, y2, y3, y4, y5, y6, y7, y8⟩ := at9 HR.out
    obtain ⟨g0, g1, g2, g3, g4, g5, g6, g7, g8⟩ := fz9 HR.out
    go_wp2
    exact endR rfl rfl rfl HR.out ⟨_, rfl, cmdV_zero _ _, set9_below HB.out HLE.out _ _ _ _ _ _ _ _ _⟩
  ·
   rw [if_neg c4] at h1
   have g4 : ((rdW l 0).toList == ([114, 117, 108, 101] : List UInt8)) = false := beq_eq_false_iff_ne.mpr c4
   clear c4
   obtain ⟨rfl, rfl⟩ := Prod.mk.inj (Option.some.inj h1)
   clear h1
   go_upto_region 24 with fail
   obtain ⟨y0, y1, y2, y3, y4, y5, y6, y7, y8⟩ := at9 HR.out
   obtain ⟨g0, g1, g2, g3, g4, g5, g6, g7, g8⟩ := fz9 HR.out
   go_wp2
   exact endR rfl rfl rfl HR.out ⟨_, rfl, cmdV_zero _ _, set9_below HB.out HLE.out _ _ _ _ _ _ _ _ _⟩
 rw [if_neg c] at h1
 have q1 : ((l.length : Int) == 1) = false := beq_eq_false_iff_ne.mpr (by omega)
 have q2 : ((l.length : Int) == 2) = false := beq_eq_false_iff_ne.mpr (by omega)
 have q3 : ((l.length : Int) == 3) = false := beq_eq_false_iff_ne.mpr (by omega)
 have q4 : ((l.length : Int) == 4) = false := beq_eq_false_iff_ne.mpr (by omega)
 clear n0 n1 n2 c
 obtain ⟨rfl, rfl⟩ := Prod.mk.inj (Option.some.inj h1)
 clear h1
 go_upto_region 24 with fail
 obtain ⟨y0, y1, y2, y3, y4, y5, y6, y7, y8⟩ := at9 HR.out
 obtain ⟨g0, g1, g2, g3, g4, g5, g6, g7, g8⟩ := fz9 HR.out
 go_wp2
 exact endR rfl rfl rfl HR.out ⟨_, rfl, cmdV_zero _ _, set9_below HB.out HLE.out _ _ _ _ _ _ _ _ _⟩
end Go.Proofs.YtmlddeogmckgmaaGreatDoor.P

-- ==== Cl7
/- The law CommandOwn, walked. -/
namespace Go.Proofs.YtmlddeogmckgmaaGreatDoor.P
open Go.RowKit Go.Proofs.YtmlddeogmckgmaaGreatDoorW.PrintWords Go.Proofs.YtmlddeogmckgmaaGreatDoorW.PrintLast Go.Proofs.YtmlddeogmckgmaaGreatDoorW.PrintMore
def WrRow (W : World) (g n : Nat) : Prop := ∃ cs, W.heap[g]? = some (.cells cs 48 (0, 0)) ∧ ∀ j, j < n → ∃ s, cs[j * 2]? = some (.string s)
theorem WrRow.cell {W : World} {g n : Nat} (h : WrRow W g n) {j : Nat} (hj : j < n) : ∃ s, W.cell? ⟨g, j * 2, none⟩ = some (.string s) ∧ W.frozen? ⟨g, j * 2, none⟩ = false := by
 obtain ⟨cs, h1, h2⟩ := h
 obtain ⟨s, hs⟩ := h2 j hj
 exact ⟨s, (blk_cell h1 _).trans hs, blk_frozen h1 _⟩
theorem WrRow.set {W : World} {g n : Nat} (h : WrRow W g n) (g' o : Nat) (x : ByteArray) : WrRow (W.setCell ⟨g', o, none⟩ (.string x)) g n := by
 obtain ⟨cs, h1, h2⟩ := h
 by_cases hg : g' = g
 ·
  subst hg
  refine ⟨_, blk_set h1 o _, fun j hj => ?_⟩
  obtain ⟨s, hs⟩ := h2 j hj
  by_cases ho : o = j * 2
  ·
   subst ho
   refine ⟨x, ?_⟩
   rw [Array.getElem?_setIfInBounds]
   have := (Array.getElem?_eq_some_iff.1 hs).1
   simp [this]
  ·
   refine ⟨s, ?_⟩
   rw [Array.getElem?_setIfInBounds, if_neg ho]
   exact hs
 ·
  exact ⟨cs, blk_far h1 (p := ⟨g', o, none⟩) (fun he => hg he.symm) _, h2⟩
def OwnU (W : World) (S : Nat → Prop) (A : Option Addr) (n : Nat) : Prop := n = 0 ∨ ∃ g, A = some ⟨g, 0, none⟩ ∧ S g ∧ WrRow W g n
theorem OwnU.set {W : World} {S : Nat → Prop} {A : Option Addr} {n : Nat} (h : OwnU W S A n) (g' o : Nat) (x : ByteArray) : OwnU (W.setCell ⟨g', o, none⟩ (.string x)) S A n := by
 rcases h with h | ⟨g, h1, h2, h3⟩
 ·
  exact .inl h
 ·
  exact .inr ⟨g, h1, h2, h3.set g' o x⟩
theorem OwnU.below {W W' : World} {S : Nat → Prop} {A : Option Addr} {n : Nat} (h : OwnU W S A n) (hb : Below W.heap.size W W') : OwnU W' S A n := by
 rcases h with h | ⟨g, h1, h2, cs, h3, h4⟩
 ·
  exact .inl h
 ·
  exact .inr ⟨g, h1, h2, cs, blk_below h3 hb, h4⟩
theorem ownU_of {W : World} {base n cap : Nat} {A : Option Addr} {xs : List CmC} {ok : Nat → Prop} (h : Kd.R k48 48 W base ok (.slice A n cap) xs) : OwnU W (fun g => base ≤ g ∧ g < W.heap.size) A n ∧ (n : Int) ≤ 9223372036854775807 := by
 obtain ⟨h1, h2, h3⟩ := Kd.R_reads' h
 subst h1
 refine ⟨?_, by have := h3.2.1; omega⟩
 rcases Nat.eq_zero_or_pos xs.length with h0 | h0
 ·
  exact .inl h0
 ·
  obtain ⟨g, cap', he, hb, hl, cs, hc⟩ := Kd.R_form h h0
  injection he with he _ _
  subst he
  refine .inr ⟨g, rfl, ⟨hb, hl⟩, cs, hc, fun j hj => ?_⟩
  obtain ⟨c, _, hM, hcc, _⟩ := Kd.R_elem h z48 (j : Int) (by omega) (by omega)
  obtain rfl := k48_openM hM
  have := hcc 0 _ rfl
  rw [blk_cell hc] at this
  exact ⟨_, this⟩
theorem CmdV.hold {B : Nat} {W W' : World} {v : Value} {x : Dr} (h : CmdV B W v x) (hm : ∀ k, B ≤ k → k < W.heap.size → W'.heap[k]? = W.heap[k]?) : CmdV B W' v x := by
 obtain ⟨v5, v7, v8, e, h5, h7, h8⟩ := h
 exact ⟨v5, v7, v8, e, CmR.step h5 hm, CmR.step h7 hm, CmR.step h8 hm⟩
def lawOw (k : Nat) (line : ByteArray) (c : Dr) : Option Bool :=
 haveI := decSm c
 if smallC c then (wakesF k).bind fun wk => if wk = true then (printL k c formsL).bind fun q => (cmdF k line).bind fun a => (refF k line).bind fun d => (sameG k c c).bind fun b1 => if b1 = true then (sameG k a.1 d.1).bind fun b2 => if b2 = true then some true else none else none else none else none
theorem lawOw_calls {k : Nat} {line : ByteArray} {va : Value} {c : Dr} {r : Bool} {W : World} (hva : CmdC W va c) (hgl : Glob W) (h : lawOw k line c = some r) :
 Calls Tryz.prog 7 #[.string line, va] W fun e w' => e = .returned (.bool true) ∧ Below W.heap.size W w' := by
 unfold lawOw at h
 split at h
 case isFalse => cases h
 rename_i hsm
 obtain ⟨wk, hw, h⟩ := bindS h
 split at h
 case isFalse => cases h
 rename_i hwk
 subst hwk
 obtain ⟨⟨q1, q2⟩, hq, h⟩ := bindS h
 obtain ⟨⟨a, a2⟩, ha, h⟩ := bindS h
 obtain ⟨⟨d, d2⟩, hd, h⟩ := bindS h
 obtain ⟨b1, hb1, h⟩ := bindS h
 split at h
 case isFalse => cases h
 rename_i e1
 subst e1
 obtain ⟨b2, hb2, h⟩ := bindS h
 split at h
 case isFalse => cases h
 rename_i e2
 subst e2
 have HW := Aside0.mk hw
 have HQ := Aside0.mk hq
 have HAA := Aside0.mk ha
 have HD := Aside0.mk hd
 have HS1 := Aside0.mk hb1
 have HS2 := Aside0.mk hb2
 have HSM := Aside0.mk hsm
 clear hw hq ha hd hb1 hb2 h hsm
 have hcc := hva
 obtain ⟨Ac5, cc5, Ac7, cc7, Ac8, cc8, ev, hrest⟩ := hva
 rw [ev] at hcc ⊢
 clear hrest ev
 have hB := below_alloc (Below.refl W.heap.size W) (.cells (cmdCs c (.slice Ac5 c.tm.length cc5) (.slice Ac7 c.lf.length cc7) (.slice Ac8 c.rt.length cc8)) 28)
 have HZc := Aside0.mk (heap_alloc_new W (.cells (cmdCs c (.slice Ac5 c.tm.length cc5) (.slice Ac7 c.lf.length cc7) (.slice Ac8 c.rt.length cc8)) 28))
 have HPc := Aside0.mk (hcc.below hB)
 have HG := Aside0.mk hgl
 have HX := Aside0.mk hB
 clear hcc hB hgl
 go_enter Tryz.func7, Tryz.ntmps7
 go_upto_region 1 with fail
 change Code.wp _ _ _ _ (W.alloc (.cells (cmdCs c (.slice Ac5 c.tm.length cc5) (.slice Ac7 c.lf.length cc7) (.slice Ac8 c.rt.length cc8)) 28))
 generalize (W.alloc (.cells (cmdCs c (.slice Ac5 c.tm.length cc5) (.slice Ac7 c.lf.length cc7) (.slice Ac8 c.rt.length cc8)) 28)) = W0 at HZc HPc HX ⊢
 obtain ⟨bc, hbc⟩ : ∃ b, b = W.heap.size := ⟨_, rfl⟩
 rw [← hbc] at HZc ⊢
 clear hbc
 have C1 := wakes_calls HW.out (HG.out.below HX.out)
 go_upto_region 3 with (first | (go_at_call 8; (with_reducible refine C1.mono ?_); rintro ez w1 ⟨rfl, hb_⟩; have HS := Aside0.mk hb_; clear hb_))
 clear C1
 have n0_ := Aside0.mk (below_step HX.out HS.out)
 clear HX
 have HX := n0_
 clear n0_
 have n0_ := Aside0.mk (blk_below HZc.out HS.out)
 clear HZc
 have HZc := n0_
 clear n0_
 have n0_ := Aside0.mk (HPc.out.below HS.out)
 clear HPc
 have HPc := n0_
 clear n0_
 clear HS
 obtain ⟨x0, x1, x2, x3, x4, x5, x6, x7, x8⟩ := at9 HZc.out
 have C2 := copy22_calls HPc.out HSM.out.1 HSM.out.2.1 HSM.out.2.2
 go_upto_region 4 with (first | (go_at_call 13; (with_reducible refine C2.mono ?_); rintro ez w2 ⟨v2, rfl, hd_, hb_⟩; obtain ⟨An5, cn5, An7, cn7, An8, cn8, ed, hd2⟩ := hd_.reads; have HPn := Aside0.mk hd_.reads; rw [ed] at HPn; subst ed; have HY := Aside0.mk hb_; clear hd_ hb_ hd2))
 have HA := Aside0.mk (below_alloc (Below.refl w2.heap.size w2) (.cells (cmdCs c (.slice An5 c.tm.length cn5) (.slice An7 c.lf.length cn7) (.slice An8 c.rt.length cn8)) 28))
 have HZn := Aside0.mk (heap_alloc_new w2 (.cells (cmdCs c (.slice An5 c.tm.length cn5) (.slice An7 c.lf.length cn7) (.slice An8 c.rt.length cn8)) 28))
 change Code.wp _ _ _ _ (w2.alloc (.cells (cmdCs c (.slice An5 c.tm.length cn5) (.slice An7 c.lf.length cn7) (.slice An8 c.rt.length cn8)) 28))
 have HS := Aside0.mk (below_step HY.out HA.out)
 have n0_ := Aside0.mk (HPn.out.below HA.out)
 clear HPn
 have HPn := n0_
 clear n0_ HY
 generalize (w2.alloc (.cells (cmdCs c (.slice An5 c.tm.length cn5) (.slice An7 c.lf.length cn7) (.slice An8 c.rt.length cn8)) 28)) = W2 at HA HZn HS HPn ⊢
 generalize w2.heap.size = bn at HZn ⊢
 clear HA C2
 clear x0 x1 x2 x3 x4 x5 x6 x7 x8
 have n0_ := Aside0.mk (below_step HX.out HS.out)
 clear HX
 have HX := n0_
 clear n0_
 have n0_ := Aside0.mk (blk_below HZc.out HS.out)
 clear HZc
 have HZc := n0_
 clear n0_
 have n0_ := Aside0.mk (HPc.out.below HS.out)
 clear HPc
 have HPc := n0_
 clear n0_
 clear HS
 obtain ⟨y0, y1, y2, y3, y4, y5, y6, y7, y8⟩ := at9 HZn.out
 have C3 := cmdPrint_calls HPn.out (HG.out.below HX.out) HQ.out
 go_upto_region 5 with (first | (go_at_call 12; (with_reducible refine C3.mono ?_); rintro ez w3 ⟨rfl, hb_⟩; have HS := Aside0.mk hb_; clear hb_))
 clear C3
 clear y0 y1 y2 y3 y4 y5 y6 y7 y8
 have n0_ := Aside0.mk (below_step HX.out HS.out)
 clear HX
 have HX := n0_
 clear n0_
 have n0_ := Aside0.mk (blk_below HZc.out HS.out)
 clear HZc
 have HZc := n0_
 clear n0_
 have n0_ := Aside0.mk (blk_below HZn.out HS.out)
 clear HZn
 have HZn := n0_
 clear n0_
 have n0_ := Aside0.mk (HPc.out.below HS.out)
 clear HPc
 have HPc := n0_
 clear n0_
 have n0_ := Aside0.mk (HPn.out.below HS.out)
 clear HPn
 have HPn := n0_
 clear n0_
 clear HS
 have C1 := cmdP_calls (w := w3) HAA.out (HG.out.below HX.out)
 go_upto_region 6 with (first | (go_at_call 9; (with_reducible refine C1.mono ?_); rintro ez wa ⟨v, rfl, hd_, hb_⟩; obtain ⟨v5, v7, v8, rfl, r5, r7, r8⟩ := hd_; obtain ⟨Aa5, ca5, rfl⟩ := Kd.R_slice r5; obtain ⟨Aa7, ca7, rfl⟩ := Kd.R_slice r7; obtain ⟨Aa8, ca8, rfl⟩ := Kd.R_slice r8; have HU5 := Aside0.mk (ownU_of r5); have HU7 := Aside0.mk (ownU_of r7); have HY := Aside0.mk hb_; clear hb_ r5 r7 r8))
 clear C1
 have HN := Aside0.mk HY.out.size
 have HA := Aside0.mk (below_alloc (Below.refl wa.heap.size wa) (.cells (cmdCs a (.slice Aa5 a.tm.length ca5) (.slice Aa7 a.lf.length ca7) (.slice Aa8 a.rt.length ca8)) 28))
 have HZa := Aside0.mk (heap_alloc_new wa (.cells (cmdCs a (.slice Aa5 a.tm.length ca5) (.slice Aa7 a.lf.length ca7) (.slice Aa8 a.rt.length ca8)) 28))
 have HM5 := Aside0.mk HU5.out.2
 have HM7 := Aside0.mk HU7.out.2
 replace HU5 := Aside0.mk (HU5.out.1.below HA.out)
 replace HU7 := Aside0.mk (HU7.out.1.below HA.out)
 have HB := Aside0.mk (below_step HY.out HA.out)
 change Code.wp _ _ _ _ (wa.alloc (.cells (cmdCs a (.slice Aa5 a.tm.length ca5) (.slice Aa7 a.lf.length ca7) (.slice Aa8 a.rt.length ca8)) 28))
 obtain ⟨ba, hba⟩ : ∃ n, n = wa.heap.size := ⟨_, rfl⟩
 rw [← hba] at HZa HN HU5 HU7 ⊢
 clear hba
 generalize (wa.alloc (.cells (cmdCs a (.slice Aa5 a.tm.length ca5) (.slice Aa7 a.lf.length ca7) (.slice Aa8 a.rt.length ca8)) 28)) = W5 at HA HZa HU5 HU7 HB ⊢
 clear HA HY
 have HNW := Aside0.mk (blk_lt HZa.out)
 have C1 := cmdP_calls (w := W5) HAA.out (HG.out.below (below_step HX.out HB.out))
 go_upto_region 7 with (first | (go_at_call 9; (with_reducible refine C1.mono ?_); rintro ez wb ⟨v, rfl, hd_, hb_⟩; obtain ⟨Ab5, cb5, Ab7, cb7, Ab8, cb8, ed, hd2⟩ := hd_.reads; have HVb := Aside0.mk hd_; rw [ed] at HVb; subst ed; have HY := Aside0.mk hb_; clear hb_ hd_ hd2))
 clear C1
 have HA := Aside0.mk (below_alloc (Below.refl wb.heap.size wb) (.cells (cmdCs a (.slice Ab5 a.tm.length cb5) (.slice Ab7 a.lf.length cb7) (.slice Ab8 a.rt.length cb8)) 28))
 have HZb := Aside0.mk (heap_alloc_new wb (.cells (cmdCs a (.slice Ab5 a.tm.length cb5) (.slice Ab7 a.lf.length cb7) (.slice Ab8 a.rt.length cb8)) 28))
 have HS := Aside0.mk (below_step HY.out HA.out)
 have HNB := Aside0.mk HY.out.size
 replace HVb := Aside0.mk (HVb.out.hold (fun k _ hk => HA.out.block k hk))
 replace HZa := Aside0.mk (blk_below HZa.out HS.out)
 replace HU5 := Aside0.mk (HU5.out.below HS.out)
 replace HU7 := Aside0.mk (HU7.out.below HS.out)
 replace HB := Aside0.mk (below_step HB.out HS.out)
 change Code.wp _ _ _ _ (wb.alloc (.cells (cmdCs a (.slice Ab5 a.tm.length cb5) (.slice Ab7 a.lf.length cb7) (.slice Ab8 a.rt.length cb8)) 28))
 obtain ⟨bb, hbb⟩ : ∃ n, n = wb.heap.size := ⟨_, rfl⟩
 rw [← hbb] at HZb HNB ⊢
 clear hbb
 generalize (wb.alloc (.cells (cmdCs a (.slice Ab5 a.tm.length cb5) (.slice Ab7 a.lf.length cb7) (.slice Ab8 a.rt.length cb8)) 28)) = W6 at HA HZb HS HVb HZa HU5 HU7 HB ⊢
 clear HA HY HS
 generalize W5.heap.size = n2 at HVb HNW HNB
 have HK := Aside0.mk (fun (k : Nat) (_ : n2 ≤ k) => (rfl : W6.heap[k]? = W6.heap[k]?))
 obtain ⟨z0, z1, z2, z3, z4, z5, z6, z7, z8⟩ := at9 HZa.out
 go_wp2
 go_loopg [33] a.tm.length (fun kq v33 w' => ∃ y : Int, v33 = .int .i64 y ∧ Aside0 (0 ≤ y ∧ y + kq = (a.tm.length : Int)) ∧ Aside0 (OwnU w' (fun g => w3.heap.size ≤ g ∧ g < ba) Aa5 a.tm.length) ∧ Aside0 (OwnU w' (fun g => w3.heap.size ≤ g ∧ g < ba) Aa7 a.lf.length) ∧ Aside0 (w'.heap[ba]? = some (.cells (cmdCs a (.slice Aa5 a.tm.length ca5) (.slice Aa7 a.lf.length ca7) (.slice Aa8 a.rt.length ca8)) 28 (0, 0))) ∧ Aside0 (Below w3.heap.size w3 w') ∧ Aside0 (∀ k : Nat, n2 ≤ k → w'.heap[k]? = W6.heap[k]?))
 case atStart => exact ⟨0, rfl, ⟨by omega⟩, HU5, HU7, HZa, HB, ⟨fun _ _ => rfl⟩⟩
 case round =>
  clear HU5 HU7 HZa HB HK z0 z1 z2 z3 z4 z5 z6 z7 z8
  obtain ⟨y, rfl, HI, HU5, HU7, HZa, HB, HK⟩ := hrel
  cases gk with
  | succ k1 =>
   obtain ⟨z0, z1, z2, z3, z4, z5, z6, z7, z8⟩ := at9 HZa.out
   have hi : 0 ≤ y ∧ y < (a.tm.length : Int) := by have := HI.out; omega
   have hb0 : decide (y < (a.tm.length : Int)) = true := decide_eq_true hi.2
   have hb2 : decide (0 ≤ y) = true := decide_eq_true hi.1
   rcases HU5.out with hbA | ⟨g, eG, hSg, hrow⟩
   ·
    omega
   obtain ⟨s0, hcs, hfs⟩ := hrow.cell (j := y.toNat) (by omega)
   have HSG := Aside0.mk hSg
   have HYI := Aside0.mk hi
   have hp := eq_true hi.1
   have hq := eq_true hi.2
   clear hi hrow hSg
   subst eG
   go_wp2
   have hnx : ba ≠ g := by have := HSG.out.2; omega
   have hn2 : ∀ k, n2 ≤ k → k ≠ g := fun k hk he => by have := HSG.out.2; have := HNW.out; omega
   go_roundg k1
   case measure => have := HI.out; omega
   case rel => exact ⟨y + 1, by have e_ : wrap64 (y + 1) = y + 1 := (by have := HYI.out; have := HM5.out; unfold wrap64; omega); first | rfl | rw [e_] | (simp [e_]; done), ⟨by have := HI.out; omega⟩, ⟨HU5.out.set _ _ _⟩, ⟨HU7.out.set _ _ _⟩, ⟨(Below.heap_setCell _ _ _ _ hnx).trans HZa.out⟩, ⟨HB.out.setCell (p := ⟨g, y.toNat * 2, none⟩) HSG.out.1 _⟩, ⟨fun k hk => (Below.heap_setCell _ _ _ _ (hn2 k hk)).trans (HK.out k hk)⟩⟩
  | zero =>
   have hb0 : decide (y < (a.tm.length : Int)) = false := decide_eq_false (by have := HI.out; omega)
   clear HI HU5
   obtain ⟨z0, z1, z2, z3, z4, z5, z6, z7, z8⟩ := at9 HZa.out
   go_wp2
   go_loopg [46] a.lf.length (fun kq v46 w' => ∃ y : Int, v46 = .int .i64 y ∧ Aside0 (0 ≤ y ∧ y + kq = (a.lf.length : Int)) ∧ Aside0 (OwnU w' (fun g => w3.heap.size ≤ g ∧ g < ba) Aa7 a.lf.length) ∧ Aside0 (w'.heap[ba]? = some (.cells (cmdCs a (.slice Aa5 a.tm.length ca5) (.slice Aa7 a.lf.length ca7) (.slice Aa8 a.rt.length ca8)) 28 (0, 0))) ∧ Aside0 (Below w3.heap.size w3 w') ∧ Aside0 (∀ k : Nat, n2 ≤ k → w'.heap[k]? = W6.heap[k]?))
   case atStart => exact ⟨0, rfl, ⟨by omega⟩, HU7, HZa, HB, HK⟩
   case round =>
    clear HU7 HZa HB HK z0 z1 z2 z3 z4 z5 z6 z7 z8
    obtain ⟨y, rfl, HI, HU7, HZa, HB, HK⟩ := hrel
    cases gk with
    | succ k1 =>
     obtain ⟨z0, z1, z2, z3, z4, z5, z6, z7, z8⟩ := at9 HZa.out
     have hi : 0 ≤ y ∧ y < (a.lf.length : Int) := by have := HI.out; omega
     have hb0 : decide (y < (a.lf.length : Int)) = true := decide_eq_true hi.2
     have hb2 : decide (0 ≤ y) = true := decide_eq_true hi.1
     rcases HU7.out with hbA | ⟨g, eG, hSg, hrow⟩
     ·
      omega
     obtain ⟨s0, hcs, hfs⟩ := hrow.cell (j := y.toNat) (by omega)
     have HSG := Aside0.mk hSg
     have HYI := Aside0.mk hi
     have hp := eq_true hi.1
     have hq := eq_true hi.2
     clear hi hrow hSg
     subst eG
     go_wp2
     have hnx : ba ≠ g := by have := HSG.out.2; omega
     have hn2 : ∀ k, n2 ≤ k → k ≠ g := fun k hk he => by have := HSG.out.2; have := HNW.out; omega
     go_roundg k1
     case measure => have := HI.out; omega
     case rel => exact ⟨y + 1, by have e_ : wrap64 (y + 1) = y + 1 := (by have := HYI.out; have := HM7.out; unfold wrap64; omega); first | rfl | rw [e_] | (simp [e_]; done), ⟨by have := HI.out; omega⟩, ⟨HU7.out.set _ _ _⟩, ⟨(Below.heap_setCell _ _ _ _ hnx).trans HZa.out⟩, ⟨HB.out.setCell (p := ⟨g, y.toNat * 2, none⟩) HSG.out.1 _⟩, ⟨fun k hk => (Below.heap_setCell _ _ _ _ (hn2 k hk)).trans (HK.out k hk)⟩⟩
    | zero =>
     have hb0 : decide (y < (a.lf.length : Int)) = false := decide_eq_false (by have := HI.out; omega)
     clear HI
     clear HU7 HZa HM5 HM7 HN
     have HZb2 := Aside0.mk ((HK.out bb HNB.out).trans HZb.out)
     have HPb := Aside0.mk (HVb.out.hold (fun k hk _ => HK.out k hk)).reads
     clear HVb HZb HK HNB HNW
     replace HZc := Aside0.mk (blk_below HZc.out HB.out)
     replace HPc := Aside0.mk (HPc.out.below HB.out)
     replace HZn := Aside0.mk (blk_below HZn.out HB.out)
     replace HPn := Aside0.mk (HPn.out.below HB.out)
     replace HX := Aside0.mk (below_step HX.out HB.out)
     have HZb := HZb2
     clear HZb2 HB
     have C4 := refP_calls (W := wr) HD.out
     go_upto_region 18 with (first | (go_at_call 10; (with_reducible refine C4.mono ?_); rintro ez w4 ⟨v4, rfl, hd_, hb_⟩; obtain ⟨Ad5, cd5, Ad7, cd7, Ad8, cd8, ed, hd2⟩ := hd_.reads; have HPd := Aside0.mk hd_.reads; rw [ed] at HPd; subst ed; have HY := Aside0.mk hb_; clear hd_ hb_ hd2))
     have HA := Aside0.mk (below_alloc (Below.refl w4.heap.size w4) (.cells (cmdCs d (.slice Ad5 d.tm.length cd5) (.slice Ad7 d.lf.length cd7) (.slice Ad8 d.rt.length cd8)) 28))
     have HZd := Aside0.mk (heap_alloc_new w4 (.cells (cmdCs d (.slice Ad5 d.tm.length cd5) (.slice Ad7 d.lf.length cd7) (.slice Ad8 d.rt.length cd8)) 28))
     change Code.wp _ _ _ _ (w4.alloc (.cells (cmdCs d (.slice Ad5 d.tm.length cd5) (.slice Ad7 d.lf.length cd7) (.slice Ad8 d.rt.length cd8)) 28))
     have HS := Aside0.mk (below_step HY.out HA.out)
     have n0_ := Aside0.mk (HPd.out.below HA.out)
     clear HPd
     have HPd := n0_
     clear n0_ HY
     generalize (w4.alloc (.cells (cmdCs d (.slice Ad5 d.tm.length cd5) (.slice Ad7 d.lf.length cd7) (.slice Ad8 d.rt.length cd8)) 28)) = W4 at HA HZd HS HPd ⊢
     generalize w4.heap.size = bd at HZd ⊢
     clear HA C4
     have n0_ := Aside0.mk (below_step HX.out HS.out)
     clear HX
     have HX := n0_
     clear n0_
     have n0_ := Aside0.mk (blk_below HZc.out HS.out)
     clear HZc
     have HZc := n0_
     clear n0_
     have n0_ := Aside0.mk (blk_below HZn.out HS.out)
     clear HZn
     have HZn := n0_
     clear n0_
     have n0_ := Aside0.mk (blk_below HZb.out HS.out)
     clear HZb
     have HZb := n0_
     clear n0_
     have n0_ := Aside0.mk (HPc.out.below HS.out)
     clear HPc
     have HPc := n0_
     clear n0_
     have n0_ := Aside0.mk (HPn.out.below HS.out)
     clear HPn
     have HPn := n0_
     clear n0_
     have n0_ := Aside0.mk (HPb.out.below HS.out)
     clear HPb
     have HPb := n0_
     clear n0_
     clear HS
     obtain ⟨x0, x1, x2, x3, x4, x5, x6, x7, x8⟩ := at9 HZc.out
     obtain ⟨y0, y1, y2, y3, y4, y5, y6, y7, y8⟩ := at9 HZn.out
     obtain ⟨z0, z1, z2, z3, z4, z5, z6, z7, z8⟩ := at9 HZb.out
     obtain ⟨u0, u1, u2, u3, u4, u5, u6, u7, u8⟩ := at9 HZd.out
     have C4 := same22_calls HPn.out HPc.out HS1.out
     have C5 := fun (W' : World) (hw : Below W4.heap.size W4 W') => same22_calls (HPb.out.below hw) (HPd.out.below hw) HS2.out
     go_wp2_with (first | (go_at_call 11; (with_reducible refine C4.mono ?_); rintro ez w8 ⟨rfl, hb_⟩; have HS := Aside0.mk hb_; have HZb3 := Aside0.mk (blk_below HZb.out hb_); have HZd3 := Aside0.mk (blk_below HZd.out hb_); clear hb_; obtain ⟨z0, z1, z2, z3, z4, z5, z6, z7, z8⟩ := at9 HZb3.out; obtain ⟨u0, u1, u2, u3, u4, u5, u6, u7, u8⟩ := at9 HZd3.out) | (go_at_call 11; (with_reducible refine (C5 _ HS.out).mono ?_); rintro ez w9 ⟨rfl, hb_⟩; have HS3 := Aside0.mk hb_; clear hb_))
     go_ret
     exact ⟨rfl, below_step (below_step HX.out HS.out) HS3.out⟩
end Go.Proofs.YtmlddeogmckgmaaGreatDoor.P

-- ==== PF8
namespace Go.Proofs.YtmlddeogmckgmaaGreatDoor.P
open Go.RowKit Go.Proofs.YtmlddeogmckgmaaGreatDoorW.PrintWords Go.Proofs.YtmlddeogmckgmaaGreatDoorW.PrintLast Go.Proofs.YtmlddeogmckgmaaGreatDoorW.PrintMore
attribute [local go_sem] max2_int min2_int max_two min_two max_three min_three max_four min_four

def aumbrylaw22_wakes.f (k : Nat) : Option Bool := wakesF k
theorem aumbrylaw22_wakes.mono : ∀ k, LeO (aumbrylaw22_wakes.f k) (aumbrylaw22_wakes.f (k + 1)) := fun k => wakesF_mono k
theorem aumbrylaw22_wakes.calls (k : Nat) (r : Bool) (w : World) (h : aumbrylaw22_wakes.f k = some r) (hgl : Glob w) :
 Calls Tryz.prog 8 #[] w fun e w' => e = .returned (.bool r) ∧ Below w.heap.size w w' := by
 exact wakes_calls h hgl



-- ==== PF7

def aumbrylaw22_CommandOwn.f (k : Nat) (a0 : ByteArray) (a1_0 : Int) (a1_1 : ByteArray) (a1_2 : Int) (a1_3 : Int) (a1_4 : Bool) (l1_5 : List (S48)) (a1_6 : Int) (l1_7 : List (S48)) (l1_8 : List (S48)) : Option Bool := lawOw k a0 ⟨a1_0, a1_1, a1_2, a1_3, a1_4, l1_5, a1_6, l1_7, l1_8, ⟨#[]⟩⟩
theorem aumbrylaw22_CommandOwn.calls (k : Nat) (a0 : ByteArray) (a1_0 : Int) (a1_1 : ByteArray) (a1_2 : Int) (a1_3 : Int) (a1_4 : Bool) (A1_5 : Option Addr) (c1_5 : Nat) (l1_5 : List (S48)) (a1_6 : Int) (A1_7 : Option Addr) (c1_7 : Nat) (l1_7 : List (S48)) (A1_8 : Option Addr) (c1_8 : Nat) (l1_8 : List (S48)) (r : Bool) (w : World) (hr1_5 : Kd.C k48 w A1_5 l1_5.length l1_5) (hc1_5 : l1_5.length ≤ c1_5) (hr1_7 : Kd.C k48 w A1_7 l1_7.length l1_7) (hc1_7 : l1_7.length ≤ c1_7) (hr1_8 : Kd.C k48 w A1_8 l1_8.length l1_8) (hc1_8 : l1_8.length ≤ c1_8) (h : aumbrylaw22_CommandOwn.f k a0 a1_0 a1_1 a1_2 a1_3 a1_4 l1_5 a1_6 l1_7 l1_8 = some r) (hr : r = true) (hgl : Glob w) :
 Calls Tryz.prog 7 #[.string a0, .agg #[.int .i64 a1_0, .string a1_1, .int .i64 a1_2, .int .i64 a1_3, .bool a1_4, .slice A1_5 l1_5.length c1_5, .int .i64 a1_6, .slice A1_7 l1_7.length c1_7, .slice A1_8 l1_8.length c1_8]] w fun e w' => e = .returned (.bool true) ∧ Below w.heap.size w w' := by
 have GL := zM hgl
 clear hgl
 have HRT := zM hr
 clear hr
 obtain rfl := HRT.out
 exact lawOw_calls (c := ⟨a1_0, a1_1, a1_2, a1_3, a1_4, l1_5, a1_6, l1_7, l1_8, ⟨#[]⟩⟩) ⟨A1_5, c1_5, A1_7, c1_7, A1_8, c1_8, rfl, hr1_5, hc1_5, hr1_7, hc1_7, hr1_8, hc1_8⟩ GL.out h



-- ==== PF9

def command_Parse.f (k : Nat) (a0 : ByteArray) : Option (Int × ByteArray × Int × Int × Bool × (List (S48)) × Int × (List (S48)) × (List (S48)) × Int) := (cmdF k a0).bind fun p => some (p.1.kd, p.1.nm, p.1.n, p.1.id, p.1.on, p.1.tm, p.1.rid, p.1.lf, p.1.rt, p.2)
theorem command_Parse.mono : ∀ a0 k, LeO (command_Parse.f k a0) (command_Parse.f (k + 1) a0) := fun a0 k => LeO.bind (cmdF_mono k a0) fun _ => LeO.refl _
theorem command_Parse.calls (k : Nat) (a0 : ByteArray) (r1 : Int) (r2 : ByteArray) (r3 : Int) (r4 : Int) (r5 : Bool) (r6 : List (S48)) (r7 : Int) (r8 : List (S48)) (r9 : List (S48)) (r10 : Int) (w : World) (h : command_Parse.f k a0 = some (r1, r2, r3, r4, r5, r6, r7, r8, r9, r10)) (hgl : Glob w) :
 Calls Tryz.prog 9 #[.string a0] w fun e w' => ∃ v5_ v7_ v8_ : Value, e = .returned (.tuple #[.agg #[.int .i64 r1, .string r2, .int .i64 r3, .int .i64 r4, .bool r5, v5_, .int .i64 r7, v7_, v8_], .int .i64 r10]) ∧ Kd.R k48 48 w' w.heap.size (fun k_ => some k_ ≠ (v7_ : Value).ownBlock ∧ some k_ ≠ (v8_ : Value).ownBlock) v5_ r6 ∧ Kd.R k48 48 w' w.heap.size (fun k_ => some k_ ≠ (v5_ : Value).ownBlock ∧ some k_ ≠ (v8_ : Value).ownBlock) v7_ r8 ∧ Kd.R k48 48 w' w.heap.size (fun k_ => some k_ ≠ (v5_ : Value).ownBlock ∧ some k_ ≠ (v7_ : Value).ownBlock) v8_ r9 ∧ Below w.heap.size w w' := by
 obtain ⟨⟨x, e⟩, hx, h⟩ := zB h
 simp only [Option.some.injEq, Prod.mk.injEq] at h
 obtain ⟨rfl, rfl, rfl, rfl, rfl, rfl, rfl, rfl, rfl, rfl⟩ := h
 refine (cmdP_calls hx hgl).mono ?_
 rintro z w' ⟨v, rfl, ⟨v5, v7, v8, rfl, h5, h7, h8⟩, hb⟩
 exact ⟨v5, v7, v8, rfl, h5, h7, h8, hb⟩


end Go.Proofs.YtmlddeogmckgmaaGreatDoor.P

-- ==== PO
namespace Go.Proofs.YtmlddeogmckgmaaGreatDoor.P
open Go.RowKit Go.Proofs.YtmlddeogmckgmaaGreatDoorW.PrintWords Go.Proofs.YtmlddeogmckgmaaGreatDoor.Open
def sz9 (s : ByteArray) : Prop := s.size ≤ 140737488351232
def bk9 (s : ByteArray) : Nat := s.size + 1
theorem op9 : Opens Tryz.prog 9 Kd.string sz9 bk9 := opens_string Tryz.underlying9 (by kernel_rfl)
def sz3 (a : Int) : Prop := (Lit.int .i64 a).wf = true
def bk3 (_ : Int) : Nat := 1
theorem op3 : Opens Tryz.prog 3 (Kd.int .i64) sz3 bk3 := opens_int Tryz.underlying3 (by kernel_rfl)
def sz4 (_ : Bool) : Prop := True
def bk4 (_ : Bool) : Nat := 1
theorem op4 : Opens Tryz.prog 4 Kd.bool sz4 bk4 := opens_bool Tryz.underlying4 (by kernel_rfl)
def sz48 (x : S48) : Prop := sz9 x.f0 ∧ sz3 x.f1
def bk48 (x : S48) : Nat := (bk9 x.f0 + bk3 x.f1) + 1
theorem op48 : Opens Tryz.prog 48 k48 sz48 bk48 := opens_struct (P := Tryz.prog) (ts := [9, 3]) (f := fun x : S48 => (x.f0, x.f1)) Tryz.underlying48 (by kernel_rfl) (fun i fl h => by
 match i, h with
 | 0, h => obtain rfl := Option.some.inj h; show (0 : Nat) = offs Tryz.prog [9, 3] 0; kernel_rfl
 | 1, h => obtain rfl := Option.some.inj h; show (1 : Nat) = offs Tryz.prog [9, 3] 1; kernel_rfl
 | i + 2, h => simp at h) (by kernel_rfl) (opensF_cons op9 (opensF_one op3)) (fun x => ⟨x.1, x.2⟩) (fun _ => rfl)
def sz24 (l : List (S48)) : Prop := l.length * 24 ≤ 140737488351232 ∧ ∀ x ∈ l, sz48 x
def bk24 (l : List (S48)) : Nat := bulkAll bk48 l + 1
theorem op24 : Opens Tryz.prog 24 (Kd.slice 48 k48) sz24 bk24 := opens_slice Tryz.underlying24 (by kernel_rfl) (by kernel_rfl) op48
def sz26 (x : S26) : Prop := sz3 x.f0 ∧ sz24 x.f1 ∧ sz24 x.f2
def bk26 (x : S26) : Nat := (bk3 x.f0 + (bk24 x.f1 + bk24 x.f2)) + 1
theorem op26 : Opens Tryz.prog 26 k26 sz26 bk26 := opens_struct (P := Tryz.prog) (ts := [3, 24, 24]) (f := fun x : S26 => (x.f0, x.f1, x.f2)) Tryz.underlying26 (by kernel_rfl) (fun i fl h => by
 match i, h with
 | 0, h => obtain rfl := Option.some.inj h; show (0 : Nat) = offs Tryz.prog [3, 24, 24] 0; kernel_rfl
 | 1, h => obtain rfl := Option.some.inj h; show (1 : Nat) = offs Tryz.prog [3, 24, 24] 1; kernel_rfl
 | 2, h => obtain rfl := Option.some.inj h; show (2 : Nat) = offs Tryz.prog [3, 24, 24] 2; kernel_rfl
 | i + 3, h => simp at h) (by kernel_rfl) (opensF_cons op3 (opensF_cons op24 (opensF_one op24))) (fun x => ⟨x.1, x.2.1, x.2.2⟩) (fun _ => rfl)
def sz28 (x : S28) : Prop := sz3 x.f0 ∧ sz9 x.f1 ∧ sz3 x.f2 ∧ sz3 x.f3 ∧ sz4 x.f4 ∧ sz24 x.f5 ∧ sz26 x.f6
def bk28 (x : S28) : Nat := (bk3 x.f0 + (bk9 x.f1 + (bk3 x.f2 + (bk3 x.f3 + (bk4 x.f4 + (bk24 x.f5 + bk26 x.f6)))))) + 1
theorem op28 : Opens Tryz.prog 28 k28 sz28 bk28 := opens_struct (P := Tryz.prog) (ts := [3, 9, 3, 3, 4, 24, 26]) (f := fun x : S28 => (x.f0, x.f1, x.f2, x.f3, x.f4, x.f5, x.f6)) Tryz.underlying28 (by kernel_rfl) (fun i fl h => by
 match i, h with
 | 0, h => obtain rfl := Option.some.inj h; show (0 : Nat) = offs Tryz.prog [3, 9, 3, 3, 4, 24, 26] 0; kernel_rfl
 | 1, h => obtain rfl := Option.some.inj h; show (1 : Nat) = offs Tryz.prog [3, 9, 3, 3, 4, 24, 26] 1; kernel_rfl
 | 2, h => obtain rfl := Option.some.inj h; show (2 : Nat) = offs Tryz.prog [3, 9, 3, 3, 4, 24, 26] 2; kernel_rfl
 | 3, h => obtain rfl := Option.some.inj h; show (3 : Nat) = offs Tryz.prog [3, 9, 3, 3, 4, 24, 26] 3; kernel_rfl
 | 4, h => obtain rfl := Option.some.inj h; show (4 : Nat) = offs Tryz.prog [3, 9, 3, 3, 4, 24, 26] 4; kernel_rfl
 | 5, h => obtain rfl := Option.some.inj h; show (5 : Nat) = offs Tryz.prog [3, 9, 3, 3, 4, 24, 26] 5; kernel_rfl
 | 6, h => obtain rfl := Option.some.inj h; show (6 : Nat) = offs Tryz.prog [3, 9, 3, 3, 4, 24, 26] 6; kernel_rfl
 | i + 7, h => simp at h) (by kernel_rfl) (opensF_cons op3 (opensF_cons op9 (opensF_cons op3 (opensF_cons op3 (opensF_cons op4 (opensF_cons op24 (opensF_one op26))))))) (fun x => ⟨x.1, x.2.1, x.2.2.1, x.2.2.2.1, x.2.2.2.2.1, x.2.2.2.2.2.1, x.2.2.2.2.2.2⟩) (fun _ => rfl)
end Go.Proofs.YtmlddeogmckgmaaGreatDoor.P

-- ==== PS7
namespace Go.Proofs.YtmlddeogmckgmaaGreatDoor.P
open Go.RowKit Go.Proofs.YtmlddeogmckgmaaGreatDoorW.PrintWords
def aumbrylaw22_CommandOwn.Pure : Prop := ∀ (a0 : ByteArray) (x1 : S28), sz9 a0 → sz28 x1 → ∃ k, aumbrylaw22_CommandOwn.f k a0 (x1).f0 (x1).f1 (x1).f2 (x1).f3 (x1).f4 (x1).f5 (x1).f6.f0 (x1).f6.f1 (x1).f6.f2 = some true
def aumbrylaw22_CommandOwn.PureUpto : Prop := ∀ (a0 : ByteArray) (x1 : S28), sz9 a0 → sz28 x1 → bk9 a0 + bk28 x1 ≤ 1048576 → ∃ k, aumbrylaw22_CommandOwn.f k a0 (x1).f0 (x1).f1 (x1).f2 (x1).f3 (x1).f4 (x1).f5 (x1).f6.f0 (x1).f6.f1 (x1).f6.f2 = some true
end Go.Proofs.YtmlddeogmckgmaaGreatDoor.P

-- ==== PLz
/- Plain laws: places in lists, sizes that came in. -/
namespace Go.Proofs.YtmlddeogmckgmaaGreatDoor.P
open Go.RowKit Go.Proofs.YtmlddeogmckgmaaGreatDoorW.PrintWords
theorem sz_len {l : List Cel} (h : sz24 l) : l.length < 5864062014805 := by
 have := h.1
 omega
theorem up_cast (a : Nat) (h : a < 9223372036854775807) : wrap64 ((a : Int) + 1) = ((a + 1 : Nat) : Int) := by rw [wrap_up (by omega) (by omega)]; rfl
theorem checkS_len {t : List Cel} (h : checkS t = 0) : t.length ≤ 64 := (checkS_ok h).1
end Go.Proofs.YtmlddeogmckgmaaGreatDoor.P
