/- RewriteOwn: the law answers true at every input that the given row speaks of. Conditions: those of the given row, none besides. (Part 3 of 5; written by programs of this session, which drive the kit's print, and by hand.) -/
import Derived.Shelf.Spec.SlicesInsert
import Derived.Shelf.Spec.SlicesInsertGrow
import Derived.WalkSpells
import Derived.RangeFuncNested
import Derived.RangeFuncBound
import Derived.RangeFuncCalls
import Derived.RangeFuncLeaves
import Derived.RangeFuncBox
import Derived.RangeFuncFrom
import Derived.RangeFuncWrites
import Derived.Shelf.Abstract
import Derived.WalkKit
import Derived.OwnWalkIn
import Derived.TacticsInMore
import Derived.LoopNIn
import Derived.LoopIn
import Derived.Lib.LaidTab
import Derived.Scope
import Derived.Test.YtdlkhpfgkghhmaaZRewriteOwnU0
import Derived.Test.YtdlkhpfgkghhmaaZRewriteOwnU1
set_option maxHeartbeats 8000000
set_option maxRecDepth 100000
set_option linter.unusedVariables false
set_option linter.unusedSimpArgs false
-- ==== Rw7
namespace Go.Proofs.Ytdlkhpfgkghhmaa.P
open Go.RowKit Go.Shelf Go.Proofs.YtdlkhpfgkghhmaaW.PrintWords Go.Proofs.YtdlkhpfgkghhmaaW.PrintLast Go.Proofs.YtdlkhpfgkghhmaaW.PrintMore
def insRen : Go.Shelf.Ren := ⟨fun | 17 => 108 | 22 => 91 | 29 => 100 | 30 => 101 | 36 => 107 | n => n, fun | 24 => 26 | n => n, fun | n => n⟩
theorem insLays : Go.Proofs.Lays2.n22 Try.prog insRen := {
 mixed := by kernel_rfl
 f17 := Try.func108.trans (congrArg some (by kernel_rfl))
 f22 := Try.func91.trans (congrArg some (by kernel_rfl))
 f29 := Try.func100.trans (congrArg some (by kernel_rfl))
 f30 := Try.func101.trans (congrArg some (by kernel_rfl))
 f36 := Try.func107.trans (congrArg some (by kernel_rfl))
 t0 := Try.underlying0
 a0 := Try.isAgg0
 z0 := Try.sizeOf0
 v0 := Try.zeroValue0
 t3 := Try.underlying3
 a3 := Try.isAgg3
 z3 := Try.sizeOf3
 v3 := Try.zeroValue3
 t4 := Try.underlying4
 a4 := Try.isAgg4
 z4 := Try.sizeOf4
 v4 := Try.zeroValue4
 t9 := Try.underlying9
 a9 := Try.isAgg9
 z9 := Try.sizeOf9
 v9 := Try.zeroValue9
 t24 := Try.underlying26
 a24 := Try.isAgg26
 z24 := Try.sizeOf26
 v24 := Try.zeroValue26
 i9 := by kernel_rfl }
def setL (cs : Array Value) : Nat → List Value → Array Value
 | _, [] => cs
 | o, v :: r => setL (cs.setIfInBounds o v) (o + 1) r
theorem setL_size : ∀ (vs : List Value) (cs : Array Value) (o : Nat), (setL cs o vs).size = cs.size
 | [], _, _ => rfl
 | v :: r, cs, o => by rw [setL, setL_size r]; simp
theorem setL_get : ∀ (vs : List Value) (cs : Array Value) (o j : Nat), o + vs.length ≤ cs.size → (setL cs o vs)[j]? = if o ≤ j ∧ j < o + vs.length then vs[j - o]? else cs[j]?
 | [], cs, o, j, h => by rw [if_neg (by simp only [List.length_nil]; omega)]; rfl
 | v :: r, cs, o, j, h => by
  simp only [List.length_cons] at h ⊢
  rw [setL, setL_get r _ _ _ (by simp; omega)]
  by_cases h1 : o + 1 ≤ j ∧ j < o + 1 + r.length
  ·
   rw [if_pos h1, if_pos (by omega), show j - o = (j - (o + 1)) + 1 by omega, List.getElem?_cons_succ]
  ·
   rw [if_neg h1]
   by_cases h2 : j = o
   ·
    subst h2
    rw [if_pos (by omega), Nat.sub_self, Array.getElem?_setIfInBounds_self_of_lt (by omega)]
    rfl
   ·
    rw [if_neg (by omega), Array.getElem?_setIfInBounds_ne (Ne.symm h2)]
theorem setCells_blk {t g : Nat} : ∀ (vs : List Value) (W : World) (cs : Array Value) (o : Nat), W.heap[g]? = some (.cells cs t (0, 0)) → (W.setCells g o vs).heap[g]? = some (.cells (setL cs o vs) t (0, 0))
 | [], _, _, _, h => h
 | v :: r, W, cs, o, h => setCells_blk r _ _ _ (blk_set h o v)
theorem setCells_far {g k : Nat} (hk : k ≠ g) : ∀ (vs : List Value) (W : World) (o : Nat), (W.setCells g o vs).heap[k]? = W.heap[k]?
 | [], _, _ => rfl
 | v :: r, W, o => (setCells_far hk r _ _).trans (Below.heap_setCell W ⟨g, o, none⟩ v k hk)
theorem setCells_side {g : Nat} : ∀ (vs : List Value) (W : World) (o : Nat), (W.setCells g o vs).heap.size = W.heap.size ∧ (W.setCells g o vs).os = W.os ∧ (W.setCells g o vs).tape = W.tape ∧ (W.setCells g o vs).output = W.output
 | [], _, _ => ⟨rfl, rfl, rfl, rfl⟩
 | v :: r, W, o => by
  obtain ⟨a, b, c, d⟩ := setCells_side r (W.setCell ⟨g, o, none⟩ v) (o + 1)
  exact ⟨a.trans (by simp [World.setCell]), b, c, d⟩
def insAt (l : List ByteArray) (i : Nat) (x : ByteArray) : List ByteArray := l.take i ++ x :: l.drop i
theorem insAt_length (l : List ByteArray) (i : Nat) (x : ByteArray) (h : i ≤ l.length) : (insAt l i x).length = l.length + 1 := by simp [insAt]; omega
theorem encs_insAt (l : List ByteArray) (i : Nat) (x : ByteArray) : encs Value.string (insAt l i x) = (encs Value.string l).take i ++ .string x :: (encs Value.string l).drop i := by simp [encs, insAt, List.map_take, List.map_drop]
theorem R_made {B g cap n : Nat} {W : World} {cs : Array Value} {l : List ByteArray} (hb : W.heap[g]? = some (.cells cs 9 (0, 0))) (hg : B ≤ g) (hn : n = l.length) (hc : l.length ≤ cap) (hm : cap ≤ maxLen) (hs : cs.size = cap) (ht : cs.toList.take l.length = encs Value.string l) :
 Kd.R Kd.string 9 W B (fun _ => True) (.slice (some ⟨g, 0, none⟩) n cap) l := by
 subst hn
 exact Kd.R_of_own ⟨by simp [encs], .inr ⟨g, cap, cs, rfl, hg, hb, hc, hm, by rw [hs, Nat.mul_one], by rw [Nat.mul_one]; exact ht⟩⟩ (fun _ _ => trivial)
theorem ins_cells {cur : Array Value} {l : List ByteArray} {i : Nat} {x : ByteArray} (hl : cur.toList.take l.length = encs Value.string l) (hs : l.length + 1 ≤ cur.size) (hi : i ≤ l.length) :
 (setL (setL cur (i + 1) ((encs Value.string l).drop i)) i [.string x]).toList.take (insAt l i x).length = encs Value.string (insAt l i x) := by
 rw [encs_insAt, insAt_length l i x hi]
 have hle : (encs Value.string l).length = l.length := encs_length l
 apply List.ext_getElem?
 intro j
 rw [List.getElem?_take]
 by_cases hj : j < l.length + 1
 ·
  rw [if_pos hj, Array.getElem?_toList, setL_get _ _ _ _ (by rw [setL_size]; simp; omega)]
  by_cases h1 : i ≤ j ∧ j < i + [Value.string x].length
  ·
   have : j = i := by simp at h1; omega
   subst this
   rw [if_pos h1, Nat.sub_self, List.getElem?_append_right (by simp; omega)]
   simp [hle, Nat.min_eq_left hi]
  ·
   rw [if_neg h1, setL_get _ _ _ _ (by simp [hle]; omega)]
   simp only [List.length_singleton] at h1
   by_cases h2 : i + 1 ≤ j ∧ j < i + 1 + ((encs Value.string l).drop i).length
   ·
    rw [if_pos h2, List.getElem?_append_right (by simp; omega), List.length_take, hle, Nat.min_eq_left hi, show j - i = (j - (i + 1)) + 1 by omega, List.getElem?_cons_succ]
   ·
    have hji : j < i := by simp [hle] at h2; omega
    rw [if_neg h2, List.getElem?_append_left (by simp [hle]; omega), List.getElem?_take, if_pos hji, ← hl, List.getElem?_take, if_pos (by omega), Array.getElem?_toList]
 ·
  rw [if_neg hj, List.getElem?_eq_none (by simp [hle]; omega)]
theorem ins_cells2 {cur : Array Value} {l : List ByteArray} {i : Nat} {x : ByteArray} (hl : ∀ j, j < i → cur[j]? = (encs Value.string l)[j]?) (hs : l.length + 1 ≤ cur.size) (hi : i ≤ l.length) :
 (setL (setL cur i [.string x]) (i + 1) ((encs Value.string l).drop i)).toList.take (insAt l i x).length = encs Value.string (insAt l i x) := by
 rw [encs_insAt, insAt_length l i x hi]
 have hle : (encs Value.string l).length = l.length := encs_length l
 apply List.ext_getElem?
 intro j
 rw [List.getElem?_take]
 by_cases hj : j < l.length + 1
 ·
  rw [if_pos hj, Array.getElem?_toList, setL_get _ _ _ _ (by rw [setL_size]; simp [hle]; omega)]
  by_cases h2 : i + 1 ≤ j ∧ j < i + 1 + ((encs Value.string l).drop i).length
  ·
   rw [if_pos h2, List.getElem?_append_right (by simp; omega), List.length_take, hle, Nat.min_eq_left hi, show j - i = (j - (i + 1)) + 1 by omega, List.getElem?_cons_succ]
  ·
   rw [if_neg h2, setL_get _ _ _ _ (by simp; omega)]
   by_cases h1 : i ≤ j ∧ j < i + [Value.string x].length
   ·
    have : j = i := by simp at h1; omega
    subst this
    rw [if_pos h1, Nat.sub_self, List.getElem?_append_right (by simp; omega)]
    simp [hle, Nat.min_eq_left hi]
   ·
    have hji : j < i := by simp [hle] at h2; simp at h1; omega
    rw [if_neg h1, List.getElem?_append_left (by simp [hle]; omega), List.getElem?_take, if_pos hji]
    exact hl j hji
 ·
  rw [if_neg hj, List.getElem?_eq_none (by simp [hle]; omega)]
theorem shape_of {W : World} {g t : Nat} {cs : Array Value} (h : W.heap[g]? = some (.cells cs t (0, 0))) : W.shape? g = some (t, cs.size) := by simp [World.shape?, h]
theorem below_cells {B g : Nat} {w W : World} (h : Below B w W) (hg : B ≤ g) (o : Nat) (vs : List Value) : Below B w (W.setCells g o vs) := by
 obtain ⟨a, b, c, d⟩ := setCells_side (g := g) vs W o
 exact ⟨b.trans h.os, c.trans h.tape, d.trans h.output, by rw [a]; exact h.size, fun k hk => (setCells_far (by omega) vs W o).trans (h.block k hk)⟩
theorem kept_cells {g : Nat} {w W : World} {S : Nat → Prop} (h : Kept w W S) (hg : S g ∨ w.heap.size ≤ g) (o : Nat) (vs : List Value) : Kept w (W.setCells g o vs) S :=
 h.then_ (S2 := fun k => k = g) ⟨by rw [(setCells_side (g := g) vs W o).1]; exact Nat.le_refl _, fun i hi hn => setCells_far hn vs W o⟩ (fun k hk => by rw [hk]; exact hg)
theorem own_some {g n c k : Nat} (h : (Value.slice (some ⟨g, 0, none⟩) n c).ownBlock = some k) : g = k := by simpa [Value.ownBlock] using h
theorem ins_calls {B vb i : Nat} {w : World} {A : Option Addr} {c : Nat} {l : List ByteArray} {x : ByteArray} (hr : Kd.R Kd.string 9 w B (fun _ => True) (.slice A l.length c) l) (hi : i ≤ l.length)
 (hvb : w.heap[vb]? = some (.cells #[.string x] 9 (0, 0))) (hne : some vb ≠ (Value.slice A l.length c).ownBlock) (hB : B ≤ w.heap.size) (hbig : (l.length + 1) * 16 ≤ 140737488355328) :
 Calls Try.prog 91 #[.slice A l.length c, .int .i64 i, .slice (some ⟨vb, 0, none⟩) 1 1] w fun e w' => ∃ A' c', e = .returned (.slice A' (l.length + 1) c') ∧ Kd.R Kd.string 9 w' B (fun _ => True) (.slice A' (l.length + 1) c') (insAt l i x) ∧ Below B w w' ∧ Kept w w' (fun k => (Value.slice A l.length c).ownBlock = some k) ∧ ∀ k, (Value.slice A' (l.length + 1) c').ownBlock = some k → (Value.slice A l.length c).ownBlock = some k ∨ w.heap.size ≤ k := by
 have hv : ∀ (j : Nat) (v : Value), [Value.string x][j]? = some v → w.cell? ⟨vb, 0 + j, none⟩ = some v := fun j v hj => by
  match j, hj with
  | 0, hj => obtain rfl := Option.some.inj hj; exact (blk_cell hvb 0).trans rfl
  | j + 1, hj => simp at hj
 have h1v : ∀ v ∈ [Value.string x], v.oneCell' = true := fun v hv => by simp at hv; subst hv; rfl
 have h1c : ∀ v ∈ encs Value.string l, v.oneCell' = true := fun v hv => by
  simp only [encs, List.mem_map] at hv
  obtain ⟨_, _, rfl⟩ := hv
  rfl
 have hle : (encs Value.string l).length = l.length := encs_length l
 have hil := insAt_length l i x hi
 have hml : maxLen = 9223372036854775807 := by decide
 have hnl : l.length < 8796093022208 := by omega
 obtain ⟨_, h2⟩ := Kd.own_of_R hr
 rcases h2 with ⟨he, h0⟩ | ⟨g, cap, cur, he, hbg, hh, hnc, hcm, hcs, ht⟩
 ·
  -- nil
  injection he with ha _ hc
  subst ha hc
  have hl0 : l = [] := List.eq_nil_of_length_eq_zero h0
  subst hl0
  obtain rfl : i = 0 := by simpa using hi
  refine (Any2.slices_Insert_string_end_grow insLays none 0 0 vb 0 1 1 [] [.string x] w (by omega) (Nat.le_refl _) (by omega) (by omega) rfl rfl (fun _ => rfl) (fun _ h => by cases h) hv h1v).mono ?_
  rintro e w' ⟨rfl, rfl⟩
  refine ⟨_, _, rfl, R_made (heap_alloc_new w.drew _) hB rfl (grownCap_ge _ _ _ _) (grownCap_le_maxLen _ _ _ _ (by rw [hml]; omega)) ?_ ?_, (below_drew (Below.refl B w)).alloc hB _, (Kept.drew (Kept.refl w _)).alloc _, fun k hk => .inr (by rw [← own_some hk]; exact Nat.le_refl _)⟩
  ·
   have := grownCap_ge w 1 0 9
   simp [size_zeroCells]
   show 1 + (grownCap w 1 0 9 - 1) * 1 = grownCap w 1 0 9
   omega
  ·
   simp [insAt, encs]
 ·
  injection he with ha _ hc
  subst ha hc
  rw [Nat.mul_one] at hcs ht
  have hcell : ∀ (j : Nat) (v : Value), (encs Value.string l)[j]? = some v → w.cell? ⟨g, 0 + j, none⟩ = some v := fun j v hj => by
   rw [Nat.zero_add, blk_cell hh, ← Array.getElem?_toList]
   rw [← ht, List.getElem?_take] at hj
   split at hj
   ·
    exact hj
   ·
    cases hj
  have hsome : ∀ j, j < c → (w.cell? ⟨g, 0 + j, none⟩).isSome = true := fun j hj => by
   rw [Nat.zero_add, blk_cell hh]
   simp [hcs, hj]
  have hvg : vb ≠ g := fun h => hne (by rw [h]; simp [Value.ownBlock])
  by_cases hroom : l.length + 1 ≤ c
  ·
   by_cases hlt : i < l.length
   ·
    refine (Any2.slices_Insert_string_shift insLays g 0 l.length c i vb 0 1 1 (encs Value.string l) [.string x] w hlt (by omega) hroom (by rw [← hml]; exact hcm) hvg hle rfl hcell (fun j hj => hsome j (by omega)) (fun j _ => blk_frozen hh _) hv h1c h1v 9 9 1 cur.size (shape_of hvb) (shape_of hh) (by omega) (blk_frozen hvb 0) (blk_frozen hvb 1)).mono ?_
    rintro e w' ⟨rfl, rfl⟩
    have k1 := setCells_blk ((encs Value.string l).drop i) w.drew cur (0 + (i + 1)) hh
    have k2 := setCells_blk [.string x] _ _ (0 + i) k1
    simp only [Nat.zero_add] at k1 k2 ⊢
    exact ⟨_, _, rfl, R_made k2 hbg hil.symm (by omega) hcm (by rw [setL_size, setL_size, hcs]) (ins_cells ht (by omega) hi), below_cells (below_cells (below_drew (Below.refl B w)) hbg _ _) hbg _ _, kept_cells (kept_cells (Kept.drew (Kept.refl w _)) (.inl (by simp [Value.ownBlock])) _ _) (.inl (by simp [Value.ownBlock])) _ _, fun k hk => .inl hk⟩
   ·
    obtain rfl : i = l.length := by omega
    refine (Any2.slices_Insert_string_end_room insLays g 0 l.length c vb 0 1 1 [.string x] w (by omega) hroom (by rw [← hml]; exact hcm) rfl (fun j hj => by have := hsome (l.length + j) (by omega); rw [show 0 + l.length + j = 0 + (l.length + j) by omega]; exact this) (fun j _ => blk_frozen hh _) hv h1v).mono ?_
    rintro e w' ⟨rfl, rfl⟩
    have k2 := setCells_blk [.string x] w cur (0 + l.length) hh
    simp only [Nat.zero_add] at k2 ⊢
    have hz := ins_cells (x := x) ht (by omega) (Nat.le_refl l.length)
    rw [show (encs Value.string l).drop l.length = [] from List.drop_eq_nil_of_le (by rw [hle]; exact Nat.le_refl _)] at hz
    exact ⟨_, _, rfl, R_made k2 hbg hil.symm (by omega) hcm (by rw [setL_size, hcs]) hz, below_cells (Below.refl B w) hbg _ _, kept_cells (Kept.refl w _) (.inl (by simp [Value.ownBlock])) _ _, fun k hk => .inl hk⟩
  ·
   by_cases hlt : i < l.length
   ·
    refine (Any2.slices_Insert_string_grow insLays g 0 l.length c i vb 0 1 1 (encs Value.string l) [.string x] w hlt (by omega) hnc (by omega) hbig hle rfl hcell hv h1c h1v).mono ?_
    rintro e w' ⟨rfl, rfl⟩
    have hgc := grownCap_ge w (l.length + 1) c 9
    obtain ⟨CS, hCS⟩ : ∃ CS : Array Value, CS = ((encs Value.string l).take i).toArray ++ Builtin.zeroCells (Value.string ⟨#[]⟩).cells (l.length + 1 - i) ++ Builtin.zeroCells (Value.string ⟨#[]⟩).cells (grownCap w (l.length + 1) c (insRen.t 9) - (l.length + 1)) := ⟨_, rfl⟩
    have hsz : CS.size = grownCap w (l.length + 1) c 9 := by
     rw [hCS]
     simp only [Array.size_append, size_zeroCells, List.size_toArray, List.length_take, hle]
     show min i l.length + (l.length + 1 - i) * 1 + (grownCap w (l.length + 1) c 9 - (l.length + 1)) * 1 = grownCap w (l.length + 1) c 9
     omega
    have hfst : ∀ j, j < i → CS[j]? = (encs Value.string l)[j]? := fun j hj => by
     rw [hCS, Array.getElem?_append_left (by simp [hle]; omega), Array.getElem?_append_left (by simp [hle]; omega)]
     simp [hj]
    rw [← hCS]
    have k0 := heap_alloc_new w (.cells CS 9)
    have k1 := setCells_blk [.string x] (w.alloc (.cells CS 9)).drew CS i k0
    have k2 := setCells_blk ((encs Value.string l).drop i) _ _ (i + 1) (show ((w.alloc (.cells CS 9)).drew.setCells w.heap.size i [.string x]).drew.heap[w.heap.size]? = _ from k1)
    exact ⟨_, _, rfl, R_made k2 hB hil.symm (by rw [hil]; exact hgc) (grownCap_le_maxLen _ _ _ _ (by rw [hml]; omega)) (by rw [setL_size, setL_size]; exact hsz) (ins_cells2 hfst (by omega) hi), below_cells (below_drew (below_cells (below_drew ((Below.refl B w).alloc hB _)) hB _ _)) hB _ _, kept_cells (Kept.drew (kept_cells (Kept.drew ((Kept.refl w _).alloc _)) (.inr (Nat.le_refl _)) _ _)) (.inr (Nat.le_refl _)) _ _, fun k hk => .inr (by rw [← own_some hk]; exact Nat.le_refl _)⟩
   ·
    obtain rfl : i = l.length := by omega
    refine (Any2.slices_Insert_string_end_grow insLays (some ⟨g, 0, none⟩) l.length c vb 0 1 1 (encs Value.string l) [.string x] w (by omega) hnc (by omega) hbig hle rfl (fun h => by cases h) (fun a ha j v hj => by injection ha with ha; subst ha; rw [add_plain]; have := hcell j v hj; rwa [Nat.zero_add] at this) hv h1v).mono ?_
    rintro e w' ⟨rfl, rfl⟩
    refine ⟨_, _, rfl, R_made (heap_alloc_new w.drew _) hB hil.symm (by rw [hil]; exact grownCap_ge _ _ _ _) (grownCap_le_maxLen _ _ _ _ (by rw [hml]; omega)) ?_ ?_, (below_drew (Below.refl B w)).alloc hB _, (Kept.drew (Kept.refl w _)).alloc _, fun k hk => .inr (by rw [← own_some hk]; exact Nat.le_refl _)⟩
    ·
     have := grownCap_ge w (l.length + 1) c 9
     simp only [Array.size_append, size_zeroCells, List.size_toArray, List.length_append, hle, List.length_singleton]
     show l.length + 1 + (grownCap w (l.length + 1) c 9 - (l.length + 1)) * 1 = grownCap w (l.length + 1) c 9
     omega
    ·
     rw [hil, Array.toList_append, List.take_append_of_le_length (by simp [hle]), List.take_of_length_le (by simp [hle])]
     simp [insAt, encs]
end Go.Proofs.Ytdlkhpfgkghhmaa.P

-- ==== Rw8
namespace Go.Proofs.Ytdlkhpfgkghhmaa.P
open Go.RowKit Go.Proofs.YtdlkhpfgkghhmaaW.PrintWords Go.Proofs.YtdlkhpfgkghhmaaW.PrintLast Go.Proofs.YtdlkhpfgkghhmaaW.PrintMore
def IsMcH (B : Nat) (W : World) (g : Nat) (rv tv : Value) (ops : List S70) (vals : List (List S54)) (st : Int) (vh : Value) (hd : List ByteArray) (fu : Int) : Prop :=
 ∃ vo vv, W.heap[g]? = some (.cells #[vo, vv, .int .i64 st, vh, rv, tv, .int .i64 fu] 94 (0, 0)) ∧ B ≤ g ∧ Kd.R k70 70 W B (fun _ => True) vo ops ∧ Kd.R (Kd.slice 54 k54) 23 W B (fun _ => True) vv vals ∧ Kd.R Kd.string 9 W B (fun _ => True) vh hd
theorem isMc_iff {B : Nat} {W : World} {g : Nat} {rv tv : Value} {ops : List S70} {vals : List (List S54)} {st fu : Int} {hd : List ByteArray} : IsMc B W g rv tv ops vals st hd fu ↔ ∃ vh, IsMcH B W g rv tv ops vals st vh hd fu := by
 constructor
 ·
  rintro ⟨vo, vv, vh, h⟩
  exact ⟨vh, vo, vv, h⟩
 ·
  rintro ⟨vh, vo, vv, h⟩
  exact ⟨vo, vv, vh, h⟩
def headF (k : Nat) : List ByteArray → List ByteArray → Option (List ByteArray)
 | [], hd => some hd
 | x :: r, hd => (slices_BinarySearch_string_string.f k hd x).bind fun b => if b.2 = true then headF k r hd else if 0 ≤ b.1 ∧ b.1 ≤ (hd.length : Int) ∧ hd.length < 8796093022207 then headF k r (insAt hd b.1.toNat x) else none
theorem head_calls {B g k : Nat} {w : World} {rv tv vh : Value} {ops : List S70} {vals : List (List S54)} {st fu : Int} {hd fin names : List ByteArray} {An : Option Addr} {cn : Nat}
 (h : IsMcH B w g rv tv ops vals st vh hd fu) (hn : Kd.F Kd.string w (fun q => q ≠ g ∧ vh.ownBlock ≠ some q) An names.length names) (hf : headF k names hd = some fin) :
 Calls Try.prog 73 #[.pointer (some ⟨g, 0, none⟩), .slice An names.length cn] w fun e w' => e = .returned (.tuple #[]) ∧ IsMc B w' g rv tv ops vals st fin fu ∧ Below B w w' ∧ Kept w w' (fun q => q = g ∨ vh.ownBlock = some q) := by
 have HI := Aside0.mk h
 have HN := Aside0.mk hn
 have HF := Aside0.mk hf
 have HM := Aside0.mk (show (names.length : Int) ≤ 9223372036854775807 by have := (Kd.F_now hn).2.1; omega)
 have HB := Aside0.mk (Below.refl B w)
 have HK := Aside0.mk (Kept.refl w (fun q => q = g ∨ vh.ownBlock = some q))
 have HV := Aside0.mk (show ∀ q, vh.ownBlock = some q → vh.ownBlock = some q ∨ w.heap.size ≤ q from fun q hq => .inl hq)
 clear h hn hf
 go_enter Try.func73, Try.ntmps73
 go_wp2
 go_loopg [10] names.length (fun kq v10 w' => ∃ (x : Int) (vc : Value) (cur : List ByteArray), v10 = .int .i64 x ∧ Aside0 (0 ≤ x ∧ x + kq = (names.length : Int)) ∧ Aside0 (headF k (names.drop x.toNat) cur = some fin) ∧ Aside0 (IsMcH B w' g rv tv ops vals st vc cur fu) ∧ Aside0 (Below B w w') ∧ Aside0 (Kept w w' (fun q => q = g ∨ vh.ownBlock = some q)) ∧ Aside0 (∀ q, vc.ownBlock = some q → vh.ownBlock = some q ∨ w.heap.size ≤ q))
 case atStart => exact ⟨0, vh, hd, rfl, ⟨by omega⟩, HF, HI, HB, HK, HV⟩
 case round =>
  clear HI HB HK HF HV
  obtain ⟨x, vc, cur, rfl, HX, HF, HI, HB, HK, HV⟩ := hrel
  cases gk with
  | succ k1 =>
   have hi : 0 ≤ x ∧ x < (names.length : Int) := by have := HX.out; omega
   have hnw := Kd.F_now (Kd.F_kept HN.out HK.out (fun q hq hs => hs.elim hq.1 hq.2))
   obtain ⟨ad, rfl, hx0⟩ := Kd.at_string hnw x hi.1 hi.2
   have hdr : names.drop x.toNat = rdOf ByteArray.empty names x :: names.drop (x.toNat + 1) := by
    rw [List.drop_eq_getElem_cons (show x.toNat < names.length by omega)]
    congr 1
    simp [rdOf, List.getD_eq_getElem?_getD, show x.toNat < names.length by omega]
   have hf := HF.out
   rw [hdr, headF] at hf
   generalize rdOf ByteArray.empty names x = s at hx0 hf
   obtain ⟨⟨j, b⟩, hbs, hf⟩ := Option.bind_eq_some_iff.mp hf
   simp only at hf
   obtain ⟨vo, vv, hb, hg, hO, hV, hH⟩ := HI.out
   obtain ⟨Ah, ch, rfl⟩ := Kd.R_slice hH
   obtain ⟨_, hch, hCh⟩ := Kd.R_reads' hH
   have B1 := fun (W : World) (hW : Kd.C Kd.string W Ah cur.length cur) => slices_BinarySearch_string_string.calls k Ah ch cur s j b W hW hch hbs
   have hm3 : wr.cell? ⟨g, 3, none⟩ = some (.slice Ah cur.length ch) := (blk_cell hb 3).trans rfl
   have HXI := Aside0.mk hi
   have HH := Aside0.mk hH
   have HCh := Aside0.mk hCh
   have HBK := Aside0.mk hb
   have HOV := Aside0.mk (And.intro hg (And.intro hO hV))
   have hpp := eq_true hi.1
   have hqq := eq_true hi.2
   have hb0 : decide (x < (names.length : Int)) = true := decide_eq_true hi.2
   have HFX := Aside0.mk hf
   clear hdr hnw hb hg hO hV hH hCh hbs hf hi hch
   cases b with
   | true =>
    have hf := HFX.out
    rw [if_pos rfl] at hf
    have HF2 := Aside0.mk hf
    clear hf HFX
    go_wp2_with (go_at_call 90; (with_reducible refine (B1 _ ?side1).mono ?_); (case side1 => exact HCh.out); rintro e w2 ⟨rfl, ⟨nd, rfl⟩⟩)
    go_roundg k1
    case measure => have := HX.out; omega
    case rel => exact ⟨x + 1, _, cur, by have e_ : wrap64 (x + 1) = x + 1 := (by have := HXI.out; have := HM.out; unfold wrap64; omega); first | rfl | rw [e_] | (simp [e_]; done), ⟨by have := HX.out; omega⟩, ⟨by rw [show (x + 1).toNat = x.toNat + 1 by have := HXI.out; omega]; exact HF2.out⟩, ⟨⟨_, _, HBK.out, HOV.out.1, Kd.R_drewN HOV.out.2.1 _, Kd.R_drewN HOV.out.2.2 _, Kd.R_drewN HH.out _⟩⟩, ⟨pw_below_drewN HB.out _⟩, ⟨Kept.drewN HK.out _⟩, HV⟩
   | false =>
    have hf := HFX.out
    rw [if_neg (by decide)] at hf
    by_cases hj : 0 ≤ j ∧ j ≤ (cur.length : Int) ∧ cur.length < 8796093022207
    case neg => rw [if_neg hj] at hf; cases hf
    rw [if_pos hj] at hf
    have HF2 := Aside0.mk hf
    have HJ := Aside0.mk hj
    obtain ⟨jn, rfl⟩ := Int.eq_ofNat_of_zero_le hj.1
    have I1 := fun (W : World) (hr : Kd.R Kd.string 9 W B (fun _ => True) (.slice Ah cur.length ch) cur) (hB : B ≤ W.heap.size) (vb : Nat) (hvb : W.heap[vb]? = some (.cells #[.string s] 9 (0, 0))) (hne : some vb ≠ (Value.slice Ah cur.length ch).ownBlock) => ins_calls (i := jn) hr (by have := HJ.out; omega) hvb hne hB (by have := HJ.out; omega)
    clear hf HFX hj
    go_wp2_with (first | (go_at_call 90; (with_reducible refine (B1 _ ?side2).mono ?_); (case side2 => exact HCh.out); rintro e w2 ⟨rfl, ⟨nd, rfl⟩⟩) | (go_at_call 91; (with_reducible refine (I1 _ ?side3 ?side4 wr.heap.size ?side5 ?side6).mono ?_); (case side3 => exact (zr HH.out)); (case side4 => exact Nat.le_trans HOV.out.1 (by have := blk_lt HBK.out; simp; omega)); (case side5 => exact heap_alloc_new _ _); (case side6 => exact fun he => by have := Kd.R_lt HH.out _ he.symm; omega); rintro e w3 ⟨A3, c3, rfl, hR, hB3, hK3, hV3⟩; have hz := blk_kept (((below_alloc (pw_below_drewN (Below.refl wr.heap.size wr) nd) (.cells #[.string s] 9)).block g (blk_lt HBK.out)).trans HBK.out) hK3 (fun he => Kd.R_ne HH.out HBK.out (by decide) he.symm); have HZ := Aside0.mk hz; have q3 := (blk_cell hz 3).trans rfl; have f3 := blk_frozen hz 3; have HR3 := Aside0.mk hR; have HB3 := Aside0.mk hB3; have HK3 := Aside0.mk hK3; have HV3 := Aside0.mk hV3; clear hz hR hB3 hK3 hV3))
    go_roundg k1
    case measure => have := HX.out; omega
    case rel =>
     have hW := pw_below_drewN (Below.refl wr.heap.size wr) nd
     have hW2 := below_alloc hW (.cells #[.string s] 9)
     have hO := Kd.R_mono (Kd.R_kept (Kd.R_apartR (Kd.R_below HOV.out.2.1 hW2) (Kd.R_below HH.out hW2) (by decide)) HK3.out (fun q hq hs => hq.2 hs.symm)) (fun _ _ => trivial)
     have hV := Kd.R_mono (Kd.R_kept (Kd.R_apartR (Kd.R_below HOV.out.2.2 hW2) (Kd.R_below HH.out hW2) (by decide)) HK3.out (fun q hq hs => hq.2 hs.symm)) (fun _ _ => trivial)
     have hsz := hW2.size
     have hws := HK.out.1
     refine ⟨x + 1, .slice A3 (cur.length + 1) c3, insAt cur jn s, by have e_ : wrap64 (x + 1) = x + 1 := (by have := HXI.out; have := HM.out; unfold wrap64; omega); first | rfl | rw [e_] | (simp [e_]; done), ⟨by have := HX.out; omega⟩, ⟨by rw [show (x + 1).toNat = x.toNat + 1 by have := HXI.out; omega]; exact HF2.out⟩, ⟨⟨_, _, by simpa using blk_set HZ.out 3 (.slice A3 (cur.length + 1) c3), HOV.out.1, Kd.R_set hO HZ.out (by decide) 3 _, Kd.R_set hV HZ.out (by decide) 3 _, Kd.R_set HR3.out HZ.out (by decide) 3 _⟩⟩, ⟨(below_trB (below_trB HB.out (below_less hW2 (Nat.le_trans HOV.out.1 (Nat.le_of_lt (blk_lt HBK.out))))) HB3.out).setCell (p := ⟨g, 3, none⟩) HOV.out.1 _⟩, ⟨Kept.setCell (Kept.then_ (Kept.below HK.out hW2) HK3.out (fun q hq => (HV.out q hq).elim (fun h => .inl (.inr h)) .inr)) (.inl (.inl rfl)) _⟩, ⟨fun q hq => (HV3.out q hq).elim (fun h => HV.out q h) (fun h => .inr (by omega))⟩⟩
  | zero =>
   have hb0 : decide (x < (names.length : Int)) = false := decide_eq_false (by have := HX.out; omega)
   have hf := HF.out
   rw [List.drop_eq_nil_of_le (by have := HX.out; omega), headF] at hf
   obtain rfl := Option.some.inj hf
   clear hf HF
   go_wp2
   (first | refine bodyPost_ret (results_none rfl _ _ _) rfl ?_ | refine bodyPost_end (results_none rfl _ _ _) rfl ?_)
   exact ⟨rfl, isMc_iff.2 ⟨_, HI.out⟩, HB.out, HK.out⟩
end Go.Proofs.Ytdlkhpfgkghhmaa.P

-- ==== PF92
namespace Go.Proofs.Ytdlkhpfgkghhmaa.P
open Go.RowKit Go.Proofs.YtdlkhpfgkghhmaaW.PrintWords Go.Proofs.YtdlkhpfgkghhmaaW.PrintLast Go.Proofs.YtdlkhpfgkghhmaaW.PrintMore
attribute [local go_sem] max2_int min2_int max_two min_two max_three min_three max_four min_four

attribute [local go_sem high] eqA54
def match_Match.l0 : Nat → List (S54) → List (S104) → List (S54) → Int → List (S54) → Int → Int → Option ((List (S104)) × Bool × Int)
 | 0, _, _, _, _, _, _, _ => none
 | k + 1, x1, x10, x11, x12, x33, x34, x35 => if x35 < x34 then (if 0 ≤ x35 then (if x35 < (x33.length : Int) then ((match_variable.f k ((rd_T54 x33 x35).f0) ((rd_T54 x33 x35).f1)).bind fun t106 => (if t106 = true then ((match_end.f k x1 x12).bind fun t108 => (if 0 ≤ x12 then (if x12 ≤ t108 then (if t108 ≤ (x1.length : Int) then ((some ((x1.take (t108 : Int).toNat).drop (x12 : Int).toNat : List (S54))).bind fun y109 => (if ((rd_T54 x33 x35).f0).size ≤ 9223372036854775807 then (if (mapHas x11 ((rd_T54 x33 x35).f0) = true) then (if 0 ≤ (mapAt x11 ((rd_T54 x33 x35).f0)) then (if (mapAt x11 ((rd_T54 x33 x35).f0)) < (x10.length : Int) then ((api_Cell_104.f k ((rd_T104 x10 (mapAt x11 ((rd_T54 x33 x35).f0))).f1) y109).bind fun t114 => (if t114 = true then (match_Match.l0 k x1 x10 x11 (wrap64 (x12 + (y109.length : Int))) x33 x34 (wrap64 (x35 + 1))) else (some (([] : List (S104)), false, 0)))) else (none)) else (none)) else (if x11.length < 9223372036854775807 ∧ ((rd_T54 x33 x35).f0).size ≤ 9223372036854775807 ∧ 0 ≤ (x10.length : Int) ∧ (x10.length : Int) ≤ 9223372036854775807 then ((api_Cell_71.f y109).bind fun t118 => (if x10.length < 3518437208883 then (match_Match.l0 k x1 (x10 ++ [(⟨(rd_T54 x33 x35).f0, t118⟩ : S104)]) (mapPut x11 ((rd_T54 x33 x35).f0) (x10.length : Int)) (wrap64 (x12 + (y109.length : Int))) x33 x34 (wrap64 (x35 + 1))) else (none))) else (none))) else (none))) else (none)) else (none)) else (none))) else (if 0 ≤ x12 then (if x12 < (x1.length : Int) then (if (!((((rd_T54 x1 x12).f0).toList) == (((rd_T54 x33 x35).f0).toList)) || (!(((rd_T54 x1 x12).f1) == ((rd_T54 x33 x35).f1)))) = true then (some (([] : List (S104)), false, 0)) else (match_Match.l0 k x1 x10 x11 (wrap64 (x12 + 1)) x33 x34 (wrap64 (x35 + 1)))) else (none)) else (none)))) else (none)) else (none)) else (some (x10, true, 0))
def match_Match.g (k : Nat) (l0 : List (S54)) (l1 : List (S54)) : Option ((List (S104)) × Bool × Int) := match_Match.l0 k l1 ([] : List (S104)) (([] : List (S54))) 0 l0 (l0.length : Int) 0
def match_Match.f (k : Nat) (l0 : List (S54)) (l1 : List (S54)) : Option ((List (S104)) × Bool × Int) := (term_Check.f k l0).bind fun ta => (if ta = 0 then ((term_Check.f k l1).bind fun tb => (if tb = 0 then (match_Match.g k l0 l1) else (some (([] : List (S104)), false, tb)))) else (some (([] : List (S104)), false, ta)))
theorem match_Match.mono_l : ∀ k, (∀ y0 y1 y2 y3 y4 y5 y6, LeO (match_Match.l0 k y0 y1 y2 y3 y4 y5 y6) (match_Match.l0 (k + 1) y0 y1 y2 y3 y4 y5 y6))
 | 0 => fun _ _ _ _ _ _ _ r h => by simp [match_Match.l0] at h
 | k + 1 => by
  have ih0 := match_Match.mono_l k
  ·
   intro y0 y1 y2 y3 y4 y5 y6
   unfold match_Match.l0
   repeat' first
   | (with_reducible exact ih0 _ _ _ _ _ _ _)
   | (with_reducible exact api_Cell_104.mono _ _ _)
   | (with_reducible exact match_end.mono _ _ _)
   | (with_reducible exact match_variable.mono _ _ _)
   | (with_reducible exact LeO.refl _)
   | (with_reducible exact LeO.none _)
   | (with_reducible refine LeO.ite ?_ ?_)
   | (with_reducible refine LeO.bind ?_ (fun _ => ?_))
theorem match_Match.mono_g : ∀ a0 a1 k, LeO (match_Match.g k a0 a1) (match_Match.g (k + 1) a0 a1) := by
 intro a0 a1 k
 have ih0 := match_Match.mono_l k
 unfold match_Match.g
 repeat' first
  | (with_reducible exact ih0 _ _ _ _ _ _ _)
  | (with_reducible exact api_Cell_104.mono _ _ _)
  | (with_reducible exact match_end.mono _ _ _)
  | (with_reducible exact match_variable.mono _ _ _)
  | (with_reducible exact LeO.refl _)
  | (with_reducible exact LeO.none _)
  | (with_reducible refine LeO.ite ?_ ?_)
  | (with_reducible refine LeO.bind ?_ (fun _ => ?_))
theorem match_Match.mono : ∀ a0 a1 k, LeO (match_Match.f k a0 a1) (match_Match.f (k + 1) a0 a1) := by
 intro a0 a1 k
 unfold match_Match.f
 refine LeO.bind (term_Check.mono _ _) (fun _ => LeO.ite (LeO.bind (term_Check.mono _ _) (fun _ => LeO.ite (match_Match.mono_g _ _ _) (LeO.refl _))) (LeO.refl _))
def match_Match.T23 : Bool × List (List Nat × List Nat) := (true, [([], []), ([], []), ([1], [1]), ([], []), ([3], [3]), ([2, 4], [2, 4]), ([5], [5]), ([0, 6, 4], [0, 6]), ([7, 7, 0, 1, 2, 3, 4, 5, 6, 7], [0, 7])])
def match_Match.B23 : List Nat := [0, 0, 2, 0, 8, 30, 62, 127, 255]
theorem match_Match.tab23 : rtab .any (opsOf Try.f92 23) = match_Match.T23 := by kernel_rfl
theorem match_Match.bits23 : waitsOk match_Match.T23.2 match_Match.B23 = true := by kernel_rfl
theorem match_Match.calls (k : Nat) (A0 : Option Addr) (c0 : Nat) (l0 : List (S54)) (A1 : Option Addr) (c1 : Nat) (l1 : List (S54)) (r1 : List (S104)) (r2 : Bool) (r3 : Int) (w : World) (hr0 : Kd.C k54 w A0 l0.length l0) (hc0 : l0.length ≤ c0) (hr1 : Kd.C k54 w A1 l1.length l1) (hc1 : l1.length ≤ c1) (h : match_Match.f k l0 l1 = some (r1, r2, r3)) :
 Calls Try.prog 92 #[.slice A0 l0.length c0, .slice A1 l1.length c1] w fun e w' => ∃ v0_ : Value, e = .returned (.tuple #[v0_, .bool r2, .int .i64 r3]) ∧ Kd.S k104 104 w' w.heap.size (fun _ => True) v0_ r1 ∧ Below w.heap.size w w' := by
 have hu54 := Try.underlying54
 have hu104 := Try.underlying104
 have HR0 := zM hr0
 have HC0 := zM hc0
 clear hr0 hc0
 have HR1 := zM hr1
 have HC1 := zM hc1
 clear hr1 hc1
 have HB := zM (Below.refl w.heap.size w)
 have h0 : ((term_Check.f k l0).bind fun ta => (if ta = 0 then ((term_Check.f k l1).bind fun tb => (if tb = 0 then (match_Match.g k l0 l1) else (some (([] : List (S104)), false, tb)))) else (some (([] : List (S104)), false, ta)))) = some (r1, r2, r3) := h
 clear h
 replace h0 := zB h0
 obtain ⟨ta, Aa0, h0⟩ := h0
 have Aa := zM Aa0
 clear Aa0
 by_cases cta : ta = 0
 case neg =>
  have h1 : (some (([] : List (S104)), false, ta)) = some (r1, r2, r3) := by first | (rw [if_neg cta] at h0; exact h0) | exact (if_neg cta).symm.trans h0
  clear h0
  simp only [Option.some.injEq, Prod.mk.injEq] at h1
  obtain ⟨rfl, rfl, rfl⟩ := h1
  have ctab0 : (ta == 0) = false := zE cta
  have ctab1 : (ta != 0) = true := zF cta
  clear cta
  go_enter Try.func92, Try.ntmps92
  go_wp2
  refine wp_loop_rounds 1 ?_
  rw [rounds_succ]
  go_wp2_with (first | ((with_reducible refine gate_callee (f := 30) rfl ?_); refine goesL_ (some 27) rfl rfl Try.func30 (by kernel_rfl) rfl #[.slice A0 l0.length c0] rfl zl ?_; (with_reducible refine (term_Check.calls k _ _ l0 ta _ ?side1 ?side2 Aa.out).mono ?_); (case side1 => exact Kd.C_below HR0.out zg); (case side2 => exact HC0.out); rintro e w5 ⟨rfl, hb⟩; have hz1 : w5.cell? ⟨w.heap.size, 1, none⟩ = some (.slice A1 l1.length c1) := (hb.cell (p := ⟨w.heap.size, 1, none⟩) (by simp)).trans ((cell_of_row _ _ 1 _ _ (0, 0) (heap_alloc_new w _)).trans rfl); replace HB := zM (below_step (zA HB.out _) hb); refine ⟨_, rfl, ?_⟩))
  go_ret3
  exact ⟨_, zw, Kd.S_nil _ _ _ _ _, zb⟩
 case pos =>
 replace h0 : ((term_Check.f k l1).bind fun tb => (if tb = 0 then (match_Match.g k l0 l1) else (some (([] : List (S104)), false, tb)))) = some (r1, r2, r3) := (if_pos cta).symm.trans h0
 replace h0 := zB h0
 obtain ⟨tb, Ab0, h0⟩ := h0
 have Ab := zM Ab0
 clear Ab0
 have ctab0 : (ta == 0) = true := zG cta
 have ctab1 : (ta != 0) = false := zH cta
 clear cta
 by_cases ctb : tb = 0
 case neg =>
  have h1 : (some (([] : List (S104)), false, tb)) = some (r1, r2, r3) := by first | (rw [if_neg ctb] at h0; exact h0) | exact (if_neg ctb).symm.trans h0
  clear h0
  simp only [Option.some.injEq, Prod.mk.injEq] at h1
  obtain ⟨rfl, rfl, rfl⟩ := h1
  have ctbb0 : (tb == 0) = false := zE ctb
  have ctbb1 : (tb != 0) = true := zF ctb
  clear ctb
  go_enter Try.func92, Try.ntmps92
  go_wp2
  refine wp_loop_rounds 2 ?_
  rw [rounds_succ]
  go_wp2_with (first | ((with_reducible refine gate_callee (f := 30) rfl ?_); refine goesL_ (some 27) rfl rfl Try.func30 (by kernel_rfl) rfl #[.slice A0 l0.length c0] rfl zl ?_; (with_reducible refine (term_Check.calls k _ _ l0 ta _ ?side1 ?side2 Aa.out).mono ?_); (case side1 => exact Kd.C_below HR0.out zg); (case side2 => exact HC0.out); rintro e w5 ⟨rfl, hb⟩; have hz1 : w5.cell? ⟨w.heap.size, 1, none⟩ = some (.slice A1 l1.length c1) := (hb.cell (p := ⟨w.heap.size, 1, none⟩) (by simp)).trans ((cell_of_row _ _ 1 _ _ (0, 0) (heap_alloc_new w _)).trans rfl); replace HB := zM (below_step (zA HB.out _) hb); refine ⟨_, rfl, ?_⟩))
  rw [rounds_succ]
  go_wp2_with (first | ((with_reducible refine gate_callee (f := 30) rfl ?_); refine goesL_ (some 27) rfl rfl Try.func30 (by kernel_rfl) rfl #[.slice A1 l1.length c1] rfl zl ?_; (with_reducible refine (term_Check.calls k _ _ l1 tb _ ?side1 ?side2 Ab.out).mono ?_); (case side1 => exact Kd.C_below HR1.out HB.out); (case side2 => exact HC1.out); rintro e w6 ⟨rfl, hb⟩; replace HB := zM (below_step HB.out hb); refine ⟨_, rfl, ?_⟩))
  go_ret3
  exact ⟨_, zw, Kd.S_nil _ _ _ _ _, zb⟩
 case pos =>
 have h : match_Match.g k l0 l1 = some (r1, r2, r3) := (if_pos ctb).symm.trans h0
 clear h0
 have ctbb0 : (tb == 0) = true := zG ctb
 have ctbb1 : (tb != 0) = false := zH ctb
 clear ctb
 have H : (match_Match.l0 k l1 ([] : List (S104)) (([] : List (S54))) 0 l0 (l0.length : Int) 0) = some (r1, r2, r3) := h
 clear h
 obtain ⟨y101, hy101⟩ : ∃ y_ : List (S54), y_ = (([] : List (S54))) := ⟨_, rfl⟩
 replace H : (match_Match.l0 k l1 ([] : List (S104)) y101 0 l0 (l0.length : Int) 0) = some (r1, r2, r3) := by first | (rw [hy101]; with_reducible exact H) | (have H2_ := (Option.bind_some _ _).symm.trans H; rw [hy101]; with_reducible exact H2_) | (have H2_ := (Option.bind_some _ _).symm.trans H; with_reducible exact H2_) | with_reducible exact H | (rw [hy101]; exact H) | exact H
 have Ny101 := zM hy101
 clear hy101
 have H' := zM H
 clear H
 go_enter Try.func92, Try.ntmps92
 go_wp2
 refine wp_loop_rounds 3 ?_
 rw [rounds_succ]
 go_wp2_with (first | ((with_reducible refine gate_callee (f := 30) rfl ?_); refine goesL_ (some 27) rfl rfl Try.func30 (by kernel_rfl) rfl #[.slice A0 l0.length c0] rfl zl ?_; (with_reducible refine (term_Check.calls k _ _ l0 ta _ ?side1 ?side2 Aa.out).mono ?_); (case side1 => exact Kd.C_below HR0.out zg); (case side2 => exact HC0.out); rintro e w5 ⟨rfl, hb⟩; have hz1 : w5.cell? ⟨w.heap.size, 1, none⟩ = some (.slice A1 l1.length c1) := (hb.cell (p := ⟨w.heap.size, 1, none⟩) (by simp)).trans ((cell_of_row _ _ 1 _ _ (0, 0) (heap_alloc_new w _)).trans rfl); replace HB := zM (below_step (zA HB.out _) hb); refine ⟨_, rfl, ?_⟩))
 rw [rounds_succ]
 go_wp2_with (first | ((with_reducible refine gate_callee (f := 30) rfl ?_); refine goesL_ (some 27) rfl rfl Try.func30 (by kernel_rfl) rfl #[.slice A1 l1.length c1] rfl zl ?_; (with_reducible refine (term_Check.calls k _ _ l1 tb _ ?side1 ?side2 Ab.out).mono ?_); (case side1 => exact Kd.C_below HR1.out HB.out); (case side2 => exact HC1.out); rintro e w6 ⟨rfl, hb⟩; replace HB := zM (below_step HB.out hb); refine ⟨_, rfl, ?_⟩))
 rw [rounds_succ]
 go_wp2_with (first | ((with_reducible refine gate_dst (N := 32) rfl ?_); refine Kd.P_make k54 (N := 32) rfl rfl rfl ?_; intro v102 w3 ho4 hb; rw [← Ny101.out] at ho4; have HO103 := zM (Kd.P_lower ho4 (below_size zb)); replace HB := zM (below_step zb hb); clear hb ho4))
 go_loopg [10, 12, 35] k (fun kq v10 v12 v35 w' => ∃ (x10_1 : List (S104)) (x11_1 : List (S54)) (x12_1 : Int) (x35_1 : Int), v12 = .int .i64 x12_1 ∧ v35 = .int .i64 x35_1 ∧ Aside0 (match_Match.l0 kq l1 x10_1 x11_1 x12_1 l0 (l0.length : Int) x35_1 = some (r1, r2, r3)) ∧ Aside0 (kq ≤ k) ∧ Aside0 (Kd.S k104 104 w' w.heap.size (fun _ => True) v10 x10_1) ∧ Aside0 (Kd.P k54 150 w' w.heap.size (fun _ => True) v102 x11_1) ∧ Aside0 (Below w.heap.size w w'))
 case atStart => exact ⟨(([] : List (S104))), (y101), (0), (0), zy, zy, H', ⟨Nat.le_refl _⟩, ⟨by first | exact Kd.S_nil _ _ _ _ _ | exact Kd.N_nil _ _ _ _ _ | exact Kd.V_nil _ _ _ _ _ | exact Kd.Q_nil _ _ _ _ _ | exact Kd.R_nil _ _ _ _ _⟩, ⟨Kd.P_below HO103.out zg⟩, ⟨zb⟩⟩
 case round =>
  clear H'
  try clear c1
  try clear p2
  obtain ⟨x10_1, x11_1, x12_1, x35_1, rfl, rfl, HA, HK1, HO_10, HO_11, HB⟩ := hrel
  cases gk with
  | zero => exact absurd HA.out (by simp [match_Match.l0])
  | succ k1 =>
   have H := HA.out
   clear HA
   simp only [match_Match.l0] at H
   by_cases c5 : x35_1 < (l0.length : Int)
   ·
    rw [if_pos c5] at H
    have c5b0 : decide (x35_1 < (l0.length : Int)) = true := zQ c5
    clear c5
    by_cases c6 : 0 ≤ x35_1
    ·
     rw [if_pos c6] at H
     have c6b0 : decide (0 ≤ x35_1) = true := zQ c6
     clear c6
     by_cases c7 : x35_1 < (l0.length : Int)
     ·
      rw [if_pos c7] at H
      have c7b0 : decide (x35_1 < (l0.length : Int)) = true := zQ c7
      clear c7
      replace H := zB H
      obtain ⟨t106, A80, H⟩ := H
      try dsimp only at H
      have A8 := zM A80
      clear A80
      by_cases c9 : t106 = true
      ·
       subst c9
       rw [if_pos rfl] at H
       replace H := zB H
       obtain ⟨t108, A100, H⟩ := H
       try dsimp only at H
       have A10 := zM A100
       clear A100
       by_cases c11 : 0 ≤ x12_1
       ·
        rw [if_pos c11] at H
        have c11b0 := eq_true c11
        have c11b1 : decide (0 ≤ x12_1) = true := zQ c11
        clear c11
        by_cases c12 : x12_1 ≤ t108
        ·
         rw [if_pos c12] at H
         have c12b0 := eq_true c12
         have c12b1 : decide (x12_1 ≤ t108) = true := zQ c12
         clear c12
         by_cases c13 : t108 ≤ (l1.length : Int)
         ·
          rw [if_pos c13] at H
          have c13b0 := eq_true c13
          have c13b1 : decide (t108 ≤ (l1.length : Int)) = true := zQ c13
          clear c13
          obtain ⟨y109, hy109⟩ : ∃ y_ : List (S54), y_ = ((l1.take (t108 : Int).toNat).drop (x12_1 : Int).toNat) := ⟨_, rfl⟩
          replace H : (if ((rd_T54 l0 x35_1).f0).size ≤ 9223372036854775807 then (if (mapHas x11_1 ((rd_T54 l0 x35_1).f0) = true) then (if 0 ≤ (mapAt x11_1 ((rd_T54 l0 x35_1).f0)) then (if (mapAt x11_1 ((rd_T54 l0 x35_1).f0)) < (x10_1.length : Int) then ((api_Cell_104.f k1 ((rd_T104 x10_1 (mapAt x11_1 ((rd_T54 l0 x35_1).f0))).f1) y109).bind fun t114 => (if t114 = true then (match_Match.l0 k1 l1 x10_1 x11_1 (wrap64 (x12_1 + (y109.length : Int))) l0 (l0.length : Int) (wrap64 (x35_1 + 1))) else (some (([] : List (S104)), false, 0)))) else (none)) else (none)) else (if x11_1.length < 9223372036854775807 ∧ ((rd_T54 l0 x35_1).f0).size ≤ 9223372036854775807 ∧ 0 ≤ (x10_1.length : Int) ∧ (x10_1.length : Int) ≤ 9223372036854775807 then ((api_Cell_71.f y109).bind fun t118 => (if x10_1.length < 3518437208883 then (match_Match.l0 k1 l1 (x10_1 ++ [(⟨(rd_T54 l0 x35_1).f0, t118⟩ : S104)]) (mapPut x11_1 ((rd_T54 l0 x35_1).f0) (x10_1.length : Int)) (wrap64 (x12_1 + (y109.length : Int))) l0 (l0.length : Int) (wrap64 (x35_1 + 1))) else (none))) else (none))) else (none)) = some (r1, r2, r3) := by first | (rw [hy109]; with_reducible exact H) | (have H2_ := (Option.bind_some _ _).symm.trans H; rw [hy109]; with_reducible exact H2_) | (have H2_ := (Option.bind_some _ _).symm.trans H; with_reducible exact H2_) | with_reducible exact H | (rw [hy109]; exact H) | exact H
          have Ny109 := zM hy109
          clear hy109
          by_cases c14 : ((rd_T54 l0 x35_1).f0).size ≤ 9223372036854775807
          ·
           rw [if_pos c14] at H
           have LMc14 := zM c14
           clear c14
           by_cases c15 : (mapHas x11_1 ((rd_T54 l0 x35_1).f0) = true)
           ·
            rw [if_pos c15] at H
            have c15b0 : mapHas x11_1 ((rd_T54 l0 x35_1).f0) = true := c15
            clear c15
            by_cases c16 : 0 ≤ (mapAt x11_1 ((rd_T54 l0 x35_1).f0))
            ·
             rw [if_pos c16] at H
             have c16b0 : decide (0 ≤ (mapAt x11_1 ((rd_T54 l0 x35_1).f0))) = true := zQ c16
             clear c16
             by_cases c17 : (mapAt x11_1 ((rd_T54 l0 x35_1).f0)) < (x10_1.length : Int)
             ·
              rw [if_pos c17] at H
              have c17b0 : decide ((mapAt x11_1 ((rd_T54 l0 x35_1).f0)) < (x10_1.length : Int)) = true := zQ c17
              clear c17
              replace H := zB H
              obtain ⟨t114, A180, H⟩ := H
              try dsimp only at H
              have A18 := zM A180
              clear A180
              by_cases c19 : t114 = true
              ·
               subst c19
               rw [if_pos rfl] at H
               have H' := zM H
               clear H
               have p104 : 0 ≤ (x35_1 : Int) := zT zv
               have q104 : x35_1 < (l0.length : Int) := zT zv
               obtain ⟨ad104, e104, hx104_0, hx104_1⟩ := at_T54 HR0.out x35_1 p104 q104
               cases e104
               replace hx104_0 := (HB.out.cell (World.block_lt_of_cell? w _ hx104_0)).trans hx104_0
               replace hx104_1 := (HB.out.cell (World.block_lt_of_cell? w _ hx104_1)).trans hx104_1
               replace p104 := eq_true p104
               replace q104 := eq_true q104
               go_wp2_with (first | ((with_reducible refine gate_dst (N := 14) rfl ?_); refine box_event ?hg (N := 14) ?hd (cs := #[.string (⟨#[]⟩ : ByteArray), .int .i64 0]) (t := 54) ?hr ?_; (case hd => rfl); (case hg => rfl); (case hr => first | (go_simp; done) | (go_simp; rfl)); intro gb105 hg w20 hbox hb; replace HO_10 := zM (Kd.S_below (Kd.S_elderB (Kd.S_below HO_10.out zg) gb105 (Nat.le_of_eq hg.symm)) hb); replace HO_11 := zM (Kd.P_below (Kd.P_below HO_11.out zg) hb); have BK105 := zM (hbox); have GW105 := zM (zh hg : w.heap.size ≤ gb105); have GE105 := zM (zh hg : w.heap.size ≤ gb105); replace HB := zM (below_step zb hb); clear hb hbox hg; have hcz21_0 : w20.cell? ⟨gb105, 0, none⟩ = some (.string (⟨#[]⟩ : ByteArray)) := (zX BK105.out 0).trans rfl; have hcz21_1 : w20.cell? ⟨gb105, 1, none⟩ = some (.int .i64 0) := (zX BK105.out 1).trans rfl; have hfz21_0 := zY BK105.out 0; have hfz21_1 := zY BK105.out 1) | ((with_reducible refine gate_callee (f := 102) rfl ?_); refine goesL_ (some 40) rfl rfl Try.func102 (by kernel_rfl) rfl #[.agg #[.string ((rd_T54 l0 x35_1).f0), .int .i64 ((rd_T54 l0 x35_1).f1)]] rfl zl ?_; (with_reducible refine (match_variable.calls k1 ((rd_T54 l0 x35_1).f0) ((rd_T54 l0 x35_1).f1) true _ A8.out).mono ?_); rintro e w22 ⟨rfl, hb⟩; refine ⟨_, rfl, ?_⟩; replace HO_10 := zM (Kd.S_below (by (with_reducible repeat (first | apply Kd.S_alloc | apply Kd.S_drewN | apply Kd.S_drew)); exact (Kd.S_mono (Kd.S_far (p := ⟨gb105, 1, none⟩) (Kd.S_far (p := ⟨gb105, 0, none⟩) (Kd.S_mono HO_10.out (fun k_ hk => (⟨hk, hk.2⟩ : _ ∧ k_ ≠ gb105))) (fun _ hk => hk.2) (.string ((rd_T54 l0 x35_1).f0))) (fun _ hk => hk.2) (.int .i64 ((rd_T54 l0 x35_1).f1))) (fun _ h_ => h_.1))) hb); replace HO_11 := zM (Kd.P_below (by (with_reducible repeat (first | apply Kd.P_alloc | apply Kd.P_drewN | apply Kd.P_drew)); exact (Kd.P_mono (Kd.P_far (p := ⟨gb105, 1, none⟩) (Kd.P_far (p := ⟨gb105, 0, none⟩) (Kd.P_types HO_11.out BK105.out (by decide)) (fun _ hk => hk.2) (.string ((rd_T54 l0 x35_1).f0))) (fun _ hk => hk.2) (.int .i64 ((rd_T54 l0 x35_1).f1))) (fun _ h_ => h_.1))) hb); replace BK105 := zM (blk_below (g := gb105) (o := .cells #[.string ((rd_T54 l0 x35_1).f0), .int .i64 ((rd_T54 l0 x35_1).f1)] 54 (0, 0)) (by refine zk ?_; refine blk_put (cs := #[.string ((rd_T54 l0 x35_1).f0), .int .i64 0]) ?_ 1 _ rfl; refine zk ?_; refine blk_put (cs := #[.string (⟨#[]⟩ : ByteArray), .int .i64 0]) ?_ 0 _ rfl; refine zk ?_; exact BK105.out) hb); replace HB := zM (below_step zb hb); (try clear hb)) | ((with_reducible refine gate_callee (f := 103) rfl ?_); refine goesL_ (some 54) rfl rfl Try.func103 (by kernel_rfl) rfl #[.slice A1 l1.length c1, .int .i64 x12_1] rfl zl ?_; (with_reducible refine (match_end.calls k1 _ _ l1 x12_1 t108 _ ?side1 ?side2 A10.out).mono ?_); (case side1 => exact Kd.C_below HR1.out zb); (case side2 => exact HC1.out); rintro e w' ⟨rfl, ⟨nd, rfl⟩⟩; refine ⟨_, rfl, ?_⟩; have q23 : (t108 : Int) ≤ ((l1.length : Int) : Int) := zT zv; obtain ⟨i023, hi023, _, hsz23, _⟩ := info_parts info54; have hroom23 : l1.length ≤ c1 := HC1.out; have hC23 : Kd.C k54 _ A1 l1.length l1 := HR1.out; have ql23 : (x12_1 : Int) ≤ (t108 : Int) := zT zv; have q023 : (0 : Int) ≤ (x12_1 : Int) := zT zv; have hcut23 := cut_mid (P := Try.prog) 23 54 .i64 .i64 Try.underlying23 hi023 2 hsz23 A1 l1.length c1 x12_1 t108 q023 ql23 q23 hroom23; have hr23 := Kd.C_mid (lo := (x12_1 : Int).toNat) (hi := (t108 : Int).toNat) (c := c1) hC23 (by omega) (by omega) hroom23; obtain ⟨A23, hA23⟩ : ∃ Aq_, Aq_ = (if c1 = (x12_1 : Int).toNat then A1 else (A1 : Option Addr).map (·.add ((x12_1 : Int).toNat * 2))) := ⟨_, rfl⟩; obtain ⟨c23, hc23⟩ : ∃ cq_, cq_ = c1 - (x12_1 : Int).toNat := ⟨_, rfl⟩; have hy23 : y109.length = (t108 : Int).toNat - (x12_1 : Int).toNat := (by rw [Ny109.out, List.length_drop, List.length_take] <;> omega); rw [show ((l1).take (t108 : Int).toNat).drop (x12_1 : Int).toNat = y109 from Ny109.out.symm] at hr23; replace hr23 : Kd.C k54 _ A23 y109.length y109 := (by rw [hA23]; exact hr23); rw [← hy23, ← hA23, ← hc23] at hcut23; have HR112 := zM hr23; have HC112 := zM (show y109.length ≤ c23 from by rw [hy23, hc23]; exact Nat.sub_le_sub_right (Nat.le_trans (by omega) hroom23) _); clear hr23 hC23 hroom23 hi023 hsz23 hc23; have KY23 := zM hy23; have KA23 := zM hA23; clear hy23 hA23; replace q23 := eq_true q23; have hcz24_0 : w22.cell? ⟨gb105, 0, none⟩ = some (.string ((rd_T54 l0 x35_1).f0)) := (zX BK105.out 0).trans rfl; have hcz24_1 : w22.cell? ⟨gb105, 1, none⟩ = some (.int .i64 ((rd_T54 l0 x35_1).f1)) := (zX BK105.out 1).trans rfl; have hfz24_0 := zY BK105.out 0; have hfz24_1 := zY BK105.out 1; obtain ⟨Ao25, co25, eo25⟩ := Kd.S_slice HO_10.out; subst eo25; have p113 : 0 ≤ ((mapAt x11_1 ((rd_T54 l0 x35_1).f0)) : Int) := zT zv; have q113 : (mapAt x11_1 ((rd_T54 l0 x35_1).f0)) < (x10_1.length : Int) := zT zv; obtain ⟨ad113, A113_1, c113_1, e113, hx113_0, hx113_1, hl113_1, hi113_1⟩ := at_T104 (Kd.S_reads' HO_10.out).2.2 (mapAt x11_1 ((rd_T54 l0 x35_1).f0)) p113 q113; cases e113; obtain ⟨ce113, hce113, hMe113, hcc113⟩ := Kd.S_get HO_10.out z104 (mapAt x11_1 ((rd_T54 l0 x35_1).f0)) p113 (by first | exact q113 | exact zT zv | (have e_ := (Kd.S_reads' HO_10.out).1; omega)); obtain ⟨ve113_1, rfl, ge113_1⟩ := k104_openM hMe113; have hv113_1 := hcc113 1 _ rfl; rw [add_field _ _ 1 (by omega)] at hv113_1; replace hv113_1 := zS (hv113_1.symm.trans hx113_1); rw [hv113_1] at ge113_1; have HL113_1 := zM (show Kd.R k54 54 _ _ _ _ ((rd_T104 x10_1 (mapAt x11_1 ((rd_T54 l0 x35_1).f0))).f1) from ge113_1); clear hv113_1 ge113_1; clear hcc113 hce113; have HR113_1 := zM hi113_1; have HC113_1 := zM hl113_1; clear hi113_1 hl113_1; replace p113 := eq_true p113; replace q113 := eq_true q113) | ((with_reducible refine gate_dst (N := 64) rfl ?_); refine Kd.P_look (v := v102) (m := x11_1) (s := ((rd_T54 l0 x35_1).f0)) rfl rfl rfl rfl LMc14.out (Kd.P_below HO_11.out zg) ?_) | ((with_reducible refine gate_callee (f := 104) rfl ?_); refine goesL_ (some 90) rfl rfl Try.func104 (by kernel_rfl) rfl #[.slice A113_1 ((rd_T104 x10_1 (mapAt x11_1 ((rd_T54 l0 x35_1).f0))).f1).length c113_1, .slice A23 y109.length c23] rfl zl ?_; (with_reducible refine (api_Cell_104.calls k1 _ _ ((rd_T104 x10_1 (mapAt x11_1 ((rd_T54 l0 x35_1).f0))).f1) _ _ y109 true _ ?side1 ?side2 ?side3 ?side4 A18.out).mono ?_); (case side1 => repeat (first | exact (by repeat (first | (with_reducible exact HR113_1.out) | (with_reducible first | refine Kd.C_alloc ?_ _ | refine Kd.C_drewN ?_ _ | refine Kd.C_drew ?_) | exact HR113_1.out)) | (with_reducible first | refine Kd.C_alloc ?_ _ | refine Kd.C_drewN ?_ _ | refine Kd.C_drew ?_))); (case side2 => exact HC113_1.out); (case side3 => exact Kd.C_below (Kd.C_below HR112.out zb) zg); (case side4 => exact HC112.out); rintro e w' ⟨rfl, ⟨nd, rfl⟩⟩; refine ⟨_, rfl, ?_⟩))
               go_roundg k1
               case measure => have := HK1.out; omega
               case rel => exact ⟨(x10_1), (x11_1), (wrap64 (x12_1 + (y109.length : Int))), (wrap64 (x35_1 + 1)), zy, zy, H', ⟨by have := HK1.out; omega⟩, ⟨by (with_reducible repeat (first | apply Kd.S_alloc | apply Kd.S_drewN | apply Kd.S_drew)); exact Kd.S_mono HO_10.out (fun _ hk => trivial)⟩, ⟨Kd.P_below HO_11.out zg⟩, ⟨zb⟩⟩
              ·
               replace c19 := zI c19
               subst c19
               rw [if_neg (show ¬ (false = true) by decide)] at H
               simp only [Option.some.injEq, Prod.mk.injEq] at H
               obtain ⟨rfl, rfl, rfl⟩ := H
               have p104 : 0 ≤ (x35_1 : Int) := zT zv
               have q104 : x35_1 < (l0.length : Int) := zT zv
               obtain ⟨ad104, e104, hx104_0, hx104_1⟩ := at_T54 HR0.out x35_1 p104 q104
               cases e104
               replace hx104_0 := (HB.out.cell (World.block_lt_of_cell? w _ hx104_0)).trans hx104_0
               replace hx104_1 := (HB.out.cell (World.block_lt_of_cell? w _ hx104_1)).trans hx104_1
               replace p104 := eq_true p104
               replace q104 := eq_true q104
               go_wp2_with (first | ((with_reducible refine gate_dst (N := 14) rfl ?_); refine box_event ?hg (N := 14) ?hd (cs := #[.string (⟨#[]⟩ : ByteArray), .int .i64 0]) (t := 54) ?hr ?_; (case hd => rfl); (case hg => rfl); (case hr => first | (go_simp; done) | (go_simp; rfl)); intro gb105 hg w26 hbox hb; replace HO_10 := zM (Kd.S_below (Kd.S_elderB (Kd.S_below HO_10.out zg) gb105 (Nat.le_of_eq hg.symm)) hb); replace HO_11 := zM (Kd.P_below (Kd.P_below HO_11.out zg) hb); have BK105 := zM (hbox); have GW105 := zM (zh hg : w.heap.size ≤ gb105); have GE105 := zM (zh hg : w.heap.size ≤ gb105); replace HB := zM (below_step zb hb); clear hb hbox hg; have hcz27_0 : w26.cell? ⟨gb105, 0, none⟩ = some (.string (⟨#[]⟩ : ByteArray)) := (zX BK105.out 0).trans rfl; have hcz27_1 : w26.cell? ⟨gb105, 1, none⟩ = some (.int .i64 0) := (zX BK105.out 1).trans rfl; have hfz27_0 := zY BK105.out 0; have hfz27_1 := zY BK105.out 1) | ((with_reducible refine gate_callee (f := 102) rfl ?_); refine goesL_ (some 40) rfl rfl Try.func102 (by kernel_rfl) rfl #[.agg #[.string ((rd_T54 l0 x35_1).f0), .int .i64 ((rd_T54 l0 x35_1).f1)]] rfl zl ?_; (with_reducible refine (match_variable.calls k1 ((rd_T54 l0 x35_1).f0) ((rd_T54 l0 x35_1).f1) true _ A8.out).mono ?_); rintro e w28 ⟨rfl, hb⟩; refine ⟨_, rfl, ?_⟩; replace HO_10 := zM (Kd.S_below (by (with_reducible repeat (first | apply Kd.S_alloc | apply Kd.S_drewN | apply Kd.S_drew)); exact (Kd.S_mono (Kd.S_far (p := ⟨gb105, 1, none⟩) (Kd.S_far (p := ⟨gb105, 0, none⟩) (Kd.S_mono HO_10.out (fun k_ hk => (⟨hk, hk.2⟩ : _ ∧ k_ ≠ gb105))) (fun _ hk => hk.2) (.string ((rd_T54 l0 x35_1).f0))) (fun _ hk => hk.2) (.int .i64 ((rd_T54 l0 x35_1).f1))) (fun _ h_ => h_.1))) hb); replace HO_11 := zM (Kd.P_below (by (with_reducible repeat (first | apply Kd.P_alloc | apply Kd.P_drewN | apply Kd.P_drew)); exact (Kd.P_mono (Kd.P_far (p := ⟨gb105, 1, none⟩) (Kd.P_far (p := ⟨gb105, 0, none⟩) (Kd.P_types HO_11.out BK105.out (by decide)) (fun _ hk => hk.2) (.string ((rd_T54 l0 x35_1).f0))) (fun _ hk => hk.2) (.int .i64 ((rd_T54 l0 x35_1).f1))) (fun _ h_ => h_.1))) hb); replace BK105 := zM (blk_below (g := gb105) (o := .cells #[.string ((rd_T54 l0 x35_1).f0), .int .i64 ((rd_T54 l0 x35_1).f1)] 54 (0, 0)) (by refine zk ?_; refine blk_put (cs := #[.string ((rd_T54 l0 x35_1).f0), .int .i64 0]) ?_ 1 _ rfl; refine zk ?_; refine blk_put (cs := #[.string (⟨#[]⟩ : ByteArray), .int .i64 0]) ?_ 0 _ rfl; refine zk ?_; exact BK105.out) hb); replace HB := zM (below_step zb hb); (try clear hb)) | ((with_reducible refine gate_callee (f := 103) rfl ?_); refine goesL_ (some 54) rfl rfl Try.func103 (by kernel_rfl) rfl #[.slice A1 l1.length c1, .int .i64 x12_1] rfl zl ?_; (with_reducible refine (match_end.calls k1 _ _ l1 x12_1 t108 _ ?side1 ?side2 A10.out).mono ?_); (case side1 => exact Kd.C_below HR1.out zb); (case side2 => exact HC1.out); rintro e w' ⟨rfl, ⟨nd, rfl⟩⟩; refine ⟨_, rfl, ?_⟩; have q29 : (t108 : Int) ≤ ((l1.length : Int) : Int) := zT zv; obtain ⟨i029, hi029, _, hsz29, _⟩ := info_parts info54; have hroom29 : l1.length ≤ c1 := HC1.out; have hC29 : Kd.C k54 _ A1 l1.length l1 := HR1.out; have ql29 : (x12_1 : Int) ≤ (t108 : Int) := zT zv; have q029 : (0 : Int) ≤ (x12_1 : Int) := zT zv; have hcut29 := cut_mid (P := Try.prog) 23 54 .i64 .i64 Try.underlying23 hi029 2 hsz29 A1 l1.length c1 x12_1 t108 q029 ql29 q29 hroom29; have hr29 := Kd.C_mid (lo := (x12_1 : Int).toNat) (hi := (t108 : Int).toNat) (c := c1) hC29 (by omega) (by omega) hroom29; obtain ⟨A29, hA29⟩ : ∃ Aq_, Aq_ = (if c1 = (x12_1 : Int).toNat then A1 else (A1 : Option Addr).map (·.add ((x12_1 : Int).toNat * 2))) := ⟨_, rfl⟩; obtain ⟨c29, hc29⟩ : ∃ cq_, cq_ = c1 - (x12_1 : Int).toNat := ⟨_, rfl⟩; have hy29 : y109.length = (t108 : Int).toNat - (x12_1 : Int).toNat := (by rw [Ny109.out, List.length_drop, List.length_take] <;> omega); rw [show ((l1).take (t108 : Int).toNat).drop (x12_1 : Int).toNat = y109 from Ny109.out.symm] at hr29; replace hr29 : Kd.C k54 _ A29 y109.length y109 := (by rw [hA29]; exact hr29); rw [← hy29, ← hA29, ← hc29] at hcut29; have HR112 := zM hr29; have HC112 := zM (show y109.length ≤ c29 from by rw [hy29, hc29]; exact Nat.sub_le_sub_right (Nat.le_trans (by omega) hroom29) _); clear hr29 hC29 hroom29 hi029 hsz29 hc29; have KY29 := zM hy29; have KA29 := zM hA29; clear hy29 hA29; replace q29 := eq_true q29; have hcz30_0 : w28.cell? ⟨gb105, 0, none⟩ = some (.string ((rd_T54 l0 x35_1).f0)) := (zX BK105.out 0).trans rfl; have hcz30_1 : w28.cell? ⟨gb105, 1, none⟩ = some (.int .i64 ((rd_T54 l0 x35_1).f1)) := (zX BK105.out 1).trans rfl; have hfz30_0 := zY BK105.out 0; have hfz30_1 := zY BK105.out 1; obtain ⟨Ao31, co31, eo31⟩ := Kd.S_slice HO_10.out; subst eo31; have p113 : 0 ≤ ((mapAt x11_1 ((rd_T54 l0 x35_1).f0)) : Int) := zT zv; have q113 : (mapAt x11_1 ((rd_T54 l0 x35_1).f0)) < (x10_1.length : Int) := zT zv; obtain ⟨ad113, A113_1, c113_1, e113, hx113_0, hx113_1, hl113_1, hi113_1⟩ := at_T104 (Kd.S_reads' HO_10.out).2.2 (mapAt x11_1 ((rd_T54 l0 x35_1).f0)) p113 q113; cases e113; obtain ⟨ce113, hce113, hMe113, hcc113⟩ := Kd.S_get HO_10.out z104 (mapAt x11_1 ((rd_T54 l0 x35_1).f0)) p113 (by first | exact q113 | exact zT zv | (have e_ := (Kd.S_reads' HO_10.out).1; omega)); obtain ⟨ve113_1, rfl, ge113_1⟩ := k104_openM hMe113; have hv113_1 := hcc113 1 _ rfl; rw [add_field _ _ 1 (by omega)] at hv113_1; replace hv113_1 := zS (hv113_1.symm.trans hx113_1); rw [hv113_1] at ge113_1; have HL113_1 := zM (show Kd.R k54 54 _ _ _ _ ((rd_T104 x10_1 (mapAt x11_1 ((rd_T54 l0 x35_1).f0))).f1) from ge113_1); clear hv113_1 ge113_1; clear hcc113 hce113; have HR113_1 := zM hi113_1; have HC113_1 := zM hl113_1; clear hi113_1 hl113_1; replace p113 := eq_true p113; replace q113 := eq_true q113) | ((with_reducible refine gate_dst (N := 64) rfl ?_); refine Kd.P_look (v := v102) (m := x11_1) (s := ((rd_T54 l0 x35_1).f0)) rfl rfl rfl rfl LMc14.out (Kd.P_below HO_11.out zg) ?_) | ((with_reducible refine gate_callee (f := 104) rfl ?_); refine goesL_ (some 90) rfl rfl Try.func104 (by kernel_rfl) rfl #[.slice A113_1 ((rd_T104 x10_1 (mapAt x11_1 ((rd_T54 l0 x35_1).f0))).f1).length c113_1, .slice A29 y109.length c29] rfl zl ?_; (with_reducible refine (api_Cell_104.calls k1 _ _ ((rd_T104 x10_1 (mapAt x11_1 ((rd_T54 l0 x35_1).f0))).f1) _ _ y109 false _ ?side1 ?side2 ?side3 ?side4 A18.out).mono ?_); (case side1 => repeat (first | exact (by repeat (first | (with_reducible exact HR113_1.out) | (with_reducible first | refine Kd.C_alloc ?_ _ | refine Kd.C_drewN ?_ _ | refine Kd.C_drew ?_) | exact HR113_1.out)) | (with_reducible first | refine Kd.C_alloc ?_ _ | refine Kd.C_drewN ?_ _ | refine Kd.C_drew ?_))); (case side2 => exact HC113_1.out); (case side3 => exact Kd.C_below (Kd.C_below HR112.out zb) zg); (case side4 => exact HC112.out); rintro e w' ⟨rfl, ⟨nd, rfl⟩⟩; refine ⟨_, rfl, ?_⟩))
               go_ret3
               exact ⟨_, zw, by first | exact Kd.S_nil _ _ _ _ _ | exact Kd.N_nil _ _ _ _ _ | exact Kd.V_nil _ _ _ _ _ | exact Kd.Q_nil _ _ _ _ _ | exact Kd.R_nil _ _ _ _ _, zb⟩
             ·
              rw [if_neg c17] at H
              exact absurd H (by simp)
            ·
             rw [if_neg c16] at H
             exact absurd H (by simp)
           ·
            rw [if_neg c15] at H
            have c15b0 : mapHas x11_1 ((rd_T54 l0 x35_1).f0) = false := by simpa using c15
            clear c15
            by_cases c32 : x11_1.length < 9223372036854775807 ∧ ((rd_T54 l0 x35_1).f0).size ≤ 9223372036854775807 ∧ 0 ≤ (x10_1.length : Int) ∧ (x10_1.length : Int) ≤ 9223372036854775807
            ·
             rw [if_pos c32] at H
             have LMc32 := zM c32
             clear c32
             obtain ⟨y115, hy115⟩ : ∃ y_ : List (S54), y_ = (mapPut x11_1 ((rd_T54 l0 x35_1).f0) (x10_1.length : Int)) := ⟨_, rfl⟩
             replace H : ((api_Cell_71.f y109).bind fun t118 => (if x10_1.length < 3518437208883 then (match_Match.l0 k1 l1 (x10_1 ++ [(⟨(rd_T54 l0 x35_1).f0, t118⟩ : S104)]) y115 (wrap64 (x12_1 + (y109.length : Int))) l0 (l0.length : Int) (wrap64 (x35_1 + 1))) else (none))) = some (r1, r2, r3) := by first | (rw [hy115]; with_reducible exact H) | (have H2_ := (Option.bind_some _ _).symm.trans H; rw [hy115]; with_reducible exact H2_) | (have H2_ := (Option.bind_some _ _).symm.trans H; with_reducible exact H2_) | with_reducible exact H | (rw [hy115]; exact H) | exact H
             have Ny115 := zM hy115
             clear hy115
             replace H := zB H
             obtain ⟨t118, A330, H⟩ := H
             try dsimp only at H
             have A33 := zM A330
             clear A330
             by_cases c34 : x10_1.length < 3518437208883
             ·
              rw [if_pos c34] at H
              have LMc34 := zM c34
              clear c34
              obtain ⟨y121, hy121⟩ : ∃ y_ : List (S104), y_ = (x10_1 ++ [(⟨(rd_T54 l0 x35_1).f0, t118⟩ : S104)]) := ⟨_, rfl⟩
              replace H : (match_Match.l0 k1 l1 y121 y115 (wrap64 (x12_1 + (y109.length : Int))) l0 (l0.length : Int) (wrap64 (x35_1 + 1))) = some (r1, r2, r3) := by first | (rw [hy121]; with_reducible exact H) | (have H2_ := (Option.bind_some _ _).symm.trans H; rw [hy121]; with_reducible exact H2_) | (have H2_ := (Option.bind_some _ _).symm.trans H; with_reducible exact H2_) | with_reducible exact H | (rw [hy121]; exact H) | exact H
              have Ny121 := zM hy121
              clear hy121
              have H' := zM H
              clear H
              have p104 : 0 ≤ (x35_1 : Int) := zT zv
              have q104 : x35_1 < (l0.length : Int) := zT zv
              obtain ⟨ad104, e104, hx104_0, hx104_1⟩ := at_T54 HR0.out x35_1 p104 q104
              cases e104
              replace hx104_0 := (HB.out.cell (World.block_lt_of_cell? w _ hx104_0)).trans hx104_0
              replace hx104_1 := (HB.out.cell (World.block_lt_of_cell? w _ hx104_1)).trans hx104_1
              replace p104 := eq_true p104
              replace q104 := eq_true q104
              try go_wp2_with (first | ((with_reducible refine gate_dst (N := 14) rfl ?_); refine box_event ?hg (N := 14) ?hd (cs := #[.string (⟨#[]⟩ : ByteArray), .int .i64 0]) (t := 54) ?hr ?_; (case hd => rfl); (case hg => rfl); (case hr => first | (go_simp; done) | (go_simp; rfl)); intro gb105 hg w35 hbox hb; replace HO_10 := zM (Kd.S_below (Kd.S_elderB (Kd.S_below HO_10.out zg) gb105 (Nat.le_of_eq hg.symm)) hb); replace HO_11 := zM (Kd.P_below (Kd.P_below HO_11.out zg) hb); have BK105 := zM (hbox); have GW105 := zM (zh hg : w.heap.size ≤ gb105); have GE105 := zM (zh hg : w.heap.size ≤ gb105); replace HB := zM (below_step zb hb); clear hb hbox hg; have hcz36_0 : w35.cell? ⟨gb105, 0, none⟩ = some (.string (⟨#[]⟩ : ByteArray)) := (zX BK105.out 0).trans rfl; have hcz36_1 : w35.cell? ⟨gb105, 1, none⟩ = some (.int .i64 0) := (zX BK105.out 1).trans rfl; have hfz36_0 := zY BK105.out 0; have hfz36_1 := zY BK105.out 1) | ((with_reducible refine gate_callee (f := 102) rfl ?_); refine goesL_ (some 40) rfl rfl Try.func102 (by kernel_rfl) rfl #[.agg #[.string ((rd_T54 l0 x35_1).f0), .int .i64 ((rd_T54 l0 x35_1).f1)]] rfl zl ?_; (with_reducible refine (match_variable.calls k1 ((rd_T54 l0 x35_1).f0) ((rd_T54 l0 x35_1).f1) true _ A8.out).mono ?_); rintro e w37 ⟨rfl, hb⟩; refine ⟨_, rfl, ?_⟩; replace HO_10 := zM (Kd.S_below (by (with_reducible repeat (first | apply Kd.S_alloc | apply Kd.S_drewN | apply Kd.S_drew)); exact (Kd.S_mono (Kd.S_far (p := ⟨gb105, 1, none⟩) (Kd.S_far (p := ⟨gb105, 0, none⟩) (Kd.S_mono HO_10.out (fun k_ hk => (⟨hk, hk.2⟩ : _ ∧ k_ ≠ gb105))) (fun _ hk => hk.2) (.string ((rd_T54 l0 x35_1).f0))) (fun _ hk => hk.2) (.int .i64 ((rd_T54 l0 x35_1).f1))) (fun _ h_ => h_.1))) hb); replace HO_11 := zM (Kd.P_below (by (with_reducible repeat (first | apply Kd.P_alloc | apply Kd.P_drewN | apply Kd.P_drew)); exact (Kd.P_mono (Kd.P_far (p := ⟨gb105, 1, none⟩) (Kd.P_far (p := ⟨gb105, 0, none⟩) (Kd.P_types HO_11.out BK105.out (by decide)) (fun _ hk => hk.2) (.string ((rd_T54 l0 x35_1).f0))) (fun _ hk => hk.2) (.int .i64 ((rd_T54 l0 x35_1).f1))) (fun _ h_ => h_.1))) hb); replace BK105 := zM (blk_below (g := gb105) (o := .cells #[.string ((rd_T54 l0 x35_1).f0), .int .i64 ((rd_T54 l0 x35_1).f1)] 54 (0, 0)) (by refine zk ?_; refine blk_put (cs := #[.string ((rd_T54 l0 x35_1).f0), .int .i64 0]) ?_ 1 _ rfl; refine zk ?_; refine blk_put (cs := #[.string (⟨#[]⟩ : ByteArray), .int .i64 0]) ?_ 0 _ rfl; refine zk ?_; exact BK105.out) hb); replace HB := zM (below_step zb hb); (try clear hb)) | ((with_reducible refine gate_callee (f := 103) rfl ?_); refine goesL_ (some 54) rfl rfl Try.func103 (by kernel_rfl) rfl #[.slice A1 l1.length c1, .int .i64 x12_1] rfl zl ?_; (with_reducible refine (match_end.calls k1 _ _ l1 x12_1 t108 _ ?side1 ?side2 A10.out).mono ?_); (case side1 => exact Kd.C_below HR1.out zb); (case side2 => exact HC1.out); rintro e w' ⟨rfl, ⟨nd, rfl⟩⟩; refine ⟨_, rfl, ?_⟩; have q38 : (t108 : Int) ≤ ((l1.length : Int) : Int) := zT zv; obtain ⟨i038, hi038, _, hsz38, _⟩ := info_parts info54; have hroom38 : l1.length ≤ c1 := HC1.out; have hC38 : Kd.C k54 _ A1 l1.length l1 := HR1.out; have ql38 : (x12_1 : Int) ≤ (t108 : Int) := zT zv; have q038 : (0 : Int) ≤ (x12_1 : Int) := zT zv; have hcut38 := cut_mid (P := Try.prog) 23 54 .i64 .i64 Try.underlying23 hi038 2 hsz38 A1 l1.length c1 x12_1 t108 q038 ql38 q38 hroom38; have hr38 := Kd.C_mid (lo := (x12_1 : Int).toNat) (hi := (t108 : Int).toNat) (c := c1) hC38 (by omega) (by omega) hroom38; obtain ⟨A38, hA38⟩ : ∃ Aq_, Aq_ = (if c1 = (x12_1 : Int).toNat then A1 else (A1 : Option Addr).map (·.add ((x12_1 : Int).toNat * 2))) := ⟨_, rfl⟩; obtain ⟨c38, hc38⟩ : ∃ cq_, cq_ = c1 - (x12_1 : Int).toNat := ⟨_, rfl⟩; have hy38 : y109.length = (t108 : Int).toNat - (x12_1 : Int).toNat := (by rw [Ny109.out, List.length_drop, List.length_take] <;> omega); rw [show ((l1).take (t108 : Int).toNat).drop (x12_1 : Int).toNat = y109 from Ny109.out.symm] at hr38; replace hr38 : Kd.C k54 _ A38 y109.length y109 := (by rw [hA38]; exact hr38); rw [← hy38, ← hA38, ← hc38] at hcut38; have HR112 := zM hr38; have HC112 := zM (show y109.length ≤ c38 from by rw [hy38, hc38]; exact Nat.sub_le_sub_right (Nat.le_trans (by omega) hroom38) _); clear hr38 hC38 hroom38 hi038 hsz38 hc38; have KY38 := zM hy38; have KA38 := zM hA38; clear hy38 hA38; replace q38 := eq_true q38; have hcz39_0 : w37.cell? ⟨gb105, 0, none⟩ = some (.string ((rd_T54 l0 x35_1).f0)) := (zX BK105.out 0).trans rfl; have hcz39_1 : w37.cell? ⟨gb105, 1, none⟩ = some (.int .i64 ((rd_T54 l0 x35_1).f1)) := (zX BK105.out 1).trans rfl; have hfz39_0 := zY BK105.out 0; have hfz39_1 := zY BK105.out 1; obtain ⟨Ao40, co40, eo40⟩ := Kd.S_slice HO_10.out; subst eo40) | ((with_reducible refine gate_dst (N := 64) rfl ?_); refine Kd.P_look (v := v102) (m := x11_1) (s := ((rd_T54 l0 x35_1).f0)) rfl rfl rfl rfl LMc14.out (Kd.P_below HO_11.out zg) ?_) | (at_mapUpdate; refine Kd.P_put (v := v102) (m := x11_1) (s := ((rd_T54 l0 x35_1).f0)) (n := (x10_1.length : Int)) rfl rfl rfl rfl rfl LMc32.out (Kd.P_below HO_11.out zg) ?_; intro w41 ho hm; rw [← Ny115.out] at ho; replace HO_10 := zM (Kd.S_mapped (Kd.S_below HO_10.out zg) hm); replace BK105 := zM (blk_mapped (g := gb105) (o := .cells #[.string ((rd_T54 l0 x35_1).f0), .int .i64 ((rd_T54 l0 x35_1).f1)] 54 (0, 0)) (zk BK105.out) hm); replace HB := zM (below_mapped zb hm); replace HO_11 := zM (ho); clear ho hm))
              have n0_ := zM (Kd.S_drew HO_10.out)
              have n1_ := zM (Kd.P_drew HO_11.out)
              have n2_ := zM (blk_drew BK105.out)
              have n3_ := zM (zD HB.out)
              clear HO_10
              clear HO_11
              clear BK105
              clear HB
              have HO_10 := n0_
              have HO_11 := n1_
              have BK105 := n2_
              have HB := n3_
              clear n0_ n1_ n2_ n3_
              refine start_ (n := 9) (S := fun w' => w'.cell? ⟨gb105, 0, none⟩ = some (.string ((rd_T54 l0 x35_1).f0)) ∧ w'.cell? ⟨gb105, 1, none⟩ = some (.int .i64 ((rd_T54 l0 x35_1).f1))) (ds := []) #[false, false, false, false, false, false, false, false, false] (by kernel_rfl) rfl rfl ⟨(zX BK105.out 0).trans rfl, (zX BK105.out 1).trans rfl⟩ (fun hHeld => ?_); refine with_tabW match_Match.tab23 match_Match.bits23 (fun HT_ HW_ => ?_)
              generalize w41.drew = w42 at HO_10 HO_11 BK105 HB hHeld ⊢
              refine pure_ (i := 0) (N := some 75) (v := ?_) (a' := ?_) #[true, false, false, false, false, false, false, false, false] rfl rfl (any_of HT_.out (by kernel_rfl)) (fun _ _ _ h => h) (Or.inl ⟨by rfl, ?_⟩) ?_ ?_
              rotate_left
              ·
               intro w'
               go_simp
               with_reducible rfl
              rotate_left
              ·
               simp only [Act.put, zp1, zp2, zp3, i64_w, i32_w]
               rfl
              refine pure_ (i := 1) (N := some 76) (v := ?_) (a' := ?_) #[true, true, false, false, false, false, false, false, false] rfl rfl (any_of HT_.out (by kernel_rfl)) (fun _ _ _ h => h) (Or.inl ⟨by rfl, ?_⟩) ?_ ?_
              rotate_left
              ·
               intro w'
               go_simp
               with_reducible rfl
              rotate_left
              ·
               simp only [Act.put, zp1, zp2, zp3, i64_w, i32_w]
               rfl
              refine pure_ (i := 3) (N := some 78) (v := ?_) (a' := ?_) #[true, true, false, true, false, false, false, false, false] rfl rfl (any_of HT_.out (by kernel_rfl)) (fun _ _ _ h => h) (Or.inl ⟨by rfl, ?_⟩) ?_ ?_
              rotate_left
              ·
               intro w'
               go_simp
               with_reducible rfl
              rotate_left
              ·
               simp only [Act.put, zp1, zp2, zp3, i64_w, i32_w]
               rfl
              refine take_ (i := 2) (N := some 77) (v := ?_) (a' := ?_) #[true, true, true, true, false, false, false, false, false] rfl rfl (take_ofW HT_.out HW_.out (by kernel_rfl)) (fun _ _ _ h => h) (Or.inl ⟨by rfl, ?_⟩) hHeld ?_ ?_
              rotate_left
              ·
               rintro w' ⟨s0, s1⟩
               go_simp
               with_reducible rfl
              rotate_left
              ·
               simp only [Act.put, zp1, zp2, zp3, i64_w, i32_w]
               rfl
              refine one_ (i := 4) (N := some 79) #[true, true, true, true, true, false, false, false, false] rfl rfl (one_of HT_.out (by kernel_rfl)) (by decide) (fun K hK => ?_)
              refine goes_ Try.func71 (by kernel_rfl) rfl #[.slice A38 y109.length c38] (by rfl) rfl rfl zl ?_
              with_reducible refine (api_Cell_71.calls _ _ y109 t118 _ ?side1 ?side2 A33.out).mono ?_
              (case side1 => exact Kd.C_below HR112.out zb)
              (case side2 => exact HC112.out)
              rintro e w43 ⟨v119, rfl, ho0, hb⟩
              refine ⟨_, rfl, ?_⟩
              have n0_ := zM (Kd.S_elder' (Kd.S_below HO_10.out zg) (Kd.R_base ho0) hb)
              have n1_ := zM (Kd.P_below (Kd.P_below HO_11.out zg) hb)
              have n2_ := zM (Kd.R_lower (Kd.R_newB ho0 (g := gb105) (o := .cells #[.string ((rd_T54 l0 x35_1).f0), .int .i64 ((rd_T54 l0 x35_1).f1)] 54 (0, 0)) (zk BK105.out)) (below_size zb))
              have n3_ := zM (blk_below (g := gb105) (o := .cells #[.string ((rd_T54 l0 x35_1).f0), .int .i64 ((rd_T54 l0 x35_1).f1)] 54 (0, 0)) (zk BK105.out) hb)
              have n4_ := zM (below_step zb hb)
              clear HO_10
              clear HO_11
              clear BK105
              clear HB
              have HO_10 := n0_
              have HO_11 := n1_
              have HO120 := n2_
              have BK105 := n3_
              have HB := n4_
              clear n0_ n1_ n2_ n3_ n4_
              (try clear hb)
              (try clear hb2)
              (try clear hk)
              (try clear hi)
              (try clear ho0)
              obtain ⟨Ao44, co44, eo44⟩ := Kd.R_slice HO120.out
              (first | subst eo44 | (injection eo44 with f1_ f2_ f3_; have f4_ := f1_.symm; have f5_ := f3_.symm; clear f1_ f2_ f3_; subst f4_; subst f5_))
              refine hK.out _ _ ⟨(zX BK105.out 0).trans rfl, (zX BK105.out 1).trans rfl⟩ (fun hHeld => ?_)
              clear hK K
              refine norm_ (a' := ?_) ?_ ?_
              rotate_left
              ·
               show Act.put _ (some 79) _ = _
               simp only [Act.put, zp1, zp2, zp3, i64_w, i32_w]
               rfl
              refine pure_ (i := 5) (N := some 80) (v := ?_) (a' := ?_) #[true, true, true, true, true, true, false, false, false] rfl rfl (any_of HT_.out (by kernel_rfl)) (fun _ _ _ h => h) (Or.inl ⟨by rfl, ?_⟩) ?_ ?_
              rotate_left
              ·
               intro w'
               go_simp
               with_reducible rfl
              rotate_left
              ·
               simp only [Act.put, zp1, zp2, zp3, i64_w, i32_w]
               rfl
              refine one_ (i := 6) (N := some 81) #[true, true, true, true, true, true, true, false, false] rfl rfl (one_of HT_.out (by kernel_rfl)) (by decide) (fun K hK => ?_)
              refine value_ (w1 := ?_) (v := ?_) (by rfl) rfl ?_ ?_
              rotate_left 2
              ·
               go_simp
               constructor
               ·
                rfl
               ·
                rfl
              refine hK.out _ _ ⟨(zX (blk_alloc BK105.out _) 0).trans rfl, (zX (blk_alloc BK105.out _) 1).trans rfl⟩ (fun hHeld => ?_)
              clear hK K
              refine norm_ (a' := ?_) ?_ ?_
              rotate_left
              ·
               show Act.put _ (some 81) _ = _
               simp only [Act.put, zp1, zp2, zp3, i64_w, i32_w]
               rfl
              refine one_ (i := 7) (N := some 82) #[true, true, true, true, true, true, true, true, false] rfl rfl (one_of HT_.out (by kernel_rfl)) (by decide) (fun K hK => ?_)
              refine Kd.S_append_step k104 (w0 := w) w.heap.size (by rfl) (.tmp 75) (.tmp 81) 100 104 (.agg #[(.string ⟨#[]⟩), (.slice none 0 0)]) 40 rfl Try.underlying100 info104 rfl (by decide) (by omega) (.slice Ao40 x10_1.length co40) x10_1 (⟨(rd_T54 l0 x35_1).f0, t118⟩ : S104) [.string ((rd_T54 l0 x35_1).f0), .slice Ao44 t118.length co44] (fun k_ => k_ ≠ gb105) (fun k_ => some k_ = (.slice Ao44 t118.length co44 : Value).ownBlock) rfl rfl ?aP (fun k_ hk_ => ((Kd.R_mono (ok' := fun k_ => ((fun k_ => k_ ≠ gb105)) k_ ∧ some k_ ≠ (.slice Ao40 x10_1.length co40 : Value).ownBlock) (Kd.R_apart' (HO120.out) (Kd.S_typed HO_10.out) (by decide)) (fun k_ hk => ⟨hk.1.2, hk.2⟩))).1 k_ hk_.symm) ?aF ?aO ?aB ?aS ?aL ?_
              (case aP => exact k104_mkM _ _ _ (⟨(rd_T54 l0 x35_1).f0, t118⟩ : S104) (Kd.R_mono (Kd.R_tight rfl (Kd.R_mono (ok' := fun k_ => ((fun k_ => k_ ≠ gb105)) k_ ∧ some k_ ≠ (.slice Ao40 x10_1.length co40 : Value).ownBlock) (Kd.R_apart' (HO120.out) (Kd.S_typed HO_10.out) (by decide)) (fun k_ hk => ⟨hk.1.2, hk.2⟩))) (fun _ h_ => h_)))
              (case aB => exact zb)
              (case aF => exact (fun k_ hk => Kd.freshB (g := gb105) (o := .cells #[.string ((rd_T54 l0 x35_1).f0), .int .i64 ((rd_T54 l0 x35_1).f1)] 54 (0, 0)) (zk BK105.out) k_ hk))
              (case aO => exact (by (with_reducible repeat (first | apply Kd.S_alloc | apply Kd.S_drewN | apply Kd.S_drew)); exact Kd.S_mono HO_10.out (fun k_ hk => ⟨hk.1.2, fun e_ => hk.2 e_⟩)))
              (case aS => exact (below_size zb))
              (case aL => have := LMc34.out; omega)
              intro v122 w45 ho hb hg hat
              rw [← Ny121.out] at ho
              have n0_ := zM (blk_grown (g := gb105) (o := .cells #[.string ((rd_T54 l0 x35_1).f0), .int .i64 ((rd_T54 l0 x35_1).f1)] 54 (0, 0)) (zk BK105.out) hg (Kd.S_ne HO_10.out BK105.out (by decide)))
              have n1_ := zM (Kd.P_over' (Kd.P_below HO_11.out zg) (Kd.S_typed (Kd.S_below HO_10.out zg)) (by decide) hg)
              have n2_ := zM (hb)
              have n3_ := zM (ho)
              clear BK105
              clear HO_11
              clear HB
              clear HO_10
              clear HO120
              have BK105 := n0_
              have HO_11 := n1_
              have HB := n2_
              have HO123 := n3_
              clear n0_ n1_ n2_ n3_
              clear ho hb hg hat
              refine hK.out _ _ ⟨(zX BK105.out 0).trans rfl, (zX BK105.out 1).trans rfl⟩ (fun hHeld => ?_)
              clear hK K
              refine norm_ (a' := ?_) ?_ ?_
              rotate_left
              ·
               show Act.put _ (some 82) _ = _
               simp only [Act.put, zp1, zp2, zp3, i64_w, i32_w]
               rfl
              refine pure_ (i := 8) (N := some 10) (v := ?_) (a' := ?_) #[true, true, true, true, true, true, true, true, true] rfl rfl (any_of HT_.out (by kernel_rfl)) (fun _ _ _ h => h) (Or.inl ⟨by rfl, ?_⟩) ?_ ?_
              rotate_left
              ·
               intro w'
               go_simp
               with_reducible rfl
              rotate_left
              ·
               simp only [Act.put, zp1, zp2, zp3, i64_w, i32_w]
               rfl
              refine done_ (done_of HT_.out (by kernel_rfl)) ?_
              try go_wp2
              go_roundg k1
              case measure => have := HK1.out; omega
              case rel => exact ⟨(y121), (y115), (wrap64 (x12_1 + (y109.length : Int))), (wrap64 (x35_1 + 1)), zy, zy, H', ⟨by have := HK1.out; omega⟩, ⟨by (with_reducible repeat (first | apply Kd.S_alloc | apply Kd.S_drewN | apply Kd.S_drew)); exact Kd.S_mono HO123.out (fun _ hk => trivial)⟩, ⟨Kd.P_below HO_11.out zg⟩, ⟨zb⟩⟩
             ·
              rw [if_neg c34] at H
              exact absurd H (by simp)
            ·
             rw [if_neg c32] at H
             exact absurd H (by simp)
          ·
           rw [if_neg c14] at H
           exact absurd H (by simp)
         ·
          rw [if_neg c13] at H
          exact absurd H (by simp)
        ·
         rw [if_neg c12] at H
         exact absurd H (by simp)
       ·
        rw [if_neg c11] at H
        exact absurd H (by simp)
      ·
       replace c9 := zI c9
       subst c9
       rw [if_neg (show ¬ (false = true) by decide)] at H
       by_cases c46 : 0 ≤ x12_1
       ·
        rw [if_pos c46] at H
        have c46b0 : decide (0 ≤ x12_1) = true := zQ c46
        clear c46
        by_cases c47 : x12_1 < (l1.length : Int)
        ·
         rw [if_pos c47] at H
         have c47b0 : decide (x12_1 < (l1.length : Int)) = true := zQ c47
         clear c47
         by_cases c48 : (!((((rd_T54 l1 x12_1).f0).toList) == (((rd_T54 l0 x35_1).f0).toList)) || (!(((rd_T54 l1 x12_1).f1) == ((rd_T54 l0 x35_1).f1)))) = true
         ·
          rw [if_pos c48] at H
          have c48b0 : (!((((rd_T54 l1 x12_1).f0).toList) == (((rd_T54 l0 x35_1).f0).toList)) || (!(((rd_T54 l1 x12_1).f1) == ((rd_T54 l0 x35_1).f1)))) = true := c48
          clear c48
          simp only [Option.some.injEq, Prod.mk.injEq] at H
          obtain ⟨rfl, rfl, rfl⟩ := H
          have p104 : 0 ≤ (x35_1 : Int) := zT zv
          have q104 : x35_1 < (l0.length : Int) := zT zv
          obtain ⟨ad104, e104, hx104_0, hx104_1⟩ := at_T54 HR0.out x35_1 p104 q104
          cases e104
          replace hx104_0 := (HB.out.cell (World.block_lt_of_cell? w _ hx104_0)).trans hx104_0
          replace hx104_1 := (HB.out.cell (World.block_lt_of_cell? w _ hx104_1)).trans hx104_1
          replace p104 := eq_true p104
          replace q104 := eq_true q104
          try go_wp2_with (first | ((with_reducible refine gate_dst (N := 14) rfl ?_); refine box_event ?hg (N := 14) ?hd (cs := #[.string (⟨#[]⟩ : ByteArray), .int .i64 0]) (t := 54) ?hr ?_; (case hd => rfl); (case hg => rfl); (case hr => first | (go_simp; done) | (go_simp; rfl)); intro gb105 hg w49 hbox hb; replace HO_10 := zM (Kd.S_below (Kd.S_elderB (Kd.S_below HO_10.out zg) gb105 (Nat.le_of_eq hg.symm)) hb); replace HO_11 := zM (Kd.P_below (Kd.P_below HO_11.out zg) hb); have BK105 := zM (hbox); have GW105 := zM (zh hg : w.heap.size ≤ gb105); have GE105 := zM (zh hg : w.heap.size ≤ gb105); replace HB := zM (below_step zb hb); clear hb hbox hg; have hcz50_0 : w49.cell? ⟨gb105, 0, none⟩ = some (.string (⟨#[]⟩ : ByteArray)) := (zX BK105.out 0).trans rfl; have hcz50_1 : w49.cell? ⟨gb105, 1, none⟩ = some (.int .i64 0) := (zX BK105.out 1).trans rfl; have hfz50_0 := zY BK105.out 0; have hfz50_1 := zY BK105.out 1) | ((with_reducible refine gate_callee (f := 102) rfl ?_); refine goesL_ (some 40) rfl rfl Try.func102 (by kernel_rfl) rfl #[.agg #[.string ((rd_T54 l0 x35_1).f0), .int .i64 ((rd_T54 l0 x35_1).f1)]] rfl zl ?_; (with_reducible refine (match_variable.calls k1 ((rd_T54 l0 x35_1).f0) ((rd_T54 l0 x35_1).f1) false _ A8.out).mono ?_); rintro e w51 ⟨rfl, hb⟩; refine ⟨_, rfl, ?_⟩; replace HO_10 := zM (Kd.S_below (by (with_reducible repeat (first | apply Kd.S_alloc | apply Kd.S_drewN | apply Kd.S_drew)); exact (Kd.S_mono (Kd.S_far (p := ⟨gb105, 1, none⟩) (Kd.S_far (p := ⟨gb105, 0, none⟩) (Kd.S_mono HO_10.out (fun k_ hk => (⟨hk, hk.2⟩ : _ ∧ k_ ≠ gb105))) (fun _ hk => hk.2) (.string ((rd_T54 l0 x35_1).f0))) (fun _ hk => hk.2) (.int .i64 ((rd_T54 l0 x35_1).f1))) (fun _ h_ => h_.1))) hb); replace HO_11 := zM (Kd.P_below (by (with_reducible repeat (first | apply Kd.P_alloc | apply Kd.P_drewN | apply Kd.P_drew)); exact (Kd.P_mono (Kd.P_far (p := ⟨gb105, 1, none⟩) (Kd.P_far (p := ⟨gb105, 0, none⟩) (Kd.P_types HO_11.out BK105.out (by decide)) (fun _ hk => hk.2) (.string ((rd_T54 l0 x35_1).f0))) (fun _ hk => hk.2) (.int .i64 ((rd_T54 l0 x35_1).f1))) (fun _ h_ => h_.1))) hb); replace BK105 := zM (blk_below (g := gb105) (o := .cells #[.string ((rd_T54 l0 x35_1).f0), .int .i64 ((rd_T54 l0 x35_1).f1)] 54 (0, 0)) (by refine zk ?_; refine blk_put (cs := #[.string ((rd_T54 l0 x35_1).f0), .int .i64 0]) ?_ 1 _ rfl; refine zk ?_; refine blk_put (cs := #[.string (⟨#[]⟩ : ByteArray), .int .i64 0]) ?_ 0 _ rfl; refine zk ?_; exact BK105.out) hb); replace HB := zM (below_step zb hb); (try clear hb)))
          have n0_ := zM (Kd.S_drew HO_10.out)
          have n1_ := zM (Kd.P_drew HO_11.out)
          have n2_ := zM (blk_drew BK105.out)
          have n3_ := zM (zD HB.out)
          clear HO_10
          clear HO_11
          clear BK105
          clear HB
          have HO_10 := n0_
          have HO_11 := n1_
          have BK105 := n2_
          have HB := n3_
          clear n0_ n1_ n2_ n3_
          have p107 : 0 ≤ (x12_1 : Int) := zT zv
          have q107 : x12_1 < (l1.length : Int) := zT zv
          obtain ⟨ad107, e107, hx107_0, hx107_1⟩ := at_T54 HR1.out x12_1 p107 q107
          have hw107_1 := hx107_1
          have hw107_0 := hx107_0
          cases e107
          replace hx107_0 := (HB.out.cell (World.block_lt_of_cell? w _ hx107_0)).trans hx107_0
          replace hx107_1 := (HB.out.cell (World.block_lt_of_cell? w _ hx107_1)).trans hx107_1
          replace p107 := eq_true p107
          replace q107 := eq_true q107
          refine start_ (n := 6) (S := fun w' => w'.cell? ⟨gb105, 0, none⟩ = some (.string ((rd_T54 l0 x35_1).f0)) ∧ w'.cell? ⟨gb105, 1, none⟩ = some (.int .i64 ((rd_T54 l0 x35_1).f1)) ∧ w'.cell? (ad107.add ((x12_1).toNat * 2)) = some (.string ((rd_T54 l1 x12_1).f0)) ∧ w'.cell? ⟨(ad107.add ((x12_1).toNat * 2)).block, (ad107.add ((x12_1).toNat * 2)).off + 1, none⟩ = some (.int .i64 ((rd_T54 l1 x12_1).f1))) (ds := []) #[false, false, false, false, false, false] (by kernel_rfl) rfl rfl ⟨(zX BK105.out 0).trans rfl, (zX BK105.out 1).trans rfl, ((HB.out.cell (World.block_lt_of_cell? w _ hw107_0)).trans hw107_0), ((HB.out.cell (World.block_lt_of_cell? w _ hw107_1)).trans hw107_1)⟩ (fun hHeld => ?_)
          generalize w51.drew = w52 at HO_10 HO_11 BK105 HB hx107_0 hx107_1 hHeld ⊢
          refine pure_ (i := 0) (N := some 42) (v := ?_) (a' := ?_) #[true, false, false, false, false, false] rfl rfl (by kernel_rfl) (fun _ _ _ h => h) (Or.inl ⟨by rfl, ?_⟩) ?_ ?_
          rotate_left
          ·
           intro w'
           go_simp
           with_reducible rfl
          rotate_left
          ·
           simp only [Act.put, zp1, zp2, zp3, i64_w, i32_w]
           rfl
          refine pure_ (i := 1) (N := some 43) (v := ?_) (a' := ?_) #[true, true, false, false, false, false] rfl rfl (by kernel_rfl) (fun _ _ _ h => h) (Or.inl ⟨by rfl, ?_⟩) ?_ ?_
          rotate_left
          ·
           intro w'
           go_simp
           with_reducible rfl
          rotate_left
          ·
           simp only [Act.put, zp1, zp2, zp3, i64_w, i32_w]
           rfl
          refine pure_ (i := 2) (N := some 44) (v := ?_) (a' := ?_) #[true, true, true, false, false, false] rfl rfl (by kernel_rfl) (fun _ _ _ h => h) (Or.inl ⟨by rfl, ?_⟩) ?_ ?_
          rotate_left
          ·
           intro w'
           go_simp
           with_reducible rfl
          rotate_left
          ·
           simp only [Act.put, zp1, zp2, zp3, i64_w, i32_w]
           rfl
          refine take_ (i := 3) (N := some 45) (v := ?_) (a' := ?_) #[true, true, true, true, false, false] rfl rfl (by kernel_rfl) (fun _ _ _ h => h) (Or.inl ⟨by rfl, ?_⟩) hHeld ?_ ?_
          rotate_left
          ·
           rintro w' ⟨s0, s1, s2, s3⟩
           go_simp
           with_reducible rfl
          rotate_left
          ·
           simp only [Act.put, zp1, zp2, zp3, i64_w, i32_w]
           rfl
          refine take_ (i := 4) (N := some 46) (v := ?_) (a' := ?_) #[true, true, true, true, true, false] rfl rfl (by kernel_rfl) (fun _ _ _ h => h) (Or.inl ⟨by rfl, ?_⟩) hHeld ?_ ?_
          rotate_left
          ·
           rintro w' ⟨s0, s1, s2, s3⟩
           go_simp
           with_reducible rfl
          rotate_left
          ·
           simp only [Act.put, zp1, zp2, zp3, i64_w, i32_w]
           rfl
          refine pure_ (i := 5) (N := some 47) (v := ?_) (a' := ?_) #[true, true, true, true, true, true] rfl rfl (by kernel_rfl) (fun _ _ _ h => h) (Or.inl ⟨by rfl, ?_⟩) ?_ ?_
          rotate_left
          ·
           intro w'
           go_simp
           with_reducible rfl
          rotate_left
          ·
           simp only [Act.put, zp1, zp2, zp3, i64_w, i32_w]
           rfl
          refine done_ (by kernel_rfl) ?_
          try go_wp2
          go_ret3
          exact ⟨_, zw, by first | exact Kd.S_nil _ _ _ _ _ | exact Kd.N_nil _ _ _ _ _ | exact Kd.V_nil _ _ _ _ _ | exact Kd.Q_nil _ _ _ _ _ | exact Kd.R_nil _ _ _ _ _, zb⟩
         ·
          rw [if_neg c48] at H
          have c48b0 : (!((((rd_T54 l1 x12_1).f0).toList) == (((rd_T54 l0 x35_1).f0).toList)) || (!(((rd_T54 l1 x12_1).f1) == ((rd_T54 l0 x35_1).f1)))) = false := by simpa using c48
          clear c48
          have H' := zM H
          clear H
          have p104 : 0 ≤ (x35_1 : Int) := zT zv
          have q104 : x35_1 < (l0.length : Int) := zT zv
          obtain ⟨ad104, e104, hx104_0, hx104_1⟩ := at_T54 HR0.out x35_1 p104 q104
          cases e104
          replace hx104_0 := (HB.out.cell (World.block_lt_of_cell? w _ hx104_0)).trans hx104_0
          replace hx104_1 := (HB.out.cell (World.block_lt_of_cell? w _ hx104_1)).trans hx104_1
          replace p104 := eq_true p104
          replace q104 := eq_true q104
          try go_wp2_with (first | ((with_reducible refine gate_dst (N := 14) rfl ?_); refine box_event ?hg (N := 14) ?hd (cs := #[.string (⟨#[]⟩ : ByteArray), .int .i64 0]) (t := 54) ?hr ?_; (case hd => rfl); (case hg => rfl); (case hr => first | (go_simp; done) | (go_simp; rfl)); intro gb105 hg w53 hbox hb; replace HO_10 := zM (Kd.S_below (Kd.S_elderB (Kd.S_below HO_10.out zg) gb105 (Nat.le_of_eq hg.symm)) hb); replace HO_11 := zM (Kd.P_below (Kd.P_below HO_11.out zg) hb); have BK105 := zM (hbox); have GW105 := zM (zh hg : w.heap.size ≤ gb105); have GE105 := zM (zh hg : w.heap.size ≤ gb105); replace HB := zM (below_step zb hb); clear hb hbox hg; have hcz54_0 : w53.cell? ⟨gb105, 0, none⟩ = some (.string (⟨#[]⟩ : ByteArray)) := (zX BK105.out 0).trans rfl; have hcz54_1 : w53.cell? ⟨gb105, 1, none⟩ = some (.int .i64 0) := (zX BK105.out 1).trans rfl; have hfz54_0 := zY BK105.out 0; have hfz54_1 := zY BK105.out 1) | ((with_reducible refine gate_callee (f := 102) rfl ?_); refine goesL_ (some 40) rfl rfl Try.func102 (by kernel_rfl) rfl #[.agg #[.string ((rd_T54 l0 x35_1).f0), .int .i64 ((rd_T54 l0 x35_1).f1)]] rfl zl ?_; (with_reducible refine (match_variable.calls k1 ((rd_T54 l0 x35_1).f0) ((rd_T54 l0 x35_1).f1) false _ A8.out).mono ?_); rintro e w55 ⟨rfl, hb⟩; refine ⟨_, rfl, ?_⟩; replace HO_10 := zM (Kd.S_below (by (with_reducible repeat (first | apply Kd.S_alloc | apply Kd.S_drewN | apply Kd.S_drew)); exact (Kd.S_mono (Kd.S_far (p := ⟨gb105, 1, none⟩) (Kd.S_far (p := ⟨gb105, 0, none⟩) (Kd.S_mono HO_10.out (fun k_ hk => (⟨hk, hk.2⟩ : _ ∧ k_ ≠ gb105))) (fun _ hk => hk.2) (.string ((rd_T54 l0 x35_1).f0))) (fun _ hk => hk.2) (.int .i64 ((rd_T54 l0 x35_1).f1))) (fun _ h_ => h_.1))) hb); replace HO_11 := zM (Kd.P_below (by (with_reducible repeat (first | apply Kd.P_alloc | apply Kd.P_drewN | apply Kd.P_drew)); exact (Kd.P_mono (Kd.P_far (p := ⟨gb105, 1, none⟩) (Kd.P_far (p := ⟨gb105, 0, none⟩) (Kd.P_types HO_11.out BK105.out (by decide)) (fun _ hk => hk.2) (.string ((rd_T54 l0 x35_1).f0))) (fun _ hk => hk.2) (.int .i64 ((rd_T54 l0 x35_1).f1))) (fun _ h_ => h_.1))) hb); replace BK105 := zM (blk_below (g := gb105) (o := .cells #[.string ((rd_T54 l0 x35_1).f0), .int .i64 ((rd_T54 l0 x35_1).f1)] 54 (0, 0)) (by refine zk ?_; refine blk_put (cs := #[.string ((rd_T54 l0 x35_1).f0), .int .i64 0]) ?_ 1 _ rfl; refine zk ?_; refine blk_put (cs := #[.string (⟨#[]⟩ : ByteArray), .int .i64 0]) ?_ 0 _ rfl; refine zk ?_; exact BK105.out) hb); replace HB := zM (below_step zb hb); (try clear hb)))
          have n0_ := zM (Kd.S_drew HO_10.out)
          have n1_ := zM (Kd.P_drew HO_11.out)
          have n2_ := zM (blk_drew BK105.out)
          have n3_ := zM (zD HB.out)
          clear HO_10
          clear HO_11
          clear BK105
          clear HB
          have HO_10 := n0_
          have HO_11 := n1_
          have BK105 := n2_
          have HB := n3_
          clear n0_ n1_ n2_ n3_
          have p107 : 0 ≤ (x12_1 : Int) := zT zv
          have q107 : x12_1 < (l1.length : Int) := zT zv
          obtain ⟨ad107, e107, hx107_0, hx107_1⟩ := at_T54 HR1.out x12_1 p107 q107
          have hw107_1 := hx107_1
          have hw107_0 := hx107_0
          cases e107
          replace hx107_0 := (HB.out.cell (World.block_lt_of_cell? w _ hx107_0)).trans hx107_0
          replace hx107_1 := (HB.out.cell (World.block_lt_of_cell? w _ hx107_1)).trans hx107_1
          replace p107 := eq_true p107
          replace q107 := eq_true q107
          refine start_ (n := 6) (S := fun w' => w'.cell? ⟨gb105, 0, none⟩ = some (.string ((rd_T54 l0 x35_1).f0)) ∧ w'.cell? ⟨gb105, 1, none⟩ = some (.int .i64 ((rd_T54 l0 x35_1).f1)) ∧ w'.cell? (ad107.add ((x12_1).toNat * 2)) = some (.string ((rd_T54 l1 x12_1).f0)) ∧ w'.cell? ⟨(ad107.add ((x12_1).toNat * 2)).block, (ad107.add ((x12_1).toNat * 2)).off + 1, none⟩ = some (.int .i64 ((rd_T54 l1 x12_1).f1))) (ds := []) #[false, false, false, false, false, false] (by kernel_rfl) rfl rfl ⟨(zX BK105.out 0).trans rfl, (zX BK105.out 1).trans rfl, ((HB.out.cell (World.block_lt_of_cell? w _ hw107_0)).trans hw107_0), ((HB.out.cell (World.block_lt_of_cell? w _ hw107_1)).trans hw107_1)⟩ (fun hHeld => ?_)
          generalize w55.drew = w56 at HO_10 HO_11 BK105 HB hx107_0 hx107_1 hHeld ⊢
          refine pure_ (i := 0) (N := some 42) (v := ?_) (a' := ?_) #[true, false, false, false, false, false] rfl rfl (by kernel_rfl) (fun _ _ _ h => h) (Or.inl ⟨by rfl, ?_⟩) ?_ ?_
          rotate_left
          ·
           intro w'
           go_simp
           with_reducible rfl
          rotate_left
          ·
           simp only [Act.put, zp1, zp2, zp3, i64_w, i32_w]
           rfl
          refine pure_ (i := 1) (N := some 43) (v := ?_) (a' := ?_) #[true, true, false, false, false, false] rfl rfl (by kernel_rfl) (fun _ _ _ h => h) (Or.inl ⟨by rfl, ?_⟩) ?_ ?_
          rotate_left
          ·
           intro w'
           go_simp
           with_reducible rfl
          rotate_left
          ·
           simp only [Act.put, zp1, zp2, zp3, i64_w, i32_w]
           rfl
          refine pure_ (i := 2) (N := some 44) (v := ?_) (a' := ?_) #[true, true, true, false, false, false] rfl rfl (by kernel_rfl) (fun _ _ _ h => h) (Or.inl ⟨by rfl, ?_⟩) ?_ ?_
          rotate_left
          ·
           intro w'
           go_simp
           with_reducible rfl
          rotate_left
          ·
           simp only [Act.put, zp1, zp2, zp3, i64_w, i32_w]
           rfl
          refine take_ (i := 3) (N := some 45) (v := ?_) (a' := ?_) #[true, true, true, true, false, false] rfl rfl (by kernel_rfl) (fun _ _ _ h => h) (Or.inl ⟨by rfl, ?_⟩) hHeld ?_ ?_
          rotate_left
          ·
           rintro w' ⟨s0, s1, s2, s3⟩
           go_simp
           with_reducible rfl
          rotate_left
          ·
           simp only [Act.put, zp1, zp2, zp3, i64_w, i32_w]
           rfl
          refine take_ (i := 4) (N := some 46) (v := ?_) (a' := ?_) #[true, true, true, true, true, false] rfl rfl (by kernel_rfl) (fun _ _ _ h => h) (Or.inl ⟨by rfl, ?_⟩) hHeld ?_ ?_
          rotate_left
          ·
           rintro w' ⟨s0, s1, s2, s3⟩
           go_simp
           with_reducible rfl
          rotate_left
          ·
           simp only [Act.put, zp1, zp2, zp3, i64_w, i32_w]
           rfl
          refine pure_ (i := 5) (N := some 47) (v := ?_) (a' := ?_) #[true, true, true, true, true, true] rfl rfl (by kernel_rfl) (fun _ _ _ h => h) (Or.inl ⟨by rfl, ?_⟩) ?_ ?_
          rotate_left
          ·
           intro w'
           go_simp
           with_reducible rfl
          rotate_left
          ·
           simp only [Act.put, zp1, zp2, zp3, i64_w, i32_w]
           rfl
          refine done_ (by kernel_rfl) ?_
          try go_wp2
          go_roundg k1
          case measure => have := HK1.out; omega
          case rel => exact ⟨(x10_1), (x11_1), (wrap64 (x12_1 + 1)), (wrap64 (x35_1 + 1)), zy, zy, H', ⟨by have := HK1.out; omega⟩, ⟨by (with_reducible repeat (first | apply Kd.S_alloc | apply Kd.S_drewN | apply Kd.S_drew)); exact Kd.S_mono HO_10.out (fun _ hk => trivial)⟩, ⟨Kd.P_below HO_11.out zg⟩, ⟨zb⟩⟩
        ·
         rw [if_neg c47] at H
         exact absurd H (by simp)
       ·
        rw [if_neg c46] at H
        exact absurd H (by simp)
     ·
      rw [if_neg c7] at H
      exact absurd H (by simp)
    ·
     rw [if_neg c6] at H
     exact absurd H (by simp)
   ·
    rw [if_neg c5] at H
    have c5b0 : decide (x35_1 < (l0.length : Int)) = false := zR c5
    clear c5
    simp only [Option.some.injEq, Prod.mk.injEq] at H
    obtain ⟨rfl, rfl, rfl⟩ := H
    go_wp2
    go_ret3
    exact ⟨_, zw, Kd.S_below HO_10.out zg, zb⟩

end Go.Proofs.Ytdlkhpfgkghhmaa.P

-- ==== Rw9
namespace Go.Proofs.Ytdlkhpfgkghhmaa.P
open Go.RowKit Go.Proofs.YtdlkhpfgkghhmaaW.PrintWords Go.Proofs.YtdlkhpfgkghhmaaW.PrintLast Go.Proofs.YtdlkhpfgkghhmaaW.PrintMore
attribute [local go_sem high] eqA54
def sameCell (a b : S54) : Bool := a.f0.toList == b.f0.toList && (a.f1 == b.f1)
def fitsF (k : Nat) (node : List S54) : List S73 → Option (Option (S73 × List S104))
 | [] => some none
 | r :: u => if 0 < r.f1.length then (if sameCell (rd_T54 r.f1 0) (rd_T54 node 0) = true then ((match_Match.f k r.f1 node).bind fun m => if m.2.1 = true ∧ m.2.2 = 0 then some (some (r, m.1)) else fitsF k node u) else fitsF k node u) else none
def FitEnd (res : Option (S73 × List S104)) (w0 w : World) (e : Ending) (w' : World) : Prop :=
 match res with
 | none => e = .returned (.tuple #[.agg #[.int .i64 0, .slice none 0 0, .slice none 0 0], .slice none 0 0, .bool false])
 | some x => ∃ (A1 A2 : Option Addr) (c1 c2 : Nat) (vb : Value), e = .returned (.tuple #[.agg #[.int .i64 x.1.f0, .slice A1 x.1.f1.length c1, .slice A2 x.1.f2.length c2], vb, .bool true]) ∧ x.1.f2.length ≤ c2 ∧ Kd.C k54 w0 A2 x.1.f2.length x.1.f2 ∧ Kd.R k104 104 w' w.heap.size (fun _ => True) vb x.2
theorem set3_blk {W : World} {b t : Nat} {a1 a2 a3 : Value} (h : W.heap[b]? = some (.cells #[a1, a2, a3] t (0, 0))) (b1 b2 b3 : Value) :
 (((W.setCell ⟨b, 0, none⟩ b1).setCell ⟨b, 1, none⟩ b2).setCell ⟨b, 2, none⟩ b3).heap[b]? = some (.cells #[b1, b2, b3] t (0, 0)) := by
 refine blk_put (cs := #[b1, b2, a3]) ?_ 2 _ rfl
 refine blk_put (cs := #[b1, a2, a3]) ?_ 1 _ rfl
 exact blk_put (cs := #[a1, a2, a3]) h 0 _ rfl
theorem set3_below {B b : Nat} {w W : World} (h : Below B w W) (hb : B ≤ b) (b1 b2 b3 : Value) : Below B w (((W.setCell ⟨b, 0, none⟩ b1).setCell ⟨b, 1, none⟩ b2).setCell ⟨b, 2, none⟩ b3) :=
 ((h.setCell (p := ⟨b, 0, none⟩) hb _).setCell (p := ⟨b, 1, none⟩) hb _).setCell (p := ⟨b, 2, none⟩) hb _
theorem set3_R {α : Type} {d : Kd α} {e B b t : Nat} {ok : Nat → Prop} {W : World} {v : Value} {xs : List α} {cs : Array Value} (h : d.R e W B ok v xs) (hb : W.heap[b]? = some (.cells cs t (0, 0))) (ht : ∀ q, q ∈ e :: d.E → q ≠ t) (b1 b2 b3 : Value) :
 d.R e (((W.setCell ⟨b, 0, none⟩ b1).setCell ⟨b, 1, none⟩ b2).setCell ⟨b, 2, none⟩ b3) B ok v xs :=
 Kd.R_mono (Kd.R_far (p := ⟨b, 2, none⟩) (Kd.R_far (p := ⟨b, 1, none⟩) (Kd.R_far (p := ⟨b, 0, none⟩) (Kd.R_types h hb ht) (fun _ hk => hk.2) _) (fun _ hk => hk.2) _) (fun _ hk => hk.2) _) (fun _ hk => hk.1)
theorem fits_calls {g k cr cn : Nat} {w0 w : World} {vo vv vh tv : Value} {st fu : Int} {Ar An : Option Addr} {rules : List S73} {node : List S54} {res : Option (S73 × List S104)}
 (hb : w.heap[g]? = some (.cells #[vo, vv, .int .i64 st, vh, .slice Ar rules.length cr, tv, .int .i64 fu] 94 (0, 0))) (hr : Kd.C k73 w0 Ar rules.length rules) (hb0 : Below w0.heap.size w0 w) (hn : Kd.C k54 w An node.length node) (hn' : node.length ≤ cn) (hp : 0 < node.length) (hf : fitsF k node rules = some res) :
 Calls Try.prog 74 #[.pointer (some ⟨g, 0, none⟩), .slice An node.length cn] w fun e w' => FitEnd res w0 w e w' ∧ Below w.heap.size w w' := by
 have HR := Aside0.mk hr
 have HB0 := Aside0.mk hb0
 have HN := Aside0.mk hn
 have HF := Aside0.mk hf
 have HM := Aside0.mk (show (rules.length : Int) ≤ 9223372036854775807 by have := hr.2.1; omega)
 have hz1 := below_alloc (Below.refl w.heap.size w) (.cells #[.int .i64 0, .slice none 0 0, .slice none 0 0] 73)
 have hzb := heap_alloc_new w (.cells #[.int .i64 0, .slice none 0 0, .slice none 0 0] 73)
 have hm4 : (w.alloc (.cells #[.int .i64 0, .slice none 0 0, .slice none 0 0] 73)).cell? ⟨g, 4, none⟩ = some (.slice Ar rules.length cr) := pw_cell_below hz1 ((blk_cell hb 4).trans rfl)
 have HB := Aside0.mk hz1
 have HZ := Aside0.mk hzb
 clear hr hn hf hz1 hzb hb hb0
 go_enter Try.func74, Try.ntmps74
 go_wp2
 clear hm4
 go_loopg [17] rules.length (fun kq v17 w' => ∃ x : Int, v17 = .int .i64 x ∧ Aside0 (0 ≤ x ∧ x + kq = (rules.length : Int)) ∧ Aside0 (fitsF k node (rules.drop x.toNat) = some res) ∧ Aside0 (w'.heap[w.heap.size]? = some (.cells #[.int .i64 0, .slice none 0 0, .slice none 0 0] 73 (0, 0))) ∧ Aside0 (Below w.heap.size w w'))
 case atStart => exact ⟨0, rfl, ⟨by omega⟩, HF, HZ, HB⟩
 case round =>
  clear HF HZ HB
  obtain ⟨x, rfl, HX, HF, HZ, HB⟩ := hrel
  cases gk with
  | succ k1 =>
   have hi : 0 ≤ x ∧ x < (rules.length : Int) := by have := HX.out; omega
   obtain ⟨ad, A1, c1, A2, c2, rfl, hx0, hx1, hx2, l1, g1, l2, g2⟩ := at_T73 (Kd.C_below HR.out (below_step HB0.out HB.out)) x hi.1 hi.2
   have g2w : Kd.C k54 w0 A2 (rd_T73 rules x).f2.length (rd_T73 rules x).f2 := by
    obtain ⟨ad', A1', c1', A2', c2', he, y0, y1, y2, _, _, _, g2'⟩ := at_T73 HR.out x hi.1 hi.2
    injection he with he
    subst he
    have := pw_cell_below (below_step HB0.out HB.out) y2
    rw [hx2] at this
    injection this with this
    injection this with this _ _
    rw [this]
    exact g2'
   have hdr : rules.drop x.toNat = rd_T73 rules x :: rules.drop (x.toNat + 1) := by
    rw [List.drop_eq_getElem_cons (show x.toNat < rules.length by omega)]
    congr 1
    simp [rd_T73, List.getD_eq_getElem?_getD, show x.toNat < rules.length by omega]
   have hf := HF.out
   rw [hdr, fitsF] at hf
   generalize rd_T73 rules x = r at hx0 hx1 hx2 l1 g1 l2 g2 g2w hf
   by_cases h0 : 0 < r.f1.length
   case neg => rw [if_neg h0] at hf; cases hf
   rw [if_pos h0] at hf
   have hb0 : decide (x < (rules.length : Int)) = true := decide_eq_true hi.2
   have hpp := eq_true hi.1
   have hqq := eq_true hi.2
   have HXI := Aside0.mk hi
   obtain ⟨al, rfl, hl0, hl1⟩ := at_T54 g1 0 (by omega) (by omega)
   obtain ⟨an, rfl, hn0, hn1⟩ := at_T54 (Kd.C_below HN.out HB.out) 0 (by omega) (by omega)
   rw [show ((0 : Int)).toNat * 2 = 0 from rfl, Addr.add_zero'] at hl0 hl1 hn0 hn1
   have HG1 := Aside0.mk (And.intro l1 g1)
   have HG2 := Aside0.mk (And.intro l2 g2w)
   have HHF := Aside0.mk hf
   have HN2 := Aside0.mk (show Kd.C k54 wr (some an) node.length node from Kd.C_below HN.out HB.out)
   have hp0 := eq_true h0
   have hp1 := eq_true hp
   have hp2 : (0 < (r.f1.length : Int)) = True := eq_true (by omega)
   have hp3 : (0 < (node.length : Int)) = True := eq_true (by omega)
   have hbw := below_alloc (Below.refl wr.heap.size wr) (.cells #[.int .i64 r.f0, .slice (some al) r.f1.length c1, .slice A2 r.f2.length c2] 73)
   have hlw := pw_cell_below hbw hl0
   have hlw1 := pw_cell_below hbw hl1
   have hnw := pw_cell_below hbw hn0
   have hnw1 := pw_cell_below hbw hn1
   have hk := heap_alloc_new wr (.cells #[.int .i64 r.f0, .slice (some al) r.f1.length c1, .slice A2 r.f2.length c2] 73)
   have hr1 := (blk_cell hk 1).trans rfl
   have HBW := Aside0.mk (Below.refl wr.heap.size wr)
   clear hdr hf hi h0 l1 g1 l2 g2 g2w hl0 hl1 hn0 hn1 hbw hk
   by_cases hs : sameCell (rd_T54 r.f1 0) (rd_T54 node 0) = true
   ·
    have hs2 : ((rd_T54 r.f1 0).f0.toList == (rd_T54 node 0).f0.toList && (rd_T54 r.f1 0).f1 == (rd_T54 node 0).f1) = true := hs
    generalize rd_T54 r.f1 0 = ca at hlw hlw1 hs hs2 HHF
    generalize rd_T54 node 0 = cb at hnw hnw1 hs hs2 HHF
    have hf := HHF.out
    rw [if_pos hs] at hf
    obtain ⟨⟨m1, m2, m3⟩, hmm, hf⟩ := Option.bind_eq_some_iff.mp hf
    simp only at hf
    have M1 := fun (W : World) (hW : Below wr.heap.size wr W) => match_Match.calls k (some al) c1 r.f1 (some an) cn node m1 m2 m3 W (Kd.C_below HG1.out.2 hW) HG1.out.1 (Kd.C_below HN2.out hW) hn' hmm
    clear hmm hs
    by_cases hm : m2 = true ∧ m3 = 0
    ·
     rw [if_pos hm] at hf
     obtain ⟨rfl, rfl⟩ := hm
     obtain rfl := Option.some.inj hf
     clear hf HHF HF
     go_upto_region 4 with fail
     go_region
     go_wp2_with (first | (go_at_call 92; (with_reducible refine (M1 _ ?side1).mono ?_); (case side1 => exact (zq HBW.out)); rintro e w2 ⟨vb, rfl, hS, hb⟩; obtain ⟨Ab, cb_, rfl⟩ := Kd.S_slice hS; have HS := Aside0.mk (Kd.S_R hS); have HBW2 := Aside0.mk (below_step (zq HBW.out) hb); have hq := (hb.block wr.heap.size (by simp)).trans (heap_alloc_new wr (.cells #[.int .i64 r.f0, .slice (some al) r.f1.length c1, .slice A2 r.f2.length c2] 73)); have q0 := (blk_cell hq 0).trans rfl; have q1 := (blk_cell hq 1).trans rfl; have q2 := (blk_cell hq 2).trans rfl; have hz := (HBW2.out.block w.heap.size (blk_lt HZ.out)).trans HZ.out; have HZ2 := Aside0.mk hz; have z0 := (blk_cell hz 0).trans rfl; have z1 := (blk_cell hz 1).trans rfl; have z2 := (blk_cell hz 2).trans rfl; have y0 := blk_frozen hz 0; have y1 := blk_frozen hz 1; have y2 := blk_frozen hz 2; clear hS hb hq hz))
     refine bodyPost_ret (results_ctt rfl _ _ w.heap.size 73 _ (0, 0) _ rfl (set3_blk HZ2.out _ _ _) Try.underlying73 rfl (by kernel_rfl)) rfl ?_
     exact ⟨⟨_, _, _, _, _, rfl, HG2.out.1, HG2.out.2, set3_R (Kd.R_lower HS.out (Nat.le_trans HB.out.size (Below.size (zq HBW.out)))) HZ2.out (by decide) _ _ _⟩, set3_below (below_step HB.out HBW2.out) (Nat.le_refl _) _ _ _⟩
    ·
     rw [if_neg hm] at hf
     have HF2 := Aside0.mk hf
     clear hf HHF HF
     have hmb : m2 = true → (m3 == 0) = false := fun h1 => beq_eq_false_iff_ne.mpr (fun h2 => hm ⟨h1, h2⟩)
     cases m2 with
     | true =>
      have hm3 := hmb rfl
      clear hmb hm
      go_upto_region 4 with fail
      go_region
      go_wp2_with (first | (go_at_call 92; (with_reducible refine (M1 _ ?side2).mono ?_); (case side2 => exact (zq HBW.out)); rintro e w2 ⟨vb, rfl, hS, hb⟩; obtain ⟨Ab, cb_, rfl⟩ := Kd.S_slice hS; have HS := Aside0.mk (Kd.S_R hS); have HBW2 := Aside0.mk (below_step (zq HBW.out) hb); have hq := (hb.block wr.heap.size (by simp)).trans (heap_alloc_new wr (.cells #[.int .i64 r.f0, .slice (some al) r.f1.length c1, .slice A2 r.f2.length c2] 73)); have q0 := (blk_cell hq 0).trans rfl; have q1 := (blk_cell hq 1).trans rfl; have q2 := (blk_cell hq 2).trans rfl; have hz := (HBW2.out.block w.heap.size (blk_lt HZ.out)).trans HZ.out; have HZ2 := Aside0.mk hz; have z0 := (blk_cell hz 0).trans rfl; have z1 := (blk_cell hz 1).trans rfl; have z2 := (blk_cell hz 2).trans rfl; have y0 := blk_frozen hz 0; have y1 := blk_frozen hz 1; have y2 := blk_frozen hz 2; clear hS hb hq hz))
      go_roundg k1
      case measure => have := HX.out; omega
      case rel => exact ⟨x + 1, by have e_ : wrap64 (x + 1) = x + 1 := (by have := HXI.out; have := HM.out; unfold wrap64; omega); first | rfl | rw [e_] | (simp [e_]; done), ⟨by have := HX.out; omega⟩, ⟨by rw [show (x + 1).toNat = x.toNat + 1 by have := HXI.out; omega]; exact HF2.out⟩, HZ2, ⟨below_step HB.out HBW2.out⟩⟩
     | false =>
      clear hmb hm
      go_upto_region 4 with fail
      go_region
      go_wp2_with (first | (go_at_call 92; (with_reducible refine (M1 _ ?side3).mono ?_); (case side3 => exact (zq HBW.out)); rintro e w2 ⟨vb, rfl, hS, hb⟩; obtain ⟨Ab, cb_, rfl⟩ := Kd.S_slice hS; have HS := Aside0.mk (Kd.S_R hS); have HBW2 := Aside0.mk (below_step (zq HBW.out) hb); have hq := (hb.block wr.heap.size (by simp)).trans (heap_alloc_new wr (.cells #[.int .i64 r.f0, .slice (some al) r.f1.length c1, .slice A2 r.f2.length c2] 73)); have q0 := (blk_cell hq 0).trans rfl; have q1 := (blk_cell hq 1).trans rfl; have q2 := (blk_cell hq 2).trans rfl; have hz := (HBW2.out.block w.heap.size (blk_lt HZ.out)).trans HZ.out; have HZ2 := Aside0.mk hz; have z0 := (blk_cell hz 0).trans rfl; have z1 := (blk_cell hz 1).trans rfl; have z2 := (blk_cell hz 2).trans rfl; have y0 := blk_frozen hz 0; have y1 := blk_frozen hz 1; have y2 := blk_frozen hz 2; clear hS hb hq hz))
      go_roundg k1
      case measure => have := HX.out; omega
      case rel => exact ⟨x + 1, by have e_ : wrap64 (x + 1) = x + 1 := (by have := HXI.out; have := HM.out; unfold wrap64; omega); first | rfl | rw [e_] | (simp [e_]; done), ⟨by have := HX.out; omega⟩, ⟨by rw [show (x + 1).toNat = x.toNat + 1 by have := HXI.out; omega]; exact HF2.out⟩, HZ2, ⟨below_step HB.out HBW2.out⟩⟩
   ·
    have hs2 : ((rd_T54 r.f1 0).f0.toList == (rd_T54 node 0).f0.toList && (rd_T54 r.f1 0).f1 == (rd_T54 node 0).f1) = false := by simpa [sameCell] using hs
    generalize rd_T54 r.f1 0 = ca at hlw hlw1 hs hs2 HHF
    generalize rd_T54 node 0 = cb at hnw hnw1 hs hs2 HHF
    have hf := HHF.out
    rw [if_neg hs] at hf
    have HF2 := Aside0.mk hf
    clear hf HHF HF hs
    go_upto_region 4 with fail
    go_region
    go_wp2
    go_roundg k1
    case measure => have := HX.out; omega
    case rel => exact ⟨x + 1, by have e_ : wrap64 (x + 1) = x + 1 := (by have := HXI.out; have := HM.out; unfold wrap64; omega); first | rfl | rw [e_] | (simp [e_]; done), ⟨by have := HX.out; omega⟩, ⟨by rw [show (x + 1).toNat = x.toNat + 1 by have := HXI.out; omega]; exact HF2.out⟩, ⟨(((by repeat (first | exact HBW.out | apply pw_below_drewN | apply below_drew1 | apply below_alloc) : Below wr.heap.size wr _)).block _ (blk_lt HZ.out)).trans HZ.out⟩, ⟨below_step HB.out (zq HBW.out)⟩⟩
  | zero =>
   have hb0 : decide (x < (rules.length : Int)) = false := decide_eq_false (by have := HX.out; omega)
   have hf := HF.out
   rw [List.drop_eq_nil_of_le (by have := HX.out; omega), fitsF] at hf
   obtain rfl := Option.some.inj hf
   have q0 := (blk_cell HZ.out 0).trans rfl
   have q1 := (blk_cell HZ.out 1).trans rfl
   have q2 := (blk_cell HZ.out 2).trans rfl
   have f0 := blk_frozen HZ.out 0
   have f1 := blk_frozen HZ.out 1
   have f2 := blk_frozen HZ.out 2
   clear hf HF
   go_wp2
   refine bodyPost_ret (results_ctt rfl _ _ w.heap.size 73 _ (0, 0) _ rfl (set3_blk HZ.out _ _ _) Try.underlying73 rfl (by kernel_rfl)) rfl ?_
   exact ⟨rfl, set3_below HB.out (Nat.le_refl _) _ _ _⟩

-- ==== Rw10
def bindL : List S104 → ByteArray → List S54
 | [], _ => []
 | b :: u, v => if (b.f0.toList == v.toList) = true then b.f1 else bindL u v
theorem mk1_calls {p cb : Nat} {w : World} {Ab : Option Addr} {binds : List S104} (hp : w.heap[p]? = some (.cells #[.slice Ab binds.length cb] 100 (0, 0))) (hc : Kd.C k104 w Ab binds.length binds) (hl : ∀ b ∈ binds, b.f1.length ≤ 64) (v : ByteArray) :
 Calls Try.prog 75 #[.string v, .pointer (some ⟨p, 0, none⟩)] w fun e w' => ∃ v0 : Value, e = .returned v0 ∧ Kd.R k54 54 w' w.heap.size (fun _ => True) v0 (bindL binds v) ∧ Below w.heap.size w w' := by
 have HC := Aside0.mk hc
 have HL := Aside0.mk hl
 have HM := Aside0.mk (show (binds.length : Int) ≤ 9223372036854775807 by have := hc.2.1; omega)
 have hp0 : w.cell? ⟨p, 0, none⟩ = some (.slice Ab binds.length cb) := (blk_cell hp 0).trans rfl
 have HB := Aside0.mk (Below.refl w.heap.size w)
 obtain ⟨fin, hfin⟩ : ∃ fin, fin = bindL binds v := ⟨_, rfl⟩
 rw [← hfin]
 have HF := Aside0.mk hfin
 clear hp hc hl hfin
 go_enter Try.func75, Try.ntmps75
 go_wp2
 clear hp0
 go_loopg [8] binds.length (fun kq v8 w' => ∃ x : Int, v8 = .int .i64 x ∧ Aside0 (0 ≤ x ∧ x + kq = (binds.length : Int)) ∧ Aside0 (fin = bindL (binds.drop x.toNat) v) ∧ Aside0 (Below w.heap.size w w'))
 case atStart => exact ⟨0, rfl, ⟨by omega⟩, HF, HB⟩
 case round =>
  clear HF HB
  obtain ⟨x, rfl, HX, HF, HB⟩ := hrel
  cases gk with
  | succ k1 =>
   have hi : 0 ≤ x ∧ x < (binds.length : Int) := by have := HX.out; omega
   obtain ⟨ad, A1, c1, rfl, hx0, hx1, l1, g1⟩ := at_T104 (Kd.C_below HC.out HB.out) x hi.1 hi.2
   have hdr : binds.drop x.toNat = rd_T104 binds x :: binds.drop (x.toNat + 1) := by
    rw [List.drop_eq_getElem_cons (show x.toNat < binds.length by omega)]
    congr 1
    simp [rd_T104, List.getD_eq_getElem?_getD, show x.toNat < binds.length by omega]
   have hle : (rd_T104 binds x).f1.length ≤ 64 := HL.out _ (List.mem_of_mem_drop (i := x.toNat) (by rw [hdr]; exact List.mem_cons_self))
   have hf := HF.out
   rw [hdr, bindL] at hf
   generalize rd_T104 binds x = b at hx0 hx1 l1 g1 hf hle
   have HXI := Aside0.mk hi
   have hb0 : decide (x < (binds.length : Int)) = true := decide_eq_true hi.2
   have hpp := eq_true hi.1
   have hqq := eq_true hi.2
   have HG := Aside0.mk g1
   have HF1 := Aside0.mk hf
   have T1 := fun (W : World) (hW : Below wr.heap.size wr W) => cloneT_calls (w := W) (c := c1) (Kd.C_below HG.out hW) l1 (by omega)
   have HBW := Aside0.mk (Below.refl wr.heap.size wr)
   clear hdr g1 hf hi hle l1 HF
   by_cases hs : (b.f0.toList == v.toList) = true
   ·
    have hf := HF1.out
    rw [if_pos hs] at hf
    subst hf
    have hs1 : decide (b.f0.toList = v.toList) = true := decide_eq_true (by simpa using hs)
    clear HF1
    go_wp2_with (go_at_call 71; (with_reducible refine (T1 _ ?side1).mono ?_); (case side1 => exact (zq HBW.out)); rintro e w2 ⟨A2, c2, rfl, hR, hb⟩; have HR2 := Aside0.mk hR; have HB2 := Aside0.mk (below_step (zq HBW.out) hb); clear hR hb)
    go_ret
    exact ⟨_, rfl, Kd.R_lower HR2.out (Nat.le_trans HB.out.size (by simp)), below_step HB.out HB2.out⟩
   ·
    have hf := HF1.out
    rw [if_neg hs] at hf
    have HF2 := Aside0.mk hf
    have hs0 : (b.f0.toList == v.toList) = false := by simpa using hs
    have hs1 : decide (b.f0.toList = v.toList) = false := decide_eq_false (by simpa using hs)
    clear hf HF1 hs T1
    go_wp2
    go_roundg k1
    case measure => have := HX.out; omega
    case rel => exact ⟨x + 1, by have e_ : wrap64 (x + 1) = x + 1 := (by have := HXI.out; have := HM.out; unfold wrap64; omega); first | rfl | rw [e_] | (simp [e_]; done), ⟨by have := HX.out; omega⟩, ⟨by rw [show (x + 1).toNat = x.toNat + 1 by have := HXI.out; omega]; exact HF2.out⟩, ⟨below_step HB.out (zq HBW.out)⟩⟩
  | zero =>
   have hb0 : decide (x < (binds.length : Int)) = false := decide_eq_false (by have := HX.out; omega)
   have hf := HF.out
   rw [List.drop_eq_nil_of_le (by have := HX.out; omega), bindL] at hf
   subst hf
   clear HF
   go_wp2
   go_ret
   exact ⟨_, rfl, Kd.R_nil _ _ _ _ _, HB.out⟩

-- ==== Rw11
structure Mst where
 ops : List S70
 vals : List (List S54)
 st : Int
 hd : List ByteArray
 fu : Int
def nodeR (k : Nat) (rules : List S73) (node : List S54) (nm : ByteArray) (args : List (List S54)) (m : Mst) (m0 : Mst) : Option (Int × Mst) :=
 (fitsF k node rules).bind fun
  | none => (headF k [nm] m.hd).bind fun hd => if m.vals.length < 5864062014800 then some (0, ⟨m.ops, m.vals ++ [node], m.st, hd, m.fu⟩) else none
  | some rb => if m.fu ≤ 0 then some (14, m0) else if m.fu ≤ 9223372036854775807 ∧ (∀ b ∈ rb.2, b.f1.length ≤ 64) then
   (headF k [nm] m.hd).bind fun hd => (todoL (bindL rb.2) rb.1.f2 k 0 []).bind fun r => if m.ops.length + r.1.length < 2513169434900 then some (0, ⟨m.ops ++ r.1.reverse, m.vals, wrap64 (m.st + 1), hd, m.fu - 1⟩) else none else none
def makeN (k : Nat) (rules : List S73) (nm : ByteArray) (o : S70) (args : List (List S54)) (m : Mst) : Option (Int × Mst) :=
 if (nodeL ⟨nm, args.length⟩ args).length > 64 then some (6, ⟨m.ops ++ [o], m.vals ++ args, m.st, m.hd, m.fu⟩)
 else nodeR k rules (nodeL ⟨nm, args.length⟩ args) nm args m ⟨m.ops ++ [o], m.vals ++ args, m.st, m.hd, m.fu⟩
theorem F_lit {W : World} {nb : Nat} {nm : ByteArray} {ok : Nat → Prop} (h : W.heap[nb]? = some (.cells #[.string nm] 9 (0, 0))) (ho : ok nb) : Kd.F Kd.string W ok (some ⟨nb, 0, none⟩) [nm].length [nm] := by
 intro W' hW
 have hb := (hW nb ho (blk_lt h)).trans h
 refine ⟨rfl, by simp, fun _ => ⟨_, rfl, fun j p hj => ?_⟩⟩
 match j, hj with
 | 0, hj =>
  obtain rfl := Option.some.inj hj
  refine ⟨[.string nm], rfl, rfl, fun i u hu => ?_⟩
  match i, hu with
  | 0, hu =>
   obtain rfl := Option.some.inj hu
   rw [Nat.zero_mul, Nat.zero_add, Addr.add_zero']
   exact (blk_cell hb 0).trans rfl
  | i + 1, hu => simp at hu
 | j + 1, hj => simp at hj
theorem isMcH_below {B g : Nat} {W W' : World} {rv tv vh : Value} {ops : List S70} {vals : List (List S54)} {st fu : Int} {hd : List ByteArray} (h : IsMcH B W g rv tv ops vals st vh hd fu) (hb : Below W.heap.size W W') : IsMcH B W' g rv tv ops vals st vh hd fu := by
 obtain ⟨vo, vv, h1, h2, h3, h4, h5⟩ := h
 exact ⟨vo, vv, blk_below h1 hb, h2, Kd.R_below h3 hb, Kd.R_below h4 hb, Kd.R_below h5 hb⟩
theorem lit_new (w2 : World) (a b c : Obj) : (((w2.alloc a).alloc b).alloc c).heap[w2.heap.size + 1 + 1]? = some c := by
 have h := heap_alloc_new ((w2.alloc a).alloc b) c
 rwa [show ((w2.alloc a).alloc b).heap.size = w2.heap.size + 1 + 1 by simp] at h
theorem al2_below (w2 : World) (a b : Obj) : Below w2.heap.size w2 ((w2.alloc a).alloc b) := below_alloc (below_alloc (Below.refl _ _) a) b
theorem al2_0 (w2 : World) (a b : Obj) : ((w2.alloc a).alloc b).heap[w2.heap.size]? = some a := ((below_alloc (Below.refl _ _) b).block w2.heap.size (by simp)).trans (heap_alloc_new w2 a)
theorem al2_1 (w2 : World) (a b : Obj) : ((w2.alloc a).alloc b).heap[w2.heap.size + 1]? = some b := by
 have h := heap_alloc_new (w2.alloc a) b
 rwa [show (w2.alloc a).heap.size = w2.heap.size + 1 by simp] at h
theorem isMcH_fs {B g : Nat} {W : World} {rv tv vh : Value} {ops : List S70} {vals : List (List S54)} {st fu : Int} {hd : List ByteArray} (h : IsMcH B W g rv tv ops vals st vh hd fu) (st' fu' : Int) :
 IsMcH B ((W.setCell ⟨g, 6, none⟩ (.int .i64 fu')).setCell ⟨g, 2, none⟩ (.int .i64 st')) g rv tv ops vals st' vh hd fu' := by
 obtain ⟨vo, vv, h1, h2, h3, h4, h5⟩ := h
 have k1 : (W.setCell ⟨g, 6, none⟩ (.int .i64 fu')).heap[g]? = some (.cells #[vo, vv, .int .i64 st, vh, rv, tv, .int .i64 fu'] 94 (0, 0)) := by simpa using blk_set h1 6 (.int .i64 fu')
 exact ⟨vo, vv, by simpa using blk_set k1 2 (.int .i64 st'), h2, Kd.R_set (Kd.R_set h3 h1 (by decide) 6 _) k1 (by decide) 2 _, Kd.R_set (Kd.R_set h4 h1 (by decide) 6 _) k1 (by decide) 2 _, Kd.R_set (Kd.R_set h5 h1 (by decide) 6 _) k1 (by decide) 2 _⟩
theorem rows_parts {W : World} {B C : Nat} {v : Value} {xs : List S70} (h : Kd.R k70 70 W C (fun _ => True) v xs) (hB : B ≤ C) : ∃ A c, v = .slice A xs.length c ∧ ReadsRow (fun x cs => Kd.M k70 W B (fun k => C ≤ k ∧ some k ≠ v.ownBlock) x cs) k70.sz W A xs.length xs := by
 have h2 := Kd.R_lower (Kd.R_mono (Kd.R_bound h) (fun k hk => (hk.2.1 : C ≤ k))) hB
 obtain ⟨A, c, he, _, hr⟩ := OwnRow.reads h2.2
 exact ⟨A, c, he, hr⟩
theorem head2_calls {B g k nb : Nat} {w2 W : World} {rv tv vh : Value} {ops : List S70} {vals : List (List S54)} {st fu : Int} {hd fin : List ByteArray} {nm : ByteArray}
 (h : IsMcH B w2 g rv tv ops vals st vh hd fu) (hf : headF k [nm] hd = some fin) (hW : Below w2.heap.size w2 W) (hnb : W.heap[nb]? = some (.cells #[.string nm] 9 (0, 0))) (hle : w2.heap.size ≤ nb) :
 Calls Try.prog 73 #[.pointer (some ⟨g, 0, none⟩), .slice (some ⟨nb, 0, none⟩) 1 1] W fun e w3 => e = .returned (.tuple #[]) ∧ IsMc B w3 g rv tv ops vals st fin fu ∧ Below B w2 w3 ∧ Kept w2 w3 (fun q => q = g ∨ vh.ownBlock = some q) := by
 have h2 := h
 obtain ⟨vo, vv, h1, hg, _, _, hH⟩ := h2
 have hgl := blk_lt h1
 refine (head_calls (cn := 1) (names := [nm]) (isMcH_below h hW) (F_lit hnb ⟨by omega, fun he => by have := Kd.R_lt hH _ he; omega⟩) hf).mono ?_
 rintro e w3 ⟨he, hM, hB3, hK3⟩
 exact ⟨he, hM, below_trB (below_less hW (by omega)) hB3, Kept.then_ (Kept.below (Kept.refl w2 _) hW) hK3 (fun q hq => .inl hq)⟩
def IsM (B : Nat) (W : World) (g : Nat) (rv tv : Value) (m : Mst) : Prop := IsMc B W g rv tv m.ops m.vals m.st m.hd m.fu
theorem nodeL_pos (c : S54) : ∀ (args : List (List S54)), 0 < (nodeL c args).length := by
 intro args
 have : ∀ (args : List (List S54)) (out : List S54), 0 < out.length → 0 < (args.foldl nodeStep out).length := by
  intro args
  induction args with
  | nil => intro out h; exact h
  | cons v u ih =>
   intro out h
   refine ih _ ?_
   unfold nodeStep
   split
   ·
    rw [List.length_append]; omega
   ·
    exact h
 exact this args [c] (by simp)

theorem make_calls {B g k cr : Nat} {w0 w : World} {Ar : Option Addr} {rules : List S73} {nm : ByteArray} {o : S70} {args : List (List S54)} {m : Mst} {r : Int × Mst}
 (h : IsM B w g (.slice Ar rules.length cr) .nilIface ⟨m.ops ++ [o], m.vals ++ args, m.st, m.hd, m.fu⟩) (hr : Kd.C k73 w0 Ar rules.length rules) (hw0 : w0.heap.size ≤ B) (hb0 : Below w0.heap.size w0 w)
 (hv : ∀ v ∈ args, v.length ≤ 64) (hf : makeN k rules nm o args m = some r) :
 Calls Try.prog 49 #[.pointer (some ⟨g, 0, none⟩), .agg #[.string nm, .int .i64 (args.length : Int)]] w fun e w' => e = .returned (.int .i64 r.1) ∧ IsM B w' g (.slice Ar rules.length cr) .nilIface r.2 ∧ Below B w w' := by
 have HI := Aside0.mk h
 have HR := Aside0.mk hr
 have HW := Aside0.mk (And.intro hw0 hb0)
 have HF := Aside0.mk hf
 have hbx := heap_alloc_new w (.cells #[.string nm, .int .i64 (args.length : Int)] 54)
 have hb1 := below_alloc (Below.refl w.heap.size w) (.cells #[.string nm, .int .i64 (args.length : Int)] 54)
 obtain ⟨node, hnode⟩ : ∃ node, node = nodeL ⟨nm, args.length⟩ args := ⟨_, rfl⟩
 have N1 := fun (W : World) (hW : Below w.heap.size w W) => node_calls (nm := nm) (args := args) (vals := m.vals) (isMc_below h hW) hv
 rw [← hnode] at N1
 have hpos : 0 < node.length := by rw [hnode]; exact nodeL_pos _ _
 have hBw := isMc_lt h
 have HBX := Aside0.mk hbx
 have HB1 := Aside0.mk hb1
 have HBw := Aside0.mk hBw
 have h0 := HF.out
 unfold makeN at h0
 rw [← hnode] at h0
 have HP := Aside0.mk hpos
 clear h hr hw0 hb0 hf hb1 hbx hBw hnode HF
 have HBW := Aside0.mk (Below.refl w.heap.size w)
 by_cases hbig : node.length > 64
 ·
  rw [if_pos hbig] at h0
  obtain rfl := Option.some.inj h0
  clear h0 hpos
  have hnil := fun (W : World) => Lib.run_eql_slice_nil (P := Try.prog) W 23 54 none 0 0 0 0 Try.underlying23
  have hnil' : ∀ (W : World), Sem.run Try.prog (binOp BinOp.eql 23 (.slice none 0 0) (.slice none 0 0)) W = Result.ok (Value.bool true) W := hnil
  clear hnil
  have HBG := Aside0.mk hbig
  clear hbig
  go_enter Try.func49, Try.ntmps49
  go_wp2_with (first | (go_at_call 72; (with_reducible refine (N1 _ ?side1).mono ?_); (case side1 => exact (zq HBW.out)); rintro e w1 ⟨v1, rfl, hE, hb⟩; have hv1 : v1 = .slice none 0 0 := (by unfold NodeEnd at hE; rw [if_pos HBG.out] at hE; exact hE); subst hv1; have HB2 := Aside0.mk (below_step (zq HBW.out) hb); clear hE hb))
  go_ret
  exact ⟨rfl, isMc_below HI.out HB2.out, below_less HB2.out HBw.out⟩
 ·
  rw [if_neg hbig] at h0
  unfold nodeR at h0
  replace h0 := Option.bind_eq_some_iff.mp h0
  obtain ⟨res, hres, h0⟩ := h0
  have HRES := Aside0.mk hres
  have H0 := Aside0.mk h0
  have HBG := Aside0.mk hbig
  obtain ⟨vh, hih⟩ := isMc_iff.1 HI.out
  have HIH := Aside0.mk hih
  have HNS := Aside0.mk (show ∀ q, w.heap.size ≤ q → ¬ (q = g ∨ vh.ownBlock = some q) from fun q hq hs => by
   obtain ⟨_, _, h1, _, _, _, h5⟩ := HIH.out
   have := blk_lt h1
   rcases hs with rfl | hs
   ·
    omega
   ·
    have := Kd.R_lt h5 _ hs
    omega)
  clear hih
  clear hbig hres h0
  go_enter Try.func49, Try.ntmps49
  go_upto_region 10 with (first | (go_at_call 72; (with_reducible refine (N1 _ ?side2).mono ?_); (case side2 => exact (zq HBW.out)); rintro e w1 ⟨v1, rfl, hE, hb⟩; have hR1 : Kd.R k54 54 _ _ _ v1 node := (by unfold NodeEnd at hE; rw [if_neg HBG.out] at hE; exact hE); obtain ⟨gn, cn, rfl, _⟩ := Kd.R_form hR1 HP.out; have hnil' : ∀ (W : World) (n c : Nat), Sem.run Try.prog (binOp BinOp.eql 23 (.slice (some ⟨gn, 0, none⟩) n c) (.slice none 0 0)) W = Result.ok (Value.bool false) W := (fun W n c => Lib.run_eql_slice_nil (P := Try.prog) W 23 54 (some ⟨gn, 0, none⟩) n c 0 0 Try.underlying23); have HR1 := Aside0.mk (Kd.R_mono (Kd.R_bound (Kd.R_lower hR1 (Below.size (zq HBW.out)))) (fun k hk => (hk.2.1 : w.heap.size ≤ k))); have HBX1 := Aside0.mk ((hb.block w.heap.size (by have := HBX.out; exact blk_lt this)).trans HBX.out); have HB2 := Aside0.mk (below_step (zq HBW.out) hb); have hmh := isMcH_below HIH.out HB2.out; have HM1 := Aside0.mk hmh; obtain ⟨vo, vv, hmb, _⟩ := hmh; have HMB := Aside0.mk hmb; have q5 := (blk_cell hmb 5).trans rfl; clear hE hb hR1 hmb))
  have HB1W := Aside0.mk (Below.refl w1.heap.size w1)
  have FT1 := fun (W : World) (hW : Below w1.heap.size w1 W) => fits_calls (blk_below HMB.out hW) HR.out (below_step (below_step HW.out.2 HB2.out) hW) (Kd.R_reads' (Kd.R_below HR1.out hW)).2.2 (Kd.R_reads' HR1.out).2.1 HP.out HRES.out
  have h0 := H0.out
  cases res with
  | none =>
   simp only at h0
   replace h0 := Option.bind_eq_some_iff.mp h0
   obtain ⟨hd2, hhd, h0⟩ := h0
   have HHD := Aside0.mk hhd
   by_cases hlen : m.vals.length < 5864062014800
   case neg => rw [if_neg hlen] at h0; cases h0
   rw [if_pos hlen] at h0
   obtain rfl := Option.some.inj h0
   have HLEN := Aside0.mk hlen
   clear h0 hhd hlen H0 hpos hv N1
   go_wp2_with (first | (go_at_call 74; (with_reducible refine (FT1 _ ?side3).mono ?_); (case side3 => exact (zq HB1W.out)); rintro e w2 ⟨hE, hb⟩; have HBa := Aside0.mk (below_step (zq HB1W.out) hb); have he : e = .returned (.tuple #[.agg #[.int .i64 0, .slice none 0 0, .slice none 0 0], .slice none 0 0, .bool false]) := hE; subst he; have HM2 := Aside0.mk (isMcH_below HM1.out HBa.out); have HR2 := Aside0.mk (Kd.R_below HR1.out HBa.out); have HBX2 := Aside0.mk (blk_below HBX1.out HBa.out); have HB2W := Aside0.mk (Below.refl w2.heap.size w2); have q0 := pw_cell_below (below_alloc (below_alloc (Below.refl w2.heap.size w2) (.cells #[.int .i64 0, .slice none 0 0, .slice none 0 0] 73)) (.cells #[.slice none 0 0] 100)) ((blk_cell HBX2.out 0).trans rfl : w2.cell? ⟨w.heap.size, 0, none⟩ = some (.string nm)); have q6 := pw_cell_below (below_alloc (below_alloc (Below.refl w2.heap.size w2) (.cells #[.int .i64 0, .slice none 0 0, .slice none 0 0] 73)) (.cells #[.slice none 0 0] 100)) ((blk_cell (blk_below HMB.out HBa.out) 6).trans rfl : w2.cell? ⟨g, 6, none⟩ = some (.int .i64 m.fu)); have H1 := fun (W : World) (nb : Nat) (hW : Below w2.heap.size w2 W) (hnb : W.heap[nb]? = some (.cells #[.string nm] 9 (0, 0))) (hle : w2.heap.size ≤ nb) => head2_calls HM2.out HHD.out hW hnb hle; clear hE hb) | (go_at_call 73; (with_reducible refine (H1 _ (w2.heap.size + 1 + 1) ?side4a ?side4b ?side4c).mono ?_); (case side4a => exact (zq HB2W.out)); (case side4b => exact lit_new _ _ _ _); (case side4c => omega); rintro e w3 ⟨rfl, hM3, hB3, hK3⟩; have HM3 := Aside0.mk hM3; have HB3 := Aside0.mk hB3; have HR3 := Aside0.mk (Kd.R_lower (Kd.R_mono (Kd.R_kept HR2.out hK3 HNS.out) (fun _ _ => trivial)) HBw.out); have HBX3 := Aside0.mk (blk_kept HBX2.out hK3 (HNS.out _ (Nat.le_refl _))); have q1 := (blk_cell HBX3.out 1).trans rfl; clear hM3 hB3 hK3) | (go_at_call 48; (with_reducible refine (fin_calls HM3.out HR3.out (by have := HLEN.out; omega)).mono ?_); rintro e w4 ⟨rfl, hM4, hB4⟩; have HM4 := Aside0.mk hM4; have HB4 := Aside0.mk hB4; clear hM4 hB4))
   go_ret
   exact ⟨rfl, HM4.out, below_trB (below_trB (below_less (below_step HB2.out HBa.out) HBw.out) HB3.out) HB4.out⟩
  | some rb =>
   simp only at h0
   by_cases hfu : m.fu ≤ 0
   ·
    rw [if_pos hfu] at h0
    obtain rfl := Option.some.inj h0
    have hfb : decide (m.fu ≤ 0) = true := decide_eq_true hfu
    clear h0 hfu H0 hpos hv N1
    go_wp2_with (first | (go_at_call 74; (with_reducible refine (FT1 _ ?side5).mono ?_); (case side5 => exact (zq HB1W.out)); rintro e w2 ⟨hE, hb⟩; have HBa := Aside0.mk (below_step (zq HB1W.out) hb); obtain ⟨A1, A2, c1, c2, vb, rfl, hl2, hC2, hRb⟩ := hE; obtain ⟨Ab, cb, rfl⟩ := Kd.R_slice hRb; have HRb := Aside0.mk hRb; have HLO := Aside0.mk (show w.heap.size ≤ _ from Nat.le_trans HB2.out.size (Below.size (zq HB1W.out))); have HL2 := Aside0.mk hl2; have HC2 := Aside0.mk hC2; have HM2 := Aside0.mk (isMcH_below HM1.out HBa.out); have HR2 := Aside0.mk (Kd.R_below HR1.out HBa.out); have HBX2 := Aside0.mk (blk_below HBX1.out HBa.out); have HB2W := Aside0.mk (Below.refl w2.heap.size w2); have q0 := pw_cell_below (below_alloc (below_alloc (Below.refl w2.heap.size w2) (.cells #[.int .i64 rb.1.f0, .slice A1 rb.1.f1.length c1, .slice A2 rb.1.f2.length c2] 73)) (.cells #[.slice Ab rb.2.length cb] 100)) ((blk_cell HBX2.out 0).trans rfl : w2.cell? ⟨w.heap.size, 0, none⟩ = some (.string nm)); have q6 := pw_cell_below (below_alloc (below_alloc (Below.refl w2.heap.size w2) (.cells #[.int .i64 rb.1.f0, .slice A1 rb.1.f1.length c1, .slice A2 rb.1.f2.length c2] 73)) (.cells #[.slice Ab rb.2.length cb] 100)) ((blk_cell (blk_below HMB.out HBa.out) 6).trans rfl : w2.cell? ⟨g, 6, none⟩ = some (.int .i64 m.fu)); clear hb hl2 hC2 hRb))
    go_ret
    exact ⟨rfl, isMc_iff.2 ⟨_, isMcH_below HM2.out ((zq HB2W.out) : Below w2.heap.size w2 _)⟩, below_less (below_step (below_step HB2.out HBa.out) (zq HB2W.out)) HBw.out⟩
   ·
    rw [if_neg hfu] at h0
    by_cases hgo : m.fu ≤ 9223372036854775807 ∧ (∀ b ∈ rb.2, b.f1.length ≤ 64)
    case neg => rw [if_neg hgo] at h0; cases h0
    rw [if_pos hgo] at h0
    replace h0 := Option.bind_eq_some_iff.mp h0
    obtain ⟨hd2, hhd, h0⟩ := h0
    replace h0 := Option.bind_eq_some_iff.mp h0
    obtain ⟨td, htd, h0⟩ := h0
    have hfb : decide (m.fu ≤ 0) = false := decide_eq_false hfu
    by_cases hlen : m.ops.length + td.1.length < 2513169434900
    case neg => rw [if_neg hlen] at h0; cases h0
    rw [if_pos hlen] at h0
    obtain rfl := Option.some.inj h0
    have HLEN := Aside0.mk hlen
    have HGO := Aside0.mk hgo
    have HHD := Aside0.mk hhd
    have HTD := Aside0.mk htd
    have hwf : IntKind.i64.wrap (m.fu - 1) = m.fu - 1 := IntWalk.i64_in _ (by omega)
    have hws : IntKind.i64.wrap (m.st + 1) = wrap64 (m.st + 1) := i64_w _
    clear h0 hfu H0 hpos hv N1 hlen hgo hhd htd
    go_upto_region 19 with (first | (go_at_call 74; (with_reducible refine (FT1 _ ?side6).mono ?_); (case side6 => exact (zq HB1W.out)); rintro e w2 ⟨hE, hb⟩; have HBa := Aside0.mk (below_step (zq HB1W.out) hb); obtain ⟨A1, A2, c1, c2, vb, rfl, hl2, hC2, hRb⟩ := hE; obtain ⟨Ab, cb, rfl⟩ := Kd.R_slice hRb; have HRb := Aside0.mk hRb; have HLO := Aside0.mk (show w.heap.size ≤ _ from Nat.le_trans HB2.out.size (Below.size (zq HB1W.out))); have HL2 := Aside0.mk hl2; have HC2 := Aside0.mk hC2; have HM2 := Aside0.mk (isMcH_below HM1.out HBa.out); have HR2 := Aside0.mk (Kd.R_below HR1.out HBa.out); have HBX2 := Aside0.mk (blk_below HBX1.out HBa.out); have HB2W := Aside0.mk (Below.refl w2.heap.size w2); have q0 := pw_cell_below (below_alloc (below_alloc (Below.refl w2.heap.size w2) (.cells #[.int .i64 rb.1.f0, .slice A1 rb.1.f1.length c1, .slice A2 rb.1.f2.length c2] 73)) (.cells #[.slice Ab rb.2.length cb] 100)) ((blk_cell HBX2.out 0).trans rfl : w2.cell? ⟨w.heap.size, 0, none⟩ = some (.string nm)); have q6 := pw_cell_below (below_alloc (below_alloc (Below.refl w2.heap.size w2) (.cells #[.int .i64 rb.1.f0, .slice A1 rb.1.f1.length c1, .slice A2 rb.1.f2.length c2] 73)) (.cells #[.slice Ab rb.2.length cb] 100)) ((blk_cell (blk_below HMB.out HBa.out) 6).trans rfl : w2.cell? ⟨g, 6, none⟩ = some (.int .i64 m.fu)); have hbk := blk_below (blk_below HMB.out HBa.out) (below_alloc (below_alloc (Below.refl w2.heap.size w2) (.cells #[.int .i64 rb.1.f0, .slice A1 rb.1.f1.length c1, .slice A2 rb.1.f2.length c2] 73)) (.cells #[.slice Ab rb.2.length cb] 100)); have f6 := blk_frozen hbk 6; have hbk6 : (((w2.alloc (.cells #[.int .i64 rb.1.f0, .slice A1 rb.1.f1.length c1, .slice A2 rb.1.f2.length c2] 73)).alloc (.cells #[.slice Ab rb.2.length cb] 100)).setCell ⟨g, 6, none⟩ (.int .i64 (m.fu - 1))).heap[g]? = some (.cells #[vo, vv, .int .i64 m.st, vh, .slice Ar rules.length cr, .nilIface, .int .i64 (m.fu - 1)] 94 (0, 0)) := (by simpa using blk_set hbk 6 (.int .i64 (m.fu - 1))); have qs2 := (blk_cell hbk6 2).trans rfl; have fs2 := blk_frozen hbk6 2; clear hbk hbk6; clear hb hl2 hC2 hRb))
    have HS2 := Aside0.mk (show w.heap.size ≤ w2.heap.size from (below_step HB2.out HBa.out).size)
    have HM4 := Aside0.mk (isMcH_fs (isMcH_below HM2.out (al2_below w2 (.cells #[.int .i64 rb.1.f0, .slice A1 rb.1.f1.length c1, .slice A2 rb.1.f2.length c2] 73) (.cells #[.slice Ab rb.2.length cb] 100))) (wrap64 (m.st + 1)) (m.fu - 1))
    have HG := Aside0.mk (show B ≤ g by obtain ⟨_, _, _, hg, _⟩ := HM2.out; exact hg)
    have HK4 := Aside0.mk (show Kept ((w2.alloc (.cells #[.int .i64 rb.1.f0, .slice A1 rb.1.f1.length c1, .slice A2 rb.1.f2.length c2] 73)).alloc (.cells #[.slice Ab rb.2.length cb] 100)) ((((w2.alloc (.cells #[.int .i64 rb.1.f0, .slice A1 rb.1.f1.length c1, .slice A2 rb.1.f2.length c2] 73)).alloc (.cells #[.slice Ab rb.2.length cb] 100)).setCell ⟨g, 6, none⟩ (.int .i64 (m.fu - 1))).setCell ⟨g, 2, none⟩ (.int .i64 (wrap64 (m.st + 1)))) (fun q => q = g ∨ vh.ownBlock = some q) from Kept.setCell (Kept.setCell (Kept.refl _ _) (p := ⟨g, 6, none⟩) (.inl (.inl rfl)) _) (p := ⟨g, 2, none⟩) (.inl (.inl rfl)) _)
    have HB4 := Aside0.mk (show Below B w ((((w2.alloc (.cells #[.int .i64 rb.1.f0, .slice A1 rb.1.f1.length c1, .slice A2 rb.1.f2.length c2] 73)).alloc (.cells #[.slice Ab rb.2.length cb] 100)).setCell ⟨g, 6, none⟩ (.int .i64 (m.fu - 1))).setCell ⟨g, 2, none⟩ (.int .i64 (wrap64 (m.st + 1)))) from ((below_less (below_step (below_step HB2.out HBa.out) (al2_below w2 (.cells #[.int .i64 rb.1.f0, .slice A1 rb.1.f1.length c1, .slice A2 rb.1.f2.length c2] 73) (.cells #[.slice Ab rb.2.length cb] 100))) HBw.out).setCell (p := ⟨g, 6, none⟩) HG.out _).setCell (p := ⟨g, 2, none⟩) HG.out _)
    have HBX4 := Aside0.mk (blk_kept (blk_below HBX2.out (al2_below w2 (.cells #[.int .i64 rb.1.f0, .slice A1 rb.1.f1.length c1, .slice A2 rb.1.f2.length c2] 73) (.cells #[.slice Ab rb.2.length cb] 100))) HK4.out (HNS.out _ (Nat.le_refl _)))
    have HR4 := Aside0.mk (blk_kept (al2_0 w2 (.cells #[.int .i64 rb.1.f0, .slice A1 rb.1.f1.length c1, .slice A2 rb.1.f2.length c2] 73) (.cells #[.slice Ab rb.2.length cb] 100)) HK4.out (HNS.out _ HS2.out))
    have HCL4 := Aside0.mk (blk_kept (al2_1 w2 (.cells #[.int .i64 rb.1.f0, .slice A1 rb.1.f1.length c1, .slice A2 rb.1.f2.length c2] 73) (.cells #[.slice Ab rb.2.length cb] 100)) HK4.out (HNS.out _ (Nat.le_succ_of_le HS2.out)))
    have HBD4 := Aside0.mk (Kd.R_kept (Kd.R_below (Kd.R_mono (Kd.R_bound (Kd.R_lower HRb.out HLO.out)) (fun k hk => (hk.2.1 : w.heap.size ≤ k))) (al2_below w2 (.cells #[.int .i64 rb.1.f0, .slice A1 rb.1.f1.length c1, .slice A2 rb.1.f2.length c2] 73) (.cells #[.slice Ab rb.2.length cb] 100))) HK4.out HNS.out)
    clear HK4 HM2 HBX2 HRb q0 q6 f6 qs2 fs2
    generalize ((((w2.alloc (.cells #[.int .i64 rb.1.f0, .slice A1 rb.1.f1.length c1, .slice A2 rb.1.f2.length c2] 73)).alloc (.cells #[.slice Ab rb.2.length cb] 100)).setCell ⟨g, 6, none⟩ (.int .i64 (m.fu - 1))).setCell ⟨g, 2, none⟩ (.int .i64 (wrap64 (m.st + 1)))) = w4 at HM4 HB4 HBX4 HR4 HCL4 HBD4 ⊢
    have H1 := fun (W : World) (nb : Nat) (hW : Below w4.heap.size w4 W) (hnb : W.heap[nb]? = some (.cells #[.string nm] 9 (0, 0))) (hle : w4.heap.size ≤ nb) => head2_calls HM4.out HHD.out hW hnb hle
    have q0 : w4.cell? ⟨w.heap.size, 0, none⟩ = some (.string nm) := (blk_cell HBX4.out 0).trans rfl
    go_upto_region 20 with (first | (go_at_call 73; (with_reducible refine (H1 _ w4.heap.size ?s7a ?s7b ?s7c).mono ?_); (case s7a => exact (by repeat (first | exact Below.refl w4.heap.size w4 | apply pw_below_drewN | apply below_drew1 | apply below_alloc))); (case s7b => exact heap_alloc_new _ _); (case s7c => exact Nat.le_refl _); rintro e w5 ⟨rfl, hM5, hB5, hK5⟩; have HM5 := Aside0.mk hM5; have HB5 := Aside0.mk (below_trB HB4.out hB5); have HBX5 := Aside0.mk (blk_kept HBX4.out hK5 (HNS.out _ (Nat.le_refl _))); have HR5 := Aside0.mk (blk_kept HR4.out hK5 (HNS.out _ HS2.out)); have HCL5 := Aside0.mk (blk_kept HCL4.out hK5 (HNS.out _ (Nat.le_succ_of_le HS2.out))); have HBD5 := Aside0.mk (Kd.R_kept HBD4.out hK5 HNS.out); clear hM5 hB5 hK5))
    clear q0 H1 HM4 HB4 HBX4 HR4 HCL4 HBD4
    obtain ⟨vo5, vv5, vh5, hb, hg, hO, hV, hH⟩ := HM5.out
    obtain ⟨Ao, co, rfl⟩ := Kd.R_slice hO
    obtain ⟨Av, cv, rfl⟩ := Kd.R_slice hV
    obtain ⟨_, hco, hCo⟩ := Kd.R_reads' hO
    obtain ⟨_, hcv, hCv⟩ := Kd.R_reads' hV
    obtain ⟨N, hN⟩ : ∃ N, N = (m.ops ++ [o]).length := ⟨_, rfl⟩
    obtain ⟨M, hM⟩ : ∃ M, M = (m.vals ++ args).length := ⟨_, rfl⟩
    rw [← hN] at hb hco hCo hO
    rw [← hM] at hb hcv hCv hV
    have hNb := hCo.2.1
    have hMb := hCv.2.1
    have hN1 : N = m.ops.length + 1 := by rw [hN]; simp
    have hM1 : M = m.vals.length + args.length := by rw [hM]; simp
    have hc0 : w5.cell? ⟨g, 0, none⟩ = some (.slice Ao N co) := (blk_cell hb 0).trans rfl
    have hf0 := blk_frozen hb 0
    have hw0 : IntKind.i64.wrap ((N : Int) - 1) = (N : Int) - 1 := IntWalk.i64_in _ (by omega)
    have hw1 : IntKind.i64.wrap ((M : Int) - (args.length : Int)) = (M : Int) - (args.length : Int) := IntWalk.i64_in _ (by omega)
    obtain ⟨i70, hi70, _, hs70, _⟩ := info_parts info70
    obtain ⟨i23, hi23, _, hs23, _⟩ := info_parts info23
    have hcutO := cut_to (P := Try.prog) 24 70 .i64 Try.underlying24 hi70 Ao N co ((N : Int) - 1) (by omega) (by omega) hco
    have hcutV := cut_to (P := Try.prog) 25 23 .i64 Try.underlying25 hi23 Av M cv ((M : Int) - (args.length : Int)) (by omega) (by omega) hcv
    rw [show ((N : Int) - 1).toNat = m.ops.length by omega] at hcutO
    rw [show ((M : Int) - (args.length : Int)).toNat = m.vals.length by omega] at hcutV
    have HO := Aside0.mk hO
    have HV := Aside0.mk hV
    have HH := Aside0.mk hH
    have HBK := Aside0.mk hb
    have HL := Aside0.mk (show N = m.ops.length + 1 ∧ M = m.vals.length + args.length from ⟨hN1, hM1⟩)
    clear hO hV hH hg hb hN1 hM1 hN hM hCo hCv hco hcv HM5
    go_region
    have HBK1 := Aside0.mk (show _ = _ from (by simpa using blk_set HBK.out 0 (.slice Ao m.ops.length co) : (w5.setCell ⟨g, 0, none⟩ (.slice Ao m.ops.length co)).heap[g]? = some (.cells #[.slice Ao m.ops.length co, .slice Av M cv, .int .i64 (wrap64 (m.st + 1)), vh5, .slice Ar rules.length cr, .nilIface, .int .i64 (m.fu - 1)] 94 (0, 0))) : (w5.setCell ⟨g, 0, none⟩ (.slice Ao m.ops.length co)).drew.heap[g]? = some (.cells #[.slice Ao m.ops.length co, .slice Av M cv, .int .i64 (wrap64 (m.st + 1)), vh5, .slice Ar rules.length cr, .nilIface, .int .i64 (m.fu - 1)] 94 (0, 0)))
    have HO1 := Aside0.mk (Kd.R_drew (Kd.R_set (show Kd.R k70 70 w5 B (fun _ => True) (.slice Ao m.ops.length co) m.ops from by have := Kd.R_take (m := m.ops.length) HO.out (by simp); rwa [List.take_left] at this) HBK.out (by decide) 0 (.slice Ao m.ops.length co)))
    have HV1 := Aside0.mk (Kd.R_drew (Kd.R_set (show Kd.R (Kd.slice 54 k54) 23 w5 B (fun _ => True) (.slice Av m.vals.length cv) m.vals from by have := Kd.R_take (m := m.vals.length) HV.out (by simp); rwa [List.take_left] at this) HBK.out (by decide) 0 (.slice Ao m.ops.length co)))
    have HH1 := Aside0.mk (Kd.R_drew (Kd.R_set HH.out HBK.out (by decide) 0 (.slice Ao m.ops.length co)))
    have HK5 := Aside0.mk (show Kept w5 (w5.setCell ⟨g, 0, none⟩ (.slice Ao m.ops.length co)).drew (fun q => q = g ∨ vh.ownBlock = some q) from Kept.setCell (Kept.refl _ _) (p := ⟨g, 0, none⟩) (.inl (.inl rfl)) _)
    have HBX6 := Aside0.mk (blk_kept HBX5.out HK5.out (HNS.out _ (Nat.le_refl _)))
    have HR6 := Aside0.mk (blk_kept HR5.out HK5.out (HNS.out _ HS2.out))
    have HCL6 := Aside0.mk (blk_kept HCL5.out HK5.out (HNS.out _ (Nat.le_succ_of_le HS2.out)))
    have HBD6 := Aside0.mk (Kd.R_kept HBD5.out HK5.out HNS.out)
    have HB6 := Aside0.mk (below_drew1 (HB5.out.setCell (p := ⟨g, 0, none⟩) HG.out (.slice Ao m.ops.length co)))
    clear HK5 HBX5 HR5 HCL5 HBD5 hc0 hf0
    generalize (w5.setCell ⟨g, 0, none⟩ (.slice Ao m.ops.length co)).drew = w6 at HBK1 HO1 HV1 HH1 HBX6 HR6 HCL6 HBD6 HB6 ⊢
    have hc1 : w6.cell? ⟨g, 1, none⟩ = some (.slice Av M cv) := (blk_cell HBK1.out 1).trans rfl
    have hf1 := blk_frozen HBK1.out 1
    have q1 : w6.cell? ⟨w.heap.size, 1, none⟩ = some (.int .i64 args.length) := (blk_cell HBX6.out 1).trans rfl
    go_upto_region 21 with fail
    go_region
    have HBK2 := Aside0.mk (show _ = _ from (by simpa using blk_set HBK1.out 1 (.slice Av m.vals.length cv) : (w6.setCell ⟨g, 1, none⟩ (.slice Av m.vals.length cv)).heap[g]? = some (.cells #[.slice Ao m.ops.length co, .slice Av m.vals.length cv, .int .i64 (wrap64 (m.st + 1)), vh5, .slice Ar rules.length cr, .nilIface, .int .i64 (m.fu - 1)] 94 (0, 0))) : (w6.setCell ⟨g, 1, none⟩ (.slice Av m.vals.length cv)).drew.heap[g]? = some (.cells #[.slice Ao m.ops.length co, .slice Av m.vals.length cv, .int .i64 (wrap64 (m.st + 1)), vh5, .slice Ar rules.length cr, .nilIface, .int .i64 (m.fu - 1)] 94 (0, 0)))
    have HO2 := Aside0.mk (Kd.R_drew (Kd.R_set HO1.out HBK1.out (by decide) 1 (.slice Av m.vals.length cv)))
    have HV2 := Aside0.mk (Kd.R_drew (Kd.R_set HV1.out HBK1.out (by decide) 1 (.slice Av m.vals.length cv)))
    have HH2 := Aside0.mk (Kd.R_drew (Kd.R_set HH1.out HBK1.out (by decide) 1 (.slice Av m.vals.length cv)))
    have HK6 := Aside0.mk (show Kept w6 (w6.setCell ⟨g, 1, none⟩ (.slice Av m.vals.length cv)).drew (fun q => q = g ∨ vh.ownBlock = some q) from Kept.setCell (Kept.refl _ _) (p := ⟨g, 1, none⟩) (.inl (.inl rfl)) _)
    have HR7 := Aside0.mk (blk_kept HR6.out HK6.out (HNS.out _ HS2.out))
    have HCL7 := Aside0.mk (blk_kept HCL6.out HK6.out (HNS.out _ (Nat.le_succ_of_le HS2.out)))
    have HBD7 := Aside0.mk (Kd.R_kept HBD6.out HK6.out HNS.out)
    have HB7 := Aside0.mk (below_drew1 (HB6.out.setCell (p := ⟨g, 1, none⟩) HG.out (.slice Av m.vals.length cv)))
    clear HK6 HBX6 HR6 HCL6 HBD6 hc1 hf1 q1 HBK HBK1 HO1 HV1 HH1 HO HV HH
    generalize (w6.setCell ⟨g, 1, none⟩ (.slice Av m.vals.length cv)).drew = w7 at HBK2 HO2 HV2 HH2 HR7 HCL7 HBD7 HB7 ⊢
    have hr2 : w7.cell? ⟨w2.heap.size, 2, none⟩ = some (.slice A2 rb.1.f2.length c2) := (blk_cell HR7.out 2).trans rfl
    have hm0 : w7.cell? ⟨g, 0, none⟩ = some (.slice Ao m.ops.length co) := (blk_cell HBK2.out 0).trans rfl
    have HLR := Aside0.mk (And.intro HL2.out (below_trB HW.out.2 (below_less HB7.out HW.out.1)))
    obtain ⟨_, _, HBDC⟩ := Kd.R_reads' HBD7.out
    have HM1' := fun (s : ByteArray) (W : World) (hW : Below w7.drew.heap.size w7.drew W) => mk1_calls (p := w2.heap.size + 1) (cb := cb) (blk_below (w := w7.drew) HCL7.out hW) (Kd.C_below (w := w7.drew) HBDC hW) HGO.out.2 s
    have O1 := ops_calls1 (w := w7.drew) (A := A2) (c := c2) (pb := w2.heap.size + 1) (Kd.C_drew (Kd.C_below HC2.out HLR.out.2)) HLR.out.1 HM1' HTD.out
    have HO1 := Aside0.mk O1
    have HLT := Aside0.mk (show B ≤ w7.heap.size from Nat.le_trans HG.out (Nat.le_of_lt (blk_lt HBK2.out)))
    have hof : (td.1.reverse).length = td.1.length := List.length_reverse
    have HOF := Aside0.mk hof
    obtain ⟨ro, hro⟩ : ∃ ro, ro = td.1.reverse := ⟨_, rfl⟩
    rw [← hro] at HO1 HOF O1 hof
    have HRO := Aside0.mk hro
    clear hro
    have AFT := Aside0.mk (show ∀ (w8 w9 : World), Below w7.drew.heap.size w7.drew w8 → w8.grownBy w9 (Value.slice Ao m.ops.length co).ownBlock → w9.heap[g]? = some (.cells #[.slice Ao m.ops.length co, .slice Av m.vals.length cv, .int .i64 (wrap64 (m.st + 1)), vh5, .slice Ar rules.length cr, .nilIface, .int .i64 (m.fu - 1)] 94 (0, 0)) ∧ Kd.R (Kd.slice 54 k54) 23 w9 B (fun _ => True) (.slice Av m.vals.length cv) m.vals ∧ Kd.R Kd.string 9 w9 B (fun _ => True) vh5 hd2 from fun w8 w9 hb8 hgr =>
     ⟨blk_grown (w := w8) (blk_below (w := w7.drew) HBK2.out hb8) hgr (Kd.R_ne HO2.out HBK2.out (by decide)), Kd.R_over (Kd.R_below (Kd.R_drew HV2.out) hb8) (Kd.R_below (Kd.R_drew HO2.out) hb8) (by decide) hgr, Kd.R_over (Kd.R_below (Kd.R_drew HH2.out) hb8) (Kd.R_below (Kd.R_drew HO2.out) hb8) (by decide) hgr⟩)
    have HPK := Aside0.mk (show ∀ k, w7.drew.heap.size ≤ k → True ∧ some k ≠ (Value.slice Ao m.ops.length co).ownBlock from fun k hk => ⟨trivial, fun he => by have h1 := Kd.R_lt HO2.out _ he.symm; have h2 : w7.heap.size ≤ k := hk; omega⟩)
    have HLM := Aside0.mk (show (m.ops.length + ro.length) * 56 ≤ 140737488355328 by have := HLEN.out; omega)
    clear hof O1 HM1' HBDC
    go_upto_region 22 with fail
    go_region_law (first | (refine goes_ Try.func32 (by kernel_rfl) rfl #[.slice A2 rb.1.f2.length c2, .func (.func 75) #[] #[.pointer (some ⟨w2.heap.size + 1, 0, none⟩)]] (by rfl) rfl rfl (by (try simp only [List.map_toArray, List.map_cons, List.map_nil]); first | done | rfl) ?_; refine HO1.out.mono ?_; rintro e w8 ⟨v8, rfl, hR8, hb8⟩; refine ⟨_, rfl, ?_⟩; obtain ⟨A8, c8, rfl, hRR8⟩ := rows_parts hR8 (show B ≤ w7.drew.heap.size from HLT.out); have FR8 := Aside0.mk hRR8; have HB8 := Aside0.mk hb8; have FO8 := Aside0.mk (Kd.R_below (w := w7.drew) (Kd.R_drew HO2.out) hb8); have FB8 := Aside0.mk (below_trB (below_drew1 HB7.out) (below_less hb8 (show B ≤ w7.drew.heap.size from HLT.out))); have FS8 := Aside0.mk (Nat.le_trans HLT.out hb8.size); have hm8 := (blk_cell (blk_below (w := w7.drew) HBK2.out hb8) 0).trans rfl; clear hR8 hb8 hRR8) | (refine Kd.R_append_rows_step (W := w8) k70 (w0 := w) B rfl (.tmp 133) (.tmp 137) 24 70 (.agg #[(.int .i64 0), (.string ⟨#[]⟩), (.int .i64 0), (.slice none 0 0)]) 56 rfl Try.underlying24 info70 rfl (by decide) (by decide) (.slice Ao m.ops.length co) m.ops ro A8 ro.length c8 (fun _ => True) (fun k => w7.drew.heap.size ≤ k) rfl rfl FO8.out FR8.out (fun _ _ hx => Kd.M_drop hx) HPK.out (fun _ _ => trivial) FB8.out FS8.out HLM.out ?_; intro v9 w9 ho hb hgr hat; obtain ⟨A9, c9, rfl⟩ := Kd.R_slice ho; have HA := Aside0.mk (AFT.out w8 w9 HB8.out hgr); have HO9 := Aside0.mk ho; have HB9 := Aside0.mk hb; have hf9 := blk_frozen HA.out.1 0; have hc9 := (blk_cell HA.out.1 0).trans rfl; clear ho hb hgr hat))
    all_goals
     go_wp2
     go_ret
     have hO9 : Kd.R k70 70 w9 B (fun _ => True) (.slice A9 (m.ops.length + ro.length) c9) (m.ops ++ td.1.reverse) := by have h := HO9.out; rw [List.length_append] at h; rw [← HRO.out]; exact h
     have hS9 : (w9.setCell ⟨g, 0, none⟩ (.slice A9 (m.ops.length + ro.length) c9)).heap[g]? = some (.cells #[.slice A9 (m.ops.length + ro.length) c9, .slice Av m.vals.length cv, .int .i64 (wrap64 (m.st + 1)), vh5, .slice Ar rules.length cr, .nilIface, .int .i64 (m.fu - 1)] 94 (0, 0)) := by simpa using blk_set HA.out.1 0 (.slice A9 (m.ops.length + ro.length) c9)
     exact ⟨rfl, ⟨_, _, _, hS9, HG.out, Kd.R_set hO9 HA.out.1 (by decide) 0 _, Kd.R_set HA.out.2.1 HA.out.1 (by decide) 0 _, Kd.R_set HA.out.2.2 HA.out.1 (by decide) 0 _⟩, HB9.out.setCell (p := ⟨g, 0, none⟩) HG.out _⟩

-- ==== Rw12
def idxF (k : Nat) : List (List S54) → Int → Option Int
 | [], _ => some (-1)
 | v :: u, i => (rewrite_ground.f k v).bind fun b => if b = true then idxF k u (i + 1) else some i
theorem chk1_calls {k c : Nat} {A : Option Addr} {v : List S54} {b : Bool} {w : World} (hr : Kd.C k54 w A v.length v) (hc : v.length ≤ c) (h : rewrite_ground.f k v = some b) :
 Calls Try.prog 42 #[.slice A v.length c] w fun e w' => e = .returned (.bool (!b)) ∧ Below w.heap.size w w' := by
 have G1 := fun (W : World) (hW : Below w.heap.size w W) => rewrite_ground.calls k A c v b W (Kd.C_below hr hW) hc h
 have HBW := Aside0.mk (Below.refl w.heap.size w)
 clear hr h
 go_enter Try.func42, Try.ntmps42
 go_wp2_with (go_at_call 31; (with_reducible refine (G1 _ ?side1).mono ?_); (case side1 => exact (zq HBW.out)); rintro e w2 ⟨rfl, hb⟩; have HB2 := Aside0.mk (below_step (zq HBW.out) hb); clear hb)
 go_ret
 exact ⟨rfl, HB2.out⟩
theorem idx_calls {k cv : Nat} {w : World} {Av : Option Addr} {vals : List (List S54)} {r : Int} (hv : Kd.C (Kd.slice 54 k54) w Av vals.length vals) (hf : idxF k vals 0 = some r) :
 Calls Try.prog 67 #[.slice Av vals.length cv, .func (.func 42) #[] #[]] w fun e w' => e = .returned (.int .i64 r) ∧ Below w.heap.size w w' := by
 have HC := Aside0.mk hv
 have HF := Aside0.mk hf
 have HM := Aside0.mk (show (vals.length : Int) ≤ 9223372036854775807 by have := hv.2.1; omega)
 have HB := Aside0.mk (Below.refl w.heap.size w)
 clear hv hf
 go_enter Try.func67, Try.ntmps67
 go_wp2
 go_loopg [8] vals.length (fun kq v8 w' => ∃ x : Int, v8 = .int .i64 x ∧ Aside0 (0 ≤ x ∧ x + kq = (vals.length : Int)) ∧ Aside0 (idxF k (vals.drop x.toNat) x = some r) ∧ Aside0 (Below w.heap.size w w'))
 case atStart => exact ⟨0, rfl, ⟨by omega⟩, HF, HB⟩
 case round =>
  clear HF HB
  obtain ⟨x, rfl, HX, HF, HB⟩ := hrel
  cases gk with
  | succ k1 =>
   have hi : 0 ≤ x ∧ x < (vals.length : Int) := by have := HX.out; omega
   obtain ⟨ad, A0, c0, rfl, hx0, hl0, hc0⟩ := at_L3 (Kd.C_below HC.out HB.out) x hi.1 hi.2
   have hdr : vals.drop x.toNat = rd_L3 vals x :: vals.drop (x.toNat + 1) := by
    rw [List.drop_eq_getElem_cons (show x.toNat < vals.length by omega)]
    congr 1
    simp [rd_L3, List.getD_eq_getElem?_getD, show x.toNat < vals.length by omega]
   have hf := HF.out
   rw [hdr, idxF] at hf
   generalize rd_L3 vals x = v at hx0 hl0 hc0 hf
   obtain ⟨b, hg, hf⟩ := Option.bind_eq_some_iff.mp hf
   have HXI := Aside0.mk hi
   have hb0 : decide (x < (vals.length : Int)) = true := decide_eq_true hi.2
   have hpp := eq_true hi.1
   have hqq := eq_true hi.2
   have G1 := fun (W : World) (hW : Below wr.heap.size wr W) => chk1_calls (c := c0) (Kd.C_below hc0 hW) hl0 hg
   have HBW := Aside0.mk (Below.refl wr.heap.size wr)
   have HF1 := Aside0.mk hf
   clear hdr hc0 hl0 hg hi hf HF
   cases b with
   | true =>
    have hf := HF1.out
    rw [if_pos rfl] at hf
    have HF2 := Aside0.mk hf
    clear hf HF1
    go_wp2_with (go_at_call 42; (with_reducible refine (G1 _ ?side1).mono ?_); (case side1 => exact (zq HBW.out)); rintro e w2 ⟨rfl, hb⟩; have HB2 := Aside0.mk (below_step (zq HBW.out) hb); clear hb)
    go_roundg k1
    case measure => have := HX.out; omega
    case rel => exact ⟨x + 1, by have e_ : wrap64 (x + 1) = x + 1 := (by have := HXI.out; have := HM.out; unfold wrap64; omega); first | rfl | rw [e_] | (simp [e_]; done), ⟨by have := HX.out; omega⟩, ⟨by rw [show (x + 1).toNat = x.toNat + 1 by have := HXI.out; omega]; exact HF2.out⟩, ⟨below_step HB.out HB2.out⟩⟩
   | false =>
    have hf := HF1.out
    rw [if_neg (by decide)] at hf
    obtain rfl := Option.some.inj hf
    clear hf HF1
    go_wp2_with (go_at_call 42; (with_reducible refine (G1 _ ?side2).mono ?_); (case side2 => exact (zq HBW.out)); rintro e w2 ⟨rfl, hb⟩; have HB2 := Aside0.mk (below_step (zq HBW.out) hb); clear hb)
    go_ret
    exact ⟨rfl, below_step HB.out HB2.out⟩
  | zero =>
   have hb0 : decide (x < (vals.length : Int)) = false := decide_eq_false (by have := HX.out; omega)
   have hf := HF.out
   rw [List.drop_eq_nil_of_le (by have := HX.out; omega), idxF] at hf
   obtain rfl := Option.some.inj hf
   clear hf HF
   go_wp2
   go_ret
   exact ⟨rfl, HB.out⟩
theorem cont_calls {k cv : Nat} {w : World} {Av : Option Addr} {vals : List (List S54)} {r : Int} (hv : Kd.C (Kd.slice 54 k54) w Av vals.length vals) (hf : idxF k vals 0 = some r) :
 Calls Try.prog 41 #[.slice Av vals.length cv, .func (.func 42) #[] #[]] w fun e w' => e = .returned (.bool (decide (0 ≤ r))) ∧ Below w.heap.size w w' := by
 have G1 := fun (W : World) (hW : Below w.heap.size w W) => idx_calls (cv := cv) (Kd.C_below hv hW) hf
 have HBW := Aside0.mk (Below.refl w.heap.size w)
 clear hv hf
 go_enter Try.func41, Try.ntmps41
 go_wp2_with (go_at_call 67; (with_reducible refine (G1 _ ?side1).mono ?_); (case side1 => exact (zq HBW.out)); rintro e w2 ⟨rfl, hb⟩; have HB2 := Aside0.mk (below_step (zq HBW.out) hb); clear hb)
 go_ret
 exact ⟨rfl, HB2.out⟩
end Go.Proofs.Ytdlkhpfgkghhmaa.P

-- ==== Rw13
namespace Go.Proofs.Ytdlkhpfgkghhmaa.P
open Go.RowKit Go.Proofs.YtdlkhpfgkghhmaaW.PrintWords Go.Proofs.YtdlkhpfgkghhmaaW.PrintLast Go.Proofs.YtdlkhpfgkghhmaaW.PrintMore
attribute [local go_sem] Oper.semAt_some
def opV (fA : Nat → Option Addr) (fc : Nat → Nat) (ops : List S70) (x : Nat) : Value := .agg #[.int .i64 (rd_T70 ops x).f0, .string (rd_T70 ops x).f1.f0, .int .i64 (rd_T70 ops x).f1.f1, .slice (fA x) (rd_T70 ops x).f2.length (fc x)]
def OpsAt (w : World) (n₀ : Nat) (A : Option Addr) (fA : Nat → Option Addr) (fc : Nat → Nat) (ops : List S70) : Prop :=
 ∀ x : Nat, x < ops.length → ∃ ad, A = some ad ∧ (ad.add (x * 4)).block < n₀ ∧ w.cell? (ad.add (x * 4)) = some (.int .i64 (rd_T70 ops x).f0) ∧ w.cell? ⟨(ad.add (x * 4)).block, (ad.add (x * 4)).off + 1, none⟩ = some (.string (rd_T70 ops x).f1.f0) ∧ w.cell? ⟨(ad.add (x * 4)).block, (ad.add (x * 4)).off + 2, none⟩ = some (.int .i64 (rd_T70 ops x).f1.f1) ∧ w.cell? ⟨(ad.add (x * 4)).block, (ad.add (x * 4)).off + 3, none⟩ = some (.slice (fA x) (rd_T70 ops x).f2.length (fc x))
theorem opsAt_of {w : World} {A : Option Addr} {ops : List S70} (h : Kd.C k70 w A ops.length ops) : ∃ fA fc, OpsAt w w.heap.size A fA fc ops ∧ ∀ x : Nat, x < ops.length → (rd_T70 ops x).f2.length ≤ fc x ∧ Kd.C k54 w (fA x) (rd_T70 ops x).f2.length (rd_T70 ops x).f2 := by
 have hx : ∀ x : Nat, ∃ p : Option Addr × Nat, x < ops.length → (∃ ad, A = some ad ∧ (ad.add (x * 4)).block < w.heap.size ∧ w.cell? (ad.add (x * 4)) = some (.int .i64 (rd_T70 ops x).f0) ∧ w.cell? ⟨(ad.add (x * 4)).block, (ad.add (x * 4)).off + 1, none⟩ = some (.string (rd_T70 ops x).f1.f0) ∧ w.cell? ⟨(ad.add (x * 4)).block, (ad.add (x * 4)).off + 2, none⟩ = some (.int .i64 (rd_T70 ops x).f1.f1) ∧ w.cell? ⟨(ad.add (x * 4)).block, (ad.add (x * 4)).off + 3, none⟩ = some (.slice p.1 (rd_T70 ops x).f2.length p.2)) ∧ (rd_T70 ops x).f2.length ≤ p.2 ∧ Kd.C k54 w p.1 (rd_T70 ops x).f2.length (rd_T70 ops x).f2 := by
  intro x
  by_cases hl : x < ops.length
  ·
   obtain ⟨ad, A3, c3, e, h0, h1, h2, h3, h4, h5⟩ := at_T70 h (x : Int) (by omega) (by omega)
   rw [show ((x : Int)).toNat = x from rfl] at h0 h1 h2 h3
   exact ⟨(A3, c3), fun _ => ⟨⟨ad, e, World.block_lt_of_cell? w _ h0, h0, h1, h2, h3⟩, h4, h5⟩⟩
  ·
   exact ⟨(none, 0), fun h => absurd h hl⟩
 obtain ⟨f, hf⟩ := Classical.axiomOfChoice hx
 exact ⟨fun x => (f x).1, fun x => (f x).2, fun x hl => (hf x hl).1, fun x hl => (hf x hl).2⟩
def KpB (n₀ Bs : Nat) (W W' : World) : Prop := W.heap.size ≤ W'.heap.size ∧ ∀ q, q < n₀ ∨ q = Bs → q < W.heap.size → W'.heap[q]? = W.heap[q]?
theorem KpB.trans {n₀ Bs : Nat} {A B C : World} (h : KpB n₀ Bs A B) (k : KpB n₀ Bs B C) : KpB n₀ Bs A C := ⟨Nat.le_trans h.1 k.1, fun q hq hl => (k.2 q hq (Nat.lt_of_lt_of_le hl h.1)).trans (h.2 q hq hl)⟩
theorem cell_heap {w W : World} {a : Addr} (h : W.heap[a.block]? = w.heap[a.block]?) : W.cell? a = w.cell? a := by simp [World.cell?, h]
theorem opsAt_keep {w W : World} {n₀ Bs : Nat} {A : Option Addr} {fA : Nat → Option Addr} {fc : Nat → Nat} {ops : List S70} (h : OpsAt w n₀ A fA fc ops) (hk : KpB n₀ Bs w W) : OpsAt W n₀ A fA fc ops := by
 intro x hx
 obtain ⟨ad, e, hb, h0, h1, h2, h3⟩ := h x hx
 have hq := hk.2 _ (.inl hb) (World.block_lt_of_cell? w _ h0)
 exact ⟨ad, e, hb, (cell_heap hq).trans h0, (cell_heap (a := ⟨_, _, none⟩) hq).trans h1, (cell_heap (a := ⟨_, _, none⟩) hq).trans h2, (cell_heap (a := ⟨_, _, none⟩) hq).trans h3⟩
theorem back_in (F : Fence) (n : Nat) (h66 : F.fn 66) (hro : F.round = none) (hn : 1 ≤ n) (l Bs n₀ : Nat) (A : Option Addr) (c : Nat) (fA : Nat → Option Addr) (fc : Nat → Nat) (ops : List S70) (hlen : ops.length ≤ 9223372036854775807) (J Jx : List Nat → World → Prop)
 (W : World) (hO : OpsAt W n₀ A fA fc ops) (hc : W.cell? ⟨Bs, 0, none⟩ = some (.slice A ops.length c))
 (hY : ∀ (pre : List Nat) (x : Nat) (W1 : World), x < ops.length → J pre W1 → pre.length < ops.length → YieldAt F (n - 1) Try.prog l #[.int .i64 (x : Int), opV fA fc ops x] W1 fun e W' =>
  (e = .returned (.bool true) ∧ J (pre ++ [x]) W' ∧ KpB n₀ Bs W1 W') ∨ (e = .returned (.bool false) ∧ Jx (pre ++ [x]) W'))
 (h0 : J [] W) :
 CallsIn F n Try.prog 66 #[.func (.yield l) #[] #[], .pointer (some ⟨Bs, 0, none⟩)] W fun e W' => (∃ v, e = .returned v) ∧
  ((∃ ys, ys = (List.range ops.length).reverse ∧ J ys W') ∨ (∃ pre, (∃ q, pre ++ q = (List.range ops.length).reverse) ∧ Jx pre W')) := by
 have hw0 : IntKind.i64.wrap ((ops.length : Int) - 1) = (ops.length : Int) - 1 := IntWalk.i64_in _ (by omega)
 refine callsIn_of_wp Try.func66 rfl h66 ?_ hro
 simp only [Try.ntmps66, List.size_toArray, List.length_cons, List.length_nil, Nat.reduceAdd, Nat.reduceSub, Array.replicate_succ, Array.replicate_zero, List.push_toArray, List.append_toArray, List.nil_append, List.cons_append]
 gi_wp2
 gi_loopw [3] (fun p wr => ∃ (pre : List Nat) (m : Nat), p = .int .i64 ((m : Int) - 1) ∧ m ≤ ops.length ∧ pre.length + m = ops.length ∧ pre ++ (List.range m).reverse = (List.range ops.length).reverse ∧ J pre wr ∧ OpsAt wr n₀ A fA fc ops ∧ wr.cell? ⟨Bs, 0, none⟩ = some (.slice A ops.length c))
  (fun p _ => (intOf p + 1).toNat)
 case atStart =>
  exact ⟨[], ops.length, rfl, Nat.le_refl _, by simp, rfl, h0, hO, hc⟩
 case round =>
  obtain ⟨pre, m, rfl, hm, hpl, hpre, hJ, hOr, hcr⟩ := hrel
  cases m with
  | zero =>
   have hg : decide ((0 : Int) ≤ ((0 : Nat) : Int) - 1) = false := by decide
   gi_wp2
   go_end0
   refine ⟨⟨_, rfl⟩, .inl ⟨_, rfl, ?_⟩⟩
   rw [← hpre]
   simpa using hJ
  | succ m =>
   obtain ⟨fn, tmps, assign, body, hy, hR⟩ := hY pre m wr (by omega) hJ (by omega)
   obtain ⟨ad, rfl, hbl, hx0, hx1, hx2, hx3⟩ := hOr m (by omega)
   have HM := Aside0.mk hm
   have HPL := Aside0.mk hpl
   have HPR := Aside0.mk hpre
   have HOr := Aside0.mk hOr
   have e1 : (((m + 1 : Nat) : Int) - 1) = (m : Int) := by omega
   have hg : decide ((0 : Int) ≤ (m : Int)) = true := decide_eq_true (by omega)
   have hqq : ((m : Int) < (ops.length : Int)) = True := eq_true (by omega)
   have hpp : ((0 : Int) ≤ (m : Int)) = True := eq_true (by omega)
   have hmm : ((m : Int)).toNat = m := rfl
   have hww : IntKind.i64.wrap ((m : Int) - 1) = (m : Int) - 1 := IntWalk.i64_in _ (by omega)
   rw [e1]
   unfold opV at hy
   clear hm hpl hpre hOr hY
   gi_wp2
   refine hR.mono ?_
   rintro e W3 (⟨rfl, hJ3, hk3⟩ | ⟨rfl, hJx3⟩)
   ·
    have hO3 := opsAt_keep HOr.out hk3
    have hc3 : W3.cell? ⟨Bs, 0, none⟩ = some (.slice (some ad) ops.length c) := (cell_heap (a := ⟨Bs, 0, none⟩) (hk3.2 Bs (.inr rfl) (World.block_lt_of_cell? wr _ hcr))).trans hcr
    have HO3 := Aside0.mk hO3
    clear hO3 hx0 hx1 hx2 hx3 hcr
    gi_wp2
    have hpl := HPL.out
    have hm := HM.out
    exact ⟨⟨pre ++ [m], m, rfl, by omega, by simp; omega, by have h := HPR.out; rw [List.range_succ, List.reverse_append] at h; rw [← h]; simp, hJ3, HO3.out, hc3⟩, by simp [intOf]⟩
   ·
    gi_wp2
    refine bodyPost_ret (results_none rfl _ _ _) rfl ?_
    exact ⟨⟨_, rfl⟩, .inr ⟨_, ⟨_, by have h := HPR.out; rw [List.range_succ, List.reverse_append] at h; rw [← h]; simp; rfl⟩, hJx3⟩⟩

-- ==== Rw14
theorem back_stops (F : Fence) (n : Nat) (h66 : F.fn 66) (hro : F.round = none) (hn : 1 ≤ n) (Bs n₀ : Nat) (A : Option Addr) (c : Nat) (fA : Nat → Option Addr) (fc : Nat → Nat) (ops : List S70) (hlen : ops.length ≤ 9223372036854775807) (w : World)
 (hO : OpsAt w n₀ A fA fc ops) (hn₀ : n₀ ≤ w.heap.size) (hc : w.cell? ⟨Bs, 0, none⟩ = some (.slice A ops.length c)) :
 SeqStopsK F n Try.prog 66 #[.pointer (some ⟨Bs, 0, none⟩)] (fun x : Fin ops.length => #[.int .i64 (x.val : Int), opV fA fc ops x.val]) (KpB n₀ Bs) (fun ys => ys.map Fin.val = (List.range ops.length).reverse) (fun pre => ∃ q, pre.map Fin.val ++ q = (List.range ops.length).reverse) ops.length w := by
 intro l J Jx W hW _ _ hY h0
 have hBs : Bs < w.heap.size := World.block_lt_of_cell? w _ hc
 refine (back_in F n h66 hro hn l Bs n₀ A c fA fc ops hlen (fun p W => ∃ pre, pre.map Fin.val = p ∧ J pre W) (fun p W => ∃ pre, pre.map Fin.val = p ∧ Jx pre W) W (opsAt_keep (Bs := Bs) hO ⟨hW.size, fun q hq hl => hW.block q hl⟩) ((cell_heap (a := ⟨Bs, 0, none⟩) (hW.block Bs hBs)).trans hc) ?_ ⟨[], rfl, h0⟩).mono ?_
 ·
  rintro p x W1 hx ⟨pre, rfl, hJ⟩ hlt
  have h := hY pre ⟨x, hx⟩ W1 hJ (by simpa using hlt)
  refine h.mono ?_
  rintro e W' (⟨he, h1, h2⟩ | ⟨he, h1⟩)
  ·
   exact .inl ⟨he, ⟨_, by simp, h1⟩, h2⟩
  ·
   exact .inr ⟨he, ⟨_, by simp, h1⟩⟩
 ·
  rintro e W' ⟨hv, ⟨ys, hys, pre, hp, hJ⟩ | ⟨p, hq, pre, rfl, hJ⟩⟩
  ·
   exact ⟨hv, .inl ⟨pre, hp.trans hys, hJ⟩⟩
  ·
   exact ⟨hv, .inr ⟨pre, hq, hJ⟩⟩
theorem mkback_in (F : Fence) (n : Nat) (h39 : F.fn 39) (hro : F.round = none) (A : Option Addr) (m c : Nat) (w : World) :
 CallsIn F n Try.prog 39 #[.slice A m c] w fun e W' => e = .returned (.func (.func 66) #[] #[.pointer (some ⟨w.heap.size, 0, none⟩)]) ∧ W' = w.alloc (.cells #[.slice A m c] 24) := by
 refine callsIn_of_wp Try.func39 rfl h39 ?_ hro
 simp only [Try.ntmps39, List.size_toArray, List.length_cons, List.length_nil, Nat.reduceAdd, Nat.reduceSub, Array.replicate_succ, Array.replicate_zero, List.push_toArray, List.append_toArray, List.nil_append, List.cons_append]
 gi_wp2
 go_ret
 exact ⟨rfl, rfl⟩
def arOf (ops : List S70) (x : Nat) : Int := (rd_T70 ops x).f1.f1
def chkB (ops : List S70) (bs : Nat → Bool) : List Nat → Int → Option Int
 | [], n => some n
 | x :: u, n => if bs x = true then (if arOf ops x > n then none else chkB ops bs u (wrap64 (n + wrap64 (1 - arOf ops x)))) else none
theorem chkB_append (ops : List S70) (bs : Nat → Bool) : ∀ (a b : List Nat) (n : Int), chkB ops bs (a ++ b) n = (chkB ops bs a n).bind fun m => chkB ops bs b m
 | [], b, n => rfl
 | x :: u, b, n => by
  simp only [List.cons_append, chkB]
  split
  ·
   split
   ·
    rfl
   ·
    exact chkB_append ops bs u b _
  ·
   rfl
def M3 (w : World) (stv : Array Value) (W : World) (nv e : Int) : Prop :=
 W.heap[w.heap.size]? = some (.cells stv 28 (0, 0)) ∧ W.heap[w.heap.size + 1]? = some (.cells #[.int .i64 e] 30 (0, 0)) ∧ W.heap[w.heap.size + 1 + 1]? = some (.cells #[.int .i64 nv] 3 (0, 0)) ∧ Below w.heap.size w W
theorem grown_same {W W' : World} {row : Option Nat} {B q : Nat} {o : Obj} (hg : W.grownBy W' row) (hr : ∀ r, row = some r → B ≤ r ∧ ∃ o : Obj, W.heap[r]? = some o ∧ o.isCells = false) (hq : q < B) (h : W.heap[q]? = some o) : W'.heap[q]? = some o :=
 (hg.block q (blk_lt h) (fun e => by have := (hr _ e.symm).1; omega)).trans h
theorem M3.grown {w W W' : World} {stv : Array Value} {nv e : Int} {row : Option Nat} {B : Nat} (h : M3 w stv W nv e) (hB : w.heap.size + 1 + 1 < B) (hg : W.grownBy W' row) (hr : ∀ r, row = some r → B ≤ r ∧ ∃ o : Obj, W.heap[r]? = some o ∧ o.isCells = false) : M3 w stv W' nv e :=
 ⟨grown_same hg hr (by omega) h.1, grown_same hg hr (by omega) h.2.1, grown_same hg hr (by omega) h.2.2.1, h.2.2.2.grown hg h.2.2.2.size (fun k e => by have := (hr k e).1; omega)⟩
theorem M3.below {w W W' : World} {stv : Array Value} {nv e : Int} (h : M3 w stv W nv e) (hb : Below W.heap.size W W') : M3 w stv W' nv e :=
 ⟨blk_below h.1 hb, blk_below h.2.1 hb, blk_below h.2.2.1 hb, below_step h.2.2.2 hb⟩
theorem M3.drewN {w W : World} {stv : Array Value} {nv e : Int} (h : M3 w stv W nv e) (n : Nat) : M3 w stv (W.drewN n) nv e := ⟨h.1, h.2.1, h.2.2.1, pw_below_drewN h.2.2.2 n⟩
theorem M3.setN {w W : World} {stv : Array Value} {nv e : Int} (h : M3 w stv W nv e) (n' : Int) : M3 w stv (W.setCell ⟨w.heap.size + 1 + 1, 0, none⟩ (.int .i64 n')) n' e :=
 ⟨(Below.heap_setCell W ⟨w.heap.size + 1 + 1, 0, none⟩ _ _ (by simp; omega)).trans h.1, (Below.heap_setCell W ⟨w.heap.size + 1 + 1, 0, none⟩ _ _ (by simp)).trans h.2.1, by simpa using blk_set h.2.2.1 0 (.int .i64 n'), h.2.2.2.setCell (p := ⟨w.heap.size + 1 + 1, 0, none⟩) (by simp; omega) _⟩
theorem M3.setE {w W : World} {stv : Array Value} {nv e : Int} (h : M3 w stv W nv e) (e' : Int) : M3 w stv (W.setCell ⟨w.heap.size + 1, 0, none⟩ (.int .i64 e')) nv e' :=
 ⟨(Below.heap_setCell W ⟨w.heap.size + 1, 0, none⟩ _ _ (by simp)).trans h.1, by simpa using blk_set h.2.1 0 (.int .i64 e'), (Below.heap_setCell W ⟨w.heap.size + 1, 0, none⟩ _ _ (by simp)).trans h.2.2.1, h.2.2.2.setCell (p := ⟨w.heap.size + 1, 0, none⟩) (by simp) _⟩
def okH : Option ByteArray → ByteArray → Bool
 | none, _ => true
 | some q, h => Op.bytesLess q.toList h.toList
def hdsF (k : Nat) : Option ByteArray → List ByteArray → Option Int
 | _, [] => some 0
 | p, h :: u => (name_Kind.f k h).bind fun c => if c = 1 then (if okH p h = true then hdsF k (some h) u else some 3) else some 3
def postF (k : Nat) (vals : List (List S54)) (st : Int) (hd : List ByteArray) : Option Int → Option Int
 | none => some 3
 | some n => if n = 1 then (if st < 0 then some 3 else (idxF k vals 0).bind fun i => if 0 ≤ i then some 3 else hdsF k none hd) else some 3
theorem M3.ends {w W : World} {stv : Array Value} {nv e : Int} {D : Nat} (h : M3 w stv W nv e) (hK : W.heap[D]? = some (.deferred (some []))) (hD : w.heap.size + 1 + 1 < D) : M3 w stv (W.putObj D (.deferred none)) nv e :=
 h.grown hD (grownBy_putObj' _ D _) (fun r e => by cases e; exact ⟨Nat.le_refl _, _, hK, rfl⟩)
theorem kpB_below {n₀ Bs : Nat} {W W' : World} (h : Below W.heap.size W W') : KpB n₀ Bs W W' := ⟨h.size, fun q _ hl => h.block q hl⟩
theorem keepsFrom_below {B : Nat} {W W' : World} (h : Below W.heap.size W W') : KeepsFrom B W W' := ⟨h.size, fun k o _ hk _ => blk_below hk h⟩
theorem kpB_set {n₀ Bs b : Nat} {W : World} {v : Value} (h1 : n₀ ≤ b) (h2 : b ≠ Bs) : KpB n₀ Bs W (W.setCell ⟨b, 0, none⟩ v) := ⟨by simp [World.setCell], fun q hq _ => Below.heap_setCell W ⟨b, 0, none⟩ _ _ (by rcases hq with hq | rfl <;> simp <;> omega)⟩
theorem run_geS_f {a b : ByteArray} (h : Op.bytesLess a.toList b.toList = true) (W : World) : Sem.run Try.prog (binOp BinOp.geq 9 (.string a) (.string b)) W = Result.ok (Value.bool false) W := by
 simp [go_sem, binOp, Op.stringOp, h]
theorem run_geS_t {a b : ByteArray} (h : Op.bytesLess a.toList b.toList = false) (W : World) : Sem.run Try.prog (binOp BinOp.geq 9 (.string a) (.string b)) W = Result.ok (Value.bool true) W := by
 simp [go_sem, binOp, Op.stringOp, h]
theorem check_in {k co cv ch : Nat} {w : World} {Ao Av Ah : Option Addr} {ops : List S70} {vals : List (List S54)} {st : Int} {hd : List ByteArray} {bs : Nat → Bool}
 (hO : Kd.C k70 w Ao ops.length ops) (hV : Kd.C (Kd.slice 54 k54) w Av vals.length vals) (hH : Kd.C Kd.string w Ah hd.length hd)
 {r : Int} (hr : postF k vals st hd (chkB ops bs (List.range ops.length).reverse vals.length) = some r) (hm : ∀ x : Nat, x < ops.length → rewrite_may.f k (rd_T70 ops x).f0 (rd_T70 ops x).f1.f0 (rd_T70 ops x).f1.f1 (rd_T70 ops x).f2 = some (bs x)) :
 Calls Try.prog 16 #[.agg #[.slice Ao ops.length co, .slice Av vals.length cv, .int .i64 st, .slice Ah hd.length ch]] w fun e W' => e = .returned (.int .i64 r) ∧ Below w.heap.size w W' := by
 refine (callsIn_wide (n := 6)).1 ?_
 have h66 : Fence.wide.fn 66 := trivial
 have h39 : Fence.wide.fn 39 := trivial
 have h40 : Fence.wide.fn 40 := trivial
 have h41 : Fence.wide.fn 41 := trivial
 have h43 : Fence.wide.fn 43 := trivial
 obtain ⟨fA, fc, hOA, hOC⟩ := opsAt_of hO
 have B1 := fun (W : World) => mkback_in Fence.wide (6 - 1) h39 rfl Ao ops.length co W
 refine callsIn_of_wp_marks Try.func16 rfl trivial ?_ rfl
 simp only [Try.ntmps16, List.size_toArray, List.length_cons, List.length_nil, Nat.reduceAdd, Nat.reduceSub, Array.replicate_succ, Array.replicate_zero, List.push_toArray, List.append_toArray, List.nil_append, List.cons_append]
 gi_wp2_with (gi_at_call 39; refine (B1 _).mono ?_; rintro e w' ⟨rfl, rfl⟩)
 obtain ⟨stv, hstv⟩ : ∃ stv : Array Value, stv = #[.slice Ao ops.length co, .slice Av vals.length cv, .int .i64 st, .slice Ah hd.length ch] := ⟨_, rfl⟩
 have hM0 : M3 w stv ((((w.alloc (.cells #[.slice Ao ops.length co, .slice Av vals.length cv, .int .i64 st, .slice Ah hd.length ch] 28)).alloc (.cells #[.int .i64 0] 30)).alloc (.cells #[.int .i64 vals.length] 3)).alloc (.cells #[.slice Ao ops.length co] 24)) vals.length 0 := by
  refine M3.below ?_ (below_alloc (Below.refl _ _) _)
  rw [hstv]
  exact ⟨((below_alloc (below_alloc (Below.refl _ _) _) _).block _ (by simp)).trans (heap_alloc_new w _), ((below_alloc (Below.refl _ _) _).block _ (by simp)).trans (al2_1 w _ _), lit_new _ _ _ _, below_alloc (below_alloc (below_alloc (Below.refl _ _) _) _) _⟩
 have hbs : ((((w.alloc (.cells #[.slice Ao ops.length co, .slice Av vals.length cv, .int .i64 st, .slice Ah hd.length ch] 28)).alloc (.cells #[.int .i64 0] 30)).alloc (.cells #[.int .i64 vals.length] 3)).alloc (.cells #[.slice Ao ops.length co] 24)).cell? ⟨w.heap.size + 1 + 1 + 1, 0, none⟩ = some (.slice Ao ops.length co) := by
  have h := lit_new (w.alloc (.cells #[.slice Ao ops.length co, .slice Av vals.length cv, .int .i64 st, .slice Ah hd.length ch] 28)) (.cells #[.int .i64 0] 30) (.cells #[.int .i64 vals.length] 3) (.cells #[.slice Ao ops.length co] 24)
  rw [show (w.alloc (.cells #[.slice Ao ops.length co, .slice Av vals.length cv, .int .i64 st, .slice Ah hd.length ch] 28)).heap.size = w.heap.size + 1 by simp] at h
  exact (blk_cell h 0).trans rfl
 have hsz : ((((w.alloc (.cells #[.slice Ao ops.length co, .slice Av vals.length cv, .int .i64 st, .slice Ah hd.length ch] 28)).alloc (.cells #[.int .i64 0] 30)).alloc (.cells #[.int .i64 vals.length] 3)).alloc (.cells #[.slice Ao ops.length co] 24)).heap.size = w.heap.size + 4 := by simp
 generalize ((((w.alloc (.cells #[.slice Ao ops.length co, .slice Av vals.length cv, .int .i64 st, .slice Ah hd.length ch] 28)).alloc (.cells #[.int .i64 0] 30)).alloc (.cells #[.int .i64 vals.length] 3)).alloc (.cells #[.slice Ao ops.length co] 24)) = W0 at hM0 hbs hsz ⊢
 have hOA0 : OpsAt W0 w.heap.size Ao fA fc ops := opsAt_keep (Bs := w.heap.size) hOA ⟨by omega, fun q _ hl => hM0.2.2.2.block q hl⟩
 refine wpIn_rangeFunc_ownH rfl (by omega) (gf := 66) (lb := #[.pointer (some ⟨w.heap.size + 1 + 1 + 1, 0, none⟩)]) rfl h66 (enters_of Try.func66 (by kernel_rfl) rfl)
  (back_stops Fence.wide (6 - 1) h66 rfl (by omega) (w.heap.size + 1 + 1 + 1) w.heap.size Ao co fA fc ops hO.2.1 W0 hOA0 (by omega) hbs) KpB.trans ?kb (Below.refl _ _) (fun _ => rfl)
  (fun pre W => ∃ nv, chkB ops bs (pre.map Fin.val) vals.length = some nv ∧ M3 w stv W nv 0)
  (fun c pre W => c = .ret ∧ chkB ops bs (pre.map Fin.val) vals.length = none ∧ ∃ nv, M3 w stv W nv 3)
  (fun pre W W' row ⟨nv, h1, h2⟩ hg hr => ⟨nv, h1, h2.grown (by omega) hg hr⟩)
  (fun c pre W W' row ⟨h0, h1, nv, h2⟩ hg hr => ⟨h0, h1, nv, h2.grown (by omega) hg hr⟩)
  ⟨_, rfl, hM0⟩
  (fun x a' W => ∃ Bx, w.heap.size + 1 + 1 < Bx ∧ W.heap[Bx]? = some (.cells #[.int .i64 (rd_T70 ops x.val).f0, .string (rd_T70 ops x.val).f1.f0, .int .i64 (rd_T70 ops x.val).f1.f1, .slice (fA x.val) (rd_T70 ops x.val).f2.length (fc x.val)] 70 (0, 0)) ∧ a' = { tmps := #[.agg #[.slice Ao ops.length co, .slice Av vals.length cv, .int .i64 st, .slice Ah hd.length ch], .pointer (some ⟨w.heap.size, 0, none⟩), .pointer (some ⟨w.heap.size + 1, 0, none⟩), .pointer (some ⟨w.heap.size + 1 + 1, 0, none⟩), undef, .pointer (some ⟨Bx, 0, none⟩), undef, undef, .pointer (some ⟨w.heap.size, 1, none⟩), .slice Av vals.length cv, .int .i64 vals.length, .pointer (some ⟨w.heap.size, 0, none⟩), .slice Ao ops.length co, .func (.func 66) #[] #[.pointer (some ⟨w.heap.size + 1 + 1 + 1, 0, none⟩)], .int .i64 x.val, opV fA fc ops x.val, undef, undef, undef, undef, undef, undef, undef, undef, undef, undef, undef, undef, undef, undef, undef, undef, undef, undef, undef, undef, undef, undef, undef, undef, undef, undef, undef, undef, undef, undef, undef, undef, undef, undef, undef, undef, undef, undef, undef, undef, undef, undef, undef, undef, undef, undef, undef, undef, undef, undef, undef, undef, undef, undef], defers := [] })
  ?ax ?assign ?body ?done ?stop
 case kb =>
  intro W l o o' hl _ _ _
  have hg := grownBy_putObj' W l o'
  exact ⟨hg.size, fun q hq hlt => hg.block q hlt (fun e => by have := Option.some.inj e; omega)⟩
 case ax =>
  rintro x a' _ X Y row ⟨Bx, e1, e2, e3⟩ hg hr
  refine ⟨Bx, e1, (hg.block Bx (blk_lt e2) (fun e => ?_)).trans e2, e3⟩
  obtain ⟨_, o, ho, hn⟩ := hr Bx e.symm
  rw [e2] at ho
  obtain rfl := Option.some.inj ho
  simp [Obj.isCells] at hn
 case assign =>
  rintro l pre x W K ⟨nv, h1, h2⟩ hK
  unfold opV
  gi_wp2
  exact hK _ _ ((KeepsOthers.alloc _ _).from _) (kpB_below (below_alloc (Below.refl _ _) _)) ⟨nv, h1, h2.below (below_alloc (Below.refl _ _) _)⟩ ⟨W.heap.size, blk_lt h2.2.2.1, heap_alloc_new _ _, rfl⟩
 case body =>
  rintro l pre x a' W hl ⟨r, hr⟩ ⟨nv, h1, h2⟩ ⟨Bx, hBx, bX, rfl⟩ hlt
  unfold opV
  have hx := x.isLt
  have HM := Aside0.mk (hm x.val hx)
  have HOC := Aside0.mk (hOC x.val hx)
  have HM3 := Aside0.mk h2
  have M1 := fun (W' : World) (hW' : Below W.heap.size W W') => rewrite_may.calls k (rd_T70 ops x.val).f0 (rd_T70 ops x.val).f1.f0 (rd_T70 ops x.val).f1.f1 (fA x.val) (fc x.val) (rd_T70 ops x.val).f2 (bs x.val) W' (Kd.C_below HOC.out.2 (below_step HM3.out.2.2.2 hW')) HOC.out.1 HM.out
  obtain ⟨q0, q1, q2, q3⟩ := zc4 bX
  have HBX := Aside0.mk bX
  have HC := Aside0.mk h1
  have HSZ := Aside0.mk (And.intro hsz hBx)
  have hstep : ∀ r, (if bs x.val = true then (if arOf ops x.val > nv then none else some (wrap64 (nv + wrap64 (1 - arOf ops x.val)))) else none) = r → chkB ops bs ((pre ++ [x]).map Fin.val) vals.length = r := by
   rintro r rfl
   rw [List.map_append, chkB_append, HC.out]
   rfl
  have HST := Aside0.mk hstep
  obtain ⟨b, hb⟩ : ∃ b, b = bs x.val := ⟨_, rfl⟩
  rw [← hb] at M1 hstep
  have HBB := Aside0.mk hb
  clear hb hstep hm hOC h1 h2 bX hO hV hH hOA hOA0 hM0 hbs hsz B1 hBx
  cases b with
  | false =>
   gi_wp2_with (gi_at_call 40; refine (CallsIn.inRound l (callsIn_wide.2 (M1 _ (Below.refl _ _)))).mono ?_; rintro e w' ⟨rfl, hb⟩; have HB' := Aside0.mk hb; have HM3' := Aside0.mk (HM3.out.below hb); have f1 := blk_frozen HM3'.out.2.1 0; have c1 := (blk_cell HM3'.out.2.1 0).trans rfl; clear hb)
   have h := HST.out _ (if_neg (by rw [← HBB.out]; decide))
   exact ⟨(keepsFrom_below HB'.out).trans ((KeepsOthers.setCell _ _ _).from _), rfl, h, nv, HM3'.out.setE 3⟩
  | true =>
   by_cases hn : arOf ops x.val > nv
   ·
    have hd1 : decide ((rd_T70 ops x.val).f1.f1 > nv) = true := decide_eq_true hn
    have hd2 : decide (nv < (rd_T70 ops x.val).f1.f1) = true := decide_eq_true hn
    have HN := Aside0.mk hn
    clear hn
    gi_wp2_with (gi_at_call 40; refine (CallsIn.inRound l (callsIn_wide.2 (M1 _ (Below.refl _ _)))).mono ?_; rintro e w' ⟨rfl, hb⟩; have HB' := Aside0.mk hb; have HM3' := Aside0.mk (HM3.out.below hb); have f1 := blk_frozen HM3'.out.2.1 0; have c1 := (blk_cell HM3'.out.2.1 0).trans rfl; have c2 := (blk_cell HM3'.out.2.2.1 0).trans rfl; have p2 := (blk_cell (blk_below HBX.out hb) 2).trans rfl; clear hb)
    have h := HST.out _ ((if_pos HBB.out.symm).trans (if_pos HN.out))
    exact ⟨(keepsFrom_below HB'.out).trans ((KeepsOthers.setCell _ _ _).from _), rfl, h, nv, HM3'.out.setE 3⟩
   ·
    have hd1 : decide ((rd_T70 ops x.val).f1.f1 > nv) = false := decide_eq_false hn
    have hd2 : decide (nv < (rd_T70 ops x.val).f1.f1) = false := decide_eq_false hn
    have HN := Aside0.mk hn
    clear hn
    gi_wp2_with (gi_at_call 40; refine (CallsIn.inRound l (callsIn_wide.2 (M1 _ (Below.refl _ _)))).mono ?_; rintro e w' ⟨rfl, hb⟩; have HB' := Aside0.mk hb; have HM3' := Aside0.mk (HM3.out.below hb); have f1 := blk_frozen HM3'.out.2.2.1 0; have c2 := (blk_cell HM3'.out.2.2.1 0).trans rfl; have p2 := (blk_cell (blk_below HBX.out hb) 2).trans rfl; clear hb)
    have h := HST.out _ ((if_pos HBB.out.symm).trans (if_neg (Int.not_lt.mpr HN.out)))
    exact ⟨(keepsFrom_below HB'.out).trans ((KeepsOthers.setCell _ _ _).from _), (kpB_below HB'.out).trans (kpB_set (by omega) (by omega)), _, h, HM3'.out.setN _⟩
 case done =>
  rintro D ys W hD hys ⟨nv, hn, hM⟩ hK
  rw [hys] at hn
  rw [hn] at hr
  have HM := Aside0.mk hM
  have c2 := (blk_cell hM.2.2.1 0).trans rfl
  clear hn hM hm hOC hO hOA hOA0 hM0 hbs B1 hys
  by_cases hnv : nv = 1
  ·
   subst hnv
   subst hstv
   have s2 : W.cell? ⟨w.heap.size, 2, none⟩ = some (.int .i64 st) := (blk_cell HM.out.1 2).trans rfl
   have s1 : W.cell? ⟨w.heap.size, 1, none⟩ = some (.slice Av vals.length cv) := (blk_cell HM.out.1 1).trans rfl
   have f1 := blk_frozen HM.out.2.1 0
   have c1 := (blk_cell HM.out.2.1 0).trans rfl
   have hb : ((1 : Int) != 1) = false := rfl
   by_cases hst : st < 0
   ·
    have hs := decide_eq_true hst
    rw [show postF k vals st hd (some 1) = some 3 by simp [postF, hst]] at hr
    obtain rfl := Option.some.inj hr
    have hK_ := hK
    clear hr
    gi_wp2
    have hE := (HM.out.setE 3).ends ((Below.heap_setCell W ⟨w.heap.size + 1, 0, none⟩ (.int .i64 3) D (by simp; omega)).trans hK_) (by omega)
    have hc5 := (blk_cell hE.2.1 0).trans rfl
    refine ⟨by simp, .inl ⟨_, _, rfl, run_takeDeferred ((Below.heap_setCell W ⟨w.heap.size + 1, 0, none⟩ (.int .i64 3) D (by simp; omega)).trans hK_), ?_⟩⟩
    refine ⟨.int .i64 3, ?_, rfl, hE.2.2.2⟩
    simp [results, Try.f16, go_sem, hc5]
   ·
    have hs := decide_eq_false hst
    rw [show postF k vals st hd (some 1) = (idxF k vals 0).bind fun i => if 0 ≤ i then some 3 else hdsF k none hd by simp [postF, hst]] at hr
    obtain ⟨i, hi, hr⟩ := Option.bind_eq_some_iff.mp hr
    have C1 := fun (W' : World) (hW' : Below W.heap.size W W') => callsIn_wide (n := 6 - 1).2 (cont_calls (cv := cv) (Kd.C_below hV (below_step HM.out.2.2.2 hW')) hi)
    clear hi hV
    by_cases hi : 0 ≤ i
    ·
     rw [if_pos hi] at hr
     obtain rfl := Option.some.inj hr
     have hi0 := decide_eq_true hi
     clear hr
     gi_wp2_with (gi_at_call 41; refine (C1 _ (Below.refl _ _)).mono ?_; rintro e w2 ⟨rfl, hb2⟩; have hM2 := HM.out.below hb2; have f12 := blk_frozen hM2.2.1 0; have c12 := (blk_cell hM2.2.1 0).trans rfl; have hK_ := blk_below hK hb2)
     have hE := (hM2.setE 3).ends ((Below.heap_setCell w2 ⟨w.heap.size + 1, 0, none⟩ (.int .i64 3) D (by simp; omega)).trans hK_) (by omega)
     have hc5 := (blk_cell hE.2.1 0).trans rfl
     refine ⟨by simp, .inl ⟨_, _, rfl, run_takeDeferred ((Below.heap_setCell w2 ⟨w.heap.size + 1, 0, none⟩ (.int .i64 3) D (by simp; omega)).trans hK_), ?_⟩⟩
     refine ⟨.int .i64 3, ?_, rfl, hE.2.2.2⟩
     simp [results, Try.f16, go_sem, hc5]
    ·
     rw [if_neg hi] at hr
     have hi0 := decide_eq_false hi
     gi_wp2_with (gi_at_call 41; refine (C1 _ (Below.refl _ _)).mono ?_; rintro e w2 ⟨rfl, hb2⟩; have hM2 := HM.out.below hb2; have f12 := blk_frozen hM2.2.1 0; have c12 := (blk_cell hM2.2.1 0).trans rfl; have hK_ := blk_below hK hb2; have s3 : w2.cell? ⟨w.heap.size, 3, none⟩ = some (.slice Ah hd.length ch) := (blk_cell hM2.1 3).trans rfl)
     have HM2 := Aside0.mk hM2
     have HK2 := Aside0.mk hK_
     have HR := Aside0.mk hr
     have HLM := Aside0.mk (show (hd.length : Int) ≤ 9223372036854775807 by have := hH.2.1; omega)
     clear hM2 hK_ hr f12 c12 s3 hb2 C1 f1 c1 s1 s2 HM hK c2
     gi_loopw [47] (fun v47 wr => ∃ x : Nat, v47 = .int .i64 (x : Int) ∧ Aside0 (x ≤ hd.length) ∧ Aside0 (hdsF k (if x = 0 then none else some (rdOf ByteArray.empty hd ((x : Int) - 1))) (hd.drop x) = some r) ∧ Aside0 (M3 w #[.slice Ao ops.length co, .slice Av vals.length cv, .int .i64 st, .slice Ah hd.length ch] wr 1 0) ∧ Aside0 (wr.heap[D]? = some (.deferred (some []))))
      (fun v47 _ => hd.length - (intOf v47).toNat)
     case atStart => exact ⟨0, rfl, ⟨Nat.zero_le _⟩, HR, HM2, HK2⟩
     case round =>
      clear HM2 HK2 HR
      obtain ⟨x, rfl, HX, HF, HM2, HK2⟩ := hrel
      have f12 := blk_frozen HM2.out.2.1 0
      have c12 := (blk_cell HM2.out.2.1 0).trans rfl
      by_cases hx : x < hd.length
      case neg =>
       have hx0 : decide ((x : Int) < (hd.length : Int)) = false := decide_eq_false (by omega)
       have hf := HF.out
       rw [List.drop_eq_nil_of_le (by omega), hdsF] at hf
       obtain rfl := Option.some.inj hf
       have hK_ := HK2.out
       clear hf HF
       gi_wp2
       have hE := (HM2.out.setE 0).ends ((Below.heap_setCell wr ⟨w.heap.size + 1, 0, none⟩ (.int .i64 0) D (by simp; omega)).trans hK_) (by omega)
       have hc5 := (blk_cell hE.2.1 0).trans rfl
       refine ⟨by simp, .inl ⟨_, _, rfl, run_takeDeferred ((Below.heap_setCell wr ⟨w.heap.size + 1, 0, none⟩ (.int .i64 0) D (by simp; omega)).trans hK_), ?_⟩⟩
       refine ⟨.int .i64 0, ?_, rfl, hE.2.2.2⟩
       simp [results, Try.f16, go_sem, hc5]
      have hb0 : decide ((x : Int) < (hd.length : Int)) = true := decide_eq_true (by omega)
      have hpp : ((0 : Int) ≤ (x : Int)) = True := eq_true (by omega)
      have hqq : ((x : Int) < (hd.length : Int)) = True := eq_true (by omega)
      have hC := Kd.C_below hH HM2.out.2.2.2
      obtain ⟨ad, rfl, hx0⟩ := Kd.at_string hC (x : Int) (by omega) (by omega)
      rw [show ((x : Int)).toNat = x from rfl] at hx0
      have hdr : hd.drop x = rdOf ByteArray.empty hd (x : Int) :: hd.drop (x + 1) := by
       rw [List.drop_eq_getElem_cons hx]
       congr 1
       simp [rdOf, List.getD_eq_getElem?_getD, hx]
      have hf := HF.out
      rw [hdr, hdsF] at hf
      obtain ⟨c, hc, hf⟩ := Option.bind_eq_some_iff.mp hf
      have K1 := fun (W' : World) => callsIn_wide (n := 6 - 1).2 (name_Kind.calls k (rdOf ByteArray.empty hd (x : Int)) c W' hc)
      have HXX := Aside0.mk hx
      have s3 : wr.cell? ⟨w.heap.size, 3, none⟩ = some (.slice (some ad) hd.length ch) := (blk_cell HM2.out.1 3).trans rfl
      by_cases hc1 : c = 1
      case neg =>
       rw [if_neg hc1] at hf
       obtain rfl := Option.some.inj hf
       have hcb : (c != 1) = true := bne_iff_ne.mpr hc1
       have hK_ := HK2.out
       clear hf HF hc hdr hx hC
       gi_wp2_with (gi_at_call 43; refine (K1 _).mono ?_; rintro e w3 ⟨rfl, ⟨nd, rfl⟩⟩)
       have hE := ((HM2.out.drewN nd).setE 3).ends ((Below.heap_setCell (wr.drewN nd) ⟨w.heap.size + 1, 0, none⟩ (.int .i64 3) D (by simp; omega)).trans hK_) (by omega)
       have hc5 := (blk_cell hE.2.1 0).trans rfl
       refine ⟨by simp, .inl ⟨_, _, rfl, run_takeDeferred ((Below.heap_setCell (wr.drewN nd) ⟨w.heap.size + 1, 0, none⟩ (.int .i64 3) D (by simp; omega)).trans hK_), ?_⟩⟩
       refine ⟨.int .i64 3, ?_, rfl, hE.2.2.2⟩
       simp [results, Try.f16, go_sem, hc5]
      subst hc1
      rw [if_pos rfl] at hf
      have hcb : ((1 : Int) != 1) = false := rfl
      by_cases h0 : x = 0
      ·
       rw [if_pos h0] at hf
       have HF2 := Aside0.mk (show hdsF k (some (rdOf ByteArray.empty hd (x : Int))) (hd.drop (x + 1)) = some r from hf)
       have hg2 : decide ((0 : Int) < (x : Int)) = false := decide_eq_false (by omega)
       have hg3 : decide ((x : Int) > 0) = false := decide_eq_false (by omega)
       have hg4 : (0 < x) = False := eq_false (by omega)
       have hww : IntKind.i64.wrap ((x : Int) + 1) = ((x + 1 : Nat) : Int) := by rw [show ((x : Int) + 1) = ((x + 1 : Nat) : Int) by omega]; exact IntWalk.i64_in _ (by have := HLM.out; omega)
       clear hf HF hc hdr hx hC h0
       gi_wp2_with (gi_at_call 43; refine (K1 _).mono ?_; rintro e w3 ⟨rfl, ⟨nd, rfl⟩⟩)
       exact ⟨⟨x + 1, by simp, ⟨by have := HXX.out; omega⟩, ⟨by rw [if_neg (by omega), show (((x + 1 : Nat) : Int) - 1) = (x : Int) by omega]; exact HF2.out⟩, ⟨HM2.out.drewN nd⟩, ⟨HK2.out⟩⟩, by have := HXX.out; simp [intOf]; omega⟩
      ·
       rw [if_neg h0] at hf
       obtain ⟨ad', he', hx1⟩ := Kd.at_string hC ((x : Int) - 1) (by omega) (by omega)
       injection he' with he'
       subst he'
       have hw1 : IntKind.i64.wrap ((x : Int) - 1) = (x : Int) - 1 := IntWalk.i64_in _ (by have := HLM.out; omega)
       have hp2 : ((0 : Int) ≤ (x : Int) - 1) = True := eq_true (by omega)
       have hq2 : ((x : Int) - 1 < (hd.length : Int)) = True := eq_true (by omega)
       have hg2 : decide ((0 : Int) < (x : Int)) = true := decide_eq_true (by omega)
       have hg3 : decide ((x : Int) > 0) = true := decide_eq_true (by omega)
       have hg4 : (0 < x) = True := eq_true (by omega)
       have hww : IntKind.i64.wrap ((x : Int) + 1) = ((x + 1 : Nat) : Int) := by rw [show ((x : Int) + 1) = ((x + 1 : Nat) : Int) by omega]; exact IntWalk.i64_in _ (by have := HLM.out; omega)
       have hn1 : ((x : Int) - 1).toNat = x - 1 := by omega
       have hx2 := hx1
       rw [hn1] at hx2
       have hdec : okH (some (rdOf ByteArray.empty hd ((x : Int) - 1))) (rdOf ByteArray.empty hd (x : Int)) = Op.bytesLess (rdOf ByteArray.empty hd ((x : Int) - 1)).toList (rdOf ByteArray.empty hd (x : Int)).toList := rfl
       rw [hdec] at hf
       by_cases hlt : Op.bytesLess (rdOf ByteArray.empty hd ((x : Int) - 1)).toList (rdOf ByteArray.empty hd (x : Int)).toList = true
       ·
        rw [if_pos hlt] at hf
        have HF2 := Aside0.mk hf
        have hd1 : ∀ W : World, Sem.run Try.prog (binOp BinOp.geq 9 (.string (rdOf ByteArray.empty hd ((x : Int) - 1))) (.string (rdOf ByteArray.empty hd (x : Int)))) W = Result.ok (Value.bool false) W := run_geS_f hlt
        clear hlt
        clear hf HF hc hdr hx hC hdec
        gi_wp2_with (gi_at_call 43; refine (K1 _).mono ?_; rintro e w3 ⟨rfl, ⟨nd, rfl⟩⟩)
        exact ⟨⟨x + 1, by simp, ⟨by have := HXX.out; omega⟩, ⟨by rw [if_neg (by omega), show (((x + 1 : Nat) : Int) - 1) = (x : Int) by omega]; exact HF2.out⟩, ⟨HM2.out.drewN nd⟩, ⟨HK2.out⟩⟩, by have := HXX.out; simp [intOf]; omega⟩
       ·
        rw [if_neg hlt] at hf
        obtain rfl := Option.some.inj hf
        have hd1 : ∀ W : World, Sem.run Try.prog (binOp BinOp.geq 9 (.string (rdOf ByteArray.empty hd ((x : Int) - 1))) (.string (rdOf ByteArray.empty hd (x : Int)))) W = Result.ok (Value.bool true) W := run_geS_t (Bool.eq_false_iff.mpr hlt)
        clear hlt
        have hK_ := HK2.out
        clear hf HF hc hdr hx hC hdec
        gi_wp2_with (gi_at_call 43; refine (K1 _).mono ?_; rintro e w3 ⟨rfl, ⟨nd, rfl⟩⟩)
        have hE := ((HM2.out.drewN nd).setE 3).ends ((Below.heap_setCell (wr.drewN nd) ⟨w.heap.size + 1, 0, none⟩ (.int .i64 3) D (by simp; omega)).trans hK_) (by omega)
        have hc5 := (blk_cell hE.2.1 0).trans rfl
        refine ⟨by simp, .inl ⟨_, _, rfl, run_takeDeferred ((Below.heap_setCell (wr.drewN nd) ⟨w.heap.size + 1, 0, none⟩ (.int .i64 3) D (by simp; omega)).trans hK_), ?_⟩⟩
        refine ⟨.int .i64 3, ?_, rfl, hE.2.2.2⟩
        simp [results, Try.f16, go_sem, hc5]
  ·
   have hb : (nv != 1) = true := bne_iff_ne.mpr hnv
   rw [show postF k vals st hd (some nv) = some 3 from if_neg hnv] at hr
   obtain rfl := Option.some.inj hr
   have f1 := blk_frozen HM.out.2.1 0
   have c1 := (blk_cell HM.out.2.1 0).trans rfl
   clear hr
   gi_wp2
   have hE := (HM.out.setE 3).ends ((Below.heap_setCell W ⟨w.heap.size + 1, 0, none⟩ (.int .i64 3) D (by simp; omega)).trans hK) (by omega)
   have hc5 := (blk_cell hE.2.1 0).trans rfl
   refine ⟨by simp, .inl ⟨_, _, rfl, run_takeDeferred ((Below.heap_setCell W ⟨w.heap.size + 1, 0, none⟩ (.int .i64 3) D (by simp; omega)).trans hK), ?_⟩⟩
   refine ⟨.int .i64 3, ?_, rfl, hE.2.2.2⟩
   simp [results, Try.f16, go_sem, hc5]
 case stop =>
  rintro D c pre W hD ⟨q, hq⟩ ⟨rfl, hn, nv, hM⟩ hK
  rw [← hq, chkB_append, hn] at hr
  obtain rfl := Option.some.inj hr
  have HM := Aside0.mk hM
  clear hn hM hm hOC hO hH hOA hOA0 hM0 hbs B1 hq hr
  gi_wp2
  have hE := HM.out.ends hK (by omega)
  have hc5 := (blk_cell hE.2.1 0).trans rfl
  refine ⟨by simp, .inl ⟨_, _, rfl, run_takeDeferred hK, ?_⟩⟩
  refine ⟨.int .i64 3, ?_, rfl, hE.2.2.2⟩
  simp [results, Try.f16, go_sem, hc5]
end Go.Proofs.Ytdlkhpfgkghhmaa.P

-- ==== Sb0
namespace Go.Proofs.Ytdlkhpfgkghhmaa.P
open Go.RowKit Go.Proofs.YtdlkhpfgkghhmaaW.PrintWords Go.Proofs.YtdlkhpfgkghhmaaW.PrintLast Go.Proofs.YtdlkhpfgkghhmaaW.PrintMore
def StV (w : World) (v : Value) (ops : List S70) (vals : List (List S54)) (st : Int) (hd : List ByteArray) : Prop :=
 ∃ Ao co Av cv Ah ch, v = .agg #[.slice Ao ops.length co, .slice Av vals.length cv, .int .i64 st, .slice Ah hd.length ch] ∧ Kd.C k70 w Ao ops.length ops ∧ ops.length ≤ co ∧ Kd.C (Kd.slice 54 k54) w Av vals.length vals ∧ vals.length ≤ cv ∧ Kd.C Kd.string w Ah hd.length hd ∧ hd.length ≤ ch
theorem stV_below {w w' : World} {v : Value} {ops : List S70} {vals : List (List S54)} {st : Int} {hd : List ByteArray} (h : StV w v ops vals st hd) (hb : Below w.heap.size w w') : StV w' v ops vals st hd := by
 obtain ⟨Ao, co, Av, cv, Ah, ch, e, h0, h1, h2, h3, h4, h5⟩ := h
 exact ⟨Ao, co, Av, cv, Ah, ch, e, Kd.C_below h0 hb, h1, Kd.C_below h2 hb, h3, Kd.C_below h4 hb, h5⟩
def StF (w : World) (ok : Nat → Prop) (v : Value) (ops : List S70) (vals : List (List S54)) (st : Int) (hd : List ByteArray) : Prop :=
 ∃ Ao co Av cv Ah ch, v = .agg #[.slice Ao ops.length co, .slice Av vals.length cv, .int .i64 st, .slice Ah hd.length ch] ∧ Kd.F k70 w ok Ao ops.length ops ∧ ops.length ≤ co ∧ Kd.F (Kd.slice 54 k54) w ok Av vals.length vals ∧ vals.length ≤ cv ∧ Kd.F Kd.string w ok Ah hd.length hd ∧ hd.length ≤ ch
theorem stF_V {w : World} {ok : Nat → Prop} {v : Value} {ops : List S70} {vals : List (List S54)} {st : Int} {hd : List ByteArray} (h : StF w ok v ops vals st hd) : StV w v ops vals st hd := by
 obtain ⟨Ao, co, Av, cv, Ah, ch, e, h0, h1, h2, h3, h4, h5⟩ := h
 exact ⟨Ao, co, Av, cv, Ah, ch, e, Kd.F_now h0, h1, Kd.F_now h2, h3, Kd.F_now h4, h5⟩
theorem stF_mono {w : World} {ok ok' : Nat → Prop} {v : Value} {ops : List S70} {vals : List (List S54)} {st : Int} {hd : List ByteArray} (h : StF w ok v ops vals st hd) (hk : ∀ k, ok k → k < w.heap.size → ok' k) : StF w ok' v ops vals st hd := by
 obtain ⟨Ao, co, Av, cv, Ah, ch, e, h0, h1, h2, h3, h4, h5⟩ := h
 exact ⟨Ao, co, Av, cv, Ah, ch, e, Kd.F_mono (Kd.F_bound h0) (fun k hk_ => hk k hk_.1 hk_.2), h1, Kd.F_mono (Kd.F_bound h2) (fun k hk_ => hk k hk_.1 hk_.2), h3, Kd.F_mono (Kd.F_bound h4) (fun k hk_ => hk k hk_.1 hk_.2), h5⟩
theorem stF_step {w w1 : World} {ok : Nat → Prop} {v : Value} {ops : List S70} {vals : List (List S54)} {st : Int} {hd : List ByteArray} (h : StF w ok v ops vals st hd) (hm : ∀ k, ok k → k < w.heap.size → w1.heap[k]? = w.heap[k]?) : StF w1 ok v ops vals st hd := by
 obtain ⟨Ao, co, Av, cv, Ah, ch, e, h0, h1, h2, h3, h4, h5⟩ := h
 exact ⟨Ao, co, Av, cv, Ah, ch, e, Kd.F_step h0 hm, h1, Kd.F_step h2 hm, h3, Kd.F_step h4 hm, h5⟩

-- ==== Sa1
attribute [local go_sem high] eqA54
theorem same7_calls {k co cv ch eo ew eh : Nat} {w : World} {Ao Av Ah Bo Bv Bh : Option Addr} {ops : List S70} {vals : List (List S54)} {st : Int} {hd : List ByteArray}
 (hO : Kd.C k70 w Ao ops.length ops) (hV : Kd.C (Kd.slice 54 k54) w Av vals.length vals) (hcv : vals.length ≤ cv) (hH : Kd.C Kd.string w Ah hd.length hd) (hch : hd.length ≤ ch)
 (gO : Kd.C k70 w Bo ops.length ops) (gV : Kd.C (Kd.slice 54 k54) w Bv vals.length vals) (gcv : vals.length ≤ ew) (gH : Kd.C Kd.string w Bh hd.length hd) (gch : hd.length ≤ eh)
 (hS : aumbryref03_Same.f k hd hd = some true) (hA : aumbryref04_SameAll.f k vals vals = some true) (hT : ∀ x : Nat, x < ops.length → aumbryref04_Same.f k (rd_T70 ops x).f2 (rd_T70 ops x).f2 = some true) :
 Calls Try.prog 15 #[.agg #[.slice Ao ops.length co, .slice Av vals.length cv, .int .i64 st, .slice Ah hd.length ch], .agg #[.slice Bo ops.length eo, .slice Bv vals.length ew, .int .i64 st, .slice Bh hd.length eh]] w fun e w' => e = .returned (.bool true) ∧ Below w.heap.size w w' := by
 have HO := Aside0.mk hO
 have GO := Aside0.mk gO
 have HT := Aside0.mk hT
 have HB := Aside0.mk (Below.refl w.heap.size w)
 have HM := Aside0.mk (show (ops.length : Int) ≤ 9223372036854775807 by have := hO.2.1; omega)
 have C1 := fun (W : World) (hW : Below w.heap.size w W) => aumbryref03_Same.calls k Ah ch hd Bh eh hd true W (Kd.C_below hH hW) hch (Kd.C_below gH hW) gch hS
 have C2 := fun (W : World) (hW : Below w.heap.size w W) => aumbryref04_SameAll.calls k Av cv vals Bv ew vals true W (Kd.C_below hV hW) hcv (Kd.C_below gV hW) gcv hA
 clear hO gO hT hV gV hH gH hS hA
 have hb1 : ((ops.length : Int) != (ops.length : Int)) = false := bne_self_eq_false _
 have hb2 : (st != st) = false := bne_self_eq_false _
 go_enter Try.func15, Try.ntmps15
 go_wp2_with (first | (go_at_call 37; (with_reducible refine (C1 _ ?side1).mono ?_); (case side1 => exact (zq HB.out)); rintro e w1 ⟨rfl, nd, rfl⟩) | (go_at_call 38; (with_reducible refine (C2 _ ?side2).mono ?_); (case side2 => exact (zq HB.out)); rintro e w2 ⟨rfl, nd2, rfl⟩))
 obtain ⟨sa, hsa⟩ : ∃ s : Array Value, s = #[.slice Ao ops.length co, .slice Av vals.length cv, .int .i64 st, .slice Ah hd.length ch] := ⟨_, rfl⟩
 obtain ⟨sb, hsb⟩ : ∃ s : Array Value, s = #[.slice Bo ops.length eo, .slice Bv vals.length ew, .int .i64 st, .slice Bh hd.length eh] := ⟨_, rfl⟩
 have HZA := Aside0.mk (show (((w.alloc (.cells #[.slice Ao ops.length co, .slice Av vals.length cv, .int .i64 st, .slice Ah hd.length ch] 28)).alloc (.cells #[.slice Bo ops.length eo, .slice Bv vals.length ew, .int .i64 st, .slice Bh hd.length eh] 28)).drewN (nd + nd2)).heap[w.heap.size]? = some (.cells sa 28 (0, 0)) by rw [hsa]; simpa using ((below_alloc (Below.refl _ _) _).block _ (by simp)).trans (heap_alloc_new w _))
 have HZB := Aside0.mk (show (((w.alloc (.cells #[.slice Ao ops.length co, .slice Av vals.length cv, .int .i64 st, .slice Ah hd.length ch] 28)).alloc (.cells #[.slice Bo ops.length eo, .slice Bv vals.length ew, .int .i64 st, .slice Bh hd.length eh] 28)).drewN (nd + nd2)).heap[w.heap.size + 1]? = some (.cells sb 28 (0, 0)) by rw [hsb]; simpa using heap_alloc_new (w.alloc _) _)
 have HB1 := Aside0.mk (show Below w.heap.size w (((w.alloc (.cells #[.slice Ao ops.length co, .slice Av vals.length cv, .int .i64 st, .slice Ah hd.length ch] 28)).alloc (.cells #[.slice Bo ops.length eo, .slice Bv vals.length ew, .int .i64 st, .slice Bh hd.length eh] 28)).drewN (nd + nd2)) from (zq HB.out))
 generalize (((w.alloc (.cells #[.slice Ao ops.length co, .slice Av vals.length cv, .int .i64 st, .slice Ah hd.length ch] 28)).alloc (.cells #[.slice Bo ops.length eo, .slice Bv vals.length ew, .int .i64 st, .slice Bh hd.length eh] 28)).drewN (nd + nd2)) = W0 at HZA HZB HB1 ⊢
 clear HB C1 C2
 go_loopg [39] ops.length (fun kq v39 w' => ∃ x : Int, v39 = .int .i64 x ∧ Aside0 (0 ≤ x ∧ x + kq = (ops.length : Int)) ∧ Aside0 (w'.heap[w.heap.size]? = some (.cells sa 28 (0, 0))) ∧ Aside0 (w'.heap[w.heap.size + 1]? = some (.cells sb 28 (0, 0))) ∧ Aside0 (Below w.heap.size w w'))
 case atStart => exact ⟨0, rfl, ⟨by omega⟩, HZA, HZB, HB1⟩
 case round =>
  clear HZA HZB HB1
  obtain ⟨x, rfl, HX, HZA, HZB, HB⟩ := hrel
  cases gk with
  | succ k1 =>
   have hi : 0 ≤ x ∧ x < (ops.length : Int) := by have := HX.out; omega
   obtain ⟨ad, A3, c3, eA, a0, a1, a2, a3, al, ag⟩ := at_T70 (Kd.C_below HO.out HB.out) x hi.1 hi.2
   obtain ⟨bd, B3, e3, eB, b0, b1, b2, b3, bl, bg⟩ := at_T70 (Kd.C_below GO.out HB.out) x hi.1 hi.2
   subst eA eB
   have hS := HT.out x.toNat (by omega)
   rw [show ((x.toNat : Nat) : Int) = x by omega] at hS
   generalize rd_T70 ops x = o at a0 a1 a2 a3 al ag b0 b1 b2 b3 bl bg hS
   have za0 := (blk_cell HZA.out 0).trans (by rw [hsa]; rfl : _ = some (Value.slice (some ad) ops.length co))
   have zb0 := (blk_cell HZB.out 0).trans (by rw [hsb]; rfl : _ = some (Value.slice (some bd) ops.length eo))
   have p1 : (0 ≤ x) = True := eq_true hi.1
   have p2 : (x < (ops.length : Int)) = True := eq_true hi.2
   have p3 : decide (x < (ops.length : Int)) = true := decide_eq_true hi.2
   have q0 : (o.f0 != o.f0) = false := bne_self_eq_false _
   have q1 : (o.f1.f0.toList == o.f1.f0.toList) = true := beq_self_eq_true _
   have q2 : (o.f1.f1 == o.f1.f1) = true := beq_self_eq_true _
   have S1 := fun (W : World) (hW : Below wr.heap.size wr W) => aumbryref04_Same.calls k A3 c3 o.f2 B3 e3 o.f2 true W (Kd.C_below ag hW) al (Kd.C_below bg hW) bl hS
   go_wp2
   go_quiet (first | (go_at_call 27; (with_reducible refine (S1 _ ?side3).mono ?_); (case side3 => exact (by repeat (first | exact Below.refl _ _ | apply pw_below_drewN | apply below_drew1))); rintro e w1 ⟨rfl, nd, rfl⟩; exact ⟨rfl, _, World.drewN_drewN _ _ _⟩))
   go_wp2
   go_roundg k1
   case measure => have := HX.out; omega
   case rel => exact ⟨x + 1, by have e_ : wrap64 (x + 1) = x + 1 := (by have := HX.out; have := HM.out; unfold wrap64; omega); first | rfl | rw [e_] | (simp [e_]; done), ⟨by have := HX.out; omega⟩, ⟨by simpa using HZA.out⟩, ⟨by simpa using HZB.out⟩, ⟨by repeat (first | exact HB.out | apply pw_below_drewN | apply below_drew1)⟩⟩
  | zero =>
   have hb0 : decide (x < (ops.length : Int)) = false := decide_eq_false (by have := HX.out; omega)
   go_wp2
   go_ret
   exact ⟨rfl, HB.out⟩

-- ==== Rw15
theorem R_get70 {W : World} {B n c : Nat} {A : Option Addr} {ops : List S70} (h : Kd.R k70 70 W B (fun _ => True) (.slice A n c) ops) (x : Nat) (hx : x < n) :
 ∃ ad v3, A = some ad ∧ W.cell? (ad.add (x * 4)) = some (.int .i64 (rd_T70 ops x).f0) ∧ W.cell? (ad.add (x * 4 + 1)) = some (.string (rd_T70 ops x).f1.f0) ∧ W.cell? (ad.add (x * 4 + 2)) = some (.int .i64 (rd_T70 ops x).f1.f1) ∧ W.cell? (ad.add (x * 4 + 3)) = some v3 ∧ Kd.R k54 54 W B (fun _ => True) v3 (rd_T70 ops x).f2 := by
 obtain ⟨hn, _, hC⟩ := Kd.R_reads' h
 obtain ⟨ad, hA, _⟩ := hC.2.2 (by omega)
 subst hA
 obtain ⟨cs, _, hM, hc⟩ := Kd.R_get h z70 (x : Int) (by omega) (by omega)
 obtain ⟨v3, rfl, h3⟩ := k70_openM hM
 exact ⟨ad, v3, rfl, hc 0 _ rfl, hc 1 _ rfl, hc 2 _ rfl, hc 3 _ rfl, Kd.R_mono h3 (fun _ _ => trivial)⟩
def runL (k : Nat) (rules : List S73) : Nat → Mst → Option (Int × Mst)
 | 0, _ => none
 | n + 1, m => if m.ops.length = 0 then some (0, m) else
  if (rd_T70 m.ops ((m.ops.length : Int) - 1)).f0 = 2 then (if m.vals.length < 5864062014800 then runL k rules n ⟨m.ops.take (m.ops.length - 1), m.vals ++ [(rd_T70 m.ops ((m.ops.length : Int) - 1)).f2], m.st, m.hd, m.fu⟩ else none)
  else if 0 ≤ (rd_T70 m.ops ((m.ops.length : Int) - 1)).f1.f1 ∧ (rd_T70 m.ops ((m.ops.length : Int) - 1)).f1.f1.toNat ≤ m.vals.length ∧ (∀ v ∈ m.vals.drop (m.vals.length - (rd_T70 m.ops ((m.ops.length : Int) - 1)).f1.f1.toNat), v.length ≤ 64) then
   (makeN k rules (rd_T70 m.ops ((m.ops.length : Int) - 1)).f1.f0 (rd_T70 m.ops ((m.ops.length : Int) - 1)) (m.vals.drop (m.vals.length - (rd_T70 m.ops ((m.ops.length : Int) - 1)).f1.f1.toNat)) ⟨m.ops.take (m.ops.length - 1), m.vals.take (m.vals.length - (rd_T70 m.ops ((m.ops.length : Int) - 1)).f1.f1.toNat), m.st, m.hd, m.fu⟩).bind fun r => if r.1 = 0 then runL k rules n r.2 else some r
  else none
theorem ops_last {ops : List S70} (h : ops.length ≠ 0) : ops = ops.take (ops.length - 1) ++ [rd_T70 ops ((ops.length : Int) - 1)] := by
 have hl : ops.length - 1 < ops.length := by omega
 have e : rd_T70 ops ((ops.length : Int) - 1) = ops[ops.length - 1] := by
  simp only [rd_T70, List.getD_eq_getElem?_getD]
  rw [show ((ops.length : Int) - 1).toNat = ops.length - 1 by omega, List.getElem?_eq_getElem hl]
  rfl
 rw [e]
 have h2 := List.take_append_drop (ops.length - 1) ops
 rw [List.drop_eq_getElem_cons hl, List.drop_eq_nil_of_le (by omega)] at h2
 exact h2.symm
theorem isMc_new {B : Nat} {W : World} {rv tv vo vv vh : Value} {ops : List S70} {vals : List (List S54)} {st fu : Int} {hd : List ByteArray} (hB : B ≤ W.heap.size) (h0 : Kd.R k70 70 W B (fun _ => True) vo ops) (h1 : Kd.R (Kd.slice 54 k54) 23 W B (fun _ => True) vv vals) (h3 : Kd.R Kd.string 9 W B (fun _ => True) vh hd) :
 IsMc B (W.alloc (.cells #[vo, vv, .int .i64 st, vh, rv, tv, .int .i64 fu] 94)) W.heap.size rv tv ops vals st hd fu :=
 ⟨vo, vv, vh, heap_alloc_new W _, hB, Kd.R_alloc h0 _, Kd.R_alloc h1 _, Kd.R_alloc h3 _⟩

-- ==== Rw16
def mayL (k : Nat) : List S70 → Option (List Bool)
 | [] => some []
 | o :: u => (rewrite_may.f k o.f0 o.f1.f0 o.f1.f1 o.f2).bind fun b => (mayL k u).bind fun l => some (b :: l)
theorem mayL_get {k : Nat} : ∀ {ops : List S70} {l : List Bool}, mayL k ops = some l → ∀ x : Nat, x < ops.length → rewrite_may.f k (rd_T70 ops x).f0 (rd_T70 ops x).f1.f0 (rd_T70 ops x).f1.f1 (rd_T70 ops x).f2 = some (l.getD x false)
 | [], _, _, x, hx => absurd hx (Nat.not_lt_zero x)
 | o :: u, l, h, x, hx => by
  obtain ⟨b, hb, h⟩ := Option.bind_eq_some_iff.mp h
  obtain ⟨l', hl, h⟩ := Option.bind_eq_some_iff.mp h
  obtain rfl := Option.some.inj h
  cases x with
  | zero => exact hb
  | succ y =>
   have := mayL_get hl y (by simpa using hx)
   simpa [rd_T70] using this
def chkF (k : Nat) (ops : List S70) (vals : List (List S54)) (st : Int) (hd : List ByteArray) : Option Int :=
 (mayL k ops).bind fun l => postF k vals st hd (chkB ops (fun x => l.getD x false) (List.range ops.length).reverse vals.length)
theorem check_calls {k co cv ch : Nat} {w : World} {Ao Av Ah : Option Addr} {ops : List S70} {vals : List (List S54)} {st : Int} {hd : List ByteArray} {r : Int}
 (hO : Kd.C k70 w Ao ops.length ops) (hV : Kd.C (Kd.slice 54 k54) w Av vals.length vals) (hH : Kd.C Kd.string w Ah hd.length hd) (h : chkF k ops vals st hd = some r) :
 Calls Try.prog 16 #[.agg #[.slice Ao ops.length co, .slice Av vals.length cv, .int .i64 st, .slice Ah hd.length ch]] w fun e W' => e = .returned (.int .i64 r) ∧ Below w.heap.size w W' := by
 obtain ⟨l, hl, h⟩ := Option.bind_eq_some_iff.mp h
 exact check_in hO hV hH h (mayL_get hl)
def runF (k gas : Nat) (rules : List S73) (ops : List S70) (vals : List (List S54)) (st : Int) (hd : List ByteArray) (fu : Int) : Option (Int × Mst) :=
 (rewrite_together.f k rules).bind fun e => if e = 0 then (chkF k ops vals st hd).bind fun e => if e = 0 then (rewrite_clone.f k ops vals st hd).bind fun c => runL k rules gas ⟨c.1, c.2.1, c.2.2.1, c.2.2.2, fu⟩ else some (e, ⟨[], [], 0, [], 0⟩) else some (e, ⟨[], [], 0, [], 0⟩)

-- ==== Rw17
def RunEndR (B : Nat) (r : Int × Mst) (e : Ending) (w' : World) : Prop :=
 ∃ v0 v1 v3 : Value, e = .returned (.tuple #[.agg #[v0, v1, .int .i64 r.2.st, v3], .int .i64 r.1]) ∧ Kd.R k70 70 w' B (fun _ => True) v0 r.2.ops ∧ Kd.R (Kd.slice 54 k54) 23 w' B (fun _ => True) v1 r.2.vals ∧ Kd.R Kd.string 9 w' B (fun _ => True) v3 r.2.hd
def RunEnd (B : Nat) (r : Int × Mst) (e : Ending) (w' : World) : Prop :=
 ∃ v0 v1 v3 : Value, e = .returned (.tuple #[.agg #[v0, v1, .int .i64 r.2.st, v3], .int .i64 r.1]) ∧ StEnd B w' v0 v1 v3 r.2.ops r.2.vals r.2.hd
theorem R_last70 {W : World} {B n c : Nat} {A : Option Addr} {ops : List S70} (h : Kd.R k70 70 W B (fun _ => True) (.slice A n c) ops) (x : Nat) (hx : x < n) :
 ∃ ad A3 c3, A = some ad ∧ W.cell? (ad.add (x * 4)) = some (.int .i64 (rd_T70 ops x).f0) ∧ W.cell? ⟨(ad.add (x * 4)).block, (ad.add (x * 4)).off + 1, none⟩ = some (.string (rd_T70 ops x).f1.f0) ∧ W.cell? ⟨(ad.add (x * 4)).block, (ad.add (x * 4)).off + 2, none⟩ = some (.int .i64 (rd_T70 ops x).f1.f1) ∧ W.cell? ⟨(ad.add (x * 4)).block, (ad.add (x * 4)).off + 3, none⟩ = some (.slice A3 (rd_T70 ops x).f2.length c3) ∧ Kd.R k54 54 W B (fun _ => True) (.slice A3 (rd_T70 ops x).f2.length c3) (rd_T70 ops x).f2 := by
 obtain ⟨hn, _, _⟩ := Kd.R_reads' h
 obtain ⟨g, c', he, _⟩ := Kd.R_form h (by omega)
 injection he with he
 subst he
 obtain ⟨ad, v3, he, h0, h1, h2, h3, hr⟩ := R_get70 h x hx
 injection he with he
 subst he
 obtain ⟨A3, c3, rfl⟩ := Kd.R_slice hr
 simp only [add_plain] at h0 h1 h2 h3 ⊢
 exact ⟨_, A3, c3, rfl, by rw [add_plain]; exact h0, by rw [add_plain]; exact h1, by rw [add_plain]; exact h2, by rw [add_plain]; exact h3, hr⟩
theorem noGoto_ret {Q : Exit → Act → World → Prop} {a : Act} {w : World} (h : Q .ret a w) : Exit.noGoto Q .ret a w := h
theorem run_callsR {k gas cr co cv ch : Nat} {w : World} {Ar Ao Av Ah : Option Addr} {rules : List S73} {ops : List S70} {vals : List (List S54)} {st fu : Int} {hd : List ByteArray} {r : Int × Mst}
 (hR : Kd.C k73 w Ar rules.length rules) (hcr : rules.length ≤ cr) (hO : Kd.C k70 w Ao ops.length ops) (hco : ops.length ≤ co) (hV : Kd.C (Kd.slice 54 k54) w Av vals.length vals) (hcv : vals.length ≤ cv) (hH : Kd.C Kd.string w Ah hd.length hd) (hch : hd.length ≤ ch)
 (h : runF k gas rules ops vals st hd fu = some r) :
 Calls Try.prog 20 #[.slice Ar rules.length cr, .agg #[.slice Ao ops.length co, .slice Av vals.length cv, .int .i64 st, .slice Ah hd.length ch], .int .i64 fu, .nilIface] w fun e w' => RunEndR w.heap.size r e w' ∧ Below w.heap.size w w' := by
 obtain ⟨e1, he1, h⟩ := Option.bind_eq_some_iff.mp h
 have HR := Aside0.mk hR
 have HR0 := Aside0.mk hR
 have HO := Aside0.mk hO
 have HV := Aside0.mk hV
 have HH := Aside0.mk hH
 have HH0 := Aside0.mk h
 have HBW := Aside0.mk (Below.refl w.heap.size w)
 have T1 := fun (W : World) (hW : Below w.heap.size w W) => rewrite_together.calls k Ar cr rules e1 W (Kd.C_below HR.out hW) hcr he1
 clear hR hO hV hH h he1
 by_cases h1 : e1 = 0
 case neg =>
  have hr := HH0.out
  rw [if_neg h1] at hr
  obtain rfl := Option.some.inj hr
  have hb1 : (e1 != 0) = true := bne_iff_ne.mpr h1
  clear hr HH0
  go_enter Try.func20, Try.ntmps20
  go_wp2
  refine wp_scope_straight ?_
  go_wp2_with (go_at_call 46; (with_reducible refine (T1 _ ?side1).mono ?_); (case side1 => exact (zq HBW.out)); rintro e w1 ⟨rfl, hb⟩; have hz := (hb.block (w.heap.size + 1) (by simp)).trans (al2_1 w _ _); have HZ := Aside0.mk hz; obtain ⟨z0, z1, z2, z3⟩ := zc4 hz; obtain ⟨y0, y1, y2, y3⟩ := zf4 hz; clear hz; have HB1 := Aside0.mk (below_step (zq HBW.out) hb); clear hb)
  refine noGoto_ret ?_
  refine bodyPost_ret (results_ct rfl _ _ (w.heap.size + 1) 28 _ (0, 0) _ rfl (set4_blk HZ.out _ _ _ _) Try.underlying28 rfl (by kernel_rfl)) rfl ?_
  exact ⟨⟨_, _, _, rfl, Kd.R_nil _ _ _ _ _, Kd.R_nil _ _ _ _ _, Kd.R_nil _ _ _ _ _⟩, set4_below HB1.out (Nat.le_succ _) _ _ _ _⟩
 subst h1
 have hr := HH0.out
 rw [if_pos rfl] at hr
 replace hr := Option.bind_eq_some_iff.mp hr
 obtain ⟨e2, he2, hr⟩ := hr
 have C1 := fun (W : World) (hW : Below w.heap.size w W) => check_calls (co := co) (cv := cv) (ch := ch) (Kd.C_below HO.out hW) (Kd.C_below HV.out hW) (Kd.C_below HH.out hW) he2
 have HR2 := Aside0.mk hr
 clear hr he2 HH0
 by_cases h2 : e2 = 0
 case neg =>
  have hr := HR2.out
  rw [if_neg h2] at hr
  obtain rfl := Option.some.inj hr
  have hb1 : (e2 != 0) = true := bne_iff_ne.mpr h2
  clear hr HR2
  go_enter Try.func20, Try.ntmps20
  go_wp2
  refine wp_scope_straight ?_
  go_wp2_with (first | (go_at_call 46; (with_reducible refine (T1 _ ?side1).mono ?_); (case side1 => exact (zq HBW.out)); rintro e w1 ⟨rfl, hb⟩; have hz := (hb.block (w.heap.size + 1) (by simp)).trans (al2_1 w _ _); have hs := (hb.block w.heap.size (by simp; omega)).trans (al2_0 w _ _); have HZ1 := Aside0.mk hz; have HS1 := Aside0.mk hs; obtain ⟨s0, s1, s2, s3⟩ := zc4 hs; have HB1 := Aside0.mk (below_step (zq HBW.out) hb); clear hz hs hb) | (go_at_call 16; (with_reducible refine (C1 _ ?side2).mono ?_); (case side2 => exact (zq HB1.out)); rintro e w2 ⟨rfl, hb⟩; have hz := blk_below HZ1.out hb; have hs := blk_below HS1.out hb; have HZ2 := Aside0.mk hz; have HS2 := Aside0.mk hs; obtain ⟨z0, z1, z2, z3⟩ := zc4 hz; obtain ⟨y0, y1, y2, y3⟩ := zf4 hz; have HB2 := Aside0.mk (below_step (zq HB1.out) hb); clear hz hs hb))
  refine noGoto_ret ?_
  refine bodyPost_ret (results_ct rfl _ _ (w.heap.size + 1) 28 _ (0, 0) _ rfl (set4_blk HZ2.out _ _ _ _) Try.underlying28 rfl (by kernel_rfl)) rfl ?_
  exact ⟨⟨_, _, _, rfl, Kd.R_nil _ _ _ _ _, Kd.R_nil _ _ _ _ _, Kd.R_nil _ _ _ _ _⟩, set4_below HB2.out (Nat.le_succ _) _ _ _ _⟩
 subst h2
 have hr := HR2.out
 rw [if_pos rfl] at hr
 replace hr := Option.bind_eq_some_iff.mp hr
 obtain ⟨⟨c1, c2, c3, c4⟩, hcl, hr⟩ := hr
 have K1 := fun (W : World) (hW : Below w.heap.size w W) => rewrite_clone.calls k Ao co ops Av cv vals st Ah ch hd c1 c2 c3 c4 W (Kd.C_below HO.out hW) hco (Kd.C_below HV.out hW) hcv (Kd.C_below HH.out hW) hch hcl
 have HR3 := Aside0.mk hr
 clear hr hcl HR2
 go_enter Try.func20, Try.ntmps20
 go_wp2
 refine wp_scope_straight ?_
 go_upto_region 8 with (first | (go_at_call 46; (with_reducible refine (T1 _ ?side1).mono ?_); (case side1 => exact (zq HBW.out)); rintro e w1 ⟨rfl, hb⟩; have hz := (hb.block (w.heap.size + 1) (by simp)).trans (al2_1 w _ _); have hs := (hb.block w.heap.size (by simp; omega)).trans (al2_0 w _ _); have HZ1 := Aside0.mk hz; have HS1 := Aside0.mk hs; obtain ⟨s0, s1, s2, s3⟩ := zc4 hs; have HB1 := Aside0.mk (below_step (zq HBW.out) hb); clear hz hs hb) | (go_at_call 16; (with_reducible refine (C1 _ ?side2).mono ?_); (case side2 => exact (zq HB1.out)); rintro e w2 ⟨rfl, hb⟩; have hz := blk_below HZ1.out hb; have hs := blk_below HS1.out hb; have HZ2 := Aside0.mk hz; have HS2 := Aside0.mk hs; obtain ⟨s0, s1, s2, s3⟩ := zc4 hs; have HB2 := Aside0.mk (below_step (zq HB1.out) hb); clear hz hs hb) | (go_at_call 47; (with_reducible refine (K1 _ ?side3).mono ?_); (case side3 => exact (zq HB2.out)); rintro e w3 ⟨v0, v1, v3, rfl, ho0, ho1, ho3, hb⟩; have HV0 := Aside0.mk (show Kd.R k70 70 w3 w2.heap.size (fun _ => True) v0 c1 from Kd.S_R ho0); have HV1 := Aside0.mk (show Kd.R (Kd.slice 54 k54) 23 w3 w2.heap.size (fun _ => True) v1 c2 from Kd.S_R ho1); have HV3 := Aside0.mk (show Kd.R Kd.string 9 w3 w2.heap.size (fun _ => True) v3 c4 from ho3); have HB23 := Aside0.mk (show Below w2.heap.size w2 w3 from hb); have HZ3 := Aside0.mk (blk_below HZ2.out hb); have HB3 := Aside0.mk (below_step (zq HB2.out) hb); clear ho0 ho1 ho3 hb))
 have HM := Aside0.mk (isMc_new (rv := .slice Ar rules.length cr) (tv := .nilIface) (st := c3) (fu := fu) HB23.out.size HV0.out HV1.out HV3.out)
 have HZ4 := Aside0.mk (blk_below HZ3.out (below_alloc (Below.refl _ _) (.cells #[v0, v1, .int .i64 c3, v3, .slice Ar rules.length cr, .nilIface, .int .i64 fu] 94)))
 have HB4 := Aside0.mk (below_step HB23.out (below_alloc (Below.refl _ _) (.cells #[v0, v1, .int .i64 c3, v3, .slice Ar rules.length cr, .nilIface, .int .i64 fu] 94)))
 have HL2 := Aside0.mk (blk_lt HZ2.out)
 generalize (w3.alloc (.cells #[v0, v1, .int .i64 c3, v3, .slice Ar rules.length cr, .nilIface, .int .i64 fu] 94)) = w4 at HM HZ4 HB4 ⊢
 generalize w3.heap.size = g at HM ⊢
 clear HV0 HV1 HV3 HZ1 HS1 HS2 HZ3 T1 C1 K1
 go_wp2
 refine wp_label ?_
 go_wp2
 go_loopg [13] gas (fun kq v13 w' => ∃ m : Mst, v13 = .int .i64 0 ∧ Aside0 (runL k rules kq m = some r) ∧ Aside0 (IsM w2.heap.size w' g (.slice Ar rules.length cr) .nilIface m) ∧ Aside0 (Below w2.heap.size w2 w'))
 case atStart => exact ⟨⟨c1, c2, c3, c4, fu⟩, rfl, HR3, HM, HB4⟩
 case round =>
  clear HR3 HM HB4 HZ4
  obtain ⟨m, rfl, HR, HM, HB4⟩ := hrel
  cases gk with
  | zero => exact absurd HR.out (by simp [runL])
  | succ k1 =>
   have hr := HR.out
   rw [runL] at hr
   obtain ⟨vo, vv, vh, hb, hg, hO, hV, hH⟩ := HM.out
   obtain ⟨Ao2, co2, rfl⟩ := Kd.R_slice hO
   obtain ⟨Av2, cv2, rfl⟩ := Kd.R_slice hV
   obtain ⟨Ah2, ch2, rfl⟩ := Kd.R_slice hH
   have hm0 : wr.cell? ⟨g, 0, none⟩ = some (.slice Ao2 m.ops.length co2) := (blk_cell hb 0).trans rfl
   have HZ := Aside0.mk (blk_below HZ2.out HB4.out)
   have HGB := Aside0.mk hg
   have HO2 := Aside0.mk hO
   have HV2 := Aside0.mk hV
   have HH2 := Aside0.mk hH
   have HBK := Aside0.mk hb
   by_cases hl : m.ops.length = 0
   ·
    rw [if_pos hl] at hr
    obtain rfl := Option.some.inj hr
    have hd1 : decide ((0 : Int) < (m.ops.length : Int)) = false := decide_eq_false (by omega)
    have hd2 : decide ((m.ops.length : Int) > 0) = false := decide_eq_false (by omega)
    have hd3 : (0 < m.ops.length) = False := eq_false (by omega)
    have m1 := (blk_cell hb 1).trans rfl
    have m2 := (blk_cell hb 2).trans rfl
    have m3 := (blk_cell hb 3).trans rfl
    obtain ⟨z0, z1, z2, z3⟩ := zc4 HZ.out
    obtain ⟨y0, y1, y2, y3⟩ := zf4 HZ.out
    clear hr HR hb hg hO hV hH
    have HLN := Aside0.mk hl
    clear hl
    go_wp2
    refine noGoto_ret ?_
    refine bodyPost_ret (results_ct rfl _ _ (w.heap.size + 1) 28 _ (0, 0) _ rfl (set4_blk HZ.out _ _ _ _) Try.underlying28 rfl (by kernel_rfl)) rfl ?_
    have hle : w.heap.size ≤ w2.heap.size := HB2.out.size
    exact ⟨⟨_, _, _, rfl, (set4_R (Kd.R_lower HO2.out hle) HZ.out (by decide) _ _ _ _), (set4_R (Kd.R_lower HV2.out hle) HZ.out (by decide) _ _ _ _), (set4_R (Kd.R_lower HH2.out hle) HZ.out (by decide) _ _ _ _)⟩, set4_below (below_step HB2.out HB4.out) (Nat.le_succ _) _ _ _ _⟩
   ·
    rw [if_neg hl] at hr
    have hN := Kd.C_max (Kd.R_reads' hO).2.2
    obtain ⟨ad, A3, c3, rfl, q0, q1, q2, q3, hr3⟩ := R_last70 hO (m.ops.length - 1) (by omega)
    rw [show ((m.ops.length - 1 : Nat) : Int) = (m.ops.length : Int) - 1 by omega] at q0 q1 q2 q3 hr3
    have hlast := ops_last hl
    generalize rd_T70 m.ops ((m.ops.length : Int) - 1) = o at q0 q1 q2 q3 hr3 hlast hr
    have hd1 : decide ((0 : Int) < (m.ops.length : Int)) = true := decide_eq_true (by omega)
    have hd2 : decide ((m.ops.length : Int) > 0) = true := decide_eq_true (by omega)
    have hd3 : (0 < m.ops.length) = True := eq_true (by omega)
    have hw1 : IntKind.i64.wrap ((m.ops.length : Int) - 1) = (m.ops.length : Int) - 1 := IntWalk.i64_in _ (by omega)
    have hp1 : ((0 : Int) ≤ (m.ops.length : Int) - 1) = True := eq_true (by omega)
    have hp2 : ((m.ops.length : Int) - 1 < (m.ops.length : Int)) = True := eq_true (by omega)
    have hp3 : ((m.ops.length : Int) - 1).toNat = m.ops.length - 1 := by omega
    have hp4 : ((1 : Int) ≤ (m.ops.length : Int)) = True := eq_true (by omega)
    have hba := below_alloc (Below.refl wr.heap.size wr) (.cells #[.int .i64 0, .string ⟨#[]⟩, .int .i64 0, .slice none 0 0] 70)
    have hm0' := pw_cell_below hba hm0
    have q0' := pw_cell_below hba q0
    have q1' := pw_cell_below hba q1
    have q2' := pw_cell_below hba q2
    have q3' := pw_cell_below hba q3
    have hnb := heap_alloc_new wr (.cells #[.int .i64 0, .string ⟨#[]⟩, .int .i64 0, .slice none 0 0] 70)
    obtain ⟨n0, n1, n2, n3⟩ := zc4 hnb
    obtain ⟨u0, u1, u2, u3⟩ := zf4 hnb
    have HNB := Aside0.mk hnb
    clear hba hnb
    have HR3' := Aside0.mk hr3
    have HLA := Aside0.mk hlast
    have HRR := Aside0.mk hr
    clear hr HR hb hg hO hV hH hr3 hlast
    go_upto_region 10 with fail
    go_region
    have hb6 : Below wr.heap.size wr (wr.alloc (.cells #[.int .i64 o.f0, .string o.f1.f0, .int .i64 o.f1.f1, .slice A3 o.f2.length c3] 70)).drew := below_drew1 (below_alloc (Below.refl _ _) _)
    have HM6 := Aside0.mk (isMc_below HM.out hb6)
    have HX6 := Aside0.mk (show (wr.alloc (.cells #[.int .i64 o.f0, .string o.f1.f0, .int .i64 o.f1.f1, .slice A3 o.f2.length c3] 70)).drew.heap[wr.heap.size]? = some (.cells #[.int .i64 o.f0, .string o.f1.f0, .int .i64 o.f1.f1, .slice A3 o.f2.length c3] 70 (0, 0)) from heap_alloc_new wr _)
    have HR6 := Aside0.mk (Kd.R_below HR3'.out hb6)
    have HB6 := Aside0.mk (below_step HB4.out hb6)
    generalize (wr.alloc (.cells #[.int .i64 o.f0, .string o.f1.f0, .int .i64 o.f1.f1, .slice A3 o.f2.length c3] 70)).drew = w6 at HM6 HX6 HR6 HB6 ⊢
    generalize wr.heap.size = bx at HX6 ⊢
    have x0 : w6.cell? ⟨bx, 0, none⟩ = some (.int .i64 o.f0) := (blk_cell HX6.out 0).trans rfl
    have x1 : w6.cell? ⟨bx, 1, none⟩ = some (.string o.f1.f0) := (blk_cell HX6.out 1).trans rfl
    have x2 : w6.cell? ⟨bx, 2, none⟩ = some (.int .i64 o.f1.f1) := (blk_cell HX6.out 2).trans rfl
    have x3 : w6.cell? ⟨bx, 3, none⟩ = some (.slice A3 o.f2.length c3) := (blk_cell HX6.out 3).trans rfl
    clear hb6 hm0 hm0' q0 q1 q2 q3 q0' q1' q2' q3' n0 n1 n2 n3 u0 u1 u2 u3 HNB HR3' HO2 HV2 HH2 HBK HM HB4 hd1 hd2 hd3 hw1 hp1 hp2 hp3 hp4 hN HZ
    have hr := HRR.out
    by_cases ho : o.f0 = 2
    ·
     rw [if_pos ho] at hr
     by_cases hlt : m.vals.length < 5864062014800
     case neg => rw [if_neg hlt] at hr; cases hr
     rw [if_pos hlt] at hr
     have HF := Aside0.mk hr
     have hb2 : (o.f0 == 2) = true := beq_iff_eq.mpr ho
     have hM6 := HM6.out
     rw [HLA.out, show m.vals = m.vals ++ [] by simp] at hM6
     have F1 : Calls Try.prog 48 #[.pointer (some ⟨g, 0, none⟩), .int .i64 0, .slice A3 o.f2.length c3] w6 (fun e w' => e = .returned (.tuple #[]) ∧ IsMc w2.heap.size w' g (.slice Ar rules.length cr) .nilIface (m.ops.take (m.ops.length - 1)) (m.vals ++ [o.f2]) m.st m.hd m.fu ∧ Below w2.heap.size w6 w') := fin_calls (args := []) hM6 HR6.out (by omega)
     clear hr HRR ho hM6
     go_wp2_with (go_at_call 48; (with_reducible refine F1.mono ?_); rintro e w7 ⟨rfl, hM7, hB7⟩; have HM7 := Aside0.mk hM7; have HB7 := Aside0.mk (below_trB HB6.out hB7); clear hM7 hB7)
     go_roundg k1
     case measure => omega
     case rel => exact ⟨⟨m.ops.take (m.ops.length - 1), m.vals ++ [o.f2], m.st, m.hd, m.fu⟩, rfl, HF, HM7, HB7⟩
    ·
     rw [if_neg ho] at hr
     by_cases hsp : 0 ≤ o.f1.f1 ∧ o.f1.f1.toNat ≤ m.vals.length ∧ (∀ v ∈ m.vals.drop (m.vals.length - o.f1.f1.toNat), v.length ≤ 64)
     case neg => rw [if_neg hsp] at hr; cases hr
     rw [if_pos hsp] at hr
     replace hr := Option.bind_eq_some_iff.mp hr
     obtain ⟨r1, hmk, hr⟩ := hr
     have hb2 : (o.f0 == 2) = false := beq_eq_false_iff_ne.mpr ho
     have hM6 := HM6.out
     rw [HLA.out, show m.vals = m.vals.take (m.vals.length - o.f1.f1.toNat) ++ m.vals.drop (m.vals.length - o.f1.f1.toNat) from (List.take_append_drop _ _).symm] at hM6
     have hal : ((m.vals.drop (m.vals.length - o.f1.f1.toNat)).length : Int) = o.f1.f1 := by rw [List.length_drop]; omega
     have F1 := make_calls (m := ⟨m.ops.take (m.ops.length - 1), m.vals.take (m.vals.length - o.f1.f1.toNat), m.st, m.hd, m.fu⟩) hM6 HR0.out HB2.out.size (below_step HB2.out HB6.out) hsp.2.2 hmk
     rw [hal] at F1
     have HR1 := Aside0.mk hr
     clear hr HRR ho hM6 hsp hmk hal
     by_cases h10 : r1.1 = 0
     ·
      have hr := HR1.out
      rw [if_pos h10] at hr
      have HF := Aside0.mk hr
      rw [h10] at F1
      clear hr HR1
      go_wp2_with (go_at_call 49; (with_reducible refine F1.mono ?_); rintro e w7 ⟨rfl, hM7, hB7⟩; have HM7 := Aside0.mk hM7; have HB7 := Aside0.mk (below_trB HB6.out hB7); clear hM7 hB7)
      go_roundg k1
      case measure => omega
      case rel => exact ⟨r1.2, rfl, HF, HM7, HB7⟩
     ·
      have hr := HR1.out
      rw [if_neg h10] at hr
      obtain rfl := Option.some.inj hr
      have hb3 : (r1.1 != 0) = true := bne_iff_ne.mpr h10
      have hle : w.heap.size ≤ w2.heap.size := HB2.out.size
      clear hr HR1 h10
      go_wp2_with (go_at_call 49; (with_reducible refine F1.mono ?_); rintro e w7 ⟨rfl, hM7, hB7⟩; have HB7 := Aside0.mk (below_trB HB6.out hB7); have HZ := Aside0.mk (blk_below HZ2.out HB7.out); obtain ⟨vo7, vv7, vh7, hb_, _, hO7, hV7, hH7⟩ := hM7; obtain ⟨Ao7, co7, rfl⟩ := Kd.R_slice hO7; obtain ⟨Av7, cv7, rfl⟩ := Kd.R_slice hV7; obtain ⟨Ah7, ch7, rfl⟩ := Kd.R_slice hH7; obtain ⟨m0, m1, m2, m3⟩ := zc4 hb_; obtain ⟨z0, z1, z2, z3, y0, y1, y2, y3⟩ := zcf HZ.out; have HO7 := Aside0.mk hO7; have HV7 := Aside0.mk hV7; have HH7 := Aside0.mk hH7; clear hb_ hO7 hV7 hH7 hB7)
      refine noGoto_ret ?_
      refine bodyPost_ret (results_ct rfl _ _ (w.heap.size + 1) 28 _ (0, 0) _ rfl (set4_blk HZ.out _ _ _ _) Try.underlying28 rfl (by kernel_rfl)) rfl ?_
      exact ⟨⟨_, _, _, rfl, (set4_R (Kd.R_lower HO7.out hle) HZ.out (by decide) _ _ _ _), (set4_R (Kd.R_lower HV7.out hle) HZ.out (by decide) _ _ _ _), (set4_R (Kd.R_lower HH7.out hle) HZ.out (by decide) _ _ _ _)⟩, set4_below (below_step HB2.out HB7.out) (Nat.le_succ _) _ _ _ _⟩
theorem run_calls {k gas cr co cv ch : Nat} {w : World} {Ar Ao Av Ah : Option Addr} {rules : List S73} {ops : List S70} {vals : List (List S54)} {st fu : Int} {hd : List ByteArray} {r : Int × Mst}
 (hR : Kd.C k73 w Ar rules.length rules) (hcr : rules.length ≤ cr) (hO : Kd.C k70 w Ao ops.length ops) (hco : ops.length ≤ co) (hV : Kd.C (Kd.slice 54 k54) w Av vals.length vals) (hcv : vals.length ≤ cv) (hH : Kd.C Kd.string w Ah hd.length hd) (hch : hd.length ≤ ch)
 (h : runF k gas rules ops vals st hd fu = some r) :
 Calls Try.prog 20 #[.slice Ar rules.length cr, .agg #[.slice Ao ops.length co, .slice Av vals.length cv, .int .i64 st, .slice Ah hd.length ch], .int .i64 fu, .nilIface] w fun e w' => RunEnd w.heap.size r e w' ∧ Below w.heap.size w w' :=
 (run_callsR hR hcr hO hco hV hcv hH hch h).mono fun e w' hh => by
  obtain ⟨⟨v0, v1, v3, he, h0, h1, h3⟩, hb⟩ := hh
  exact ⟨⟨v0, v1, v3, he, stEnd_of h0 h1 h3⟩, hb⟩

-- ==== Rw18
def normF (k gas : Nat) (rules : List S73) (t : List S54) (fu : Int) : Option (List S54 × Int × Int) :=
 (rewrite_together.f k rules).bind fun e => if e = 0 then (startF k t).bind fun s => if s.2.2.2.2 = 0 then (runF k gas rules s.1 s.2.1 s.2.2.1 s.2.2.2.1 fu).bind fun r => if r.1 = 0 then (if 0 < r.2.vals.length then some (rd_L3 r.2.vals 0, r.2.st, 0) else none) else some ([], 0, r.1) else some ([], 0, s.2.2.2.2) else some ([], 0, e)
theorem set4_N {α : Type} {d : Kd α} {e B b : Nat} {ok : Nat → Prop} {W : World} {v : Value} {xs : List α} (h : Kd.N d e W B ok v xs) (hok : ∀ k, ok k → k ≠ b) (b1 b2 b3 b4 : Value) :
 Kd.N d e ((((W.setCell ⟨b, 0, none⟩ b1).setCell ⟨b, 1, none⟩ b2).setCell ⟨b, 2, none⟩ b3).setCell ⟨b, 3, none⟩ b4) B ok v xs :=
 Kd.N_far (p := ⟨b, 3, none⟩) (Kd.N_far (p := ⟨b, 2, none⟩) (Kd.N_far (p := ⟨b, 1, none⟩) (Kd.N_far (p := ⟨b, 0, none⟩) h hok _) hok _) hok _) hok _
theorem at_F3 {W : World} {ok : Nat → Prop} {A : Option Addr} {n : Nat} {xs : List (List S54)} (h : Kd.F (Kd.slice 54 k54) W ok A n xs) (i : Int) (h0 : 0 ≤ i) (h1 : i < n) :
 ∃ ad A' c', A = some ad ∧ W.cell? (ad.add i.toNat) = some (.slice A' (rd_L3 xs i).length c') ∧ (rd_L3 xs i).length ≤ c' ∧ Kd.F k54 W ok A' (rd_L3 xs i).length (rd_L3 xs i) := by
 obtain ⟨ad, cs, rfl, hl, hK, hcc, _⟩ := Kd.F_get h [] i h0 h1
 obtain ⟨A', c', rfl, hl', hF⟩ := Kd.FK_slice_open hK
 have h2 := hcc 0 _ rfl
 rw [show i.toNat * (Kd.slice 54 k54).sz + 0 = i.toNat from Nat.mul_one _] at h2
 exact ⟨ad, A', c', rfl, h2, hl', hF⟩
theorem normal_calls {k gas cr ct : Nat} {w : World} {Ar At : Option Addr} {rules : List S73} {t : List S54} {fu : Int} {r : List S54 × Int × Int}
 (hR : Kd.C k73 w Ar rules.length rules) (hcr : rules.length ≤ cr) (hT : Kd.C k54 w At t.length t) (hct : t.length ≤ ct) (h : normF k gas rules t fu = some r) :
 Calls Try.prog 24 #[.slice Ar rules.length cr, .slice At t.length ct, .int .i64 fu] w fun e w' => ∃ (A : Option Addr) (c : Nat), e = .returned (.tuple #[.slice A r.1.length c, .int .i64 r.2.1, .int .i64 r.2.2]) ∧ r.1.length ≤ c ∧ Kd.F k54 w' (fun k_ => w.heap.size ≤ k_) A r.1.length r.1 ∧ Below w.heap.size w w' := by
 obtain ⟨e1, he1, h⟩ := Option.bind_eq_some_iff.mp h
 have HR := Aside0.mk hR
 have HT := Aside0.mk hT
 have HH0 := Aside0.mk h
 have HBW := Aside0.mk (Below.refl w.heap.size w)
 have T1 := fun (W : World) (hW : Below w.heap.size w W) => rewrite_together.calls k Ar cr rules e1 W (Kd.C_below HR.out hW) hcr he1
 clear hR hT h he1
 by_cases h1 : e1 = 0
 case neg =>
  have hr := HH0.out
  rw [if_neg h1] at hr
  obtain rfl := Option.some.inj hr
  have hb1 : (e1 != 0) = true := bne_iff_ne.mpr h1
  clear hr HH0
  go_enter Try.func24, Try.ntmps24
  go_wp2_with (go_at_call 46; (with_reducible refine (T1 _ ?side1).mono ?_); (case side1 => exact (zq HBW.out)); rintro e w1 ⟨rfl, hb⟩; have HB1 := Aside0.mk (below_step (zq HBW.out) hb); clear hb)
  refine bodyPost_ret (results_tmp3 rfl _ _ _) rfl ?_
  exact ⟨none, 0, rfl, Nat.le_refl _, Kd.F_nil _ _ _, HB1.out⟩
 subst h1
 have hr := HH0.out
 rw [if_pos rfl] at hr
 replace hr := Option.bind_eq_some_iff.mp hr
 obtain ⟨⟨a1, a2, a3, a4, a5⟩, hs, hr⟩ := hr
 have S1 := fun (W : World) (hW : Below w.heap.size w W) => start_calls k At ct t a1 a2 a3 a4 a5 W (Kd.C_below HT.out hW) hct hs
 have HR2 := Aside0.mk hr
 clear hr hs HH0
 by_cases h2 : a5 = 0
 case neg =>
  have hr := HR2.out
  rw [if_neg h2] at hr
  obtain rfl := Option.some.inj hr
  have hb1 : (a5 != 0) = true := bne_iff_ne.mpr h2
  clear hr HR2
  go_enter Try.func24, Try.ntmps24
  go_wp2_with (first | (go_at_call 46; (with_reducible refine (T1 _ ?side1).mono ?_); (case side1 => exact (zq HBW.out)); rintro e w1 ⟨rfl, hb⟩; have HB1 := Aside0.mk (below_step (zq HBW.out) hb); clear hb) | (go_at_call 12; (with_reducible refine (S1 _ ?side2).mono ?_); (case side2 => exact (zq HB1.out)); rintro e w2 ⟨v0, v1, v3, rfl, hE, hb⟩; have HE2 := Aside0.mk hE; obtain ⟨Ao, co, rfl, hco, hCo⟩ := Kd.N_reads hE.1; obtain ⟨Av, cv, rfl, hcv, hCv⟩ := Kd.N_reads hE.2.1; obtain ⟨Ah, ch, rfl⟩ := Kd.R_slice hE.2.2; have HB2 := Aside0.mk (below_step (zq HB1.out) hb); have HBV := Aside0.mk (Below.refl w2.heap.size w2); clear hb hE))
  refine bodyPost_ret (results_tmp3 rfl _ _ _) rfl ?_
  exact ⟨none, 0, rfl, Nat.le_refl _, Kd.F_nil _ _ _, (zq HB2.out)⟩
 subst h2
 have hr := HR2.out
 rw [if_pos rfl] at hr
 replace hr := Option.bind_eq_some_iff.mp hr
 obtain ⟨r1, hrun, hr⟩ := hr
 have HRUN := Aside0.mk hrun
 have HR3 := Aside0.mk hr
 clear hr hrun HR2
 by_cases h3 : r1.1 = 0
 case neg =>
  have hr := HR3.out
  rw [if_neg h3] at hr
  obtain rfl := Option.some.inj hr
  have hb1 : (r1.1 != 0) = true := bne_iff_ne.mpr h3
  clear hr HR3
  go_enter Try.func24, Try.ntmps24
  go_wp2_with (first | (go_at_call 46; (with_reducible refine (T1 _ ?side1).mono ?_); (case side1 => exact (zq HBW.out)); rintro e w1 ⟨rfl, hb⟩; have HB1 := Aside0.mk (below_step (zq HBW.out) hb); clear hb) | (go_at_call 12; (with_reducible refine (S1 _ ?side2).mono ?_); (case side2 => exact (zq HB1.out)); rintro e w2 ⟨v0, v1, v3, rfl, hE, hb⟩; have HE2 := Aside0.mk hE; obtain ⟨Ao, co, rfl, hco, hCo⟩ := Kd.N_reads hE.1; obtain ⟨Av, cv, rfl, hcv, hCv⟩ := Kd.N_reads hE.2.1; obtain ⟨Ah, ch, rfl⟩ := Kd.R_slice hE.2.2; have HB2 := Aside0.mk (below_step (zq HB1.out) hb); have HBV := Aside0.mk (Below.refl w2.heap.size w2); have R1 := fun (W : World) (hW : Below w2.heap.size w2 W) => run_calls (Kd.C_below HR.out (below_step HB2.out hW)) hcr (Kd.C_below hCo hW) hco (Kd.C_below hCv hW) hcv (Kd.C_below (Kd.R_reads' hE.2.2).2.2 hW) (Kd.R_reads' hE.2.2).2.1 HRUN.out; clear hb hE hCo hCv) | (go_at_call 20; (with_reducible refine (R1 _ ?side3).mono ?_); (case side3 => exact (zq HBV.out)); rintro e w3 ⟨⟨u0, u1, u3, rfl, hE3⟩, hb3⟩; obtain ⟨A0', c0', rfl⟩ := Kd.N_slice hE3.1; obtain ⟨A1', c1', rfl⟩ := Kd.N_slice hE3.2.1; obtain ⟨A3', c3', rfl⟩ := Kd.R_slice hE3.2.2; have HE3 := Aside0.mk hE3; have hz := (hb3.block w2.heap.size (by simp)).trans (heap_alloc_new w2 _); have HZ := Aside0.mk hz; obtain ⟨z0, z1, z2, z3, y0, y1, y2, y3⟩ := zcf hz; have HB3 := Aside0.mk (below_step (zq HB2.out) hb3); clear hz hE3 hb3))
  refine bodyPost_ret (results_tmp3 rfl _ _ _) rfl ?_
  exact ⟨none, 0, rfl, Nat.le_refl _, Kd.F_nil _ _ _, set4_below HB3.out HB2.out.size _ _ _ _⟩
 have hr := HR3.out
 rw [if_pos h3] at hr
 by_cases hv : 0 < r1.2.vals.length
 case neg => rw [if_neg hv] at hr; cases hr
 rw [if_pos hv] at hr
 obtain rfl := Option.some.inj hr
 have HVL := Aside0.mk hv
 have hv1 : (0 < r1.2.vals.length) = True := eq_true hv
 have hv2 : ((0 : Int) < (r1.2.vals.length : Int)) = True := eq_true (by omega)
 have hb1 : (r1.1 != 0) = false := by rw [h3]; rfl
 clear hr HR3 hv h3
 go_enter Try.func24, Try.ntmps24
 go_wp2_with (first | (go_at_call 46; (with_reducible refine (T1 _ ?side1).mono ?_); (case side1 => exact (zq HBW.out)); rintro e w1 ⟨rfl, hb⟩; have HB1 := Aside0.mk (below_step (zq HBW.out) hb); clear hb) | (go_at_call 12; (with_reducible refine (S1 _ ?side2).mono ?_); (case side2 => exact (zq HB1.out)); rintro e w2 ⟨v0, v1, v3, rfl, hE, hb⟩; have HE2 := Aside0.mk hE; obtain ⟨Ao, co, rfl, hco, hCo⟩ := Kd.N_reads hE.1; obtain ⟨Av, cv, rfl, hcv, hCv⟩ := Kd.N_reads hE.2.1; obtain ⟨Ah, ch, rfl⟩ := Kd.R_slice hE.2.2; have HB2 := Aside0.mk (below_step (zq HB1.out) hb); have HBV := Aside0.mk (Below.refl w2.heap.size w2); have R1 := fun (W : World) (hW : Below w2.heap.size w2 W) => run_calls (Kd.C_below HR.out (below_step HB2.out hW)) hcr (Kd.C_below hCo hW) hco (Kd.C_below hCv hW) hcv (Kd.C_below (Kd.R_reads' hE.2.2).2.2 hW) (Kd.R_reads' hE.2.2).2.1 HRUN.out; clear hb hE hCo hCv) | (go_at_call 20; (with_reducible refine (R1 _ ?side3).mono ?_); (case side3 => exact (zq HBV.out)); rintro e w3 ⟨⟨u0, u1, u3, rfl, hE3⟩, hb3⟩; obtain ⟨A0', c0', rfl⟩ := Kd.N_slice hE3.1; obtain ⟨A1', c1', rfl⟩ := Kd.N_slice hE3.2.1; obtain ⟨A3', c3', rfl⟩ := Kd.R_slice hE3.2.2; have HE3 := Aside0.mk hE3; have hz := (hb3.block w2.heap.size (by simp)).trans (heap_alloc_new w2 _); have HZ := Aside0.mk hz; obtain ⟨z0, z1, z2, z3, y0, y1, y2, y3⟩ := zcf hz; have HB3 := Aside0.mk (below_step (zq HB2.out) hb3); have hN := set4_N hE3.2.1 (b := w2.heap.size) (fun k hk => by have h_ := hk.1; simp at h_; omega) (.slice A0' r1.2.ops.length c0') (.slice A1' r1.2.vals.length c1') (.int .i64 r1.2.st) (.slice A3' r1.2.hd.length c3'); have hC4 := Kd.N_F hN; obtain ⟨ad, A5, c5, rfl, hx5, hl5, hc5⟩ := at_F3 hC4 0 (by omega) (by have := HVL.out; omega); rw [show ((0 : Int)).toNat = 0 from rfl, Addr.add_zero'] at hx5; have HL5 := Aside0.mk hl5; have HC5 := Aside0.mk hc5; clear hz hE3 hb3 hN hC4 hl5 hc5))
 have hz4 := set4_blk HZ.out (.slice A0' r1.2.ops.length c0') (.slice (some ad) r1.2.vals.length c1') (.int .i64 r1.2.st) (.slice A3' r1.2.hd.length c3')
 have HB4 := Aside0.mk (set4_below HB3.out HB2.out.size (.slice A0' r1.2.ops.length c0') (.slice (some ad) r1.2.vals.length c1') (.int .i64 r1.2.st) (.slice A3' r1.2.hd.length c3'))
 clear z0 z1 z2 z3 y0 y1 y2 y3 HE3 HZ HB3
 generalize ((((w3.setCell ⟨w2.heap.size, 0, none⟩ (.slice A0' r1.2.ops.length c0')).setCell ⟨w2.heap.size, 1, none⟩ (.slice (some ad) r1.2.vals.length c1')).setCell ⟨w2.heap.size, 2, none⟩ (.int .i64 r1.2.st)).setCell ⟨w2.heap.size, 3, none⟩ (.slice A3' r1.2.hd.length c3')) = w4 at hz4 HB4 hx5 HC5 ⊢
 have q1 : w4.cell? ⟨w2.heap.size, 1, none⟩ = some (.slice (some ad) r1.2.vals.length c1') := (blk_cell hz4 1).trans rfl
 have q2 : w4.cell? ⟨w2.heap.size, 2, none⟩ = some (.int .i64 r1.2.st) := (blk_cell hz4 2).trans rfl
 go_region
 all_goals
  go_wp2
  refine bodyPost_ret (results_tmp3 rfl _ _ _) rfl ?_
  exact ⟨A5, c5, rfl, HL5.out, Kd.F_drew (Kd.F_mono HC5.out (fun k_ hk_ => Nat.le_trans HB2.out.size (by have h_ := hk_.1; simp at h_; omega))), below_drew1 HB4.out⟩

-- ==== Rw19
theorem idxF_mono (k : Nat) : ∀ (vals : List (List S54)) (i : Int), LeO (idxF k vals i) (idxF (k + 1) vals i)
 | [], i => LeO.refl _
 | v :: u, i => by
  unfold idxF
  exact LeO.bind (rewrite_ground.mono _ _) fun b => LeO.ite (idxF_mono k u (i + 1)) (LeO.refl _)
theorem hdsF_mono (k : Nat) : ∀ (hd : List ByteArray) (p : Option ByteArray), LeO (hdsF k p hd) (hdsF (k + 1) p hd)
 | [], p => by unfold hdsF; exact LeO.refl _
 | h :: u, p => by
  unfold hdsF
  exact LeO.bind (name_Kind.mono _ _) fun c => LeO.ite (LeO.ite (hdsF_mono k u (some h)) (LeO.refl _)) (LeO.refl _)
theorem mayL_mono (k : Nat) : ∀ (ops : List S70), LeO (mayL k ops) (mayL (k + 1) ops)
 | [] => LeO.refl _
 | o :: u => by
  unfold mayL
  exact LeO.bind (rewrite_may.mono _ _ _ _ _) fun b => LeO.bind (mayL_mono k u) fun l => LeO.refl _
theorem postF_mono (k : Nat) (vals : List (List S54)) (st : Int) (hd : List ByteArray) : ∀ n, LeO (postF k vals st hd n) (postF (k + 1) vals st hd n)
 | none => LeO.refl _
 | some n => by
  unfold postF
  exact LeO.ite (LeO.ite (LeO.refl _) (LeO.bind (idxF_mono k vals 0) fun i => LeO.ite (LeO.refl _) (hdsF_mono k hd none))) (LeO.refl _)
theorem chkF_mono (k : Nat) (ops : List S70) (vals : List (List S54)) (st : Int) (hd : List ByteArray) : LeO (chkF k ops vals st hd) (chkF (k + 1) ops vals st hd) := by
 unfold chkF
 exact LeO.bind (mayL_mono k ops) fun l => postF_mono k vals st hd _
theorem headF_mono (k : Nat) : ∀ (ns hd : List ByteArray), LeO (headF k ns hd) (headF (k + 1) ns hd)
 | [], hd => LeO.refl _
 | x :: r, hd => by
  unfold headF
  exact LeO.bind (slices_BinarySearch_string_string.mono _ _ _) fun b => LeO.ite (headF_mono k r hd) (LeO.ite (headF_mono k r _) (LeO.refl _))
theorem fitsF_mono (k : Nat) (node : List S54) : ∀ (l : List S73), LeO (fitsF k node l) (fitsF (k + 1) node l)
 | [] => LeO.refl _
 | r :: u => by
  unfold fitsF
  exact LeO.ite (LeO.ite (LeO.bind (match_Match.mono _ _ _) fun m => LeO.ite (LeO.refl _) (fitsF_mono k node u)) (fitsF_mono k node u)) (LeO.refl _)
theorem todoN_mono {f g : Int → List S70 → Option (List S70 × Int)} (h : ∀ i out, LeO (f i out) (g i out)) : ∀ (n : Nat) (i : Int) (out : List S70), LeO (todoN f n i out) (todoN g n i out)
 | 0, i, out => LeO.refl _
 | n + 1, i, out => by
  unfold todoN
  exact LeO.bind (h i out) fun r => todoN_mono h n r.2 r.1
theorem todoL_mono (H : ByteArray → List S54) (t : List S54) : ∀ (k : Nat) (i : Int) (out : List S70), LeO (todoL H t k i out) (todoL H t (k + 1) i out)
 | 0, i, out => LeO.none _
 | k + 1, i, out => by
  unfold todoL
  exact LeO.ite (LeO.ite (LeO.refl _) (LeO.ite (LeO.bind (todoN_mono (todoL_mono H t k) _ _ _) fun r => LeO.refl _) (LeO.refl _))) (LeO.refl _)
theorem startF_mono (k : Nat) (t : List S54) : LeO (startF k t) (startF (k + 1) t) := by
 unfold startF
 exact LeO.bind (term_Check.mono _ _) fun e => LeO.ite (LeO.bind (rewrite_ground.mono _ _) fun g => LeO.ite (LeO.bind (todoL_mono _ t k 0 []) fun r => LeO.refl _) (LeO.refl _)) (LeO.refl _)
theorem nodeR_mono (k : Nat) (rules : List S73) (node : List S54) (nm : ByteArray) (args : List (List S54)) (m m0 : Mst) : LeO (nodeR k rules node nm args m m0) (nodeR (k + 1) rules node nm args m m0) := by
 unfold nodeR
 refine LeO.bind (fitsF_mono k node rules) fun res => ?_
 cases res with
 | none => exact LeO.bind (headF_mono k _ _) fun hd => LeO.refl _
 | some rb => exact LeO.ite (LeO.refl _) (LeO.ite (LeO.bind (headF_mono k _ _) fun hd => LeO.bind (todoL_mono _ _ k 0 []) fun r => LeO.refl _) (LeO.refl _))
theorem makeN_mono (k : Nat) (rules : List S73) (nm : ByteArray) (o : S70) (args : List (List S54)) (m : Mst) : LeO (makeN k rules nm o args m) (makeN (k + 1) rules nm o args m) := by
 unfold makeN
 exact LeO.ite (LeO.refl _) (nodeR_mono _ _ _ _ _ _ _)
theorem runL_mono (k : Nat) (rules : List S73) : ∀ (n : Nat) (m : Mst), LeO (runL k rules n m) (runL (k + 1) rules (n + 1) m)
 | 0, m => LeO.none _
 | n + 1, m => by
  rw [runL, runL]
  exact LeO.ite (LeO.refl _) (LeO.ite (LeO.ite (runL_mono k rules n _) (LeO.refl _)) (LeO.ite (LeO.bind (makeN_mono _ _ _ _ _ _) fun r => LeO.ite (runL_mono k rules n _) (LeO.refl _)) (LeO.refl _)))
theorem runF_mono (k : Nat) (rules : List S73) (ops : List S70) (vals : List (List S54)) (st : Int) (hd : List ByteArray) (fu : Int) : LeO (runF k k rules ops vals st hd fu) (runF (k + 1) (k + 1) rules ops vals st hd fu) := by
 unfold runF
 exact LeO.bind (rewrite_together.mono _ _) fun e => LeO.ite (LeO.bind (chkF_mono _ _ _ _ _) fun e => LeO.ite (LeO.bind (rewrite_clone.mono _ _ _ _ _) fun c => runL_mono _ _ _ _) (LeO.refl _)) (LeO.refl _)
theorem normF_mono (k : Nat) (rules : List S73) (t : List S54) (fu : Int) : LeO (normF k k rules t fu) (normF (k + 1) (k + 1) rules t fu) := by
 unfold normF
 exact LeO.bind (rewrite_together.mono _ _) fun e => LeO.ite (LeO.bind (startF_mono _ _) fun s => LeO.ite (LeO.bind (runF_mono _ _ _ _ _ _ _) fun r => LeO.refl _) (LeO.refl _)) (LeO.refl _)
end Go.Proofs.Ytdlkhpfgkghhmaa.P

-- ==== Le
namespace Go.Proofs.Ytdlkhpfgkghhmaa.P
open Go.RowKit Go.Proofs.YtdlkhpfgkghhmaaW.PrintWords
theorem bytesLe : ∀ (a b : List UInt8), (Op.bytesLess a b || a == b) = !Op.bytesLess b a
 | [], [] => by simp [Op.bytesLess]
 | [], b :: y => by simp [Op.bytesLess]
 | a :: x, [] => by simp [Op.bytesLess]
 | a :: x, b :: y => by
  have ih := bytesLe x y
  simp only [Op.bytesLess]
  by_cases h : a = b
  ·
   subst h
   have e : (a :: x == a :: y) = (x == y) := by simp
   rw [e]
   simp only [beq_self_eq_true, Bool.true_and]
   have hl : decide (a < a) = false := decide_eq_false (by simp)
   rw [hl, Bool.false_or, Bool.false_or]
   exact ih
  ·
   have e : (a :: x == b :: y) = false := by simp [h]
   have e1 : (a == b) = false := by simpa using h
   have e2 : (b == a) = false := by simpa using fun q => h q.symm
   rw [e, e1, e2]
   simp only [Bool.false_and, Bool.or_false]
   have hn : a.toNat ≠ b.toNat := fun q => h (UInt8.toNat_inj.1 q)
   by_cases hl : a < b
   ·
    rw [decide_eq_true hl, decide_eq_false (fun q => by have h1 := UInt8.lt_iff_toNat_lt.1 hl; have h2 := UInt8.lt_iff_toNat_lt.1 q; omega)]
    rfl
   ·
    rw [decide_eq_false hl, decide_eq_true (UInt8.lt_iff_toNat_lt.2 (by have h1 : ¬ a.toNat < b.toNat := fun q => hl (UInt8.lt_iff_toNat_lt.2 q); omega))]
    rfl
theorem run_leS (a b : ByteArray) (W : World) : Sem.run Try.prog (binOp BinOp.leq 9 (.string a) (.string b)) W = Result.ok (Value.bool (!(Op.bytesLess b.toList a.toList))) W := by
 simp only [← bytesLe]
 simp [go_sem, binOp, Op.stringOp]
end Go.Proofs.Ytdlkhpfgkghhmaa.P

-- ==== Sb1
namespace Go.Proofs.Ytdlkhpfgkghhmaa.P
open Go.RowKit Go.Proofs.YtdlkhpfgkghhmaaW.PrintWords Go.Proofs.YtdlkhpfgkghhmaaW.PrintLast Go.Proofs.YtdlkhpfgkghhmaaW.PrintMore
attribute [local go_sem] run_leS
def lt (a b : ByteArray) : Bool := Op.bytesLess a.toList b.toList
def insS (x : ByteArray) : List ByteArray → List ByteArray
 | [] => [x]
 | y :: r => if lt y x = true then y :: insS x r else if x = y then y :: r else x :: y :: r
theorem len_insS (x : ByteArray) : ∀ (l : List ByteArray), (insS x l).length ≤ l.length + 1
 | [] => by simp [insS]
 | y :: r => by
  have := len_insS x r
  unfold insS
  split
  ·
   simp; omega
  ·
   split <;> simp
end Go.Proofs.Ytdlkhpfgkghhmaa.P

-- ==== Sb2
namespace Go.Proofs.Ytdlkhpfgkghhmaa.P
open Go.RowKit Go.Proofs.YtdlkhpfgkghhmaaW.PrintWords Go.Proofs.YtdlkhpfgkghhmaaW.PrintLast Go.Proofs.YtdlkhpfgkghhmaaW.PrintMore
abbrev R6 := List S70 × List (List S54) × Int × List ByteArray × Int × Int
def oneE (k : Nat) (rules : List S73) (rest : List S70) (left : List (List S54)) (st : Int) (hd : List ByteArray) (fu : Int) (j : Int) (b : List S104) : Option R6 :=
 if 0 ≤ j ∧ j < (rules.length : Int) then (aumbryref07_Todo.f k (rd_T73 rules j).f2 b).bind fun t => if rest.length + t.length < 2513169434900 then some (rest ++ t.reverse, left, wrap64 (st + 1), hd, wrap64 (fu - 1), 0) else none else none
def oneD (k : Nat) (rules : List S73) (ops : List S70) (vals left : List (List S54)) (st : Int) (hd : List ByteArray) (fu : Int) (node : List S54) (nm : ByteArray) : Option R6 :=
 (aumbryref07_First.f k rules node).bind fun bt => if bt.1 < 0 then (if left.length < 5864062014804 then some (ops.take (ops.length - 1), left ++ [node], st, insS nm hd, fu, 0) else none) else if fu ≤ 0 then some (ops, vals, st, hd, fu, 14) else oneE k rules (ops.take (ops.length - 1)) left st (insS nm hd) fu bt.1 bt.2
def oneC (k : Nat) (rules : List S73) (ops : List S70) (vals : List (List S54)) (st : Int) (hd : List ByteArray) (fu : Int) (c : S54) (n : Nat) (node : List S54) : Option R6 :=
 if 0 ≤ c.f1 ∧ c.f1 ≤ (vals.length : Int) ∧ node.length < 5864062014804 then (if (node.length : Int) > 64 then some (ops, vals, st, hd, fu, 6) else (aumbryref04_CopyAll.f k (vals.take n)).bind fun left => oneD k rules ops vals left st hd fu node c.f0) else none
def oneB (k : Nat) (rules : List S73) (ops : List S70) (vals : List (List S54)) (st : Int) (hd : List ByteArray) (fu : Int) (o : S70) : Option R6 :=
 if o.f0 = 2 then (aumbryref04_CopyAll.f k vals).bind fun t => if t.length < 5864062014804 then some (ops.take (ops.length - 1), t ++ [o.f2], st, hd, fu, 0) else none
 else oneC k rules ops vals st hd fu o.f1 (vals.length - o.f1.f1.toNat) (o.f1 :: (vals.drop (vals.length - o.f1.f1.toNat)).flatten)
def oneF (k : Nat) (rules : List S73) (ops : List S70) (vals : List (List S54)) (st : Int) (hd : List ByteArray) (fu : Int) : Option R6 :=
 if 0 < ops.length ∧ vals.length < 5864062014804 ∧ hd.length < 8796093022200 then oneB k rules ops vals st hd fu (rd_T70 ops ((ops.length : Int) - 1)) else none
theorem below_sz {W0 W W2 : World} (h : Below W0.heap.size W0 W) (_ : Below W.heap.size W W2) : W0.heap.size ≤ W.heap.size := h.size
end Go.Proofs.Ytdlkhpfgkghhmaa.P

-- ==== PF18
namespace Go.Proofs.Ytdlkhpfgkghhmaa.P
open Go.RowKit Go.Proofs.YtdlkhpfgkghhmaaW.PrintWords Go.Proofs.YtdlkhpfgkghhmaaW.PrintLast Go.Proofs.YtdlkhpfgkghhmaaW.PrintMore
attribute [local go_sem] max2_int min2_int max_two min_two max_three min_three max_four min_four

mutual
def aumbryref07_Right.l0 : Nat → Int → Int → List (S70) → List (List (S54)) → Int → List ByteArray → Option (Bool)
 | 0, _, _, _, _, _, _ => none
 | k + 1, x3, x4, x102000, x102001, x102002, x102003 => if x4 ≥ 0 then (if 0 ≤ x4 then (if x4 < (x102000.length : Int) then (if ((rd_T70 x102000 x4).f0) = 1 then (if (((rd_T70 x102000 x4).f2).length : Int) > 0 then (some false) else ((aumbryref03_Kind.f k ((rd_T70 x102000 x4).f1.f0)).bind fun t104 => (if t104 = 1 then (if ((rd_T70 x102000 x4).f1.f1) < 0 then (some false) else (if ((rd_T70 x102000 x4).f1.f1) > 4 then (some false) else (if ((rd_T70 x102000 x4).f1.f1) > x3 then (some false) else (aumbryref07_Right.l0 k (wrap64 ((wrap64 (x3 - ((rd_T70 x102000 x4).f1.f1))) + 1)) (wrap64 (x4 - 1)) x102000 x102001 x102002 x102003)))) else (some false)))) else (if ((rd_T70 x102000 x4).f0) = 2 then (if ((rd_T70 x102000 x4).f1.f0).toList = ([] : List UInt8) then (if ((rd_T70 x102000 x4).f1.f1) = 0 then ((aumbryref07_Ground.f k ((rd_T70 x102000 x4).f2)).bind fun t105 => (if t105 = true then (aumbryref07_Right.l0 k (wrap64 (x3 + 1)) (wrap64 (x4 - 1)) x102000 x102001 x102002 x102003) else (some false))) else (some false)) else (some false)) else (some false))) else (none)) else (none)) else (aumbryref07_Right.l1 k x3 (x102001.length : Int) 0 x102000 x102001 x102002 x102003)
def aumbryref07_Right.l1 : Nat → Int → Int → Int → List (S70) → List (List (S54)) → Int → List ByteArray → Option (Bool)
 | 0, _, _, _, _, _, _, _ => none
 | k + 1, x3, x86, x87, x102000, x102001, x102002, x102003 => if x87 < x86 then (if 0 ≤ x87 then (if x87 < (x102001.length : Int) then ((aumbryref07_Ground.f k (rd_L3 x102001 x87)).bind fun t107 => (if t107 = true then (aumbryref07_Right.l1 k x3 x86 (wrap64 (x87 + 1)) x102000 x102001 x102002 x102003) else (some false))) else (none)) else (none)) else (aumbryref07_Right.l2 k x3 (x102003.length : Int) 0 x102000 x102001 x102002 x102003)
def aumbryref07_Right.l2 : Nat → Int → Int → Int → List (S70) → List (List (S54)) → Int → List ByteArray → Option (Bool)
 | 0, _, _, _, _, _, _, _ => none
 | k + 1, x3, x100, x101, x102000, x102001, x102002, x102003 => if x101 < x100 then (if 0 ≤ x101 then (if x101 < (x102003.length : Int) then ((aumbryref03_Kind.f k (rdOf ByteArray.empty x102003 x101)).bind fun t109 => (if t109 = 1 then (if x101 > 0 then (if 0 ≤ (wrap64 (x101 - 1)) then (if (wrap64 (x101 - 1)) < (x102003.length : Int) then (if ((Op.bytesLess ((rdOf ByteArray.empty x102003 (wrap64 (x101 - 1))).toList) ((rdOf ByteArray.empty x102003 x101).toList)) = true) then (aumbryref07_Right.l2 k x3 x100 (wrap64 (x101 + 1)) x102000 x102001 x102002 x102003) else (some false)) else (none)) else (none)) else (aumbryref07_Right.l2 k x3 x100 (wrap64 (x101 + 1)) x102000 x102001 x102002 x102003)) else (some false))) else (none)) else (none)) else (if x3 = 1 then (some (decide (x102002 ≥ 0))) else (some false))
end
def aumbryref07_Right.f (k : Nat) (l0_0 : List (S70)) (l0_1 : List (List (S54))) (a0_2 : Int) (l0_3 : List ByteArray) : Option (Bool) := aumbryref07_Right.l0 k (l0_1.length : Int) (wrap64 ((l0_0.length : Int) - 1)) l0_0 l0_1 a0_2 l0_3

-- ==== PF20

def rewrite_Run.f (k : Nat) (l0 : List (S73)) (l1_0 : List (S70)) (l1_1 : List (List (S54))) (a1_2 : Int) (l1_3 : List (ByteArray)) (a2 : Int) : Option ((List (S70)) × (List (List (S54))) × Int × (List (ByteArray)) × Int) := (runF k k l0 l1_0 l1_1 a1_2 l1_3 a2).bind fun r => some (r.2.ops, r.2.vals, r.2.st, r.2.hd, r.1)

-- ==== PF12

def rewrite_Start.f (k : Nat) (l0 : List (S54)) : Option ((List (S70)) × (List (List (S54))) × Int × (List (ByteArray)) × Int) := startF k l0
theorem rewrite_Start.mono : ∀ a0 k, LeO (rewrite_Start.f k a0) (rewrite_Start.f (k + 1) a0) := fun a0 k => startF_mono k a0
theorem rewrite_Start.calls (k : Nat) (A0 : Option Addr) (c0 : Nat) (l0 : List (S54)) (r1 : List (S70)) (r2 : List (List (S54))) (r3 : Int) (r4 : List (ByteArray)) (r5 : Int) (w : World) (hr0 : Kd.C k54 w A0 l0.length l0) (hc0 : l0.length ≤ c0) (h : rewrite_Start.f k l0 = some (r1, r2, r3, r4, r5)) :
 Calls Try.prog 12 #[.slice A0 l0.length c0] w fun e w' => ∃ v0_ v1_ v3_ : Value, e = .returned (.tuple #[.agg #[v0_, v1_, .int .i64 r3, v3_], .int .i64 r5]) ∧ Kd.N k70 70 w' w.heap.size (fun k_ => (w.heap.size ≤ k_) ∧ some k_ ≠ (v1_ : Value).ownBlock ∧ some k_ ≠ (v3_ : Value).ownBlock) v0_ r1 ∧ Kd.N (Kd.slice 54 k54) 23 w' w.heap.size (fun k_ => (w.heap.size ≤ k_) ∧ some k_ ≠ (v0_ : Value).ownBlock ∧ some k_ ≠ (v3_ : Value).ownBlock) v1_ r2 ∧ Kd.R Kd.string 9 w' w.heap.size (fun k_ => (w.heap.size ≤ k_)) v3_ r4 ∧ Below w.heap.size w w' := by
 refine (start_calls k A0 c0 l0 r1 r2 r3 r4 r5 w hr0 hc0 h).mono ?_
 rintro e w' ⟨v0, v1, v3, he, ⟨h0, h1, h2⟩, hb⟩
 exact ⟨v0, v1, v3, he, h0, h1, h2, hb⟩



-- ==== PF24

def rewrite_Normal.f (k : Nat) (l0 : List (S73)) (l1 : List (S54)) (a2 : Int) : Option ((List (S54)) × Int × Int) := normF k k l0 l1 a2
theorem rewrite_Normal.mono : ∀ a0 a1 a2 k, LeO (rewrite_Normal.f k a0 a1 a2) (rewrite_Normal.f (k + 1) a0 a1 a2) := fun a0 a1 a2 k => normF_mono k a0 a1 a2
theorem rewrite_Normal.calls (k : Nat) (A0 : Option Addr) (c0 : Nat) (l0 : List (S73)) (A1 : Option Addr) (c1 : Nat) (l1 : List (S54)) (a2 : Int) (r1 : List (S54)) (r2 : Int) (r3 : Int) (w : World) (hr0 : Kd.C k73 w A0 l0.length l0) (hc0 : l0.length ≤ c0) (hr1 : Kd.C k54 w A1 l1.length l1) (hc1 : l1.length ≤ c1) (h : rewrite_Normal.f k l0 l1 a2 = some (r1, r2, r3)) :
 Calls Try.prog 24 #[.slice A0 l0.length c0, .slice A1 l1.length c1, .int .i64 a2] w fun e w' => ∃ v0_ : Value, e = .returned (.tuple #[v0_, .int .i64 r2, .int .i64 r3]) ∧ Kd.V k54 54 w' w.heap.size (fun k_ => (w.heap.size ≤ k_)) v0_ r1 ∧ Below w.heap.size w w' := by
 refine (normal_calls hr0 hc0 hr1 hc1 h).mono ?_
 rintro e w' ⟨A, c, he, hl, hF, hb⟩
 exact ⟨_, he, Kd.V_mk hl hF, hb⟩


end Go.Proofs.Ytdlkhpfgkghhmaa.P
