/- TermBack: the law answers true at every input that the given row speaks of. Conditions: those of the given row, none besides. (Part 2 of 3; written by programs of this session, which drive the kit's print, and by hand.) -/
import Derived.Lib.Builder
import Derived.Lib.OthersKept
import Derived.Lib.BufferKept
import Derived.Lib.UnsafeStr
import Derived.Lib.AppendStr
import Derived.Lib.Walk
import Derived.Lib.Slices
import Derived.Lib.Strings
import Derived.Laws.Externs
import Derived.RegionTactic
import Derived.ChangeAlike
import Derived.Test.YtcmnpjgmpgjbdaaRows
import Derived.Test.YtcmnpjgmpgjbdaaZTermBackWWords
import Derived.Deep.Slices
import Derived.SizedLaws
import Derived.ChangeSame
import Derived.ChangeArms
import Derived.KernelRfl
import Derived.Test.YtcmnpjgmpgjbdaaZTermBack0
-- ==== PF17
namespace Go.Proofs.Ytcmnpjgmpgjbdaa.P
open Go.RowKit Go.Proofs.YtcmnpjgmpgjbdaaW.PrintWords Go.Proofs.YtcmnpjgmpgjbdaaW.PrintLast Go.Proofs.YtcmnpjgmpgjbdaaW.PrintMore
attribute [local go_sem] max2_int min2_int max_two min_two max_three min_three max_four min_four   -- for this text's walks alone
set_option linter.unusedVariables false
set_option linter.unusedSimpArgs false

/-! ### term_Print: function 17 -/
/-! ### the builder: its calls -/
theorem bd_info : ∃ j, Try.prog.info? 77 = some j ∧ j.size = 2 := by
  have h : (Try.prog.info? 77).map (·.size) = some 2 := by kernel_rfl
  exact Option.map_eq_some_iff.1 h
theorem bd_lies : liesAt Try.prog Try.prog.depth 77 (2 / Try.prog.cellsOf 77) 0 77 1 = true := by kernel_rfl
set_option maxHeartbeats 1000000 in
set_option maxRecDepth 100000 in
theorem bd_used (b : Nat) (w : World) (h0 : w.cell? ⟨b, 0, none⟩ = some (.pointer (some ⟨b, 0, none⟩))) :
    Calls Try.prog 55 #[.pointer (some ⟨b, 0, none⟩)] w fun e w' => e = .returned (.tuple #[]) ∧ w' = w := by
  obtain ⟨j, hj, hjs⟩ := bd_info
  go_enter Try.func55, Try.ntmps55
  go_wp2
  rw [Lib.run_neq_ptr_same w _ Try.underlying74 hj]
  go_wp2
  go_end0
  exact ⟨rfl, rfl⟩
set_option maxHeartbeats 1000000 in
set_option maxRecDepth 100000 in
theorem bd_fresh (b : Nat) (w : World) (h0 : w.cell? ⟨b, 0, none⟩ = some (.pointer none)) (hsh : w.shape? b = some (77, 2)) (hfz : w.frozen? ⟨b, 0, none⟩ = false) :
    Calls Try.prog 55 #[.pointer (some ⟨b, 0, none⟩)] w fun e w' => e = .returned (.tuple #[]) ∧ w' = w.setCell ⟨b, 0, none⟩ (.pointer (some ⟨b, 0, none⟩)) := by
  obtain ⟨j, hj, hjs⟩ := bd_info
  go_enter Try.func55, Try.ntmps55
  go_wp2
  rw [Lib.run_to_unsafe w ⟨b, 0, none⟩ Try.underlying74 Try.underlying95 hj (by rw [hjs]; decide) hsh (Nat.zero_lt_succ 1)]
  simp only [Result.andThen]
  rw [Oper.upon_value]
  go_wp2
  rw [run_callFunc_extern Try.func56 (by kernel_rfl) (by kernel_rfl) (by kernel_rfl) (e := Extern.AbiNoEscape.same) (by kernel_rfl)]
  rw [Lib.run_noEscape]
  simp only [Result.andThen]
  rw [Oper.upon_value]
  go_wp2
  rw [Lib.run_from_unsafe w ⟨b, 0, none⟩ Try.underlying95 Try.underlying74 hj hsh bd_lies]
  simp only [Result.andThen]
  rw [Oper.upon_value]
  go_wp2
  go_end0
  exact ⟨rfl, rfl⟩
abbrev IsBd (B b : Nat) (l : List UInt8) (w : World) : Prop := Lib.IsBuilder 77 5 B b (Lib.byteCells l) w
theorem bd_check (B b : Nat) (bs : List Value) (w : World) (h : Lib.IsBuilder 77 5 B b bs w) :
    Calls Try.prog 55 #[.pointer (some ⟨b, 0, none⟩)] w fun e w' => e = .returned (.tuple #[]) ∧ Lib.BuilderAt 77 5 B b (.pointer (some ⟨b, 0, none⟩)) bs w' ∧ Below B w w' ∧ Lib.OthersKept 5 (some b) w w' := by
  rcases h with h | h
  · refine (bd_fresh b w h.cell0 h.shape h.frozen0).mono ?_
    rintro e w' ⟨rfl, rfl⟩
    exact ⟨rfl, h.used _, (Below.refl B w).setCell (p := ⟨b, 0, none⟩) h.1 _, (Lib.OthersKept.refl _ _ w).setCell ⟨b, 0, none⟩ rfl _⟩
  · refine (bd_used b w h.cell0).mono ?_
    rintro e w' ⟨rfl, rfl⟩
    exact ⟨rfl, h, Below.refl B _, Lib.OthersKept.refl _ _ _⟩
theorem bd_byte : ∃ i, Try.prog.info? 5 = some i ∧ i.zero = some (.int .u8 0) ∧ i.size = 1 ∧ i.bytes = 1 := by
  have h : (Try.prog.info? 5).map (fun i => (i.zero, i.size, i.bytes)) = some (some (.int .u8 0), 1, 1) := by kernel_rfl
  obtain ⟨i, hi, hz⟩ := Option.map_eq_some_iff.1 h
  simp only [Prod.mk.injEq] at hz
  exact ⟨i, hi, hz.1, hz.2.1, hz.2.2⟩
theorem bd_put {B b : Nat} {p v v' : Value} {bs' : List Value} {W : World} (hB : B ≤ b) (hb : W.heap[b]? = some (.cells #[p, v] 77 (0, 0))) (ho : W.ownsRow B 5 1 v' bs'.length bs') : Lib.BuilderAt 77 5 B b p bs' (W.setCell ⟨b, 1, none⟩ v') :=
  Lib.BuilderAt.put (T := 77) (e := 5) hB hb (bs' := bs') ho (by decide)
set_option maxHeartbeats 2000000 in
set_option maxRecDepth 100000 in
theorem bd_string (B b : Nat) (bs : List Value) (s : ByteArray) (w : World) (h : Lib.IsBuilder 77 5 B b bs w) (hB0 : B ≤ w.heap.size) (hl : bs.length + s.size ≤ 4096) :
    Calls Try.prog 51 #[.pointer (some ⟨b, 0, none⟩), .string s] w fun e w' => e = .returned (.tuple #[.int .i64 s.size, .nilIface]) ∧ Lib.IsBuilder 77 5 B b (bs ++ Lib.strCells s) w' ∧ Below B w w' ∧ Lib.OthersKept 5 (some b) w w' := by
  obtain ⟨i0, hi, hz0, hz1, hz2⟩ := bd_byte
  go_enter Try.func51, Try.ntmps51
  go_wp2_with (go_at_call 55; refine (bd_check B b bs _ h).mono ?_)
  rintro e w1 ⟨rfl, h1, hb1, hk1⟩
  obtain ⟨hB, v, hbk, hown, hne⟩ := h1
  have c0 : w1.cell? ⟨b, 0, none⟩ = some (.pointer (some ⟨b, 0, none⟩)) := by rw [Lib.cell_of_heap hbk]; rfl
  have c1 : w1.cell? ⟨b, 1, none⟩ = some v := by rw [Lib.cell_of_heap hbk]; rfl
  go_wp2_with (at_builtin; refine Lib.wpList_append_own_string _ rfl _ _ 75 9 rfl B 5 i0 Try.underlying75 Try.underlying9 hi hz0 hz1 hz2 _ _ _ rfl hown s rfl ?c4 ?c5 ?c6 ?_)
  case c4 => simp only [maxLen]; omega
  case c5 => omega
  case c6 => have := hb1.size; omega
  intro v' w2 hown' hgrow _
  have hlt : b < w1.heap.size := blk_lt hbk
  have hb2 : w2.heap[b]? = some (.cells #[.pointer (some ⟨b, 0, none⟩), v] 77 (0, 0)) := by
    rw [hgrow.block b hlt (fun e => hne e.symm)]
    exact hbk
  have d0 : w2.cell? ⟨b, 0, none⟩ = some (.pointer (some ⟨b, 0, none⟩)) := by rw [Lib.cell_of_heap hb2]; rfl
  have d1 : w2.cell? ⟨b, 1, none⟩ = some v := by rw [Lib.cell_of_heap hb2]; rfl
  have f1 : w2.frozen? ⟨b, 1, none⟩ = false := Lib.frozen_of_heap hb2 1
  obtain ⟨ao, n', cap, rfl⟩ : ∃ ao n' cap, v' = .slice ao n' cap := by
    rcases hown'.2 with ⟨hv, _⟩ | ⟨g, cap, cur, hv, _⟩
    · exact ⟨_, _, _, hv⟩
    · exact ⟨_, _, _, hv⟩
  go_wp2
  go_ret2
  refine ⟨rfl, .inr (bd_put hB hb2 (bs' := bs ++ Lib.strCells s) (by simpa [Lib.strCells_length] using hown')), ?_, (hk1.grown hgrow (Lib.ownsRowF_kind (World.ownsRowF_of hown))).setCell ⟨b, 1, none⟩ rfl _⟩
  exact (hb1.grown hgrow (by have := hb1.size; omega) (fun k hk => (hown.lt k hk).1)).setCell (p := ⟨b, 1, none⟩) hB _
set_option maxHeartbeats 2000000 in
set_option maxRecDepth 100000 in
theorem bd_write (B b : Nat) (bs : List Value) (c : Int) (w : World) (h : Lib.IsBuilder 77 5 B b bs w) (hB0 : B ≤ w.heap.size) (hl : bs.length + 1 ≤ 4096) :
    Calls Try.prog 52 #[.pointer (some ⟨b, 0, none⟩), .int .u8 c] w fun e w' => e = .returned .nilIface ∧ Lib.IsBuilder 77 5 B b (bs ++ [.int .u8 c]) w' ∧ Below B w w' ∧ Lib.OthersKept 5 (some b) w w' := by
  obtain ⟨i0, hi, hz0, hz1, hz2⟩ := bd_byte
  go_enter Try.func52, Try.ntmps52
  go_wp2_with (go_at_call 55; refine (bd_check B b bs _ h).mono ?_)
  rintro e w1 ⟨rfl, h1, hb1, hk1⟩
  obtain ⟨hB, v, hbk, hown, hne⟩ := h1
  have c0 : w1.cell? ⟨b, 0, none⟩ = some (.pointer (some ⟨b, 0, none⟩)) := by rw [Lib.cell_of_heap hbk]; rfl
  have c1 : w1.cell? ⟨b, 1, none⟩ = some v := by rw [Lib.cell_of_heap hbk]; rfl
  go_wp2_with (at_builtin; refine wpList_append_own _ rfl _ _ 75 rfl B 5 i0 (.int .u8 0) 1 1 Try.underlying75 hi hz0 hz1 hz2 rfl (by decide) _ _ _ rfl (hown.alloc _) ⟨w1.heap.size, 0, none⟩ 1 1 [.int .u8 c] rfl rfl ?c1 ?c2 ?c3 ?c4 ?c5 ?_)
  case c1 =>
    intro j u hj
    match j, hj with
    | 0, hj => simp at hj; subst hj; simp [Addr.add]
  case c2 => intro u hu; simp at hu; subst hu; rfl
  case c3 => unfold maxLen; omega
  case c4 => omega
  case c5 => have := hb1.size; simp; omega
  intro v' w2 hown' hgrow _
  have hlt : b < w1.heap.size := blk_lt hbk
  have hb2 : w2.heap[b]? = some (.cells #[.pointer (some ⟨b, 0, none⟩), v] 77 (0, 0)) := by
    rw [hgrow.block b (by simp; omega) (fun e => hne e.symm), Lib.alloc_old w1 _ b hlt]
    exact hbk
  have d0 : w2.cell? ⟨b, 0, none⟩ = some (.pointer (some ⟨b, 0, none⟩)) := by rw [Lib.cell_of_heap hb2]; rfl
  have d1 : w2.cell? ⟨b, 1, none⟩ = some v := by rw [Lib.cell_of_heap hb2]; rfl
  have f1 : w2.frozen? ⟨b, 1, none⟩ = false := Lib.frozen_of_heap hb2 1
  obtain ⟨g, cap, rfl⟩ : ∃ g cap, v' = .slice (some ⟨g, 0, none⟩) (bs.length + 1) cap := by
    rcases hown'.2 with ⟨_, h0⟩ | ⟨g, cap, cur, hv, _⟩
    · omega
    · exact ⟨g, cap, hv⟩
  go_wp2
  go_ret
  refine ⟨rfl, .inr (bd_put hB hb2 (bs' := bs ++ [.int .u8 c]) (by simpa using hown')), ?_, ((hk1.alloc _).grown hgrow (Lib.ownsRowF_kind (World.ownsRowF_of (hown.alloc _)))).setCell ⟨b, 1, none⟩ rfl _⟩
  exact ((hb1.alloc (by have := hb1.size; omega) _).grown hgrow (by have := hb1.size; simp; omega) (fun k hk => (hown.lt k hk).1)).setCell (p := ⟨b, 1, none⟩) hB _
set_option maxHeartbeats 2000000 in
set_option maxRecDepth 100000 in
/-- What has been written, as a string. -/
theorem bd_done (B b : Nat) (l : List UInt8) (w : World) (h : Lib.IsBuilder 77 5 B b (Lib.byteCells l) w) (h0 : l ≠ []) (hlen : l.length ≤ 4096) :
    Calls Try.prog 41 #[.pointer (some ⟨b, 0, none⟩)] w fun e w' => e = .returned (.string ⟨l.toArray⟩) ∧ Below B w w' := by
  obtain ⟨p, hB, v, hbk, hown, hne⟩ : ∃ p, Lib.BuilderAt 77 5 B b p (Lib.byteCells l) w := by
    rcases h with h | h
    · exact ⟨_, h⟩
    · exact ⟨_, h⟩
  have hl0 : l.length ≠ 0 := by simpa using h0
  rw [Lib.byteCells_length] at hown
  obtain ⟨g, cap, cur, rfl, hbg, hg, hnc, hcm, hcs, htake⟩ : ∃ g cap cur, v = .slice (some ⟨g, 0, none⟩) l.length cap ∧ B ≤ g ∧ w.heap[g]? = some (.cells cur 5 (0, 0)) ∧ l.length ≤ cap ∧ cap ≤ maxLen ∧ cur.size = cap * 1 ∧ cur.toList.take (l.length * 1) = Lib.byteCells l := by
    rcases hown.2 with ⟨_, hz⟩ | ⟨g, cap, cur, hv, r⟩
    · exact absurd hz hl0
    · exact ⟨g, cap, cur, hv, r⟩
  have c1 : w.drew.cell? ⟨b, 1, none⟩ = some (.slice (some ⟨g, 0, none⟩) l.length cap) := by
    have : w.drew.heap[b]? = some (.cells #[p, .slice (some ⟨g, 0, none⟩) l.length cap] 77 (0, 0)) := hbk
    rw [Lib.cell_of_heap this]; rfl
  have hSD : (Builtin.unsafeSliceData_ #[75] 92 #[.slice (some ⟨g, 0, none⟩) l.length cap]).run Try.prog w.drew = .ok (.pointer (some ⟨g, 0, none⟩)) w.drew :=
    Lib.run_unsafeSliceData_row _ _ _ _ _ _ (by omega)
  have hUS : (Builtin.unsafeString_ #[92, 3] 9 #[.pointer (some ⟨g, 0, none⟩), .int .i64 l.length]).run Try.prog w.drew = .ok (.string ⟨l.toArray⟩) (w.drew.freeze ⟨g, 0, none⟩ l.length) := by
    refine Lib.run_unsafeString_row w.drew 92 3 9 5 Try.underlying92 (by kernel_rfl) g cur.size (by have hg' : w.drew.heap[g]? = some (.cells cur 5 (0, 0)) := hg; simp [World.shape?, hg']) l h0 (by omega) (by omega) ?_
    intro j x hx
    have := hown.cells (g := g) rfl j (.int .u8 x.toNat) (by simp [Lib.byteCells, hx])
    exact this
  go_enter Try.func41, Try.ntmps41
  go_wp2
  go_region
  all_goals (go_wp2; go_ret; exact ⟨rfl, Lib.below_freeze (Below.drew (Below.refl B w)) (p := ⟨g, 0, none⟩) hbg _⟩)
/-! ### write: what it writes, and where it ends -/
mutual
def wrT : Nat → List (S50) → Int → List UInt8 → Option (List UInt8 × Int)
  | 0, _, _, _ => none
  | k + 1, t, i, l => if 0 ≤ i then (if i < (t.length : Int) then (if l.length + (rd_T50 t i).f0.size ≤ 4000 then
      ((wrL k t (rd_T50 t i).f1 0 (wrap64 (i + 1)) (l ++ (rd_T50 t i).f0.data.toList)).bind fun x =>
        if (rd_T50 t i).f1 > 0 then (if x.1.length + 1 ≤ 4000 then some (x.1 ++ [41], x.2) else none) else some x) else none) else none) else none
def wrL : Nat → List (S50) → Int → Int → Int → List UInt8 → Option (List UInt8 × Int)
  | 0, _, _, _, _, _ => none
  | k + 1, t, a, n, i, l => if n < a then (if n < 4 then (if l.length + 1 ≤ 4000 then ((wrT k t i (l ++ [if n = 0 then 40 else 44])).bind fun x => wrL k t a (wrap64 (n + 1)) x.2 x.1) else none) else none) else some (l, i)
end
def WrC (k : Nat) : Prop := ∀ (b : Nat) (t : List (S50)) (A : Option Addr) (c : Nat) (i : Int) (l : List UInt8) (r : List UInt8 × Int) (w0 w : World), Kd.C k50 w0 A t.length t → Below w0.heap.size w0 w → IsBd w0.heap.size b l w → wrT k t i l = some r →
  Calls Try.prog 40 #[.pointer (some ⟨b, 0, none⟩), .slice A t.length c, .int .i64 i] w fun e w' => e = .returned (.int .i64 r.2) ∧ IsBd w0.heap.size b r.1 w' ∧ Below w0.heap.size w w' ∧ Lib.OthersKept 5 (some b) w w'
theorem bd_alloc {B b : Nat} {l : List UInt8} {w : World} (h : IsBd B b l w) (o : Obj) : IsBd B b l (w.alloc o) := by
  have one : ∀ p, Lib.BuilderAt 77 5 B b p (Lib.byteCells l) w → Lib.BuilderAt 77 5 B b p (Lib.byteCells l) (w.alloc o) := fun p h => by
    obtain ⟨hB, v, hb, ho, hne⟩ := h
    exact ⟨hB, v, (Below.heap_alloc w o b (blk_lt hb)).trans hb, ho.alloc o, hne⟩
  exact h.elim (fun h => .inl (one _ h)) (fun h => .inr (one _ h))
theorem bd_len (l : List UInt8) : (Lib.byteCells l).length = l.length := Lib.byteCells_length l
theorem bd_lt {B b : Nat} {l : List UInt8} {w : World} (h : IsBd B b l w) : b < w.heap.size := h.elim (fun h => h.lt) (fun h => h.lt)
theorem bd_one {B b : Nat} {l : List UInt8} {x : UInt8} {w : World} (h : Lib.IsBuilder 77 5 B b (Lib.byteCells l ++ [.int .u8 x.toNat]) w) : IsBd B b (l ++ [x]) w := by
  unfold IsBd
  rw [Lib.byteCells_append]
  exact h
theorem bd_str {B b : Nat} {l : List UInt8} {s : ByteArray} {w : World} (h : Lib.IsBuilder 77 5 B b (Lib.byteCells l ++ Lib.strCells s) w) : IsBd B b (l ++ s.data.toList) w := by
  unfold IsBd
  rw [Lib.byteCells_append]
  exact h
theorem wr_kept {b : Nat} {w w1 : World} {o : Obj} (h : Lib.OthersKept 5 (some b) (w.alloc o) w1) : Lib.OthersKept 5 (some b) w w1 := ((Lib.OthersKept.refl _ _ w).alloc o).trans h
theorem bd_tr {B : Nat} {w w1 w2 : World} (h : Below B w w1) (k : Below B w1 w2) : Below B w w2 :=
  ⟨k.os.trans h.os, k.tape.trans h.tape, k.output.trans h.output, Nat.le_trans h.size k.size, fun i hi => (k.block i hi).trans (h.block i hi)⟩
set_option maxHeartbeats 4000000 in
set_option maxRecDepth 100000 in
theorem wr_step (k : Nat) (ih : ∀ k', k' < k → WrC k') : WrC k := by
  intro b t A c i l r w0 w hC hB hI h
  cases k with
  | zero => simp [wrT] at h
  | succ k =>
    have HI0 := Aside0.mk hI
    have HB0 := Aside0.mk (Below.refl w0.heap.size w)
    have HBW := Aside0.mk hB
    have HC := Aside0.mk hC
    simp only [wrT] at h
    by_cases c1 : 0 ≤ i
    · rw [if_pos c1] at h
      by_cases c2 : i < (t.length : Int)
      · rw [if_pos c2] at h
        split at h
        · next c3 =>
          obtain ⟨x, hx, h⟩ := Option.bind_eq_some_iff.mp h
          obtain ⟨ad, rfl, hz1, hz2⟩ := at_T50 (Kd.C_below hC hB) i c1 c2
          have HX := Aside0.mk hx
          have H := Aside0.mk h
          have HI := Aside0.mk hI
          clear hx h hC hI
          have p4 := eq_true c1
          have q4 := eq_true c2
          have W1 := fun (W : World) (h : IsBd w0.heap.size b l W) (hs : w0.heap.size ≤ W.heap.size) => bd_string w0.heap.size b (Lib.byteCells l) (rd_T50 t i).f0 W h hs (by rw [bd_len]; omega)
          clear c1 c2
          have hbn : some w.heap.size ≠ some b := by have := bd_lt HI.out; intro e_; injection e_ with e_; omega
          go_enter Try.func40, Try.ntmps40
          go_wp2_with (first | (go_at_call 51; (refine (W1 _ ?side1 ?side2).mono ?_); (case side1 => exact (by repeat (first | exact HI0.out | apply bd_alloc | apply bd_drewN | apply bd_drew))); (case side2 => have := HBW.out.size; simp; omega); rintro e w1 ⟨rfl, hI1, hB1, hk1⟩; have hcb := hk1 w.heap.size _ (heap_alloc_new w _) hbn (by intro c_ fz_ h_; cases h_); have hz1c := (blk_cell hcb 1).trans rfl; have HCB := Aside0.mk hcb; have HI1 := Aside0.mk (bd_str hI1); have HB1 : Aside0 (Below w0.heap.size w w1) := ⟨bd_tr (HB0.out.alloc hB.size _) hB1⟩; have HK1 := Aside0.mk (wr_kept hk1); clear hI1 hB1 hk1 hcb))
          repeat (go_quiet (first | (go_at_call 51; (refine (W1 _ ?side1 ?side2).mono ?_); (case side1 => exact (by repeat (first | exact HI0.out | apply bd_alloc | apply bd_drewN | apply bd_drew))); (case side2 => have := HBW.out.size; simp; omega); rintro e w1 ⟨rfl, hI1, hB1, hk1⟩; have hcb := hk1 w.heap.size _ (heap_alloc_new w _) hbn (by intro c_ fz_ h_; cases h_); have hz1c := (blk_cell hcb 1).trans rfl; have HCB := Aside0.mk hcb; have HI1 := Aside0.mk (bd_str hI1); have HB1 : Aside0 (Below w0.heap.size w w1) := ⟨bd_tr (HB0.out.alloc hB.size _) hB1⟩; have HK1 := Aside0.mk (wr_kept hk1); clear hI1 hB1 hk1 hcb)); try go_wp2_with (first | (go_at_call 51; (refine (W1 _ ?side1 ?side2).mono ?_); (case side1 => exact (by repeat (first | exact HI0.out | apply bd_alloc | apply bd_drewN | apply bd_drew))); (case side2 => have := HBW.out.size; simp; omega); rintro e w1 ⟨rfl, hI1, hB1, hk1⟩; have hcb := hk1 w.heap.size _ (heap_alloc_new w _) hbn (by intro c_ fz_ h_; cases h_); have hz1c := (blk_cell hcb 1).trans rfl; have HCB := Aside0.mk hcb; have HI1 := Aside0.mk (bd_str hI1); have HB1 : Aside0 (Below w0.heap.size w w1) := ⟨bd_tr (HB0.out.alloc hB.size _) hB1⟩; have HK1 := Aside0.mk (wr_kept hk1); clear hI1 hB1 hk1 hcb)))
          go_loopg [2, 21] k (fun kq v2 v21 w' => ∃ (n i2 : Int) (l2 : List UInt8), v2 = .int .i64 i2 ∧ v21 = .int .i64 n ∧ Aside0 (wrL kq t (rd_T50 t i).f1 n i2 l2 = some x) ∧ Aside0 (kq ≤ k) ∧ Aside0 (IsBd w0.heap.size b l2 w') ∧ Aside0 (Below w0.heap.size w w') ∧ Aside0 (w'.heap[w.heap.size]? = some (.cells #[.string (rd_T50 t i).f0, .int .i64 (rd_T50 t i).f1] 50 (0, 0))) ∧ Aside0 (Lib.OthersKept 5 (some b) w w') ∧ Aside0 (0 ≤ n))
          case atStart => exact ⟨0, _, _, rfl, rfl, HX, ⟨Nat.le_refl _⟩, ⟨(by repeat (first | exact HI1.out | apply bd_alloc | apply bd_drewN | apply bd_drew))⟩, ⟨(by repeat (first | exact HB1.out | apply pw_below_drewN | apply below_drew1 | apply below_alloc))⟩, HCB, HK1, ⟨Int.le_refl _⟩⟩
          case round =>
            clear HX hz1c HCB HI1 HB1 HK1
            obtain ⟨n, i2, l2, rfl, rfl, HA, HK1, HI2, HB2, HCB2, HK2, Hn⟩ := hrel
            cases gk with
            | zero => exact absurd HA.out (by simp [wrL])
            | succ k1 =>
              have hA := HA.out
              clear HA
              simp only [wrL] at hA
              have hz2c := (blk_cell HCB2.out 1).trans rfl
              by_cases d1 : n < (rd_T50 t i).f1
              · rw [if_pos d1] at hA
                have d1b : decide (n < (rd_T50 t i).f1) = true := decide_eq_true d1
                clear d1
                split at hA
                · next d8 =>
                 split at hA
                 · next d2 =>
                  obtain ⟨y, hy, hA⟩ := Option.bind_eq_some_iff.mp hA
                  have H' := Aside0.mk hA
                  clear hA
                  have HKK := Aside0.mk (show k1 < k + 1 by have := HK1.out; omega)
                  have REC := fun (W : World) (hW : Below w0.heap.size w0 W) (h : IsBd w0.heap.size b (l2 ++ [if n = 0 then 40 else 44]) W) => ih k1 HKK.out b t (some ad) c i2 _ y w0 W HC.out hW h hy
                  have hn := Hn.out
                  have d9 : n = 0 ∨ n = 1 ∨ n = 2 ∨ n = 3 := by omega
                  clear hn Hn d8
                  rcases d9 with rfl | rfl | rfl | rfl
                  · simp only [if_true] at REC
                    have H1 := Aside0.mk (show wrL k1 t (rd_T50 t i).f1 1 y.2 y.1 = some x from by have h_ := H'.out; rwa [show wrap64 (0 + 1) = 1 from by unfold wrap64; omega] at h_)
                    clear H'
                    have H' := H1
                    clear H1
                    have BY := fun (W : World) (h : IsBd w0.heap.size b l2 W) (hs : w0.heap.size ≤ W.heap.size) => bd_write w0.heap.size b (Lib.byteCells l2) 40 W h hs (by rw [bd_len]; omega)
                    go_wp2_with (first | (go_at_call 52; (refine (BY _ ?side1 ?side2).mono ?_); (case side1 => exact (by repeat (first | exact HI2.out | apply bd_alloc | apply bd_drewN | apply bd_drew))); (case side2 => exact Nat.le_trans hB.size ((by repeat (first | exact HB2.out | apply pw_below_drewN | apply below_drew1 | apply below_alloc)) : Below w0.heap.size w _).size); rintro e w3 ⟨rfl, hI3, hB3, hk3⟩; have hcb3 := hk3 w.heap.size _ HCB2.out hbn (by intro c_ fz_ h_; cases h_); have hz3c := (blk_cell hcb3 1).trans rfl; have HCB3 := Aside0.mk hcb3; have HI3 := Aside0.mk (bd_one (x := 40) hI3); have HB3 := Aside0.mk (bd_tr (by repeat (first | exact HB2.out | apply pw_below_drewN | apply below_drew1 | apply below_alloc)) hB3); have HK3 := Aside0.mk (Lib.OthersKept.trans HK2.out hk3); clear hI3 hB3 hk3 hcb3) | (go_at_call 40; (refine (REC _ ?side1 ?side2).mono ?_); (case side1 => exact bd_tr HBW.out (by repeat (first | exact HB3.out | apply pw_below_drewN | apply below_drew1 | apply below_alloc))); (case side2 => exact (by repeat (first | exact HI3.out | apply bd_alloc | apply bd_drewN | apply bd_drew))); rintro e w4 ⟨rfl, hI4, hB4, hk4⟩; have hcb4 := hk4 w.heap.size _ HCB3.out hbn (by intro c_ fz_ h_; cases h_); have HCB4 := Aside0.mk hcb4; have HI4 := Aside0.mk hI4; have HB4 := Aside0.mk (bd_tr (by repeat (first | exact HB3.out | apply pw_below_drewN | apply below_drew1 | apply below_alloc)) hB4); have HK4 := Aside0.mk (Lib.OthersKept.trans HK3.out hk4); clear hI4 hB4 hk4 hcb4))
                    repeat (go_quiet (first | (go_at_call 52; (refine (BY _ ?side1 ?side2).mono ?_); (case side1 => exact (by repeat (first | exact HI2.out | apply bd_alloc | apply bd_drewN | apply bd_drew))); (case side2 => exact Nat.le_trans hB.size ((by repeat (first | exact HB2.out | apply pw_below_drewN | apply below_drew1 | apply below_alloc)) : Below w0.heap.size w _).size); rintro e w3 ⟨rfl, hI3, hB3, hk3⟩; have hcb3 := hk3 w.heap.size _ HCB2.out hbn (by intro c_ fz_ h_; cases h_); have hz3c := (blk_cell hcb3 1).trans rfl; have HCB3 := Aside0.mk hcb3; have HI3 := Aside0.mk (bd_one (x := 40) hI3); have HB3 := Aside0.mk (bd_tr (by repeat (first | exact HB2.out | apply pw_below_drewN | apply below_drew1 | apply below_alloc)) hB3); have HK3 := Aside0.mk (Lib.OthersKept.trans HK2.out hk3); clear hI3 hB3 hk3 hcb3) | (go_at_call 40; (refine (REC _ ?side1 ?side2).mono ?_); (case side1 => exact bd_tr HBW.out (by repeat (first | exact HB3.out | apply pw_below_drewN | apply below_drew1 | apply below_alloc))); (case side2 => exact (by repeat (first | exact HI3.out | apply bd_alloc | apply bd_drewN | apply bd_drew))); rintro e w4 ⟨rfl, hI4, hB4, hk4⟩; have hcb4 := hk4 w.heap.size _ HCB3.out hbn (by intro c_ fz_ h_; cases h_); have HCB4 := Aside0.mk hcb4; have HI4 := Aside0.mk hI4; have HB4 := Aside0.mk (bd_tr (by repeat (first | exact HB3.out | apply pw_below_drewN | apply below_drew1 | apply below_alloc)) hB4); have HK4 := Aside0.mk (Lib.OthersKept.trans HK3.out hk4); clear hI4 hB4 hk4 hcb4)); try go_wp2_with (first | (go_at_call 52; (refine (BY _ ?side1 ?side2).mono ?_); (case side1 => exact (by repeat (first | exact HI2.out | apply bd_alloc | apply bd_drewN | apply bd_drew))); (case side2 => exact Nat.le_trans hB.size ((by repeat (first | exact HB2.out | apply pw_below_drewN | apply below_drew1 | apply below_alloc)) : Below w0.heap.size w _).size); rintro e w3 ⟨rfl, hI3, hB3, hk3⟩; have hcb3 := hk3 w.heap.size _ HCB2.out hbn (by intro c_ fz_ h_; cases h_); have hz3c := (blk_cell hcb3 1).trans rfl; have HCB3 := Aside0.mk hcb3; have HI3 := Aside0.mk (bd_one (x := 40) hI3); have HB3 := Aside0.mk (bd_tr (by repeat (first | exact HB2.out | apply pw_below_drewN | apply below_drew1 | apply below_alloc)) hB3); have HK3 := Aside0.mk (Lib.OthersKept.trans HK2.out hk3); clear hI3 hB3 hk3 hcb3) | (go_at_call 40; (refine (REC _ ?side1 ?side2).mono ?_); (case side1 => exact bd_tr HBW.out (by repeat (first | exact HB3.out | apply pw_below_drewN | apply below_drew1 | apply below_alloc))); (case side2 => exact (by repeat (first | exact HI3.out | apply bd_alloc | apply bd_drewN | apply bd_drew))); rintro e w4 ⟨rfl, hI4, hB4, hk4⟩; have hcb4 := hk4 w.heap.size _ HCB3.out hbn (by intro c_ fz_ h_; cases h_); have HCB4 := Aside0.mk hcb4; have HI4 := Aside0.mk hI4; have HB4 := Aside0.mk (bd_tr (by repeat (first | exact HB3.out | apply pw_below_drewN | apply below_drew1 | apply below_alloc)) hB4); have HK4 := Aside0.mk (Lib.OthersKept.trans HK3.out hk4); clear hI4 hB4 hk4 hcb4)))
                    go_roundg k1
                    case measure => have := HK1.out; omega
                    case rel => exact ⟨_, y.2, y.1, rfl, rfl, H', ⟨by have := HK1.out; omega⟩, ⟨(by repeat (first | exact HI4.out | apply bd_alloc | apply bd_drewN | apply bd_drew))⟩, ⟨(by repeat (first | exact HB4.out | apply pw_below_drewN | apply below_drew1 | apply below_alloc))⟩, HCB4, HK4, ⟨by decide⟩⟩
                  · simp only [if_neg (show ¬ (1 : Int) = 0 by decide)] at REC
                    have H1 := Aside0.mk (show wrL k1 t (rd_T50 t i).f1 2 y.2 y.1 = some x from by have h_ := H'.out; rwa [show wrap64 (1 + 1) = 2 from by unfold wrap64; omega] at h_)
                    clear H'
                    have H' := H1
                    clear H1
                    have BY := fun (W : World) (h : IsBd w0.heap.size b l2 W) (hs : w0.heap.size ≤ W.heap.size) => bd_write w0.heap.size b (Lib.byteCells l2) 44 W h hs (by rw [bd_len]; omega)
                    go_wp2_with (first | (go_at_call 52; (refine (BY _ ?side1 ?side2).mono ?_); (case side1 => exact (by repeat (first | exact HI2.out | apply bd_alloc | apply bd_drewN | apply bd_drew))); (case side2 => exact Nat.le_trans hB.size ((by repeat (first | exact HB2.out | apply pw_below_drewN | apply below_drew1 | apply below_alloc)) : Below w0.heap.size w _).size); rintro e w3 ⟨rfl, hI3, hB3, hk3⟩; have hcb3 := hk3 w.heap.size _ HCB2.out hbn (by intro c_ fz_ h_; cases h_); have hz3c := (blk_cell hcb3 1).trans rfl; have HCB3 := Aside0.mk hcb3; have HI3 := Aside0.mk (bd_one (x := 44) hI3); have HB3 := Aside0.mk (bd_tr (by repeat (first | exact HB2.out | apply pw_below_drewN | apply below_drew1 | apply below_alloc)) hB3); have HK3 := Aside0.mk (Lib.OthersKept.trans HK2.out hk3); clear hI3 hB3 hk3 hcb3) | (go_at_call 40; (refine (REC _ ?side1 ?side2).mono ?_); (case side1 => exact bd_tr HBW.out (by repeat (first | exact HB3.out | apply pw_below_drewN | apply below_drew1 | apply below_alloc))); (case side2 => exact (by repeat (first | exact HI3.out | apply bd_alloc | apply bd_drewN | apply bd_drew))); rintro e w4 ⟨rfl, hI4, hB4, hk4⟩; have hcb4 := hk4 w.heap.size _ HCB3.out hbn (by intro c_ fz_ h_; cases h_); have HCB4 := Aside0.mk hcb4; have HI4 := Aside0.mk hI4; have HB4 := Aside0.mk (bd_tr (by repeat (first | exact HB3.out | apply pw_below_drewN | apply below_drew1 | apply below_alloc)) hB4); have HK4 := Aside0.mk (Lib.OthersKept.trans HK3.out hk4); clear hI4 hB4 hk4 hcb4))
                    repeat (go_quiet (first | (go_at_call 52; (refine (BY _ ?side1 ?side2).mono ?_); (case side1 => exact (by repeat (first | exact HI2.out | apply bd_alloc | apply bd_drewN | apply bd_drew))); (case side2 => exact Nat.le_trans hB.size ((by repeat (first | exact HB2.out | apply pw_below_drewN | apply below_drew1 | apply below_alloc)) : Below w0.heap.size w _).size); rintro e w3 ⟨rfl, hI3, hB3, hk3⟩; have hcb3 := hk3 w.heap.size _ HCB2.out hbn (by intro c_ fz_ h_; cases h_); have hz3c := (blk_cell hcb3 1).trans rfl; have HCB3 := Aside0.mk hcb3; have HI3 := Aside0.mk (bd_one (x := 44) hI3); have HB3 := Aside0.mk (bd_tr (by repeat (first | exact HB2.out | apply pw_below_drewN | apply below_drew1 | apply below_alloc)) hB3); have HK3 := Aside0.mk (Lib.OthersKept.trans HK2.out hk3); clear hI3 hB3 hk3 hcb3) | (go_at_call 40; (refine (REC _ ?side1 ?side2).mono ?_); (case side1 => exact bd_tr HBW.out (by repeat (first | exact HB3.out | apply pw_below_drewN | apply below_drew1 | apply below_alloc))); (case side2 => exact (by repeat (first | exact HI3.out | apply bd_alloc | apply bd_drewN | apply bd_drew))); rintro e w4 ⟨rfl, hI4, hB4, hk4⟩; have hcb4 := hk4 w.heap.size _ HCB3.out hbn (by intro c_ fz_ h_; cases h_); have HCB4 := Aside0.mk hcb4; have HI4 := Aside0.mk hI4; have HB4 := Aside0.mk (bd_tr (by repeat (first | exact HB3.out | apply pw_below_drewN | apply below_drew1 | apply below_alloc)) hB4); have HK4 := Aside0.mk (Lib.OthersKept.trans HK3.out hk4); clear hI4 hB4 hk4 hcb4)); try go_wp2_with (first | (go_at_call 52; (refine (BY _ ?side1 ?side2).mono ?_); (case side1 => exact (by repeat (first | exact HI2.out | apply bd_alloc | apply bd_drewN | apply bd_drew))); (case side2 => exact Nat.le_trans hB.size ((by repeat (first | exact HB2.out | apply pw_below_drewN | apply below_drew1 | apply below_alloc)) : Below w0.heap.size w _).size); rintro e w3 ⟨rfl, hI3, hB3, hk3⟩; have hcb3 := hk3 w.heap.size _ HCB2.out hbn (by intro c_ fz_ h_; cases h_); have hz3c := (blk_cell hcb3 1).trans rfl; have HCB3 := Aside0.mk hcb3; have HI3 := Aside0.mk (bd_one (x := 44) hI3); have HB3 := Aside0.mk (bd_tr (by repeat (first | exact HB2.out | apply pw_below_drewN | apply below_drew1 | apply below_alloc)) hB3); have HK3 := Aside0.mk (Lib.OthersKept.trans HK2.out hk3); clear hI3 hB3 hk3 hcb3) | (go_at_call 40; (refine (REC _ ?side1 ?side2).mono ?_); (case side1 => exact bd_tr HBW.out (by repeat (first | exact HB3.out | apply pw_below_drewN | apply below_drew1 | apply below_alloc))); (case side2 => exact (by repeat (first | exact HI3.out | apply bd_alloc | apply bd_drewN | apply bd_drew))); rintro e w4 ⟨rfl, hI4, hB4, hk4⟩; have hcb4 := hk4 w.heap.size _ HCB3.out hbn (by intro c_ fz_ h_; cases h_); have HCB4 := Aside0.mk hcb4; have HI4 := Aside0.mk hI4; have HB4 := Aside0.mk (bd_tr (by repeat (first | exact HB3.out | apply pw_below_drewN | apply below_drew1 | apply below_alloc)) hB4); have HK4 := Aside0.mk (Lib.OthersKept.trans HK3.out hk4); clear hI4 hB4 hk4 hcb4)))
                    go_roundg k1
                    case measure => have := HK1.out; omega
                    case rel => exact ⟨_, y.2, y.1, rfl, rfl, H', ⟨by have := HK1.out; omega⟩, ⟨(by repeat (first | exact HI4.out | apply bd_alloc | apply bd_drewN | apply bd_drew))⟩, ⟨(by repeat (first | exact HB4.out | apply pw_below_drewN | apply below_drew1 | apply below_alloc))⟩, HCB4, HK4, ⟨by decide⟩⟩
                  · simp only [if_neg (show ¬ (2 : Int) = 0 by decide)] at REC
                    have H1 := Aside0.mk (show wrL k1 t (rd_T50 t i).f1 3 y.2 y.1 = some x from by have h_ := H'.out; rwa [show wrap64 (2 + 1) = 3 from by unfold wrap64; omega] at h_)
                    clear H'
                    have H' := H1
                    clear H1
                    have BY := fun (W : World) (h : IsBd w0.heap.size b l2 W) (hs : w0.heap.size ≤ W.heap.size) => bd_write w0.heap.size b (Lib.byteCells l2) 44 W h hs (by rw [bd_len]; omega)
                    go_wp2_with (first | (go_at_call 52; (refine (BY _ ?side1 ?side2).mono ?_); (case side1 => exact (by repeat (first | exact HI2.out | apply bd_alloc | apply bd_drewN | apply bd_drew))); (case side2 => exact Nat.le_trans hB.size ((by repeat (first | exact HB2.out | apply pw_below_drewN | apply below_drew1 | apply below_alloc)) : Below w0.heap.size w _).size); rintro e w3 ⟨rfl, hI3, hB3, hk3⟩; have hcb3 := hk3 w.heap.size _ HCB2.out hbn (by intro c_ fz_ h_; cases h_); have hz3c := (blk_cell hcb3 1).trans rfl; have HCB3 := Aside0.mk hcb3; have HI3 := Aside0.mk (bd_one (x := 44) hI3); have HB3 := Aside0.mk (bd_tr (by repeat (first | exact HB2.out | apply pw_below_drewN | apply below_drew1 | apply below_alloc)) hB3); have HK3 := Aside0.mk (Lib.OthersKept.trans HK2.out hk3); clear hI3 hB3 hk3 hcb3) | (go_at_call 40; (refine (REC _ ?side1 ?side2).mono ?_); (case side1 => exact bd_tr HBW.out (by repeat (first | exact HB3.out | apply pw_below_drewN | apply below_drew1 | apply below_alloc))); (case side2 => exact (by repeat (first | exact HI3.out | apply bd_alloc | apply bd_drewN | apply bd_drew))); rintro e w4 ⟨rfl, hI4, hB4, hk4⟩; have hcb4 := hk4 w.heap.size _ HCB3.out hbn (by intro c_ fz_ h_; cases h_); have HCB4 := Aside0.mk hcb4; have HI4 := Aside0.mk hI4; have HB4 := Aside0.mk (bd_tr (by repeat (first | exact HB3.out | apply pw_below_drewN | apply below_drew1 | apply below_alloc)) hB4); have HK4 := Aside0.mk (Lib.OthersKept.trans HK3.out hk4); clear hI4 hB4 hk4 hcb4))
                    repeat (go_quiet (first | (go_at_call 52; (refine (BY _ ?side1 ?side2).mono ?_); (case side1 => exact (by repeat (first | exact HI2.out | apply bd_alloc | apply bd_drewN | apply bd_drew))); (case side2 => exact Nat.le_trans hB.size ((by repeat (first | exact HB2.out | apply pw_below_drewN | apply below_drew1 | apply below_alloc)) : Below w0.heap.size w _).size); rintro e w3 ⟨rfl, hI3, hB3, hk3⟩; have hcb3 := hk3 w.heap.size _ HCB2.out hbn (by intro c_ fz_ h_; cases h_); have hz3c := (blk_cell hcb3 1).trans rfl; have HCB3 := Aside0.mk hcb3; have HI3 := Aside0.mk (bd_one (x := 44) hI3); have HB3 := Aside0.mk (bd_tr (by repeat (first | exact HB2.out | apply pw_below_drewN | apply below_drew1 | apply below_alloc)) hB3); have HK3 := Aside0.mk (Lib.OthersKept.trans HK2.out hk3); clear hI3 hB3 hk3 hcb3) | (go_at_call 40; (refine (REC _ ?side1 ?side2).mono ?_); (case side1 => exact bd_tr HBW.out (by repeat (first | exact HB3.out | apply pw_below_drewN | apply below_drew1 | apply below_alloc))); (case side2 => exact (by repeat (first | exact HI3.out | apply bd_alloc | apply bd_drewN | apply bd_drew))); rintro e w4 ⟨rfl, hI4, hB4, hk4⟩; have hcb4 := hk4 w.heap.size _ HCB3.out hbn (by intro c_ fz_ h_; cases h_); have HCB4 := Aside0.mk hcb4; have HI4 := Aside0.mk hI4; have HB4 := Aside0.mk (bd_tr (by repeat (first | exact HB3.out | apply pw_below_drewN | apply below_drew1 | apply below_alloc)) hB4); have HK4 := Aside0.mk (Lib.OthersKept.trans HK3.out hk4); clear hI4 hB4 hk4 hcb4)); try go_wp2_with (first | (go_at_call 52; (refine (BY _ ?side1 ?side2).mono ?_); (case side1 => exact (by repeat (first | exact HI2.out | apply bd_alloc | apply bd_drewN | apply bd_drew))); (case side2 => exact Nat.le_trans hB.size ((by repeat (first | exact HB2.out | apply pw_below_drewN | apply below_drew1 | apply below_alloc)) : Below w0.heap.size w _).size); rintro e w3 ⟨rfl, hI3, hB3, hk3⟩; have hcb3 := hk3 w.heap.size _ HCB2.out hbn (by intro c_ fz_ h_; cases h_); have hz3c := (blk_cell hcb3 1).trans rfl; have HCB3 := Aside0.mk hcb3; have HI3 := Aside0.mk (bd_one (x := 44) hI3); have HB3 := Aside0.mk (bd_tr (by repeat (first | exact HB2.out | apply pw_below_drewN | apply below_drew1 | apply below_alloc)) hB3); have HK3 := Aside0.mk (Lib.OthersKept.trans HK2.out hk3); clear hI3 hB3 hk3 hcb3) | (go_at_call 40; (refine (REC _ ?side1 ?side2).mono ?_); (case side1 => exact bd_tr HBW.out (by repeat (first | exact HB3.out | apply pw_below_drewN | apply below_drew1 | apply below_alloc))); (case side2 => exact (by repeat (first | exact HI3.out | apply bd_alloc | apply bd_drewN | apply bd_drew))); rintro e w4 ⟨rfl, hI4, hB4, hk4⟩; have hcb4 := hk4 w.heap.size _ HCB3.out hbn (by intro c_ fz_ h_; cases h_); have HCB4 := Aside0.mk hcb4; have HI4 := Aside0.mk hI4; have HB4 := Aside0.mk (bd_tr (by repeat (first | exact HB3.out | apply pw_below_drewN | apply below_drew1 | apply below_alloc)) hB4); have HK4 := Aside0.mk (Lib.OthersKept.trans HK3.out hk4); clear hI4 hB4 hk4 hcb4)))
                    go_roundg k1
                    case measure => have := HK1.out; omega
                    case rel => exact ⟨_, y.2, y.1, rfl, rfl, H', ⟨by have := HK1.out; omega⟩, ⟨(by repeat (first | exact HI4.out | apply bd_alloc | apply bd_drewN | apply bd_drew))⟩, ⟨(by repeat (first | exact HB4.out | apply pw_below_drewN | apply below_drew1 | apply below_alloc))⟩, HCB4, HK4, ⟨by decide⟩⟩
                  · simp only [if_neg (show ¬ (3 : Int) = 0 by decide)] at REC
                    have H1 := Aside0.mk (show wrL k1 t (rd_T50 t i).f1 4 y.2 y.1 = some x from by have h_ := H'.out; rwa [show wrap64 (3 + 1) = 4 from by unfold wrap64; omega] at h_)
                    clear H'
                    have H' := H1
                    clear H1
                    have BY := fun (W : World) (h : IsBd w0.heap.size b l2 W) (hs : w0.heap.size ≤ W.heap.size) => bd_write w0.heap.size b (Lib.byteCells l2) 44 W h hs (by rw [bd_len]; omega)
                    go_wp2_with (first | (go_at_call 52; (refine (BY _ ?side1 ?side2).mono ?_); (case side1 => exact (by repeat (first | exact HI2.out | apply bd_alloc | apply bd_drewN | apply bd_drew))); (case side2 => exact Nat.le_trans hB.size ((by repeat (first | exact HB2.out | apply pw_below_drewN | apply below_drew1 | apply below_alloc)) : Below w0.heap.size w _).size); rintro e w3 ⟨rfl, hI3, hB3, hk3⟩; have hcb3 := hk3 w.heap.size _ HCB2.out hbn (by intro c_ fz_ h_; cases h_); have hz3c := (blk_cell hcb3 1).trans rfl; have HCB3 := Aside0.mk hcb3; have HI3 := Aside0.mk (bd_one (x := 44) hI3); have HB3 := Aside0.mk (bd_tr (by repeat (first | exact HB2.out | apply pw_below_drewN | apply below_drew1 | apply below_alloc)) hB3); have HK3 := Aside0.mk (Lib.OthersKept.trans HK2.out hk3); clear hI3 hB3 hk3 hcb3) | (go_at_call 40; (refine (REC _ ?side1 ?side2).mono ?_); (case side1 => exact bd_tr HBW.out (by repeat (first | exact HB3.out | apply pw_below_drewN | apply below_drew1 | apply below_alloc))); (case side2 => exact (by repeat (first | exact HI3.out | apply bd_alloc | apply bd_drewN | apply bd_drew))); rintro e w4 ⟨rfl, hI4, hB4, hk4⟩; have hcb4 := hk4 w.heap.size _ HCB3.out hbn (by intro c_ fz_ h_; cases h_); have HCB4 := Aside0.mk hcb4; have HI4 := Aside0.mk hI4; have HB4 := Aside0.mk (bd_tr (by repeat (first | exact HB3.out | apply pw_below_drewN | apply below_drew1 | apply below_alloc)) hB4); have HK4 := Aside0.mk (Lib.OthersKept.trans HK3.out hk4); clear hI4 hB4 hk4 hcb4))
                    repeat (go_quiet (first | (go_at_call 52; (refine (BY _ ?side1 ?side2).mono ?_); (case side1 => exact (by repeat (first | exact HI2.out | apply bd_alloc | apply bd_drewN | apply bd_drew))); (case side2 => exact Nat.le_trans hB.size ((by repeat (first | exact HB2.out | apply pw_below_drewN | apply below_drew1 | apply below_alloc)) : Below w0.heap.size w _).size); rintro e w3 ⟨rfl, hI3, hB3, hk3⟩; have hcb3 := hk3 w.heap.size _ HCB2.out hbn (by intro c_ fz_ h_; cases h_); have hz3c := (blk_cell hcb3 1).trans rfl; have HCB3 := Aside0.mk hcb3; have HI3 := Aside0.mk (bd_one (x := 44) hI3); have HB3 := Aside0.mk (bd_tr (by repeat (first | exact HB2.out | apply pw_below_drewN | apply below_drew1 | apply below_alloc)) hB3); have HK3 := Aside0.mk (Lib.OthersKept.trans HK2.out hk3); clear hI3 hB3 hk3 hcb3) | (go_at_call 40; (refine (REC _ ?side1 ?side2).mono ?_); (case side1 => exact bd_tr HBW.out (by repeat (first | exact HB3.out | apply pw_below_drewN | apply below_drew1 | apply below_alloc))); (case side2 => exact (by repeat (first | exact HI3.out | apply bd_alloc | apply bd_drewN | apply bd_drew))); rintro e w4 ⟨rfl, hI4, hB4, hk4⟩; have hcb4 := hk4 w.heap.size _ HCB3.out hbn (by intro c_ fz_ h_; cases h_); have HCB4 := Aside0.mk hcb4; have HI4 := Aside0.mk hI4; have HB4 := Aside0.mk (bd_tr (by repeat (first | exact HB3.out | apply pw_below_drewN | apply below_drew1 | apply below_alloc)) hB4); have HK4 := Aside0.mk (Lib.OthersKept.trans HK3.out hk4); clear hI4 hB4 hk4 hcb4)); try go_wp2_with (first | (go_at_call 52; (refine (BY _ ?side1 ?side2).mono ?_); (case side1 => exact (by repeat (first | exact HI2.out | apply bd_alloc | apply bd_drewN | apply bd_drew))); (case side2 => exact Nat.le_trans hB.size ((by repeat (first | exact HB2.out | apply pw_below_drewN | apply below_drew1 | apply below_alloc)) : Below w0.heap.size w _).size); rintro e w3 ⟨rfl, hI3, hB3, hk3⟩; have hcb3 := hk3 w.heap.size _ HCB2.out hbn (by intro c_ fz_ h_; cases h_); have hz3c := (blk_cell hcb3 1).trans rfl; have HCB3 := Aside0.mk hcb3; have HI3 := Aside0.mk (bd_one (x := 44) hI3); have HB3 := Aside0.mk (bd_tr (by repeat (first | exact HB2.out | apply pw_below_drewN | apply below_drew1 | apply below_alloc)) hB3); have HK3 := Aside0.mk (Lib.OthersKept.trans HK2.out hk3); clear hI3 hB3 hk3 hcb3) | (go_at_call 40; (refine (REC _ ?side1 ?side2).mono ?_); (case side1 => exact bd_tr HBW.out (by repeat (first | exact HB3.out | apply pw_below_drewN | apply below_drew1 | apply below_alloc))); (case side2 => exact (by repeat (first | exact HI3.out | apply bd_alloc | apply bd_drewN | apply bd_drew))); rintro e w4 ⟨rfl, hI4, hB4, hk4⟩; have hcb4 := hk4 w.heap.size _ HCB3.out hbn (by intro c_ fz_ h_; cases h_); have HCB4 := Aside0.mk hcb4; have HI4 := Aside0.mk hI4; have HB4 := Aside0.mk (bd_tr (by repeat (first | exact HB3.out | apply pw_below_drewN | apply below_drew1 | apply below_alloc)) hB4); have HK4 := Aside0.mk (Lib.OthersKept.trans HK3.out hk4); clear hI4 hB4 hk4 hcb4)))
                    go_roundg k1
                    case measure => have := HK1.out; omega
                    case rel => exact ⟨_, y.2, y.1, rfl, rfl, H', ⟨by have := HK1.out; omega⟩, ⟨(by repeat (first | exact HI4.out | apply bd_alloc | apply bd_drewN | apply bd_drew))⟩, ⟨(by repeat (first | exact HB4.out | apply pw_below_drewN | apply below_drew1 | apply below_alloc))⟩, HCB4, HK4, ⟨by decide⟩⟩
                 · cases hA
                · cases hA
              · rw [if_neg d1] at hA
                have d1b : decide (n < (rd_T50 t i).f1) = false := decide_eq_false d1
                injection hA with hA
                subst hA
                have h := H.out
                simp only at h
                by_cases d6 : (rd_T50 t i).f1 > 0
                · rw [if_pos d6] at h
                  have d6b : decide ((rd_T50 t i).f1 > 0) = true := decide_eq_true d6
                  clear d6 d1 H
                  split at h
                  · next d7 =>
                    obtain rfl := Option.some.inj h
                    clear h
                    have BY := fun (W : World) (h : IsBd w0.heap.size b l2 W) (hs : w0.heap.size ≤ W.heap.size) => bd_write w0.heap.size b (Lib.byteCells l2) 41 W h hs (by rw [bd_len]; omega)
                    go_wp2_with (first | (go_at_call 52; (refine (BY _ ?side1 ?side2).mono ?_); (case side1 => exact (by repeat (first | exact HI2.out | apply bd_alloc | apply bd_drewN | apply bd_drew))); (case side2 => exact Nat.le_trans hB.size ((by repeat (first | exact HB2.out | apply pw_below_drewN | apply below_drew1 | apply below_alloc)) : Below w0.heap.size w _).size); rintro e w3 ⟨rfl, hI3, hB3, hk3⟩; have hcb3 := hk3 w.heap.size _ HCB2.out hbn (by intro c_ fz_ h_; cases h_); have hz3c := (blk_cell hcb3 1).trans rfl; have HCB3 := Aside0.mk hcb3; have HI3 := Aside0.mk (bd_one (x := 41) hI3); have HB3 := Aside0.mk (bd_tr (by repeat (first | exact HB2.out | apply pw_below_drewN | apply below_drew1 | apply below_alloc)) hB3); have HK3 := Aside0.mk (Lib.OthersKept.trans HK2.out hk3); clear hI3 hB3 hk3 hcb3))
                    repeat (go_quiet (first | (go_at_call 52; (refine (BY _ ?side1 ?side2).mono ?_); (case side1 => exact (by repeat (first | exact HI2.out | apply bd_alloc | apply bd_drewN | apply bd_drew))); (case side2 => exact Nat.le_trans hB.size ((by repeat (first | exact HB2.out | apply pw_below_drewN | apply below_drew1 | apply below_alloc)) : Below w0.heap.size w _).size); rintro e w3 ⟨rfl, hI3, hB3, hk3⟩; have hcb3 := hk3 w.heap.size _ HCB2.out hbn (by intro c_ fz_ h_; cases h_); have hz3c := (blk_cell hcb3 1).trans rfl; have HCB3 := Aside0.mk hcb3; have HI3 := Aside0.mk (bd_one (x := 41) hI3); have HB3 := Aside0.mk (bd_tr (by repeat (first | exact HB2.out | apply pw_below_drewN | apply below_drew1 | apply below_alloc)) hB3); have HK3 := Aside0.mk (Lib.OthersKept.trans HK2.out hk3); clear hI3 hB3 hk3 hcb3)); try go_wp2_with (first | (go_at_call 52; (refine (BY _ ?side1 ?side2).mono ?_); (case side1 => exact (by repeat (first | exact HI2.out | apply bd_alloc | apply bd_drewN | apply bd_drew))); (case side2 => exact Nat.le_trans hB.size ((by repeat (first | exact HB2.out | apply pw_below_drewN | apply below_drew1 | apply below_alloc)) : Below w0.heap.size w _).size); rintro e w3 ⟨rfl, hI3, hB3, hk3⟩; have hcb3 := hk3 w.heap.size _ HCB2.out hbn (by intro c_ fz_ h_; cases h_); have hz3c := (blk_cell hcb3 1).trans rfl; have HCB3 := Aside0.mk hcb3; have HI3 := Aside0.mk (bd_one (x := 41) hI3); have HB3 := Aside0.mk (bd_tr (by repeat (first | exact HB2.out | apply pw_below_drewN | apply below_drew1 | apply below_alloc)) hB3); have HK3 := Aside0.mk (Lib.OthersKept.trans HK2.out hk3); clear hI3 hB3 hk3 hcb3)))
                    go_ret
                    exact ⟨rfl, (by repeat (first | exact HI3.out | apply bd_alloc | apply bd_drewN | apply bd_drew)), (by repeat (first | exact HB3.out | apply pw_below_drewN | apply below_drew1 | apply below_alloc)), HK3.out⟩
                  · cases h
                · rw [if_neg d6] at h
                  have d6b : decide ((rd_T50 t i).f1 > 0) = false := decide_eq_false d6
                  clear d6 d1 H
                  obtain rfl := Option.some.inj h
                  clear h
                  go_wp2_with (first | fail)
                  repeat (go_quiet (first | fail); try go_wp2_with (first | fail))
                  go_ret
                  exact ⟨rfl, (by repeat (first | exact HI2.out | apply bd_alloc | apply bd_drewN | apply bd_drew)), (by repeat (first | exact HB2.out | apply pw_below_drewN | apply below_drew1 | apply below_alloc)), HK2.out⟩
        · cases h
      · rw [if_neg c2] at h; cases h
    · rw [if_neg c1] at h; cases h
theorem wr_all : ∀ k, WrC k := by
  intro k
  induction k using Nat.strongRecOn with
  | _ k ih => exact wr_step k ih
/-! ### Print -/
def printF (k : Nat) (t : List (S50)) : Option (ByteArray × Int) :=
  (term_Check.f k t).bind fun e => if e = 0 then ((wrT k t 0 []).bind fun x => if x.1 = [] then none else if x.1.length ≤ 4096 then some (⟨x.1.toArray⟩, 0) else none) else some (⟨#[]⟩, e)
theorem bd_new {w0 W : World} {b : Nat} (h : w0.heap.size ≤ W.heap.size) (hb : b = W.heap.size) : IsBd w0.heap.size b [] (W.alloc (.cells #[.pointer none, .slice none 0 0] 77)) := by
  subst hb
  exact .inl ⟨h, .slice none 0 0, heap_alloc_new W _, ⟨rfl, .inl ⟨rfl, rfl⟩⟩, by simp [Value.ownBlock]⟩
set_option maxHeartbeats 4000000 in
set_option maxRecDepth 100000 in
theorem print_calls (k : Nat) (A0 : Option Addr) (c0 : Nat) (l0 : List (S50)) (r1 : ByteArray) (r2 : Int) (w : World) (hr0 : Kd.C k50 w A0 l0.length l0) (hc0 : l0.length ≤ c0) (h : printF k l0 = some (r1, r2)) :
    Calls Try.prog 17 #[.slice A0 l0.length c0] w fun e w' => e = .returned (.tuple #[.string r1, .int .i64 r2]) ∧ Below w.heap.size w w' := by
  unfold printF at h
  obtain ⟨e0, he, h⟩ := Option.bind_eq_some_iff.mp h
  have C1 := fun (W : World) (hq : Kd.C k50 W A0 l0.length l0) => term_Check.calls k A0 c0 l0 e0 W hq hc0 he
  have HR := Aside0.mk hr0
  clear he hr0
  by_cases c1 : e0 = 0
  · rw [if_pos c1] at h
    have c1b : (e0 == 0) = true := beq_iff_eq.mpr c1
    have c1c : (e0 != 0) = false := bne_eq_false_iff_eq.mpr c1
    clear c1
    obtain ⟨x, hx, h⟩ := Option.bind_eq_some_iff.mp h
    by_cases c2 : x.1 = []
    · rw [if_pos c2] at h; cases h
    · rw [if_neg c2] at h
      split at h
      · next c3 =>
        injection h with h
        injection h with h1 h2
        subst h1 h2
        have W1 := fun (b : Nat) (W : World) (hb : Below w.heap.size w W) (hq : IsBd w.heap.size b [] W) => (wr_all k) b l0 A0 c0 0 [] x w W HR.out hb hq hx
        have D1 := fun (b : Nat) (W : World) (hq : IsBd w.heap.size b x.1 W) => bd_done w.heap.size b x.1 W hq c2 c3
        clear hx c2 c3
        go_enter Try.func17, Try.ntmps17
        go_wp2_with (first | (go_at_call 11; (refine (C1 _ ?side1).mono ?_); (case side1 => repeat (first | exact HR.out | apply Kd.C_drewN | apply Kd.C_drew)); rintro e w1 ⟨rfl, hB1⟩; have HB1 := Aside0.mk hB1; clear hB1) | (go_at_call 40; (refine (W1 _ _ ?side1 ?side2).mono ?_); (case side1 => exact HB1.out.alloc HB1.out.size _); (case side2 => exact bd_new HB1.out.size rfl); rintro e w2 ⟨rfl, hI2, hB2, hk2⟩; have HI2 := Aside0.mk hI2; have HB2 : Aside0 (Below w.heap.size w w2) := ⟨bd_tr (HB1.out.alloc HB1.out.size _) hB2⟩; clear hI2 hB2 hk2) | (go_at_call 41; (refine (D1 _ _ ?side1).mono ?_); (case side1 => exact HI2.out); rintro e w3 ⟨rfl, hB3⟩; have HB3 : Aside0 (Below w.heap.size w w3) := ⟨bd_tr HB2.out hB3⟩; clear hB3))
        go_ret2
        exact ⟨rfl, HB3.out⟩
      · cases h
  · rw [if_neg c1] at h
    have c1b : (e0 == 0) = false := beq_eq_false_iff_ne.mpr c1
    have c1c : (e0 != 0) = true := bne_iff_ne.mpr c1
    clear c1
    injection h with h
    injection h with h1 h2
    subst h1 h2
    go_enter Try.func17, Try.ntmps17
    go_wp2_with (first | (go_at_call 11; (refine (C1 _ ?side1).mono ?_); (case side1 => repeat (first | exact HR.out | apply Kd.C_drewN | apply Kd.C_drew)); rintro e w1 ⟨rfl, hB1⟩; have HB1 := Aside0.mk hB1; clear hB1))
    go_ret2
    exact ⟨rfl, HB1.out⟩
theorem wr_mono : ∀ k, (∀ t i l, LeO (wrT k t i l) (wrT (k + 1) t i l)) ∧ (∀ t a n i l, LeO (wrL k t a n i l) (wrL (k + 1) t a n i l))
  | 0 => ⟨fun _ _ _ r h => by simp [wrT] at h, fun _ _ _ _ _ r h => by simp [wrL] at h⟩
  | k + 1 => by
    obtain ⟨ih0, ih1⟩ := wr_mono k
    refine ⟨fun t i l => ?_, fun t a n i l => ?_⟩
    · unfold wrT
      exact LeO.ite (LeO.ite (LeO.ite (LeO.bind (ih1 _ _ _ _ _) fun _ => LeO.refl _) (LeO.none _)) (LeO.none _)) (LeO.none _)
    · unfold wrL
      exact LeO.ite (LeO.ite (LeO.ite (LeO.bind (ih0 _ _ _) fun _ => ih1 _ _ _ _ _) (LeO.none _)) (LeO.none _)) (LeO.refl _)
def term_Print.f (k : Nat) (l0 : List (S50)) : Option (ByteArray × Int) := printF k l0
theorem term_Print.mono : ∀ a0 k, LeO (term_Print.f k a0) (term_Print.f (k + 1) a0) := by
  intro a0 k
  unfold term_Print.f printF
  exact LeO.bind (term_Check.mono _ _) fun e => LeO.ite (LeO.bind ((wr_mono k).1 _ _ _) fun _ => LeO.refl _) (LeO.refl _)
theorem term_Print.calls (k : Nat) (A0 : Option Addr) (c0 : Nat) (l0 : List (S50)) (r1 : ByteArray) (r2 : Int) (w : World) (hr0 : Kd.C k50 w A0 l0.length l0) (hc0 : l0.length ≤ c0) (h : term_Print.f k l0 = some (r1, r2)) :
    Calls Try.prog 17 #[.slice A0 l0.length c0] w fun e w' => e = .returned (.tuple #[.string r1, .int .i64 r2]) ∧ Below w.heap.size w w' := print_calls k A0 c0 l0 r1 r2 w hr0 hc0 h


end Go.Proofs.Ytcmnpjgmpgjbdaa.P

-- ==== PF10
namespace Go.Proofs.Ytcmnpjgmpgjbdaa.P
open Go.RowKit Go.Proofs.YtcmnpjgmpgjbdaaW.PrintWords Go.Proofs.YtcmnpjgmpgjbdaaW.PrintLast Go.Proofs.YtcmnpjgmpgjbdaaW.PrintMore
attribute [local go_sem] max2_int min2_int max_two min_two max_three min_three max_four min_four   -- for this text's walks alone
set_option linter.unusedVariables false
set_option linter.unusedSimpArgs false

attribute [local go_sem high] eqA50
/-! ### aumbrylaw04_wakes: function 10 -/
def aumbrylaw04_wakes.f (k : Nat)  : Option (Bool) := (term_Parse.f k (⟨#[102, 40, 97, 44, 88, 41]⟩ : ByteArray)).bind fun bt101 => ((term_Parse.f k (⟨#[102, 40, 97]⟩ : ByteArray)).bind fun bt106 => ((term_Print.f k (([(⟨(⟨#[102]⟩ : ByteArray), 1⟩ : S50), (⟨(⟨#[98]⟩ : ByteArray), 0⟩ : S50)] : List (S50)))).bind fun bt114 => (if bt101.2.2 = 0 then (if bt101.2.1 = 0 then (if (bt101.1.length : Int) = 3 then (if 0 < (bt101.1.length : Int) then (if ((((rd_T50 bt101.1 0).f0).toList) == ([102] : List UInt8) && (((rd_T50 bt101.1 0).f1) == 2)) = true then (if bt106.2.2 = 3 then (if bt106.2.1 = 3 then (if bt114.2 = 0 then (some (bt114.1.toList == ([102, 40, 98, 41] : List UInt8))) else (some false)) else (some false)) else (some false)) else (some false)) else (none)) else (some false)) else (some false)) else (some false))))
theorem aumbrylaw04_wakes.mono : ∀ k, LeO (aumbrylaw04_wakes.f k ) (aumbrylaw04_wakes.f (k + 1) ) := by
  intro  k
  unfold aumbrylaw04_wakes.f
  repeat' first
      | (with_reducible exact term_Parse.mono _ _)
      | (with_reducible exact term_Print.mono _ _)
      | (with_reducible exact LeO.refl _)
      | (with_reducible exact LeO.none _)
      | (with_reducible refine LeO.ite ?_ ?_)
      | (with_reducible refine LeO.bind ?_ (fun _ => ?_))
      | exact term_Parse.mono _ _
      | exact term_Print.mono _ _
      | exact LeO.none _
      | refine LeO.ite ?_ ?_
      | refine LeO.bind ?_ (fun _ => ?_)
set_option maxHeartbeats 8000000 in
set_option maxRecDepth 100000 in
theorem aumbrylaw04_wakes.calls (k : Nat)  (r : Bool) (w : World) (h : aumbrylaw04_wakes.f k  = some r) :
    Calls Try.prog 10 #[] w fun e w' => e = .returned (.bool r) ∧ Below w.heap.size w w' := by
  have hu50 := Try.underlying50
  have HB := Aside0.mk (Below.refl w.heap.size w)
  have H : ((term_Parse.f k (⟨#[102, 40, 97, 44, 88, 41]⟩ : ByteArray)).bind fun bt101 => ((term_Parse.f k (⟨#[102, 40, 97]⟩ : ByteArray)).bind fun bt106 => ((term_Print.f k (([(⟨(⟨#[102]⟩ : ByteArray), 1⟩ : S50), (⟨(⟨#[98]⟩ : ByteArray), 0⟩ : S50)] : List (S50)))).bind fun bt114 => (if bt101.2.2 = 0 then (if bt101.2.1 = 0 then (if (bt101.1.length : Int) = 3 then (if 0 < (bt101.1.length : Int) then (if ((((rd_T50 bt101.1 0).f0).toList) == ([102] : List UInt8) && (((rd_T50 bt101.1 0).f1) == 2)) = true then (if bt106.2.2 = 3 then (if bt106.2.1 = 3 then (if bt114.2 = 0 then (some (bt114.1.toList == ([102, 40, 98, 41] : List UInt8))) else (some false)) else (some false)) else (some false)) else (some false)) else (none)) else (some false)) else (some false)) else (some false))))) = some r := h
  clear h
  replace H := Option.bind_eq_some_iff.mp H
  obtain ⟨⟨t101, t102, t103⟩, A10, H⟩ := H
  replace H : ((term_Parse.f k (⟨#[102, 40, 97]⟩ : ByteArray)).bind fun bt106 => ((term_Print.f k (([(⟨(⟨#[102]⟩ : ByteArray), 1⟩ : S50), (⟨(⟨#[98]⟩ : ByteArray), 0⟩ : S50)] : List (S50)))).bind fun bt114 => (if t103 = 0 then (if t102 = 0 then (if (t101.length : Int) = 3 then (if 0 < (t101.length : Int) then (if ((((rd_T50 t101 0).f0).toList) == ([102] : List UInt8) && (((rd_T50 t101 0).f1) == 2)) = true then (if bt106.2.2 = 3 then (if bt106.2.1 = 3 then (if bt114.2 = 0 then (some (bt114.1.toList == ([102, 40, 98, 41] : List UInt8))) else (some false)) else (some false)) else (some false)) else (some false)) else (none)) else (some false)) else (some false)) else (some false)))) = some r := H
  have A1 := Aside0.mk A10
  clear A10
  replace H := Option.bind_eq_some_iff.mp H
  obtain ⟨⟨t106, t107, t108⟩, A20, H⟩ := H
  replace H : ((term_Print.f k (([(⟨(⟨#[102]⟩ : ByteArray), 1⟩ : S50), (⟨(⟨#[98]⟩ : ByteArray), 0⟩ : S50)] : List (S50)))).bind fun bt114 => (if t103 = 0 then (if t102 = 0 then (if (t101.length : Int) = 3 then (if 0 < (t101.length : Int) then (if ((((rd_T50 t101 0).f0).toList) == ([102] : List UInt8) && (((rd_T50 t101 0).f1) == 2)) = true then (if t108 = 3 then (if t107 = 3 then (if bt114.2 = 0 then (some (bt114.1.toList == ([102, 40, 98, 41] : List UInt8))) else (some false)) else (some false)) else (some false)) else (some false)) else (none)) else (some false)) else (some false)) else (some false))) = some r := H
  have A2 := Aside0.mk A20
  clear A20
  obtain ⟨y111, hy111⟩ : ∃ y_ : List (S50), y_ = (([(⟨(⟨#[102]⟩ : ByteArray), 1⟩ : S50), (⟨(⟨#[98]⟩ : ByteArray), 0⟩ : S50)] : List (S50))) := ⟨_, rfl⟩
  replace H : ((term_Print.f k y111).bind fun bt114 => (if t103 = 0 then (if t102 = 0 then (if (t101.length : Int) = 3 then (if 0 < (t101.length : Int) then (if ((((rd_T50 t101 0).f0).toList) == ([102] : List UInt8) && (((rd_T50 t101 0).f1) == 2)) = true then (if t108 = 3 then (if t107 = 3 then (if bt114.2 = 0 then (some (bt114.1.toList == ([102, 40, 98, 41] : List UInt8))) else (some false)) else (some false)) else (some false)) else (some false)) else (none)) else (some false)) else (some false)) else (some false))) = some r := by first | (rw [hy111]; with_reducible exact H) | (have H2_ := (Option.bind_some _ _).symm.trans H; rw [hy111]; with_reducible exact H2_) | (have H2_ := (Option.bind_some _ _).symm.trans H; with_reducible exact H2_) | with_reducible exact H | (rw [hy111]; exact H) | exact H
  have Ny111 := Aside0.mk hy111
  clear hy111
  replace H := Option.bind_eq_some_iff.mp H
  obtain ⟨⟨t114, t115⟩, A30, H⟩ := H
  replace H : (if t103 = 0 then (if t102 = 0 then (if (t101.length : Int) = 3 then (if 0 < (t101.length : Int) then (if ((((rd_T50 t101 0).f0).toList) == ([102] : List UInt8) && (((rd_T50 t101 0).f1) == 2)) = true then (if t108 = 3 then (if t107 = 3 then (if t115 = 0 then (some (t114.toList == ([102, 40, 98, 41] : List UInt8))) else (some false)) else (some false)) else (some false)) else (some false)) else (none)) else (some false)) else (some false)) else (some false)) = some r := H
  have A3 := Aside0.mk A30
  clear A30
  by_cases c4 : t103 = 0
  · rw [if_pos c4] at H
    have c4b0 : (t103 == 0) = true := beq_iff_eq.mpr c4
    have c4b1 : (t103 != 0) = false := bne_eq_false_iff_eq.mpr c4
    clear c4
    by_cases c5 : t102 = 0
    · rw [if_pos c5] at H
      have c5b0 : (t102 == 0) = true := beq_iff_eq.mpr c5
      have c5b1 : (t102 != 0) = false := bne_eq_false_iff_eq.mpr c5
      clear c5
      by_cases c6 : (t101.length : Int) = 3
      · rw [if_pos c6] at H
        have c6b0 : ((t101.length : Int) == 3) = true := beq_iff_eq.mpr c6
        have c6b1 : ((t101.length : Int) != 3) = false := bne_eq_false_iff_eq.mpr c6
        clear c6
        by_cases c7 : 0 < (t101.length : Int)
        · rw [if_pos c7] at H
          have c7b0 : decide (0 < (t101.length : Int)) = true := decide_eq_true c7
          have c7b1 : decide (0 < t101.length) = true := decide_eq_true (by omega)
          clear c7
          by_cases c8 : ((((rd_T50 t101 0).f0).toList) == ([102] : List UInt8) && (((rd_T50 t101 0).f1) == 2)) = true
          · rw [if_pos c8] at H
            have c8b0 : ((((rd_T50 t101 0).f0).toList) == ([102] : List UInt8) && (((rd_T50 t101 0).f1) == 2)) = true := c8
            (try (have c8b1 : decide ((((rd_T50 t101 0).f0).toList) = ([102] : List UInt8) && (((rd_T50 t101 0).f1) == 2)) = true := by simpa using c8))
            (try (have c8b2 : ((((rd_T50 t101 0).f0).toList) == ([102] : List UInt8) && (((rd_T50 t101 0).f1) == 2)) = true := by simpa using c8))
            clear c8
            by_cases c9 : t108 = 3
            · rw [if_pos c9] at H
              have c9b0 : (t108 == 3) = true := beq_iff_eq.mpr c9
              have c9b1 : (t108 != 3) = false := bne_eq_false_iff_eq.mpr c9
              clear c9
              by_cases c10 : t107 = 3
              · rw [if_pos c10] at H
                have c10b0 : (t107 == 3) = true := beq_iff_eq.mpr c10
                have c10b1 : (t107 != 3) = false := bne_eq_false_iff_eq.mpr c10
                clear c10
                by_cases c11 : t115 = 0
                · rw [if_pos c11] at H
                  have c11b0 : (t115 == 0) = true := beq_iff_eq.mpr c11
                  have c11b1 : (t115 != 0) = false := bne_eq_false_iff_eq.mpr c11
                  clear c11
                  obtain rfl := Option.some.inj H
                  go_enter Try.func10, Try.ntmps10
                  go_wp2_with (first | ((with_reducible refine gate_callee (f := 14) rfl ?_); refine goesL_ (some 10) rfl rfl Try.func14 (by kernel_rfl) rfl #[.string (⟨#[102, 40, 97, 44, 88, 41]⟩ : ByteArray)] rfl (by (try simp only [List.map_toArray, List.map_cons, List.map_nil]); first | done | rfl | (simp only [List.length_drop, List.length_take]; rfl)) ?_; (with_reducible refine (term_Parse.calls k (⟨#[102, 40, 97, 44, 88, 41]⟩ : ByteArray) t101 t102 t103 _ A1.out).mono ?_); rintro e w12 ⟨v104, rfl, ho0, hb⟩; refine ⟨_, rfl, ?_⟩; have n0_ := Aside0.mk (Kd.R_lower ho0 (below_size (by repeat (first | (with_reducible first | exact HB.out | apply below_alloc | apply pw_below_drewN | apply below_drew1) | exact HB.out)))); have n1_ := Aside0.mk (below_step (by repeat (first | (with_reducible first | exact HB.out | apply below_alloc | apply pw_below_drewN | apply below_drew1) | exact HB.out)) hb); clear HB; have HO105 := n0_; have HB := n1_; clear n0_ n1_; (try clear hb); (try clear hb2); (try clear hk); (try clear hi); (try clear ho0)) | ((with_reducible refine gate_callee (f := 14) rfl ?_); refine goesL_ (some 15) rfl rfl Try.func14 (by kernel_rfl) rfl #[.string (⟨#[102, 40, 97]⟩ : ByteArray)] rfl (by (try simp only [List.map_toArray, List.map_cons, List.map_nil]); first | done | rfl | (simp only [List.length_drop, List.length_take]; rfl)) ?_; (with_reducible refine (term_Parse.calls k (⟨#[102, 40, 97]⟩ : ByteArray) t106 t107 t108 _ A2.out).mono ?_); rintro e w13 ⟨v109, rfl, ho0, hb⟩; refine ⟨_, rfl, ?_⟩; have n0_ := Aside0.mk (Kd.R_elder' (by (with_reducible repeat (first | apply Kd.R_alloc | apply Kd.R_drewN | apply Kd.R_drew)); exact HO105.out) (Kd.R_base ho0) hb); have n1_ := Aside0.mk (Kd.R_lower (Kd.R_new' ho0 (Kd.R_lt (by (with_reducible repeat (first | apply Kd.R_alloc | apply Kd.R_drewN | apply Kd.R_drew)); exact HO105.out))) (below_size (by repeat (first | (with_reducible first | exact HB.out | apply below_alloc | apply pw_below_drewN | apply below_drew1) | exact HB.out)))); have n2_ := Aside0.mk (below_step (by repeat (first | (with_reducible first | exact HB.out | apply below_alloc | apply pw_below_drewN | apply below_drew1) | exact HB.out)) hb); clear HO105; clear HB; have HO105 := n0_; have HO110 := n1_; have HB := n2_; clear n0_ n1_ n2_; (try clear hb); (try clear hb2); (try clear hk); (try clear hi); (try clear ho0)) | ((with_reducible refine gate_dst (N := 22) rfl ?_); (try (refine gate_guard (by rfl) ?_; dsimp only)); refine Kd.R_lit k50 _ 50 ?hg (N := 22) ?hd (xs := ([(⟨(⟨#[102]⟩ : ByteArray), 1⟩ : S50), (⟨(⟨#[98]⟩ : ByteArray), 0⟩ : S50)] : List (S50))) (inner := [.string (⟨#[102]⟩ : ByteArray), .int .i64 1, .string (⟨#[98]⟩ : ByteArray), .int .i64 0]) (ok := fun _ => True) (okp := fun _ => True) ?hr ?hp (fun _ hk => hk) trivial (Below.refl _ _) (Nat.le_refl _) (by simp) ?_; (case hd => rfl); (case hg => rfl); (case hr => first | (go_simp; done) | (go_simp; rfl)); (case hp => exact (Reps.c2 (show Kd.M k50 _ _ _ (⟨(⟨#[102]⟩ : ByteArray), 1⟩ : S50) [.string (⟨#[102]⟩ : ByteArray), .int .i64 1] from (k50_mkM _ _ _ (⟨(⟨#[102]⟩ : ByteArray), 1⟩ : S50) )) (Reps.c2 (show Kd.M k50 _ _ _ (⟨(⟨#[98]⟩ : ByteArray), 0⟩ : S50) [.string (⟨#[98]⟩ : ByteArray), .int .i64 0] from (k50_mkM _ _ _ (⟨(⟨#[98]⟩ : ByteArray), 0⟩ : S50) )) (Reps.none _ _)))); intro v112 w14 ho15 hb hg_ hnew_; clear hg_ hnew_; (first | rw [← Ny111.out] at ho15 | (simp only [Int.reduceToNat] at ho15; rw [← Ny111.out] at ho15)); have n0_ := Aside0.mk (Kd.R_elder' (by (with_reducible repeat (first | apply Kd.R_alloc | apply Kd.R_drewN | apply Kd.R_drew)); exact HO105.out) (Kd.R_base ho15) hb); have n1_ := Aside0.mk (Kd.R_elder' (by (with_reducible repeat (first | apply Kd.R_alloc | apply Kd.R_drewN | apply Kd.R_drew)); exact HO110.out) (Kd.R_base ho15) hb); have n2_ := Aside0.mk (Kd.R_lower (Kd.R_new' (Kd.R_new' ho15 (Kd.R_lt (by (with_reducible repeat (first | apply Kd.R_alloc | apply Kd.R_drewN | apply Kd.R_drew)); exact HO105.out))) (Kd.R_lt (by (with_reducible repeat (first | apply Kd.R_alloc | apply Kd.R_drewN | apply Kd.R_drew)); exact HO110.out))) (below_size (by repeat (first | (with_reducible first | exact HB.out | apply below_alloc | apply pw_below_drewN | apply below_drew1) | exact HB.out)))); have n3_ := Aside0.mk (below_step (by repeat (first | (with_reducible first | exact HB.out | apply below_alloc | apply pw_below_drewN | apply below_drew1) | exact HB.out)) hb); clear HO105; clear HO110; clear HB; have HO105 := n0_; have HO110 := n1_; have HO113 := n2_; have HB := n3_; clear n0_ n1_ n2_ n3_; clear hb ho15; obtain ⟨Ao16, co16, eo16⟩ := Kd.R_slice HO113.out; subst eo16) | ((with_reducible refine gate_callee (f := 17) rfl ?_); refine goesL_ (some 23) rfl rfl Try.func17 (by kernel_rfl) rfl #[.slice Ao16 y111.length co16] rfl (by (try simp only [List.map_toArray, List.map_cons, List.map_nil]); first | done | rfl | (simp only [List.length_drop, List.length_take]; rfl)) ?_; (with_reducible refine (term_Print.calls k _ _ y111 t114 t115 _ ?side1 ?side2 A3.out).mono ?_); (case side1 => repeat (first | exact (Kd.R_reads' HO113.out).2.2 | (with_reducible refine Kd.C_alloc ?_ _) | (with_reducible refine Kd.C_drewN ?_ _) | (with_reducible refine Kd.C_drew ?_))); (case side2 => exact (Kd.R_reads' HO113.out).2.1); rintro e w17 ⟨rfl, hb⟩; refine ⟨_, rfl, ?_⟩; have n0_ := Aside0.mk (Kd.R_below (by (with_reducible repeat (first | apply Kd.R_alloc | apply Kd.R_drewN | apply Kd.R_drew)); exact HO105.out) hb); have n1_ := Aside0.mk (Kd.R_below (by (with_reducible repeat (first | apply Kd.R_alloc | apply Kd.R_drewN | apply Kd.R_drew)); exact HO110.out) hb); have n2_ := Aside0.mk (Kd.R_below (by (with_reducible repeat (first | apply Kd.R_alloc | apply Kd.R_drewN | apply Kd.R_drew)); exact HO113.out) hb); have n3_ := Aside0.mk (below_step (by repeat (first | (with_reducible first | exact HB.out | apply below_alloc | apply pw_below_drewN | apply below_drew1) | exact HB.out)) hb); clear HO105; clear HO110; clear HO113; clear HB; have HO105 := n0_; have HO110 := n1_; have HO113 := n2_; have HB := n3_; clear n0_ n1_ n2_ n3_; (try clear hb); (try clear hb2); (try clear hk); (try clear hi); obtain ⟨Ao18, co18, eo18⟩ := Kd.R_slice HO105.out; subst eo18; have p116 : 0 ≤ (0 : Int) := (by omega); have q116 : 0 < (t101.length : Int) := of_decide_eq_true (by first | (with_reducible assumption) | assumption); obtain ⟨ad116, e116, hx116_0, hx116_1⟩ := at_T50 (Kd.R_reads' HO105.out).2.2 0 p116 q116; cases e116; have qi116 : (0 < t101.length) = True := eq_true (by omega); (try rw [show ((0 : Int)).toNat = 0 from rfl] at hx116_0); (try rw [show 0 * 2 = 0 from rfl] at hx116_0); (try rw [Addr.add_zero'] at hx116_0); (try rw [show ((0 : Int)).toNat = 0 from rfl] at hx116_1); (try rw [show 0 * 2 = 0 from rfl] at hx116_1); (try rw [Addr.add_zero'] at hx116_1); replace p116 := eq_true p116; replace q116 := eq_true q116))
                  go_ret
                  exact ⟨by first | rfl | (simp [errW_none, errW_some] <;> rfl) | (simp [*, errW_none, errW_some] <;> rfl), by repeat (first | (with_reducible first | exact HB.out | apply below_alloc | apply pw_below_drewN | apply below_drew1) | exact HB.out)⟩
                · rw [if_neg c11] at H
                  have c11b0 : (t115 == 0) = false := beq_eq_false_iff_ne.mpr c11
                  have c11b1 : (t115 != 0) = true := bne_iff_ne.mpr c11
                  obtain rfl := Option.some.inj H
                  go_enter Try.func10, Try.ntmps10
                  go_wp2_with (first | ((with_reducible refine gate_callee (f := 14) rfl ?_); refine goesL_ (some 10) rfl rfl Try.func14 (by kernel_rfl) rfl #[.string (⟨#[102, 40, 97, 44, 88, 41]⟩ : ByteArray)] rfl (by (try simp only [List.map_toArray, List.map_cons, List.map_nil]); first | done | rfl | (simp only [List.length_drop, List.length_take]; rfl)) ?_; (with_reducible refine (term_Parse.calls k (⟨#[102, 40, 97, 44, 88, 41]⟩ : ByteArray) t101 t102 t103 _ A1.out).mono ?_); rintro e w19 ⟨v104, rfl, ho0, hb⟩; refine ⟨_, rfl, ?_⟩; have n0_ := Aside0.mk (Kd.R_lower ho0 (below_size (by repeat (first | (with_reducible first | exact HB.out | apply below_alloc | apply pw_below_drewN | apply below_drew1) | exact HB.out)))); have n1_ := Aside0.mk (below_step (by repeat (first | (with_reducible first | exact HB.out | apply below_alloc | apply pw_below_drewN | apply below_drew1) | exact HB.out)) hb); clear HB; have HO105 := n0_; have HB := n1_; clear n0_ n1_; (try clear hb); (try clear hb2); (try clear hk); (try clear hi); (try clear ho0)) | ((with_reducible refine gate_callee (f := 14) rfl ?_); refine goesL_ (some 15) rfl rfl Try.func14 (by kernel_rfl) rfl #[.string (⟨#[102, 40, 97]⟩ : ByteArray)] rfl (by (try simp only [List.map_toArray, List.map_cons, List.map_nil]); first | done | rfl | (simp only [List.length_drop, List.length_take]; rfl)) ?_; (with_reducible refine (term_Parse.calls k (⟨#[102, 40, 97]⟩ : ByteArray) t106 t107 t108 _ A2.out).mono ?_); rintro e w20 ⟨v109, rfl, ho0, hb⟩; refine ⟨_, rfl, ?_⟩; have n0_ := Aside0.mk (Kd.R_elder' (by (with_reducible repeat (first | apply Kd.R_alloc | apply Kd.R_drewN | apply Kd.R_drew)); exact HO105.out) (Kd.R_base ho0) hb); have n1_ := Aside0.mk (Kd.R_lower (Kd.R_new' ho0 (Kd.R_lt (by (with_reducible repeat (first | apply Kd.R_alloc | apply Kd.R_drewN | apply Kd.R_drew)); exact HO105.out))) (below_size (by repeat (first | (with_reducible first | exact HB.out | apply below_alloc | apply pw_below_drewN | apply below_drew1) | exact HB.out)))); have n2_ := Aside0.mk (below_step (by repeat (first | (with_reducible first | exact HB.out | apply below_alloc | apply pw_below_drewN | apply below_drew1) | exact HB.out)) hb); clear HO105; clear HB; have HO105 := n0_; have HO110 := n1_; have HB := n2_; clear n0_ n1_ n2_; (try clear hb); (try clear hb2); (try clear hk); (try clear hi); (try clear ho0)) | ((with_reducible refine gate_dst (N := 22) rfl ?_); (try (refine gate_guard (by rfl) ?_; dsimp only)); refine Kd.R_lit k50 _ 50 ?hg (N := 22) ?hd (xs := ([(⟨(⟨#[102]⟩ : ByteArray), 1⟩ : S50), (⟨(⟨#[98]⟩ : ByteArray), 0⟩ : S50)] : List (S50))) (inner := [.string (⟨#[102]⟩ : ByteArray), .int .i64 1, .string (⟨#[98]⟩ : ByteArray), .int .i64 0]) (ok := fun _ => True) (okp := fun _ => True) ?hr ?hp (fun _ hk => hk) trivial (Below.refl _ _) (Nat.le_refl _) (by simp) ?_; (case hd => rfl); (case hg => rfl); (case hr => first | (go_simp; done) | (go_simp; rfl)); (case hp => exact (Reps.c2 (show Kd.M k50 _ _ _ (⟨(⟨#[102]⟩ : ByteArray), 1⟩ : S50) [.string (⟨#[102]⟩ : ByteArray), .int .i64 1] from (k50_mkM _ _ _ (⟨(⟨#[102]⟩ : ByteArray), 1⟩ : S50) )) (Reps.c2 (show Kd.M k50 _ _ _ (⟨(⟨#[98]⟩ : ByteArray), 0⟩ : S50) [.string (⟨#[98]⟩ : ByteArray), .int .i64 0] from (k50_mkM _ _ _ (⟨(⟨#[98]⟩ : ByteArray), 0⟩ : S50) )) (Reps.none _ _)))); intro v112 w21 ho22 hb hg_ hnew_; clear hg_ hnew_; (first | rw [← Ny111.out] at ho22 | (simp only [Int.reduceToNat] at ho22; rw [← Ny111.out] at ho22)); have n0_ := Aside0.mk (Kd.R_elder' (by (with_reducible repeat (first | apply Kd.R_alloc | apply Kd.R_drewN | apply Kd.R_drew)); exact HO105.out) (Kd.R_base ho22) hb); have n1_ := Aside0.mk (Kd.R_elder' (by (with_reducible repeat (first | apply Kd.R_alloc | apply Kd.R_drewN | apply Kd.R_drew)); exact HO110.out) (Kd.R_base ho22) hb); have n2_ := Aside0.mk (Kd.R_lower (Kd.R_new' (Kd.R_new' ho22 (Kd.R_lt (by (with_reducible repeat (first | apply Kd.R_alloc | apply Kd.R_drewN | apply Kd.R_drew)); exact HO105.out))) (Kd.R_lt (by (with_reducible repeat (first | apply Kd.R_alloc | apply Kd.R_drewN | apply Kd.R_drew)); exact HO110.out))) (below_size (by repeat (first | (with_reducible first | exact HB.out | apply below_alloc | apply pw_below_drewN | apply below_drew1) | exact HB.out)))); have n3_ := Aside0.mk (below_step (by repeat (first | (with_reducible first | exact HB.out | apply below_alloc | apply pw_below_drewN | apply below_drew1) | exact HB.out)) hb); clear HO105; clear HO110; clear HB; have HO105 := n0_; have HO110 := n1_; have HO113 := n2_; have HB := n3_; clear n0_ n1_ n2_ n3_; clear hb ho22; obtain ⟨Ao23, co23, eo23⟩ := Kd.R_slice HO113.out; subst eo23) | ((with_reducible refine gate_callee (f := 17) rfl ?_); refine goesL_ (some 23) rfl rfl Try.func17 (by kernel_rfl) rfl #[.slice Ao23 y111.length co23] rfl (by (try simp only [List.map_toArray, List.map_cons, List.map_nil]); first | done | rfl | (simp only [List.length_drop, List.length_take]; rfl)) ?_; (with_reducible refine (term_Print.calls k _ _ y111 t114 t115 _ ?side1 ?side2 A3.out).mono ?_); (case side1 => repeat (first | exact (Kd.R_reads' HO113.out).2.2 | (with_reducible refine Kd.C_alloc ?_ _) | (with_reducible refine Kd.C_drewN ?_ _) | (with_reducible refine Kd.C_drew ?_))); (case side2 => exact (Kd.R_reads' HO113.out).2.1); rintro e w24 ⟨rfl, hb⟩; refine ⟨_, rfl, ?_⟩; have n0_ := Aside0.mk (Kd.R_below (by (with_reducible repeat (first | apply Kd.R_alloc | apply Kd.R_drewN | apply Kd.R_drew)); exact HO105.out) hb); have n1_ := Aside0.mk (Kd.R_below (by (with_reducible repeat (first | apply Kd.R_alloc | apply Kd.R_drewN | apply Kd.R_drew)); exact HO110.out) hb); have n2_ := Aside0.mk (Kd.R_below (by (with_reducible repeat (first | apply Kd.R_alloc | apply Kd.R_drewN | apply Kd.R_drew)); exact HO113.out) hb); have n3_ := Aside0.mk (below_step (by repeat (first | (with_reducible first | exact HB.out | apply below_alloc | apply pw_below_drewN | apply below_drew1) | exact HB.out)) hb); clear HO105; clear HO110; clear HO113; clear HB; have HO105 := n0_; have HO110 := n1_; have HO113 := n2_; have HB := n3_; clear n0_ n1_ n2_ n3_; (try clear hb); (try clear hb2); (try clear hk); (try clear hi); obtain ⟨Ao25, co25, eo25⟩ := Kd.R_slice HO105.out; subst eo25; have p116 : 0 ≤ (0 : Int) := (by omega); have q116 : 0 < (t101.length : Int) := of_decide_eq_true (by first | (with_reducible assumption) | assumption); obtain ⟨ad116, e116, hx116_0, hx116_1⟩ := at_T50 (Kd.R_reads' HO105.out).2.2 0 p116 q116; cases e116; have qi116 : (0 < t101.length) = True := eq_true (by omega); (try rw [show ((0 : Int)).toNat = 0 from rfl] at hx116_0); (try rw [show 0 * 2 = 0 from rfl] at hx116_0); (try rw [Addr.add_zero'] at hx116_0); (try rw [show ((0 : Int)).toNat = 0 from rfl] at hx116_1); (try rw [show 0 * 2 = 0 from rfl] at hx116_1); (try rw [Addr.add_zero'] at hx116_1); replace p116 := eq_true p116; replace q116 := eq_true q116))
                  go_ret
                  exact ⟨by first | rfl | (simp [errW_none, errW_some] <;> rfl) | (simp [*, errW_none, errW_some] <;> rfl), by repeat (first | (with_reducible first | exact HB.out | apply below_alloc | apply pw_below_drewN | apply below_drew1) | exact HB.out)⟩
              · rw [if_neg c10] at H
                have c10b0 : (t107 == 3) = false := beq_eq_false_iff_ne.mpr c10
                have c10b1 : (t107 != 3) = true := bne_iff_ne.mpr c10
                obtain rfl := Option.some.inj H
                go_enter Try.func10, Try.ntmps10
                go_wp2_with (first | ((with_reducible refine gate_callee (f := 14) rfl ?_); refine goesL_ (some 10) rfl rfl Try.func14 (by kernel_rfl) rfl #[.string (⟨#[102, 40, 97, 44, 88, 41]⟩ : ByteArray)] rfl (by (try simp only [List.map_toArray, List.map_cons, List.map_nil]); first | done | rfl | (simp only [List.length_drop, List.length_take]; rfl)) ?_; (with_reducible refine (term_Parse.calls k (⟨#[102, 40, 97, 44, 88, 41]⟩ : ByteArray) t101 t102 t103 _ A1.out).mono ?_); rintro e w26 ⟨v104, rfl, ho0, hb⟩; refine ⟨_, rfl, ?_⟩; have n0_ := Aside0.mk (Kd.R_lower ho0 (below_size (by repeat (first | (with_reducible first | exact HB.out | apply below_alloc | apply pw_below_drewN | apply below_drew1) | exact HB.out)))); have n1_ := Aside0.mk (below_step (by repeat (first | (with_reducible first | exact HB.out | apply below_alloc | apply pw_below_drewN | apply below_drew1) | exact HB.out)) hb); clear HB; have HO105 := n0_; have HB := n1_; clear n0_ n1_; (try clear hb); (try clear hb2); (try clear hk); (try clear hi); (try clear ho0)) | ((with_reducible refine gate_callee (f := 14) rfl ?_); refine goesL_ (some 15) rfl rfl Try.func14 (by kernel_rfl) rfl #[.string (⟨#[102, 40, 97]⟩ : ByteArray)] rfl (by (try simp only [List.map_toArray, List.map_cons, List.map_nil]); first | done | rfl | (simp only [List.length_drop, List.length_take]; rfl)) ?_; (with_reducible refine (term_Parse.calls k (⟨#[102, 40, 97]⟩ : ByteArray) t106 t107 t108 _ A2.out).mono ?_); rintro e w27 ⟨v109, rfl, ho0, hb⟩; refine ⟨_, rfl, ?_⟩; have n0_ := Aside0.mk (Kd.R_elder' (by (with_reducible repeat (first | apply Kd.R_alloc | apply Kd.R_drewN | apply Kd.R_drew)); exact HO105.out) (Kd.R_base ho0) hb); have n1_ := Aside0.mk (Kd.R_lower (Kd.R_new' ho0 (Kd.R_lt (by (with_reducible repeat (first | apply Kd.R_alloc | apply Kd.R_drewN | apply Kd.R_drew)); exact HO105.out))) (below_size (by repeat (first | (with_reducible first | exact HB.out | apply below_alloc | apply pw_below_drewN | apply below_drew1) | exact HB.out)))); have n2_ := Aside0.mk (below_step (by repeat (first | (with_reducible first | exact HB.out | apply below_alloc | apply pw_below_drewN | apply below_drew1) | exact HB.out)) hb); clear HO105; clear HB; have HO105 := n0_; have HO110 := n1_; have HB := n2_; clear n0_ n1_ n2_; (try clear hb); (try clear hb2); (try clear hk); (try clear hi); (try clear ho0)) | ((with_reducible refine gate_dst (N := 22) rfl ?_); (try (refine gate_guard (by rfl) ?_; dsimp only)); refine Kd.R_lit k50 _ 50 ?hg (N := 22) ?hd (xs := ([(⟨(⟨#[102]⟩ : ByteArray), 1⟩ : S50), (⟨(⟨#[98]⟩ : ByteArray), 0⟩ : S50)] : List (S50))) (inner := [.string (⟨#[102]⟩ : ByteArray), .int .i64 1, .string (⟨#[98]⟩ : ByteArray), .int .i64 0]) (ok := fun _ => True) (okp := fun _ => True) ?hr ?hp (fun _ hk => hk) trivial (Below.refl _ _) (Nat.le_refl _) (by simp) ?_; (case hd => rfl); (case hg => rfl); (case hr => first | (go_simp; done) | (go_simp; rfl)); (case hp => exact (Reps.c2 (show Kd.M k50 _ _ _ (⟨(⟨#[102]⟩ : ByteArray), 1⟩ : S50) [.string (⟨#[102]⟩ : ByteArray), .int .i64 1] from (k50_mkM _ _ _ (⟨(⟨#[102]⟩ : ByteArray), 1⟩ : S50) )) (Reps.c2 (show Kd.M k50 _ _ _ (⟨(⟨#[98]⟩ : ByteArray), 0⟩ : S50) [.string (⟨#[98]⟩ : ByteArray), .int .i64 0] from (k50_mkM _ _ _ (⟨(⟨#[98]⟩ : ByteArray), 0⟩ : S50) )) (Reps.none _ _)))); intro v112 w28 ho29 hb hg_ hnew_; clear hg_ hnew_; (first | rw [← Ny111.out] at ho29 | (simp only [Int.reduceToNat] at ho29; rw [← Ny111.out] at ho29)); have n0_ := Aside0.mk (Kd.R_elder' (by (with_reducible repeat (first | apply Kd.R_alloc | apply Kd.R_drewN | apply Kd.R_drew)); exact HO105.out) (Kd.R_base ho29) hb); have n1_ := Aside0.mk (Kd.R_elder' (by (with_reducible repeat (first | apply Kd.R_alloc | apply Kd.R_drewN | apply Kd.R_drew)); exact HO110.out) (Kd.R_base ho29) hb); have n2_ := Aside0.mk (Kd.R_lower (Kd.R_new' (Kd.R_new' ho29 (Kd.R_lt (by (with_reducible repeat (first | apply Kd.R_alloc | apply Kd.R_drewN | apply Kd.R_drew)); exact HO105.out))) (Kd.R_lt (by (with_reducible repeat (first | apply Kd.R_alloc | apply Kd.R_drewN | apply Kd.R_drew)); exact HO110.out))) (below_size (by repeat (first | (with_reducible first | exact HB.out | apply below_alloc | apply pw_below_drewN | apply below_drew1) | exact HB.out)))); have n3_ := Aside0.mk (below_step (by repeat (first | (with_reducible first | exact HB.out | apply below_alloc | apply pw_below_drewN | apply below_drew1) | exact HB.out)) hb); clear HO105; clear HO110; clear HB; have HO105 := n0_; have HO110 := n1_; have HO113 := n2_; have HB := n3_; clear n0_ n1_ n2_ n3_; clear hb ho29; obtain ⟨Ao30, co30, eo30⟩ := Kd.R_slice HO113.out; subst eo30) | ((with_reducible refine gate_callee (f := 17) rfl ?_); refine goesL_ (some 23) rfl rfl Try.func17 (by kernel_rfl) rfl #[.slice Ao30 y111.length co30] rfl (by (try simp only [List.map_toArray, List.map_cons, List.map_nil]); first | done | rfl | (simp only [List.length_drop, List.length_take]; rfl)) ?_; (with_reducible refine (term_Print.calls k _ _ y111 t114 t115 _ ?side1 ?side2 A3.out).mono ?_); (case side1 => repeat (first | exact (Kd.R_reads' HO113.out).2.2 | (with_reducible refine Kd.C_alloc ?_ _) | (with_reducible refine Kd.C_drewN ?_ _) | (with_reducible refine Kd.C_drew ?_))); (case side2 => exact (Kd.R_reads' HO113.out).2.1); rintro e w31 ⟨rfl, hb⟩; refine ⟨_, rfl, ?_⟩; have n0_ := Aside0.mk (Kd.R_below (by (with_reducible repeat (first | apply Kd.R_alloc | apply Kd.R_drewN | apply Kd.R_drew)); exact HO105.out) hb); have n1_ := Aside0.mk (Kd.R_below (by (with_reducible repeat (first | apply Kd.R_alloc | apply Kd.R_drewN | apply Kd.R_drew)); exact HO110.out) hb); have n2_ := Aside0.mk (Kd.R_below (by (with_reducible repeat (first | apply Kd.R_alloc | apply Kd.R_drewN | apply Kd.R_drew)); exact HO113.out) hb); have n3_ := Aside0.mk (below_step (by repeat (first | (with_reducible first | exact HB.out | apply below_alloc | apply pw_below_drewN | apply below_drew1) | exact HB.out)) hb); clear HO105; clear HO110; clear HO113; clear HB; have HO105 := n0_; have HO110 := n1_; have HO113 := n2_; have HB := n3_; clear n0_ n1_ n2_ n3_; (try clear hb); (try clear hb2); (try clear hk); (try clear hi); obtain ⟨Ao32, co32, eo32⟩ := Kd.R_slice HO105.out; subst eo32; have p116 : 0 ≤ (0 : Int) := (by omega); have q116 : 0 < (t101.length : Int) := of_decide_eq_true (by first | (with_reducible assumption) | assumption); obtain ⟨ad116, e116, hx116_0, hx116_1⟩ := at_T50 (Kd.R_reads' HO105.out).2.2 0 p116 q116; cases e116; have qi116 : (0 < t101.length) = True := eq_true (by omega); (try rw [show ((0 : Int)).toNat = 0 from rfl] at hx116_0); (try rw [show 0 * 2 = 0 from rfl] at hx116_0); (try rw [Addr.add_zero'] at hx116_0); (try rw [show ((0 : Int)).toNat = 0 from rfl] at hx116_1); (try rw [show 0 * 2 = 0 from rfl] at hx116_1); (try rw [Addr.add_zero'] at hx116_1); replace p116 := eq_true p116; replace q116 := eq_true q116))
                go_ret
                exact ⟨by first | rfl | (simp [errW_none, errW_some] <;> rfl) | (simp [*, errW_none, errW_some] <;> rfl), by repeat (first | (with_reducible first | exact HB.out | apply below_alloc | apply pw_below_drewN | apply below_drew1) | exact HB.out)⟩
            · rw [if_neg c9] at H
              have c9b0 : (t108 == 3) = false := beq_eq_false_iff_ne.mpr c9
              have c9b1 : (t108 != 3) = true := bne_iff_ne.mpr c9
              obtain rfl := Option.some.inj H
              go_enter Try.func10, Try.ntmps10
              go_wp2_with (first | ((with_reducible refine gate_callee (f := 14) rfl ?_); refine goesL_ (some 10) rfl rfl Try.func14 (by kernel_rfl) rfl #[.string (⟨#[102, 40, 97, 44, 88, 41]⟩ : ByteArray)] rfl (by (try simp only [List.map_toArray, List.map_cons, List.map_nil]); first | done | rfl | (simp only [List.length_drop, List.length_take]; rfl)) ?_; (with_reducible refine (term_Parse.calls k (⟨#[102, 40, 97, 44, 88, 41]⟩ : ByteArray) t101 t102 t103 _ A1.out).mono ?_); rintro e w33 ⟨v104, rfl, ho0, hb⟩; refine ⟨_, rfl, ?_⟩; have n0_ := Aside0.mk (Kd.R_lower ho0 (below_size (by repeat (first | (with_reducible first | exact HB.out | apply below_alloc | apply pw_below_drewN | apply below_drew1) | exact HB.out)))); have n1_ := Aside0.mk (below_step (by repeat (first | (with_reducible first | exact HB.out | apply below_alloc | apply pw_below_drewN | apply below_drew1) | exact HB.out)) hb); clear HB; have HO105 := n0_; have HB := n1_; clear n0_ n1_; (try clear hb); (try clear hb2); (try clear hk); (try clear hi); (try clear ho0)) | ((with_reducible refine gate_callee (f := 14) rfl ?_); refine goesL_ (some 15) rfl rfl Try.func14 (by kernel_rfl) rfl #[.string (⟨#[102, 40, 97]⟩ : ByteArray)] rfl (by (try simp only [List.map_toArray, List.map_cons, List.map_nil]); first | done | rfl | (simp only [List.length_drop, List.length_take]; rfl)) ?_; (with_reducible refine (term_Parse.calls k (⟨#[102, 40, 97]⟩ : ByteArray) t106 t107 t108 _ A2.out).mono ?_); rintro e w34 ⟨v109, rfl, ho0, hb⟩; refine ⟨_, rfl, ?_⟩; have n0_ := Aside0.mk (Kd.R_elder' (by (with_reducible repeat (first | apply Kd.R_alloc | apply Kd.R_drewN | apply Kd.R_drew)); exact HO105.out) (Kd.R_base ho0) hb); have n1_ := Aside0.mk (Kd.R_lower (Kd.R_new' ho0 (Kd.R_lt (by (with_reducible repeat (first | apply Kd.R_alloc | apply Kd.R_drewN | apply Kd.R_drew)); exact HO105.out))) (below_size (by repeat (first | (with_reducible first | exact HB.out | apply below_alloc | apply pw_below_drewN | apply below_drew1) | exact HB.out)))); have n2_ := Aside0.mk (below_step (by repeat (first | (with_reducible first | exact HB.out | apply below_alloc | apply pw_below_drewN | apply below_drew1) | exact HB.out)) hb); clear HO105; clear HB; have HO105 := n0_; have HO110 := n1_; have HB := n2_; clear n0_ n1_ n2_; (try clear hb); (try clear hb2); (try clear hk); (try clear hi); (try clear ho0)) | ((with_reducible refine gate_dst (N := 22) rfl ?_); (try (refine gate_guard (by rfl) ?_; dsimp only)); refine Kd.R_lit k50 _ 50 ?hg (N := 22) ?hd (xs := ([(⟨(⟨#[102]⟩ : ByteArray), 1⟩ : S50), (⟨(⟨#[98]⟩ : ByteArray), 0⟩ : S50)] : List (S50))) (inner := [.string (⟨#[102]⟩ : ByteArray), .int .i64 1, .string (⟨#[98]⟩ : ByteArray), .int .i64 0]) (ok := fun _ => True) (okp := fun _ => True) ?hr ?hp (fun _ hk => hk) trivial (Below.refl _ _) (Nat.le_refl _) (by simp) ?_; (case hd => rfl); (case hg => rfl); (case hr => first | (go_simp; done) | (go_simp; rfl)); (case hp => exact (Reps.c2 (show Kd.M k50 _ _ _ (⟨(⟨#[102]⟩ : ByteArray), 1⟩ : S50) [.string (⟨#[102]⟩ : ByteArray), .int .i64 1] from (k50_mkM _ _ _ (⟨(⟨#[102]⟩ : ByteArray), 1⟩ : S50) )) (Reps.c2 (show Kd.M k50 _ _ _ (⟨(⟨#[98]⟩ : ByteArray), 0⟩ : S50) [.string (⟨#[98]⟩ : ByteArray), .int .i64 0] from (k50_mkM _ _ _ (⟨(⟨#[98]⟩ : ByteArray), 0⟩ : S50) )) (Reps.none _ _)))); intro v112 w35 ho36 hb hg_ hnew_; clear hg_ hnew_; (first | rw [← Ny111.out] at ho36 | (simp only [Int.reduceToNat] at ho36; rw [← Ny111.out] at ho36)); have n0_ := Aside0.mk (Kd.R_elder' (by (with_reducible repeat (first | apply Kd.R_alloc | apply Kd.R_drewN | apply Kd.R_drew)); exact HO105.out) (Kd.R_base ho36) hb); have n1_ := Aside0.mk (Kd.R_elder' (by (with_reducible repeat (first | apply Kd.R_alloc | apply Kd.R_drewN | apply Kd.R_drew)); exact HO110.out) (Kd.R_base ho36) hb); have n2_ := Aside0.mk (Kd.R_lower (Kd.R_new' (Kd.R_new' ho36 (Kd.R_lt (by (with_reducible repeat (first | apply Kd.R_alloc | apply Kd.R_drewN | apply Kd.R_drew)); exact HO105.out))) (Kd.R_lt (by (with_reducible repeat (first | apply Kd.R_alloc | apply Kd.R_drewN | apply Kd.R_drew)); exact HO110.out))) (below_size (by repeat (first | (with_reducible first | exact HB.out | apply below_alloc | apply pw_below_drewN | apply below_drew1) | exact HB.out)))); have n3_ := Aside0.mk (below_step (by repeat (first | (with_reducible first | exact HB.out | apply below_alloc | apply pw_below_drewN | apply below_drew1) | exact HB.out)) hb); clear HO105; clear HO110; clear HB; have HO105 := n0_; have HO110 := n1_; have HO113 := n2_; have HB := n3_; clear n0_ n1_ n2_ n3_; clear hb ho36; obtain ⟨Ao37, co37, eo37⟩ := Kd.R_slice HO113.out; subst eo37) | ((with_reducible refine gate_callee (f := 17) rfl ?_); refine goesL_ (some 23) rfl rfl Try.func17 (by kernel_rfl) rfl #[.slice Ao37 y111.length co37] rfl (by (try simp only [List.map_toArray, List.map_cons, List.map_nil]); first | done | rfl | (simp only [List.length_drop, List.length_take]; rfl)) ?_; (with_reducible refine (term_Print.calls k _ _ y111 t114 t115 _ ?side1 ?side2 A3.out).mono ?_); (case side1 => repeat (first | exact (Kd.R_reads' HO113.out).2.2 | (with_reducible refine Kd.C_alloc ?_ _) | (with_reducible refine Kd.C_drewN ?_ _) | (with_reducible refine Kd.C_drew ?_))); (case side2 => exact (Kd.R_reads' HO113.out).2.1); rintro e w38 ⟨rfl, hb⟩; refine ⟨_, rfl, ?_⟩; have n0_ := Aside0.mk (Kd.R_below (by (with_reducible repeat (first | apply Kd.R_alloc | apply Kd.R_drewN | apply Kd.R_drew)); exact HO105.out) hb); have n1_ := Aside0.mk (Kd.R_below (by (with_reducible repeat (first | apply Kd.R_alloc | apply Kd.R_drewN | apply Kd.R_drew)); exact HO110.out) hb); have n2_ := Aside0.mk (Kd.R_below (by (with_reducible repeat (first | apply Kd.R_alloc | apply Kd.R_drewN | apply Kd.R_drew)); exact HO113.out) hb); have n3_ := Aside0.mk (below_step (by repeat (first | (with_reducible first | exact HB.out | apply below_alloc | apply pw_below_drewN | apply below_drew1) | exact HB.out)) hb); clear HO105; clear HO110; clear HO113; clear HB; have HO105 := n0_; have HO110 := n1_; have HO113 := n2_; have HB := n3_; clear n0_ n1_ n2_ n3_; (try clear hb); (try clear hb2); (try clear hk); (try clear hi); obtain ⟨Ao39, co39, eo39⟩ := Kd.R_slice HO105.out; subst eo39; have p116 : 0 ≤ (0 : Int) := (by omega); have q116 : 0 < (t101.length : Int) := of_decide_eq_true (by first | (with_reducible assumption) | assumption); obtain ⟨ad116, e116, hx116_0, hx116_1⟩ := at_T50 (Kd.R_reads' HO105.out).2.2 0 p116 q116; cases e116; have qi116 : (0 < t101.length) = True := eq_true (by omega); (try rw [show ((0 : Int)).toNat = 0 from rfl] at hx116_0); (try rw [show 0 * 2 = 0 from rfl] at hx116_0); (try rw [Addr.add_zero'] at hx116_0); (try rw [show ((0 : Int)).toNat = 0 from rfl] at hx116_1); (try rw [show 0 * 2 = 0 from rfl] at hx116_1); (try rw [Addr.add_zero'] at hx116_1); replace p116 := eq_true p116; replace q116 := eq_true q116))
              go_ret
              exact ⟨by first | rfl | (simp [errW_none, errW_some] <;> rfl) | (simp [*, errW_none, errW_some] <;> rfl), by repeat (first | (with_reducible first | exact HB.out | apply below_alloc | apply pw_below_drewN | apply below_drew1) | exact HB.out)⟩
          · rw [if_neg c8] at H
            have c8b0 : ((((rd_T50 t101 0).f0).toList) == ([102] : List UInt8) && (((rd_T50 t101 0).f1) == 2)) = false := by simpa using c8
            (try (have c8b1 : decide ((((rd_T50 t101 0).f0).toList) = ([102] : List UInt8) && (((rd_T50 t101 0).f1) == 2)) = false := by simpa using c8))
            (try (have c8b2 : ((((rd_T50 t101 0).f0).toList) == ([102] : List UInt8) && (((rd_T50 t101 0).f1) == 2)) = false := by simpa using c8))
            (try (have c8b3 : ¬ ((((rd_T50 t101 0).f0).toList) = ([102] : List UInt8) && (((rd_T50 t101 0).f1) == 2)) := by simpa using c8))
            clear c8
            obtain rfl := Option.some.inj H
            go_enter Try.func10, Try.ntmps10
            go_wp2_with (first | ((with_reducible refine gate_callee (f := 14) rfl ?_); refine goesL_ (some 10) rfl rfl Try.func14 (by kernel_rfl) rfl #[.string (⟨#[102, 40, 97, 44, 88, 41]⟩ : ByteArray)] rfl (by (try simp only [List.map_toArray, List.map_cons, List.map_nil]); first | done | rfl | (simp only [List.length_drop, List.length_take]; rfl)) ?_; (with_reducible refine (term_Parse.calls k (⟨#[102, 40, 97, 44, 88, 41]⟩ : ByteArray) t101 t102 t103 _ A1.out).mono ?_); rintro e w40 ⟨v104, rfl, ho0, hb⟩; refine ⟨_, rfl, ?_⟩; have n0_ := Aside0.mk (Kd.R_lower ho0 (below_size (by repeat (first | (with_reducible first | exact HB.out | apply below_alloc | apply pw_below_drewN | apply below_drew1) | exact HB.out)))); have n1_ := Aside0.mk (below_step (by repeat (first | (with_reducible first | exact HB.out | apply below_alloc | apply pw_below_drewN | apply below_drew1) | exact HB.out)) hb); clear HB; have HO105 := n0_; have HB := n1_; clear n0_ n1_; (try clear hb); (try clear hb2); (try clear hk); (try clear hi); (try clear ho0)) | ((with_reducible refine gate_callee (f := 14) rfl ?_); refine goesL_ (some 15) rfl rfl Try.func14 (by kernel_rfl) rfl #[.string (⟨#[102, 40, 97]⟩ : ByteArray)] rfl (by (try simp only [List.map_toArray, List.map_cons, List.map_nil]); first | done | rfl | (simp only [List.length_drop, List.length_take]; rfl)) ?_; (with_reducible refine (term_Parse.calls k (⟨#[102, 40, 97]⟩ : ByteArray) t106 t107 t108 _ A2.out).mono ?_); rintro e w41 ⟨v109, rfl, ho0, hb⟩; refine ⟨_, rfl, ?_⟩; have n0_ := Aside0.mk (Kd.R_elder' (by (with_reducible repeat (first | apply Kd.R_alloc | apply Kd.R_drewN | apply Kd.R_drew)); exact HO105.out) (Kd.R_base ho0) hb); have n1_ := Aside0.mk (Kd.R_lower (Kd.R_new' ho0 (Kd.R_lt (by (with_reducible repeat (first | apply Kd.R_alloc | apply Kd.R_drewN | apply Kd.R_drew)); exact HO105.out))) (below_size (by repeat (first | (with_reducible first | exact HB.out | apply below_alloc | apply pw_below_drewN | apply below_drew1) | exact HB.out)))); have n2_ := Aside0.mk (below_step (by repeat (first | (with_reducible first | exact HB.out | apply below_alloc | apply pw_below_drewN | apply below_drew1) | exact HB.out)) hb); clear HO105; clear HB; have HO105 := n0_; have HO110 := n1_; have HB := n2_; clear n0_ n1_ n2_; (try clear hb); (try clear hb2); (try clear hk); (try clear hi); (try clear ho0)) | ((with_reducible refine gate_dst (N := 22) rfl ?_); (try (refine gate_guard (by rfl) ?_; dsimp only)); refine Kd.R_lit k50 _ 50 ?hg (N := 22) ?hd (xs := ([(⟨(⟨#[102]⟩ : ByteArray), 1⟩ : S50), (⟨(⟨#[98]⟩ : ByteArray), 0⟩ : S50)] : List (S50))) (inner := [.string (⟨#[102]⟩ : ByteArray), .int .i64 1, .string (⟨#[98]⟩ : ByteArray), .int .i64 0]) (ok := fun _ => True) (okp := fun _ => True) ?hr ?hp (fun _ hk => hk) trivial (Below.refl _ _) (Nat.le_refl _) (by simp) ?_; (case hd => rfl); (case hg => rfl); (case hr => first | (go_simp; done) | (go_simp; rfl)); (case hp => exact (Reps.c2 (show Kd.M k50 _ _ _ (⟨(⟨#[102]⟩ : ByteArray), 1⟩ : S50) [.string (⟨#[102]⟩ : ByteArray), .int .i64 1] from (k50_mkM _ _ _ (⟨(⟨#[102]⟩ : ByteArray), 1⟩ : S50) )) (Reps.c2 (show Kd.M k50 _ _ _ (⟨(⟨#[98]⟩ : ByteArray), 0⟩ : S50) [.string (⟨#[98]⟩ : ByteArray), .int .i64 0] from (k50_mkM _ _ _ (⟨(⟨#[98]⟩ : ByteArray), 0⟩ : S50) )) (Reps.none _ _)))); intro v112 w42 ho43 hb hg_ hnew_; clear hg_ hnew_; (first | rw [← Ny111.out] at ho43 | (simp only [Int.reduceToNat] at ho43; rw [← Ny111.out] at ho43)); have n0_ := Aside0.mk (Kd.R_elder' (by (with_reducible repeat (first | apply Kd.R_alloc | apply Kd.R_drewN | apply Kd.R_drew)); exact HO105.out) (Kd.R_base ho43) hb); have n1_ := Aside0.mk (Kd.R_elder' (by (with_reducible repeat (first | apply Kd.R_alloc | apply Kd.R_drewN | apply Kd.R_drew)); exact HO110.out) (Kd.R_base ho43) hb); have n2_ := Aside0.mk (Kd.R_lower (Kd.R_new' (Kd.R_new' ho43 (Kd.R_lt (by (with_reducible repeat (first | apply Kd.R_alloc | apply Kd.R_drewN | apply Kd.R_drew)); exact HO105.out))) (Kd.R_lt (by (with_reducible repeat (first | apply Kd.R_alloc | apply Kd.R_drewN | apply Kd.R_drew)); exact HO110.out))) (below_size (by repeat (first | (with_reducible first | exact HB.out | apply below_alloc | apply pw_below_drewN | apply below_drew1) | exact HB.out)))); have n3_ := Aside0.mk (below_step (by repeat (first | (with_reducible first | exact HB.out | apply below_alloc | apply pw_below_drewN | apply below_drew1) | exact HB.out)) hb); clear HO105; clear HO110; clear HB; have HO105 := n0_; have HO110 := n1_; have HO113 := n2_; have HB := n3_; clear n0_ n1_ n2_ n3_; clear hb ho43; obtain ⟨Ao44, co44, eo44⟩ := Kd.R_slice HO113.out; subst eo44) | ((with_reducible refine gate_callee (f := 17) rfl ?_); refine goesL_ (some 23) rfl rfl Try.func17 (by kernel_rfl) rfl #[.slice Ao44 y111.length co44] rfl (by (try simp only [List.map_toArray, List.map_cons, List.map_nil]); first | done | rfl | (simp only [List.length_drop, List.length_take]; rfl)) ?_; (with_reducible refine (term_Print.calls k _ _ y111 t114 t115 _ ?side1 ?side2 A3.out).mono ?_); (case side1 => repeat (first | exact (Kd.R_reads' HO113.out).2.2 | (with_reducible refine Kd.C_alloc ?_ _) | (with_reducible refine Kd.C_drewN ?_ _) | (with_reducible refine Kd.C_drew ?_))); (case side2 => exact (Kd.R_reads' HO113.out).2.1); rintro e w45 ⟨rfl, hb⟩; refine ⟨_, rfl, ?_⟩; have n0_ := Aside0.mk (Kd.R_below (by (with_reducible repeat (first | apply Kd.R_alloc | apply Kd.R_drewN | apply Kd.R_drew)); exact HO105.out) hb); have n1_ := Aside0.mk (Kd.R_below (by (with_reducible repeat (first | apply Kd.R_alloc | apply Kd.R_drewN | apply Kd.R_drew)); exact HO110.out) hb); have n2_ := Aside0.mk (Kd.R_below (by (with_reducible repeat (first | apply Kd.R_alloc | apply Kd.R_drewN | apply Kd.R_drew)); exact HO113.out) hb); have n3_ := Aside0.mk (below_step (by repeat (first | (with_reducible first | exact HB.out | apply below_alloc | apply pw_below_drewN | apply below_drew1) | exact HB.out)) hb); clear HO105; clear HO110; clear HO113; clear HB; have HO105 := n0_; have HO110 := n1_; have HO113 := n2_; have HB := n3_; clear n0_ n1_ n2_ n3_; (try clear hb); (try clear hb2); (try clear hk); (try clear hi); obtain ⟨Ao46, co46, eo46⟩ := Kd.R_slice HO105.out; subst eo46; have p116 : 0 ≤ (0 : Int) := (by omega); have q116 : 0 < (t101.length : Int) := of_decide_eq_true (by first | (with_reducible assumption) | assumption); obtain ⟨ad116, e116, hx116_0, hx116_1⟩ := at_T50 (Kd.R_reads' HO105.out).2.2 0 p116 q116; cases e116; have qi116 : (0 < t101.length) = True := eq_true (by omega); (try rw [show ((0 : Int)).toNat = 0 from rfl] at hx116_0); (try rw [show 0 * 2 = 0 from rfl] at hx116_0); (try rw [Addr.add_zero'] at hx116_0); (try rw [show ((0 : Int)).toNat = 0 from rfl] at hx116_1); (try rw [show 0 * 2 = 0 from rfl] at hx116_1); (try rw [Addr.add_zero'] at hx116_1); replace p116 := eq_true p116; replace q116 := eq_true q116))
            go_ret
            exact ⟨by first | rfl | (simp [errW_none, errW_some] <;> rfl) | (simp [*, errW_none, errW_some] <;> rfl), by repeat (first | (with_reducible first | exact HB.out | apply below_alloc | apply pw_below_drewN | apply below_drew1) | exact HB.out)⟩
        · rw [if_neg c7] at H
          exact absurd H (by simp)
      · rw [if_neg c6] at H
        have c6b0 : ((t101.length : Int) == 3) = false := beq_eq_false_iff_ne.mpr c6
        have c6b1 : ((t101.length : Int) != 3) = true := bne_iff_ne.mpr c6
        obtain rfl := Option.some.inj H
        go_enter Try.func10, Try.ntmps10
        go_wp2_with (first | ((with_reducible refine gate_callee (f := 14) rfl ?_); refine goesL_ (some 10) rfl rfl Try.func14 (by kernel_rfl) rfl #[.string (⟨#[102, 40, 97, 44, 88, 41]⟩ : ByteArray)] rfl (by (try simp only [List.map_toArray, List.map_cons, List.map_nil]); first | done | rfl | (simp only [List.length_drop, List.length_take]; rfl)) ?_; (with_reducible refine (term_Parse.calls k (⟨#[102, 40, 97, 44, 88, 41]⟩ : ByteArray) t101 t102 t103 _ A1.out).mono ?_); rintro e w47 ⟨v104, rfl, ho0, hb⟩; refine ⟨_, rfl, ?_⟩; have n0_ := Aside0.mk (Kd.R_lower ho0 (below_size (by repeat (first | (with_reducible first | exact HB.out | apply below_alloc | apply pw_below_drewN | apply below_drew1) | exact HB.out)))); have n1_ := Aside0.mk (below_step (by repeat (first | (with_reducible first | exact HB.out | apply below_alloc | apply pw_below_drewN | apply below_drew1) | exact HB.out)) hb); clear HB; have HO105 := n0_; have HB := n1_; clear n0_ n1_; (try clear hb); (try clear hb2); (try clear hk); (try clear hi); (try clear ho0)) | ((with_reducible refine gate_callee (f := 14) rfl ?_); refine goesL_ (some 15) rfl rfl Try.func14 (by kernel_rfl) rfl #[.string (⟨#[102, 40, 97]⟩ : ByteArray)] rfl (by (try simp only [List.map_toArray, List.map_cons, List.map_nil]); first | done | rfl | (simp only [List.length_drop, List.length_take]; rfl)) ?_; (with_reducible refine (term_Parse.calls k (⟨#[102, 40, 97]⟩ : ByteArray) t106 t107 t108 _ A2.out).mono ?_); rintro e w48 ⟨v109, rfl, ho0, hb⟩; refine ⟨_, rfl, ?_⟩; have n0_ := Aside0.mk (Kd.R_elder' (by (with_reducible repeat (first | apply Kd.R_alloc | apply Kd.R_drewN | apply Kd.R_drew)); exact HO105.out) (Kd.R_base ho0) hb); have n1_ := Aside0.mk (Kd.R_lower (Kd.R_new' ho0 (Kd.R_lt (by (with_reducible repeat (first | apply Kd.R_alloc | apply Kd.R_drewN | apply Kd.R_drew)); exact HO105.out))) (below_size (by repeat (first | (with_reducible first | exact HB.out | apply below_alloc | apply pw_below_drewN | apply below_drew1) | exact HB.out)))); have n2_ := Aside0.mk (below_step (by repeat (first | (with_reducible first | exact HB.out | apply below_alloc | apply pw_below_drewN | apply below_drew1) | exact HB.out)) hb); clear HO105; clear HB; have HO105 := n0_; have HO110 := n1_; have HB := n2_; clear n0_ n1_ n2_; (try clear hb); (try clear hb2); (try clear hk); (try clear hi); (try clear ho0)) | ((with_reducible refine gate_dst (N := 22) rfl ?_); (try (refine gate_guard (by rfl) ?_; dsimp only)); refine Kd.R_lit k50 _ 50 ?hg (N := 22) ?hd (xs := ([(⟨(⟨#[102]⟩ : ByteArray), 1⟩ : S50), (⟨(⟨#[98]⟩ : ByteArray), 0⟩ : S50)] : List (S50))) (inner := [.string (⟨#[102]⟩ : ByteArray), .int .i64 1, .string (⟨#[98]⟩ : ByteArray), .int .i64 0]) (ok := fun _ => True) (okp := fun _ => True) ?hr ?hp (fun _ hk => hk) trivial (Below.refl _ _) (Nat.le_refl _) (by simp) ?_; (case hd => rfl); (case hg => rfl); (case hr => first | (go_simp; done) | (go_simp; rfl)); (case hp => exact (Reps.c2 (show Kd.M k50 _ _ _ (⟨(⟨#[102]⟩ : ByteArray), 1⟩ : S50) [.string (⟨#[102]⟩ : ByteArray), .int .i64 1] from (k50_mkM _ _ _ (⟨(⟨#[102]⟩ : ByteArray), 1⟩ : S50) )) (Reps.c2 (show Kd.M k50 _ _ _ (⟨(⟨#[98]⟩ : ByteArray), 0⟩ : S50) [.string (⟨#[98]⟩ : ByteArray), .int .i64 0] from (k50_mkM _ _ _ (⟨(⟨#[98]⟩ : ByteArray), 0⟩ : S50) )) (Reps.none _ _)))); intro v112 w49 ho50 hb hg_ hnew_; clear hg_ hnew_; (first | rw [← Ny111.out] at ho50 | (simp only [Int.reduceToNat] at ho50; rw [← Ny111.out] at ho50)); have n0_ := Aside0.mk (Kd.R_elder' (by (with_reducible repeat (first | apply Kd.R_alloc | apply Kd.R_drewN | apply Kd.R_drew)); exact HO105.out) (Kd.R_base ho50) hb); have n1_ := Aside0.mk (Kd.R_elder' (by (with_reducible repeat (first | apply Kd.R_alloc | apply Kd.R_drewN | apply Kd.R_drew)); exact HO110.out) (Kd.R_base ho50) hb); have n2_ := Aside0.mk (Kd.R_lower (Kd.R_new' (Kd.R_new' ho50 (Kd.R_lt (by (with_reducible repeat (first | apply Kd.R_alloc | apply Kd.R_drewN | apply Kd.R_drew)); exact HO105.out))) (Kd.R_lt (by (with_reducible repeat (first | apply Kd.R_alloc | apply Kd.R_drewN | apply Kd.R_drew)); exact HO110.out))) (below_size (by repeat (first | (with_reducible first | exact HB.out | apply below_alloc | apply pw_below_drewN | apply below_drew1) | exact HB.out)))); have n3_ := Aside0.mk (below_step (by repeat (first | (with_reducible first | exact HB.out | apply below_alloc | apply pw_below_drewN | apply below_drew1) | exact HB.out)) hb); clear HO105; clear HO110; clear HB; have HO105 := n0_; have HO110 := n1_; have HO113 := n2_; have HB := n3_; clear n0_ n1_ n2_ n3_; clear hb ho50; obtain ⟨Ao51, co51, eo51⟩ := Kd.R_slice HO113.out; subst eo51) | ((with_reducible refine gate_callee (f := 17) rfl ?_); refine goesL_ (some 23) rfl rfl Try.func17 (by kernel_rfl) rfl #[.slice Ao51 y111.length co51] rfl (by (try simp only [List.map_toArray, List.map_cons, List.map_nil]); first | done | rfl | (simp only [List.length_drop, List.length_take]; rfl)) ?_; (with_reducible refine (term_Print.calls k _ _ y111 t114 t115 _ ?side1 ?side2 A3.out).mono ?_); (case side1 => repeat (first | exact (Kd.R_reads' HO113.out).2.2 | (with_reducible refine Kd.C_alloc ?_ _) | (with_reducible refine Kd.C_drewN ?_ _) | (with_reducible refine Kd.C_drew ?_))); (case side2 => exact (Kd.R_reads' HO113.out).2.1); rintro e w52 ⟨rfl, hb⟩; refine ⟨_, rfl, ?_⟩; have n0_ := Aside0.mk (Kd.R_below (by (with_reducible repeat (first | apply Kd.R_alloc | apply Kd.R_drewN | apply Kd.R_drew)); exact HO105.out) hb); have n1_ := Aside0.mk (Kd.R_below (by (with_reducible repeat (first | apply Kd.R_alloc | apply Kd.R_drewN | apply Kd.R_drew)); exact HO110.out) hb); have n2_ := Aside0.mk (Kd.R_below (by (with_reducible repeat (first | apply Kd.R_alloc | apply Kd.R_drewN | apply Kd.R_drew)); exact HO113.out) hb); have n3_ := Aside0.mk (below_step (by repeat (first | (with_reducible first | exact HB.out | apply below_alloc | apply pw_below_drewN | apply below_drew1) | exact HB.out)) hb); clear HO105; clear HO110; clear HO113; clear HB; have HO105 := n0_; have HO110 := n1_; have HO113 := n2_; have HB := n3_; clear n0_ n1_ n2_ n3_; (try clear hb); (try clear hb2); (try clear hk); (try clear hi); obtain ⟨Ao53, co53, eo53⟩ := Kd.R_slice HO105.out; subst eo53))
        go_ret
        exact ⟨by first | rfl | (simp [errW_none, errW_some] <;> rfl) | (simp [*, errW_none, errW_some] <;> rfl), by repeat (first | (with_reducible first | exact HB.out | apply below_alloc | apply pw_below_drewN | apply below_drew1) | exact HB.out)⟩
    · rw [if_neg c5] at H
      have c5b0 : (t102 == 0) = false := beq_eq_false_iff_ne.mpr c5
      have c5b1 : (t102 != 0) = true := bne_iff_ne.mpr c5
      obtain rfl := Option.some.inj H
      go_enter Try.func10, Try.ntmps10
      go_wp2_with (first | ((with_reducible refine gate_callee (f := 14) rfl ?_); refine goesL_ (some 10) rfl rfl Try.func14 (by kernel_rfl) rfl #[.string (⟨#[102, 40, 97, 44, 88, 41]⟩ : ByteArray)] rfl (by (try simp only [List.map_toArray, List.map_cons, List.map_nil]); first | done | rfl | (simp only [List.length_drop, List.length_take]; rfl)) ?_; (with_reducible refine (term_Parse.calls k (⟨#[102, 40, 97, 44, 88, 41]⟩ : ByteArray) t101 t102 t103 _ A1.out).mono ?_); rintro e w54 ⟨v104, rfl, ho0, hb⟩; refine ⟨_, rfl, ?_⟩; have n0_ := Aside0.mk (Kd.R_lower ho0 (below_size (by repeat (first | (with_reducible first | exact HB.out | apply below_alloc | apply pw_below_drewN | apply below_drew1) | exact HB.out)))); have n1_ := Aside0.mk (below_step (by repeat (first | (with_reducible first | exact HB.out | apply below_alloc | apply pw_below_drewN | apply below_drew1) | exact HB.out)) hb); clear HB; have HO105 := n0_; have HB := n1_; clear n0_ n1_; (try clear hb); (try clear hb2); (try clear hk); (try clear hi); (try clear ho0)) | ((with_reducible refine gate_callee (f := 14) rfl ?_); refine goesL_ (some 15) rfl rfl Try.func14 (by kernel_rfl) rfl #[.string (⟨#[102, 40, 97]⟩ : ByteArray)] rfl (by (try simp only [List.map_toArray, List.map_cons, List.map_nil]); first | done | rfl | (simp only [List.length_drop, List.length_take]; rfl)) ?_; (with_reducible refine (term_Parse.calls k (⟨#[102, 40, 97]⟩ : ByteArray) t106 t107 t108 _ A2.out).mono ?_); rintro e w55 ⟨v109, rfl, ho0, hb⟩; refine ⟨_, rfl, ?_⟩; have n0_ := Aside0.mk (Kd.R_elder' (by (with_reducible repeat (first | apply Kd.R_alloc | apply Kd.R_drewN | apply Kd.R_drew)); exact HO105.out) (Kd.R_base ho0) hb); have n1_ := Aside0.mk (Kd.R_lower (Kd.R_new' ho0 (Kd.R_lt (by (with_reducible repeat (first | apply Kd.R_alloc | apply Kd.R_drewN | apply Kd.R_drew)); exact HO105.out))) (below_size (by repeat (first | (with_reducible first | exact HB.out | apply below_alloc | apply pw_below_drewN | apply below_drew1) | exact HB.out)))); have n2_ := Aside0.mk (below_step (by repeat (first | (with_reducible first | exact HB.out | apply below_alloc | apply pw_below_drewN | apply below_drew1) | exact HB.out)) hb); clear HO105; clear HB; have HO105 := n0_; have HO110 := n1_; have HB := n2_; clear n0_ n1_ n2_; (try clear hb); (try clear hb2); (try clear hk); (try clear hi); (try clear ho0)) | ((with_reducible refine gate_dst (N := 22) rfl ?_); (try (refine gate_guard (by rfl) ?_; dsimp only)); refine Kd.R_lit k50 _ 50 ?hg (N := 22) ?hd (xs := ([(⟨(⟨#[102]⟩ : ByteArray), 1⟩ : S50), (⟨(⟨#[98]⟩ : ByteArray), 0⟩ : S50)] : List (S50))) (inner := [.string (⟨#[102]⟩ : ByteArray), .int .i64 1, .string (⟨#[98]⟩ : ByteArray), .int .i64 0]) (ok := fun _ => True) (okp := fun _ => True) ?hr ?hp (fun _ hk => hk) trivial (Below.refl _ _) (Nat.le_refl _) (by simp) ?_; (case hd => rfl); (case hg => rfl); (case hr => first | (go_simp; done) | (go_simp; rfl)); (case hp => exact (Reps.c2 (show Kd.M k50 _ _ _ (⟨(⟨#[102]⟩ : ByteArray), 1⟩ : S50) [.string (⟨#[102]⟩ : ByteArray), .int .i64 1] from (k50_mkM _ _ _ (⟨(⟨#[102]⟩ : ByteArray), 1⟩ : S50) )) (Reps.c2 (show Kd.M k50 _ _ _ (⟨(⟨#[98]⟩ : ByteArray), 0⟩ : S50) [.string (⟨#[98]⟩ : ByteArray), .int .i64 0] from (k50_mkM _ _ _ (⟨(⟨#[98]⟩ : ByteArray), 0⟩ : S50) )) (Reps.none _ _)))); intro v112 w56 ho57 hb hg_ hnew_; clear hg_ hnew_; (first | rw [← Ny111.out] at ho57 | (simp only [Int.reduceToNat] at ho57; rw [← Ny111.out] at ho57)); have n0_ := Aside0.mk (Kd.R_elder' (by (with_reducible repeat (first | apply Kd.R_alloc | apply Kd.R_drewN | apply Kd.R_drew)); exact HO105.out) (Kd.R_base ho57) hb); have n1_ := Aside0.mk (Kd.R_elder' (by (with_reducible repeat (first | apply Kd.R_alloc | apply Kd.R_drewN | apply Kd.R_drew)); exact HO110.out) (Kd.R_base ho57) hb); have n2_ := Aside0.mk (Kd.R_lower (Kd.R_new' (Kd.R_new' ho57 (Kd.R_lt (by (with_reducible repeat (first | apply Kd.R_alloc | apply Kd.R_drewN | apply Kd.R_drew)); exact HO105.out))) (Kd.R_lt (by (with_reducible repeat (first | apply Kd.R_alloc | apply Kd.R_drewN | apply Kd.R_drew)); exact HO110.out))) (below_size (by repeat (first | (with_reducible first | exact HB.out | apply below_alloc | apply pw_below_drewN | apply below_drew1) | exact HB.out)))); have n3_ := Aside0.mk (below_step (by repeat (first | (with_reducible first | exact HB.out | apply below_alloc | apply pw_below_drewN | apply below_drew1) | exact HB.out)) hb); clear HO105; clear HO110; clear HB; have HO105 := n0_; have HO110 := n1_; have HO113 := n2_; have HB := n3_; clear n0_ n1_ n2_ n3_; clear hb ho57; obtain ⟨Ao58, co58, eo58⟩ := Kd.R_slice HO113.out; subst eo58) | ((with_reducible refine gate_callee (f := 17) rfl ?_); refine goesL_ (some 23) rfl rfl Try.func17 (by kernel_rfl) rfl #[.slice Ao58 y111.length co58] rfl (by (try simp only [List.map_toArray, List.map_cons, List.map_nil]); first | done | rfl | (simp only [List.length_drop, List.length_take]; rfl)) ?_; (with_reducible refine (term_Print.calls k _ _ y111 t114 t115 _ ?side1 ?side2 A3.out).mono ?_); (case side1 => repeat (first | exact (Kd.R_reads' HO113.out).2.2 | (with_reducible refine Kd.C_alloc ?_ _) | (with_reducible refine Kd.C_drewN ?_ _) | (with_reducible refine Kd.C_drew ?_))); (case side2 => exact (Kd.R_reads' HO113.out).2.1); rintro e w59 ⟨rfl, hb⟩; refine ⟨_, rfl, ?_⟩; have n0_ := Aside0.mk (Kd.R_below (by (with_reducible repeat (first | apply Kd.R_alloc | apply Kd.R_drewN | apply Kd.R_drew)); exact HO105.out) hb); have n1_ := Aside0.mk (Kd.R_below (by (with_reducible repeat (first | apply Kd.R_alloc | apply Kd.R_drewN | apply Kd.R_drew)); exact HO110.out) hb); have n2_ := Aside0.mk (Kd.R_below (by (with_reducible repeat (first | apply Kd.R_alloc | apply Kd.R_drewN | apply Kd.R_drew)); exact HO113.out) hb); have n3_ := Aside0.mk (below_step (by repeat (first | (with_reducible first | exact HB.out | apply below_alloc | apply pw_below_drewN | apply below_drew1) | exact HB.out)) hb); clear HO105; clear HO110; clear HO113; clear HB; have HO105 := n0_; have HO110 := n1_; have HO113 := n2_; have HB := n3_; clear n0_ n1_ n2_ n3_; (try clear hb); (try clear hb2); (try clear hk); (try clear hi)))
      go_ret
      exact ⟨by first | rfl | (simp [errW_none, errW_some] <;> rfl) | (simp [*, errW_none, errW_some] <;> rfl), by repeat (first | (with_reducible first | exact HB.out | apply below_alloc | apply pw_below_drewN | apply below_drew1) | exact HB.out)⟩
  · rw [if_neg c4] at H
    have c4b0 : (t103 == 0) = false := beq_eq_false_iff_ne.mpr c4
    have c4b1 : (t103 != 0) = true := bne_iff_ne.mpr c4
    obtain rfl := Option.some.inj H
    go_enter Try.func10, Try.ntmps10
    go_wp2_with (first | ((with_reducible refine gate_callee (f := 14) rfl ?_); refine goesL_ (some 10) rfl rfl Try.func14 (by kernel_rfl) rfl #[.string (⟨#[102, 40, 97, 44, 88, 41]⟩ : ByteArray)] rfl (by (try simp only [List.map_toArray, List.map_cons, List.map_nil]); first | done | rfl | (simp only [List.length_drop, List.length_take]; rfl)) ?_; (with_reducible refine (term_Parse.calls k (⟨#[102, 40, 97, 44, 88, 41]⟩ : ByteArray) t101 t102 t103 _ A1.out).mono ?_); rintro e w60 ⟨v104, rfl, ho0, hb⟩; refine ⟨_, rfl, ?_⟩; have n0_ := Aside0.mk (Kd.R_lower ho0 (below_size (by repeat (first | (with_reducible first | exact HB.out | apply below_alloc | apply pw_below_drewN | apply below_drew1) | exact HB.out)))); have n1_ := Aside0.mk (below_step (by repeat (first | (with_reducible first | exact HB.out | apply below_alloc | apply pw_below_drewN | apply below_drew1) | exact HB.out)) hb); clear HB; have HO105 := n0_; have HB := n1_; clear n0_ n1_; (try clear hb); (try clear hb2); (try clear hk); (try clear hi); (try clear ho0)) | ((with_reducible refine gate_callee (f := 14) rfl ?_); refine goesL_ (some 15) rfl rfl Try.func14 (by kernel_rfl) rfl #[.string (⟨#[102, 40, 97]⟩ : ByteArray)] rfl (by (try simp only [List.map_toArray, List.map_cons, List.map_nil]); first | done | rfl | (simp only [List.length_drop, List.length_take]; rfl)) ?_; (with_reducible refine (term_Parse.calls k (⟨#[102, 40, 97]⟩ : ByteArray) t106 t107 t108 _ A2.out).mono ?_); rintro e w61 ⟨v109, rfl, ho0, hb⟩; refine ⟨_, rfl, ?_⟩; have n0_ := Aside0.mk (Kd.R_elder' (by (with_reducible repeat (first | apply Kd.R_alloc | apply Kd.R_drewN | apply Kd.R_drew)); exact HO105.out) (Kd.R_base ho0) hb); have n1_ := Aside0.mk (Kd.R_lower (Kd.R_new' ho0 (Kd.R_lt (by (with_reducible repeat (first | apply Kd.R_alloc | apply Kd.R_drewN | apply Kd.R_drew)); exact HO105.out))) (below_size (by repeat (first | (with_reducible first | exact HB.out | apply below_alloc | apply pw_below_drewN | apply below_drew1) | exact HB.out)))); have n2_ := Aside0.mk (below_step (by repeat (first | (with_reducible first | exact HB.out | apply below_alloc | apply pw_below_drewN | apply below_drew1) | exact HB.out)) hb); clear HO105; clear HB; have HO105 := n0_; have HO110 := n1_; have HB := n2_; clear n0_ n1_ n2_; (try clear hb); (try clear hb2); (try clear hk); (try clear hi); (try clear ho0)) | ((with_reducible refine gate_dst (N := 22) rfl ?_); (try (refine gate_guard (by rfl) ?_; dsimp only)); refine Kd.R_lit k50 _ 50 ?hg (N := 22) ?hd (xs := ([(⟨(⟨#[102]⟩ : ByteArray), 1⟩ : S50), (⟨(⟨#[98]⟩ : ByteArray), 0⟩ : S50)] : List (S50))) (inner := [.string (⟨#[102]⟩ : ByteArray), .int .i64 1, .string (⟨#[98]⟩ : ByteArray), .int .i64 0]) (ok := fun _ => True) (okp := fun _ => True) ?hr ?hp (fun _ hk => hk) trivial (Below.refl _ _) (Nat.le_refl _) (by simp) ?_; (case hd => rfl); (case hg => rfl); (case hr => first | (go_simp; done) | (go_simp; rfl)); (case hp => exact (Reps.c2 (show Kd.M k50 _ _ _ (⟨(⟨#[102]⟩ : ByteArray), 1⟩ : S50) [.string (⟨#[102]⟩ : ByteArray), .int .i64 1] from (k50_mkM _ _ _ (⟨(⟨#[102]⟩ : ByteArray), 1⟩ : S50) )) (Reps.c2 (show Kd.M k50 _ _ _ (⟨(⟨#[98]⟩ : ByteArray), 0⟩ : S50) [.string (⟨#[98]⟩ : ByteArray), .int .i64 0] from (k50_mkM _ _ _ (⟨(⟨#[98]⟩ : ByteArray), 0⟩ : S50) )) (Reps.none _ _)))); intro v112 w62 ho63 hb hg_ hnew_; clear hg_ hnew_; (first | rw [← Ny111.out] at ho63 | (simp only [Int.reduceToNat] at ho63; rw [← Ny111.out] at ho63)); have n0_ := Aside0.mk (Kd.R_elder' (by (with_reducible repeat (first | apply Kd.R_alloc | apply Kd.R_drewN | apply Kd.R_drew)); exact HO105.out) (Kd.R_base ho63) hb); have n1_ := Aside0.mk (Kd.R_elder' (by (with_reducible repeat (first | apply Kd.R_alloc | apply Kd.R_drewN | apply Kd.R_drew)); exact HO110.out) (Kd.R_base ho63) hb); have n2_ := Aside0.mk (Kd.R_lower (Kd.R_new' (Kd.R_new' ho63 (Kd.R_lt (by (with_reducible repeat (first | apply Kd.R_alloc | apply Kd.R_drewN | apply Kd.R_drew)); exact HO105.out))) (Kd.R_lt (by (with_reducible repeat (first | apply Kd.R_alloc | apply Kd.R_drewN | apply Kd.R_drew)); exact HO110.out))) (below_size (by repeat (first | (with_reducible first | exact HB.out | apply below_alloc | apply pw_below_drewN | apply below_drew1) | exact HB.out)))); have n3_ := Aside0.mk (below_step (by repeat (first | (with_reducible first | exact HB.out | apply below_alloc | apply pw_below_drewN | apply below_drew1) | exact HB.out)) hb); clear HO105; clear HO110; clear HB; have HO105 := n0_; have HO110 := n1_; have HO113 := n2_; have HB := n3_; clear n0_ n1_ n2_ n3_; clear hb ho63; obtain ⟨Ao64, co64, eo64⟩ := Kd.R_slice HO113.out; subst eo64) | ((with_reducible refine gate_callee (f := 17) rfl ?_); refine goesL_ (some 23) rfl rfl Try.func17 (by kernel_rfl) rfl #[.slice Ao64 y111.length co64] rfl (by (try simp only [List.map_toArray, List.map_cons, List.map_nil]); first | done | rfl | (simp only [List.length_drop, List.length_take]; rfl)) ?_; (with_reducible refine (term_Print.calls k _ _ y111 t114 t115 _ ?side1 ?side2 A3.out).mono ?_); (case side1 => repeat (first | exact (Kd.R_reads' HO113.out).2.2 | (with_reducible refine Kd.C_alloc ?_ _) | (with_reducible refine Kd.C_drewN ?_ _) | (with_reducible refine Kd.C_drew ?_))); (case side2 => exact (Kd.R_reads' HO113.out).2.1); rintro e w65 ⟨rfl, hb⟩; refine ⟨_, rfl, ?_⟩; have n0_ := Aside0.mk (Kd.R_below (by (with_reducible repeat (first | apply Kd.R_alloc | apply Kd.R_drewN | apply Kd.R_drew)); exact HO105.out) hb); have n1_ := Aside0.mk (Kd.R_below (by (with_reducible repeat (first | apply Kd.R_alloc | apply Kd.R_drewN | apply Kd.R_drew)); exact HO110.out) hb); have n2_ := Aside0.mk (Kd.R_below (by (with_reducible repeat (first | apply Kd.R_alloc | apply Kd.R_drewN | apply Kd.R_drew)); exact HO113.out) hb); have n3_ := Aside0.mk (below_step (by repeat (first | (with_reducible first | exact HB.out | apply below_alloc | apply pw_below_drewN | apply below_drew1) | exact HB.out)) hb); clear HO105; clear HO110; clear HO113; clear HB; have HO105 := n0_; have HO110 := n1_; have HO113 := n2_; have HB := n3_; clear n0_ n1_ n2_ n3_; (try clear hb); (try clear hb2); (try clear hk); (try clear hi)))
    go_ret
    exact ⟨by first | rfl | (simp [errW_none, errW_some] <;> rfl) | (simp [*, errW_none, errW_some] <;> rfl), by repeat (first | (with_reducible first | exact HB.out | apply below_alloc | apply pw_below_drewN | apply below_drew1) | exact HB.out)⟩

end Go.Proofs.Ytcmnpjgmpgjbdaa.P

-- ==== PF12
namespace Go.Proofs.Ytcmnpjgmpgjbdaa.P
open Go.RowKit Go.Proofs.YtcmnpjgmpgjbdaaW.PrintWords Go.Proofs.YtcmnpjgmpgjbdaaW.PrintLast Go.Proofs.YtcmnpjgmpgjbdaaW.PrintMore
attribute [local go_sem] max2_int min2_int max_two min_two max_three min_three max_four min_four   -- for this text's walks alone
set_option linter.unusedVariables false
set_option linter.unusedSimpArgs false

/-! ### aumbryref04_Copy: function 12 -/
def aumbryref04_Copy.f (l0 : List (S50)) : Option ((List (S50))) := if ([] : List (S50)).length + l0.length < 5864062014805 then (some (([] : List (S50)) ++ l0)) else (none)
set_option maxHeartbeats 8000000 in
set_option maxRecDepth 100000 in
theorem aumbryref04_Copy.calls (A0 : Option Addr) (c0 : Nat) (l0 : List (S50)) (r : List (S50)) (w : World) (hr0 : Kd.C k50 w A0 l0.length l0) (hc0 : l0.length ≤ c0) (h : aumbryref04_Copy.f l0 = some r) :
    Calls Try.prog 12 #[.slice A0 l0.length c0] w fun e w' => ∃ v0_ : Value, e = .returned (v0_) ∧ Kd.R k50 50 w' w.heap.size (fun _ => True) v0_ r ∧ Below w.heap.size w w' := by
  have HR0 := Aside0.mk hr0
  have HC0 := Aside0.mk hc0
  clear hr0 hc0
  have HB := Aside0.mk (Below.refl w.heap.size w)
  have H : (if ([] : List (S50)).length + l0.length < 5864062014805 then (some (([] : List (S50)) ++ l0)) else (none)) = some r := h
  clear h
  by_cases c2 : ([] : List (S50)).length + l0.length < 5864062014805
  · rw [if_pos c2] at H
    have LMc2 := Aside0.mk c2
    clear c2
    obtain ⟨y101, hy101⟩ : ∃ y_ : List (S50), y_ = (([] : List (S50)) ++ l0) := ⟨_, rfl⟩
    replace H : (some y101) = some r := by first | (rw [hy101]; with_reducible exact H) | (have H2_ := (Option.bind_some _ _).symm.trans H; rw [hy101]; with_reducible exact H2_) | (have H2_ := (Option.bind_some _ _).symm.trans H; with_reducible exact H2_) | with_reducible exact H | (rw [hy101]; exact H) | exact H
    have Ny101 := Aside0.mk hy101
    clear hy101
    obtain rfl := Option.some.inj H
    go_enter Try.func12, Try.ntmps12
    go_wp2_with (first | ((with_reducible refine gate_builtin (b := .append) (xs := #[.tmp 4, .tmp 5]) rfl ?_); at_builtin; refine Kd.R_append_rows k50 (w0 := w) w.heap.size rfl (.tmp 4) (.tmp 5) 23 50 (.agg #[(.string ⟨#[]⟩), (.int .i64 0)]) 24 rfl Try.underlying23 info50 rfl (by decide) (by omega) (.slice none 0 0) ([] : List (S50)) l0 _ _ _ (fun _ => True) (fun _ => False) rfl rfl ?aO ?aR (fun _ _ h => h) (fun _ h => h.elim) ?aF ?aB ?aS ?aL ?_; (case aR => repeat (first | exact HR0.out | (with_reducible refine Kd.C_alloc ?_ _) | (with_reducible refine Kd.C_drewN ?_ _) | (with_reducible refine Kd.C_drew ?_))); (case aB => exact (by repeat (first | (with_reducible first | exact HB.out | apply below_alloc | apply pw_below_drewN | apply below_drew1) | exact HB.out))); (case aF => exact (fun _ _ => trivial)); (case aO => exact ((Kd.R_nil _ _ _ _ (fun _ => True)))); (case aS => exact (below_size (by repeat (first | (with_reducible first | exact HB.out | apply below_alloc | apply pw_below_drewN | apply below_drew1) | exact HB.out)))); (case aL => have := LMc2.out; omega); intro v102 w3 ho hb hg hat; rw [← Ny101.out] at ho; have n0_ := Aside0.mk (hb); have n1_ := Aside0.mk (ho); clear HB; have HB := n0_; have HO103 := n1_; clear n0_ n1_; clear ho hb hg hat))
    go_ret
    exact ⟨_, by first | rfl | (simp [errW_none, errW_some] <;> rfl) | (simp [*, errW_none, errW_some] <;> rfl), by (with_reducible repeat (first | apply Kd.R_alloc | apply Kd.R_drewN | apply Kd.R_drew)); exact HO103.out, by repeat (first | (with_reducible first | exact HB.out | apply below_alloc | apply pw_below_drewN | apply below_drew1) | exact HB.out)⟩
  · rw [if_neg c2] at H
    exact absurd H (by simp)

end Go.Proofs.Ytcmnpjgmpgjbdaa.P

-- ==== PF16
namespace Go.Proofs.Ytcmnpjgmpgjbdaa.P
open Go.RowKit Go.Proofs.YtcmnpjgmpgjbdaaW.PrintWords Go.Proofs.YtcmnpjgmpgjbdaaW.PrintLast Go.Proofs.YtcmnpjgmpgjbdaaW.PrintMore
attribute [local go_sem] max2_int min2_int max_two min_two max_three min_three max_four min_four   -- for this text's walks alone
set_option linter.unusedVariables false
set_option linter.unusedSimpArgs false

attribute [local go_sem high] eqA50
/-! ### aumbryref04_Same: function 16 -/
def aumbryref04_Same.l0 : Nat → List (S50) → List (S50) → Int → Int → Option (Bool)
  | 0, _, _, _, _ => none
  | k + 1, x0, x1, x12, x13 => if x13 < x12 then (if 0 ≤ x13 then (if x13 < (x0.length : Int) then (if x13 < (x1.length : Int) then (if (!((((rd_T50 x0 x13).f0).toList) == (((rd_T50 x1 x13).f0).toList)) || (!(((rd_T50 x0 x13).f1) == ((rd_T50 x1 x13).f1)))) = true then (some false) else (aumbryref04_Same.l0 k x0 x1 x12 (wrap64 (x13 + 1)))) else (none)) else (none)) else (none)) else (some true)
def aumbryref04_Same.f (k : Nat) (l0 : List (S50)) (l1 : List (S50)) : Option (Bool) := if (l0.length : Int) = (l1.length : Int) then (aumbryref04_Same.l0 k l0 l1 (l0.length : Int) 0) else (some false)
set_option maxHeartbeats 8000000 in
set_option maxRecDepth 100000 in
theorem aumbryref04_Same.calls (k : Nat) (A0 : Option Addr) (c0 : Nat) (l0 : List (S50)) (A1 : Option Addr) (c1 : Nat) (l1 : List (S50)) (r : Bool) (w : World) (hr0 : Kd.C k50 w A0 l0.length l0) (hc0 : l0.length ≤ c0) (hr1 : Kd.C k50 w A1 l1.length l1) (hc1 : l1.length ≤ c1) (h : aumbryref04_Same.f k l0 l1 = some r) :
    Calls Try.prog 16 #[.slice A0 l0.length c0, .slice A1 l1.length c1] w fun e w' => e = .returned (.bool r) ∧ Drawn0 w w' := by
  have hu50 := Try.underlying50
  have HR0 := Aside0.mk hr0
  have HC0 := Aside0.mk hc0
  clear hr0 hc0
  have HR1 := Aside0.mk hr1
  have HC1 := Aside0.mk hc1
  clear hr1 hc1
  have H : (if (l0.length : Int) = (l1.length : Int) then (aumbryref04_Same.l0 k l0 l1 (l0.length : Int) 0) else (some false)) = some r := h
  clear h
  by_cases c3 : (l0.length : Int) = (l1.length : Int)
  · rw [if_pos c3] at H
    have c3b0 : ((l0.length : Int) == (l1.length : Int)) = true := beq_iff_eq.mpr c3
    have c3b1 : ((l0.length : Int) != (l1.length : Int)) = false := bne_eq_false_iff_eq.mpr c3
    have c3b2 : (l0.length == l1.length) = true := by first | simpa using c3 | (simp at c3 ⊢; omega)
    clear c3
    have H' := Aside0.mk H
    clear H
    go_enter Try.func16, Try.ntmps16
    go_wp2
    repeat (go_quiet (fail); try go_wp2)
    go_loopg [13] k (fun kq v13 w' => ∃ (x13_1 : Int), v13 = .int .i64 x13_1 ∧ Aside0 (aumbryref04_Same.l0 kq l0 l1 (l0.length : Int) x13_1 = some r) ∧ Aside0 (kq ≤ k) ∧ Drawn0 w w')
    case atStart => exact ⟨(0), (by first | rfl | (simp; done) | (simp [*]; done)), H', ⟨Nat.le_refl _⟩, by repeat (first | exact Drawn0.refl _ | apply Drawn0.step)⟩
    case round =>
      clear H'
      try clear c1
      try clear p2
      try clear c3
      try clear c3b0
      try clear c3b1
      try clear c3b2
      obtain ⟨x13_1, rfl, HA, HK1, ⟨m1, rfl⟩⟩ := hrel
      cases gk with
      | zero => exact absurd HA.out (by simp [aumbryref04_Same.l0])
      | succ k1 =>
        have H := HA.out
        clear HA
        simp only [aumbryref04_Same.l0] at H
        by_cases c4 : x13_1 < (l0.length : Int)
        · rw [if_pos c4] at H
          have c4b0 : decide (x13_1 < (l0.length : Int)) = true := decide_eq_true c4
          clear c4
          by_cases c5 : 0 ≤ x13_1
          · rw [if_pos c5] at H
            have c5b0 : decide (0 ≤ x13_1) = true := decide_eq_true c5
            clear c5
            by_cases c6 : x13_1 < (l0.length : Int)
            · rw [if_pos c6] at H
              have c6b0 : decide (x13_1 < (l0.length : Int)) = true := decide_eq_true c6
              clear c6
              by_cases c7 : x13_1 < (l1.length : Int)
              · rw [if_pos c7] at H
                have c7b0 : decide (x13_1 < (l1.length : Int)) = true := decide_eq_true c7
                clear c7
                by_cases c8 : (!((((rd_T50 l0 x13_1).f0).toList) == (((rd_T50 l1 x13_1).f0).toList)) || (!(((rd_T50 l0 x13_1).f1) == ((rd_T50 l1 x13_1).f1)))) = true
                · rw [if_pos c8] at H
                  have c8b0 : (!((((rd_T50 l0 x13_1).f0).toList) == (((rd_T50 l1 x13_1).f0).toList)) || (!(((rd_T50 l0 x13_1).f1) == ((rd_T50 l1 x13_1).f1)))) = true := c8
                  clear c8
                  obtain rfl := Option.some.inj H
                  have p101 : 0 ≤ (x13_1 : Int) := of_decide_eq_true (by first | (with_reducible assumption) | assumption)
                  have q101 : x13_1 < (l0.length : Int) := of_decide_eq_true (by first | (with_reducible assumption) | assumption)
                  obtain ⟨ad101, e101, hx101_0, hx101_1⟩ := at_T50 HR0.out x13_1 p101 q101
                  cases e101
                  replace p101 := eq_true p101
                  replace q101 := eq_true q101
                  have p102 : 0 ≤ (x13_1 : Int) := of_decide_eq_true (by first | (with_reducible assumption) | assumption)
                  have q102 : x13_1 < (l1.length : Int) := of_decide_eq_true (by first | (with_reducible assumption) | assumption)
                  obtain ⟨ad102, e102, hx102_0, hx102_1⟩ := at_T50 HR1.out x13_1 p102 q102
                  cases e102
                  replace p102 := eq_true p102
                  replace q102 := eq_true q102
                  go_wp2
                  repeat (go_quiet (fail); try go_wp2)
                  go_ret
                  exact ⟨by first | rfl | (simp; done) | (simp [*]; done), by repeat (first | exact Drawn0.refl _ | apply Drawn0.step)⟩
                · rw [if_neg c8] at H
                  have c8b0 : (!((((rd_T50 l0 x13_1).f0).toList) == (((rd_T50 l1 x13_1).f0).toList)) || (!(((rd_T50 l0 x13_1).f1) == ((rd_T50 l1 x13_1).f1)))) = false := by simpa using c8
                  clear c8
                  have H' := Aside0.mk H
                  clear H
                  have p101 : 0 ≤ (x13_1 : Int) := of_decide_eq_true (by first | (with_reducible assumption) | assumption)
                  have q101 : x13_1 < (l0.length : Int) := of_decide_eq_true (by first | (with_reducible assumption) | assumption)
                  obtain ⟨ad101, e101, hx101_0, hx101_1⟩ := at_T50 HR0.out x13_1 p101 q101
                  cases e101
                  replace p101 := eq_true p101
                  replace q101 := eq_true q101
                  have p102 : 0 ≤ (x13_1 : Int) := of_decide_eq_true (by first | (with_reducible assumption) | assumption)
                  have q102 : x13_1 < (l1.length : Int) := of_decide_eq_true (by first | (with_reducible assumption) | assumption)
                  obtain ⟨ad102, e102, hx102_0, hx102_1⟩ := at_T50 HR1.out x13_1 p102 q102
                  cases e102
                  replace p102 := eq_true p102
                  replace q102 := eq_true q102
                  go_wp2
                  repeat (go_quiet (fail); try go_wp2)
                  go_roundg k1
                  case measure => have := HK1.out; omega
                  case rel => exact ⟨(wrap64 (x13_1 + 1)), (by first | rfl | (simp; done) | (simp [*]; done)), H', ⟨by have := HK1.out; omega⟩, by repeat (first | exact Drawn0.refl _ | apply Drawn0.step)⟩
              · rw [if_neg c7] at H
                exact absurd H (by simp)
            · rw [if_neg c6] at H
              exact absurd H (by simp)
          · rw [if_neg c5] at H
            exact absurd H (by simp)
        · rw [if_neg c4] at H
          have c4b0 : decide (x13_1 < (l0.length : Int)) = false := decide_eq_false c4
          clear c4
          obtain rfl := Option.some.inj H
          go_wp2
          repeat (go_quiet (fail); try go_wp2)
          go_ret
          exact ⟨by first | rfl | (simp; done) | (simp [*]; done), by repeat (first | exact Drawn0.refl _ | apply Drawn0.step)⟩
  · rw [if_neg c3] at H
    have c3b0 : ((l0.length : Int) == (l1.length : Int)) = false := beq_eq_false_iff_ne.mpr c3
    have c3b1 : ((l0.length : Int) != (l1.length : Int)) = true := bne_iff_ne.mpr c3
    have c3b2 : (l0.length == l1.length) = false := by first | simpa using c3 | (simp at c3 ⊢; omega)
    obtain rfl := Option.some.inj H
    go_enter Try.func16, Try.ntmps16
    go_wp2
    repeat (go_quiet (fail); try go_wp2)
    go_ret
    exact ⟨by first | rfl | (simp; done) | (simp [*]; done), by repeat (first | exact Drawn0.refl _ | apply Drawn0.step)⟩

end Go.Proofs.Ytcmnpjgmpgjbdaa.P

-- ==== PF5
namespace Go.Proofs.Ytcmnpjgmpgjbdaa.P
open Go.RowKit Go.Proofs.YtcmnpjgmpgjbdaaW.PrintWords Go.Proofs.YtcmnpjgmpgjbdaaW.PrintLast Go.Proofs.YtcmnpjgmpgjbdaaW.PrintMore
attribute [local go_sem] max2_int min2_int max_two min_two max_three min_three max_four min_four   -- for this text's walks alone
set_option linter.unusedVariables false
set_option linter.unusedSimpArgs false

/-! ### aumbrylaw04_TermBack: function 5 -/
def aumbrylaw04_TermBack.j0 : Nat → ByteArray → Option (Bool)
  | 0, _ => none
  | k + 1, x1 => (term_Parse.f k x1).bind fun bt113 => (if bt113.2.2 = 0 then ((term_Print.f k bt113.1).bind fun bt118 => (if bt118.2 = 0 then (some (bt118.1.toList == x1.toList)) else (some false))) else (if (bt113.1.length : Int) = 0 then (if bt113.2.1 ≥ 0 then (some (decide (bt113.2.1 ≤ (x1.size : Int)))) else (some false)) else (some false)))
def aumbrylaw04_TermBack.f (k : Nat) (l0 : List (S50)) (a1 : ByteArray) : Option (Bool) := (aumbrylaw04_wakes.f k).bind fun t101 => (if t101 = true then ((aumbryref04_Copy.f l0).bind fun t102 => ((term_Print.f k t102).bind fun bt105 => (if bt105.2 = 0 then ((term_Parse.f k bt105.1).bind fun bt107 => (if bt107.2.2 = 0 then (if bt107.2.1 = 0 then ((aumbryref04_Same.f k bt107.1 l0).bind fun t112 => (if t112 = true then (aumbrylaw04_TermBack.j0 k a1) else (some false))) else (some false)) else (some false))) else (aumbrylaw04_TermBack.j0 k a1)))) else (some false))
set_option maxHeartbeats 8000000 in
set_option maxRecDepth 100000 in
theorem aumbrylaw04_TermBack.calls (k : Nat) (A0 : Option Addr) (c0 : Nat) (l0 : List (S50)) (a1 : ByteArray) (r : Bool) (w : World) (hr0 : Kd.C k50 w A0 l0.length l0) (hc0 : l0.length ≤ c0) (h : aumbrylaw04_TermBack.f k l0 a1 = some r) :
    Calls Try.prog 5 #[.slice A0 l0.length c0, .string a1] w fun e w' => e = .returned (.bool r) ∧ Below w.heap.size w w' := by
  have HR0 := Aside0.mk hr0
  have HC0 := Aside0.mk hc0
  clear hr0 hc0
  have HB := Aside0.mk (Below.refl w.heap.size w)
  have H : ((aumbrylaw04_wakes.f k).bind fun t101 => (if t101 = true then ((aumbryref04_Copy.f l0).bind fun t102 => ((term_Print.f k t102).bind fun bt105 => (if bt105.2 = 0 then ((term_Parse.f k bt105.1).bind fun bt107 => (if bt107.2.2 = 0 then (if bt107.2.1 = 0 then ((aumbryref04_Same.f k bt107.1 l0).bind fun t112 => (if t112 = true then (aumbrylaw04_TermBack.j0 k a1) else (some false))) else (some false)) else (some false))) else (aumbrylaw04_TermBack.j0 k a1)))) else (some false))) = some r := h
  clear h
  replace H := Option.bind_eq_some_iff.mp H
  obtain ⟨t101, A30, H⟩ := H
  replace H : (if t101 = true then ((aumbryref04_Copy.f l0).bind fun t102 => ((term_Print.f k t102).bind fun bt105 => (if bt105.2 = 0 then ((term_Parse.f k bt105.1).bind fun bt107 => (if bt107.2.2 = 0 then (if bt107.2.1 = 0 then ((aumbryref04_Same.f k bt107.1 l0).bind fun t112 => (if t112 = true then (aumbrylaw04_TermBack.j0 k a1) else (some false))) else (some false)) else (some false))) else (aumbrylaw04_TermBack.j0 k a1)))) else (some false)) = some r := H
  have A3 := Aside0.mk A30
  clear A30
  by_cases c4 : t101 = true
  · subst c4
    have H1 : ((aumbryref04_Copy.f l0).bind fun t102 => ((term_Print.f k t102).bind fun bt105 => (if bt105.2 = 0 then ((term_Parse.f k bt105.1).bind fun bt107 => (if bt107.2.2 = 0 then (if bt107.2.1 = 0 then ((aumbryref04_Same.f k bt107.1 l0).bind fun t112 => (if t112 = true then (aumbrylaw04_TermBack.j0 k a1) else (some false))) else (some false)) else (some false))) else (aumbrylaw04_TermBack.j0 k a1)))) = some r := by rw [if_pos rfl] at H; exact H
    clear H
    have H := H1
    clear H1
    replace H := Option.bind_eq_some_iff.mp H
    obtain ⟨t102, A50, H⟩ := H
    replace H : ((term_Print.f k t102).bind fun bt105 => (if bt105.2 = 0 then ((term_Parse.f k bt105.1).bind fun bt107 => (if bt107.2.2 = 0 then (if bt107.2.1 = 0 then ((aumbryref04_Same.f k bt107.1 l0).bind fun t112 => (if t112 = true then (aumbrylaw04_TermBack.j0 k a1) else (some false))) else (some false)) else (some false))) else (aumbrylaw04_TermBack.j0 k a1))) = some r := H
    have A5 := Aside0.mk A50
    clear A50
    replace H := Option.bind_eq_some_iff.mp H
    obtain ⟨⟨t105, t106⟩, A60, H⟩ := H
    replace H : (if t106 = 0 then ((term_Parse.f k t105).bind fun bt107 => (if bt107.2.2 = 0 then (if bt107.2.1 = 0 then ((aumbryref04_Same.f k bt107.1 l0).bind fun t112 => (if t112 = true then (aumbrylaw04_TermBack.j0 k a1) else (some false))) else (some false)) else (some false))) else (aumbrylaw04_TermBack.j0 k a1)) = some r := H
    have A6 := Aside0.mk A60
    clear A60
    have HC7 := Aside0.mk H
    clear H
    go_enter Try.func5, Try.ntmps5
    go_upto_if 24 with (first | ((with_reducible refine gate_callee (f := 10) rfl ?_); refine goesL_ (some 15) rfl rfl Try.func10 (by kernel_rfl) rfl #[] rfl (by (try simp only [List.map_toArray, List.map_cons, List.map_nil]); first | done | rfl | (simp only [List.length_drop, List.length_take]; rfl)) ?_; (with_reducible refine (aumbrylaw04_wakes.calls k  true _ A3.out).mono ?_); rintro e w8 ⟨rfl, hb⟩; refine ⟨_, rfl, ?_⟩; have n0_ := Aside0.mk (below_step (by repeat (first | (with_reducible first | exact HB.out | apply below_alloc | apply pw_below_drewN | apply below_drew1) | exact HB.out)) hb); clear HB; have HB := n0_; clear n0_; (try clear hb); (try clear hb2); (try clear hk); (try clear hi)) | ((with_reducible refine gate_callee (f := 12) rfl ?_); refine goesL_ (some 19) rfl rfl Try.func12 (by kernel_rfl) rfl #[.slice A0 l0.length c0] rfl (by (try simp only [List.map_toArray, List.map_cons, List.map_nil]); first | done | rfl | (simp only [List.length_drop, List.length_take]; rfl)) ?_; (with_reducible refine (aumbryref04_Copy.calls _ _ l0 t102 _ ?side1 ?side2 A5.out).mono ?_); (case side1 => repeat (first | exact (Kd.C_below HR0.out HB.out) | (with_reducible refine Kd.C_alloc ?_ _) | (with_reducible refine Kd.C_drewN ?_ _) | (with_reducible refine Kd.C_drew ?_))); (case side2 => exact HC0.out); rintro e w9 ⟨v103, rfl, ho0, hb⟩; refine ⟨_, rfl, ?_⟩; have n0_ := Aside0.mk (Kd.R_lower ho0 (below_size (by repeat (first | (with_reducible first | exact HB.out | apply below_alloc | apply pw_below_drewN | apply below_drew1) | exact HB.out)))); have n1_ := Aside0.mk (below_step (by repeat (first | (with_reducible first | exact HB.out | apply below_alloc | apply pw_below_drewN | apply below_drew1) | exact HB.out)) hb); clear HB; have HO104 := n0_; have HB := n1_; clear n0_ n1_; (try clear hb); (try clear hb2); (try clear hk); (try clear hi); (try clear ho0); obtain ⟨Ao10, co10, eo10⟩ := Kd.R_slice HO104.out; subst eo10) | ((with_reducible refine gate_callee (f := 17) rfl ?_); refine goesL_ (some 20) rfl rfl Try.func17 (by kernel_rfl) rfl #[.slice Ao10 t102.length co10] rfl (by (try simp only [List.map_toArray, List.map_cons, List.map_nil]); first | done | rfl | (simp only [List.length_drop, List.length_take]; rfl)) ?_; (with_reducible refine (term_Print.calls k _ _ t102 t105 t106 _ ?side1 ?side2 A6.out).mono ?_); (case side1 => repeat (first | exact (Kd.R_reads' HO104.out).2.2 | (with_reducible refine Kd.C_alloc ?_ _) | (with_reducible refine Kd.C_drewN ?_ _) | (with_reducible refine Kd.C_drew ?_))); (case side2 => exact (Kd.R_reads' HO104.out).2.1); rintro e w11 ⟨rfl, hb⟩; refine ⟨_, rfl, ?_⟩; have n0_ := Aside0.mk (Kd.R_below (by (with_reducible repeat (first | apply Kd.R_alloc | apply Kd.R_drewN | apply Kd.R_drew)); exact HO104.out) hb); have n1_ := Aside0.mk (below_step (by repeat (first | (with_reducible first | exact HB.out | apply below_alloc | apply pw_below_drewN | apply below_drew1) | exact HB.out)) hb); clear HO104; clear HB; have HO104 := n0_; have HB := n1_; clear n0_ n1_; (try clear hb); (try clear hb2); (try clear hk); (try clear hi)))
    (try simp only [Act.put, List.setIfInBounds_toArray, List.set_cons_zero, List.set_cons_succ])
    go_cut [] (fun wc => ∃ (kq : Nat), Aside0 (aumbrylaw04_TermBack.j0 kq a1 = some r) ∧ Aside0 (kq ≤ k) ∧ Aside0 (Below w.heap.size w wc))
    case first =>
      have H := HC7.out
      clear HC7
      by_cases c12 : t106 = 0
      · rw [if_pos c12] at H
        have c12b0 : (t106 == 0) = true := beq_iff_eq.mpr c12
        have c12b1 : (t106 != 0) = false := bne_eq_false_iff_eq.mpr c12
        clear c12
        (first | rw [c12b0] | (simp only [i64_w, i32_w]; rw [c12b0]) | skip)
        replace H := Option.bind_eq_some_iff.mp H
        obtain ⟨⟨t107, t108, t109⟩, A130, H⟩ := H
        replace H : (if t109 = 0 then (if t108 = 0 then ((aumbryref04_Same.f k t107 l0).bind fun t112 => (if t112 = true then (aumbrylaw04_TermBack.j0 k a1) else (some false))) else (some false)) else (some false)) = some r := H
        have A13 := Aside0.mk A130
        clear A130
        by_cases c14 : t109 = 0
        · rw [if_pos c14] at H
          have c14b0 : (t109 == 0) = true := beq_iff_eq.mpr c14
          have c14b1 : (t109 != 0) = false := bne_eq_false_iff_eq.mpr c14
          clear c14
          by_cases c15 : t108 = 0
          · rw [if_pos c15] at H
            have c15b0 : (t108 == 0) = true := beq_iff_eq.mpr c15
            have c15b1 : (t108 != 0) = false := bne_eq_false_iff_eq.mpr c15
            clear c15
            replace H := Option.bind_eq_some_iff.mp H
            obtain ⟨t112, A160, H⟩ := H
            replace H : (if t112 = true then (aumbrylaw04_TermBack.j0 k a1) else (some false)) = some r := H
            have A16 := Aside0.mk A160
            clear A160
            by_cases c17 : t112 = true
            · subst c17
              have H1 : (aumbrylaw04_TermBack.j0 k a1) = some r := by rw [if_pos rfl] at H; exact H
              clear H
              have H := H1
              clear H1
              have H' := Aside0.mk H
              clear H
              go_wp2_with (first | ((with_reducible refine gate_callee (f := 14) rfl ?_); refine goesL_ (some 27) rfl rfl Try.func14 (by kernel_rfl) rfl #[.string t105] rfl (by (try simp only [List.map_toArray, List.map_cons, List.map_nil]); first | done | rfl | (simp only [List.length_drop, List.length_take]; rfl)) ?_; (with_reducible refine (term_Parse.calls k t105 t107 t108 t109 _ A13.out).mono ?_); rintro e w18 ⟨v110, rfl, ho0, hb⟩; refine ⟨_, rfl, ?_⟩; have n0_ := Aside0.mk (Kd.R_elder' (by (with_reducible repeat (first | apply Kd.R_alloc | apply Kd.R_drewN | apply Kd.R_drew)); exact HO104.out) (Kd.R_base ho0) hb); have n1_ := Aside0.mk (Kd.R_lower (Kd.R_new' ho0 (Kd.R_lt (by (with_reducible repeat (first | apply Kd.R_alloc | apply Kd.R_drewN | apply Kd.R_drew)); exact HO104.out))) (below_size (by repeat (first | (with_reducible first | exact HB.out | apply below_alloc | apply pw_below_drewN | apply below_drew1) | exact HB.out)))); have n2_ := Aside0.mk (below_step (by repeat (first | (with_reducible first | exact HB.out | apply below_alloc | apply pw_below_drewN | apply below_drew1) | exact HB.out)) hb); clear HO104; clear HB; have HO104 := n0_; have HO111 := n1_; have HB := n2_; clear n0_ n1_ n2_; (try clear hb); (try clear hb2); (try clear hk); (try clear hi); (try clear ho0); obtain ⟨Ao19, co19, eo19⟩ := Kd.R_slice HO111.out; subst eo19) | (go_at_call 16; (with_reducible refine (aumbryref04_Same.calls k _ _ t107 _ _ l0 true _ ?side1 ?side2 ?side3 ?side4 A16.out).mono ?_); (case side1 => repeat (first | exact (Kd.R_reads' HO111.out).2.2 | (with_reducible refine Kd.C_alloc ?_ _) | (with_reducible refine Kd.C_drewN ?_ _) | (with_reducible refine Kd.C_drew ?_))); (case side2 => exact (Kd.R_reads' HO111.out).2.1); (case side3 => repeat (first | exact (Kd.C_below HR0.out HB.out) | (with_reducible refine Kd.C_alloc ?_ _) | (with_reducible refine Kd.C_drewN ?_ _) | (with_reducible refine Kd.C_drew ?_))); (case side4 => exact HC0.out); rintro e w' ⟨rfl, ⟨nd, rfl⟩⟩))
              go_meet
              case rel => exact ⟨_, H', ⟨by first | omega | exact Nat.le_refl _⟩, ⟨by repeat (first | (with_reducible first | exact HB.out | apply below_alloc | apply pw_below_drewN | apply below_drew1) | exact HB.out)⟩⟩
            · replace c17 := Bool.eq_false_iff.mpr c17
              subst c17
              have H1 : (some false) = some r := by rw [if_neg (show ¬ (false = true) by decide)] at H; exact H
              clear H
              have H := H1
              clear H1
              obtain rfl := Option.some.inj H
              go_wp2_with (first | ((with_reducible refine gate_callee (f := 14) rfl ?_); refine goesL_ (some 27) rfl rfl Try.func14 (by kernel_rfl) rfl #[.string t105] rfl (by (try simp only [List.map_toArray, List.map_cons, List.map_nil]); first | done | rfl | (simp only [List.length_drop, List.length_take]; rfl)) ?_; (with_reducible refine (term_Parse.calls k t105 t107 t108 t109 _ A13.out).mono ?_); rintro e w20 ⟨v110, rfl, ho0, hb⟩; refine ⟨_, rfl, ?_⟩; have n0_ := Aside0.mk (Kd.R_elder' (by (with_reducible repeat (first | apply Kd.R_alloc | apply Kd.R_drewN | apply Kd.R_drew)); exact HO104.out) (Kd.R_base ho0) hb); have n1_ := Aside0.mk (Kd.R_lower (Kd.R_new' ho0 (Kd.R_lt (by (with_reducible repeat (first | apply Kd.R_alloc | apply Kd.R_drewN | apply Kd.R_drew)); exact HO104.out))) (below_size (by repeat (first | (with_reducible first | exact HB.out | apply below_alloc | apply pw_below_drewN | apply below_drew1) | exact HB.out)))); have n2_ := Aside0.mk (below_step (by repeat (first | (with_reducible first | exact HB.out | apply below_alloc | apply pw_below_drewN | apply below_drew1) | exact HB.out)) hb); clear HO104; clear HB; have HO104 := n0_; have HO111 := n1_; have HB := n2_; clear n0_ n1_ n2_; (try clear hb); (try clear hb2); (try clear hk); (try clear hi); (try clear ho0); obtain ⟨Ao21, co21, eo21⟩ := Kd.R_slice HO111.out; subst eo21) | (go_at_call 16; (with_reducible refine (aumbryref04_Same.calls k _ _ t107 _ _ l0 false _ ?side1 ?side2 ?side3 ?side4 A16.out).mono ?_); (case side1 => repeat (first | exact (Kd.R_reads' HO111.out).2.2 | (with_reducible refine Kd.C_alloc ?_ _) | (with_reducible refine Kd.C_drewN ?_ _) | (with_reducible refine Kd.C_drew ?_))); (case side2 => exact (Kd.R_reads' HO111.out).2.1); (case side3 => repeat (first | exact (Kd.C_below HR0.out HB.out) | (with_reducible refine Kd.C_alloc ?_ _) | (with_reducible refine Kd.C_drewN ?_ _) | (with_reducible refine Kd.C_drew ?_))); (case side4 => exact HC0.out); rintro e w' ⟨rfl, ⟨nd, rfl⟩⟩))
              go_ret
              exact ⟨by first | rfl | (simp [errW_none, errW_some] <;> rfl) | (simp [*, errW_none, errW_some] <;> rfl), by repeat (first | (with_reducible first | exact HB.out | apply below_alloc | apply pw_below_drewN | apply below_drew1) | exact HB.out)⟩
          · rw [if_neg c15] at H
            have c15b0 : (t108 == 0) = false := beq_eq_false_iff_ne.mpr c15
            have c15b1 : (t108 != 0) = true := bne_iff_ne.mpr c15
            obtain rfl := Option.some.inj H
            go_wp2_with (first | ((with_reducible refine gate_callee (f := 14) rfl ?_); refine goesL_ (some 27) rfl rfl Try.func14 (by kernel_rfl) rfl #[.string t105] rfl (by (try simp only [List.map_toArray, List.map_cons, List.map_nil]); first | done | rfl | (simp only [List.length_drop, List.length_take]; rfl)) ?_; (with_reducible refine (term_Parse.calls k t105 t107 t108 t109 _ A13.out).mono ?_); rintro e w22 ⟨v110, rfl, ho0, hb⟩; refine ⟨_, rfl, ?_⟩; have n0_ := Aside0.mk (Kd.R_elder' (by (with_reducible repeat (first | apply Kd.R_alloc | apply Kd.R_drewN | apply Kd.R_drew)); exact HO104.out) (Kd.R_base ho0) hb); have n1_ := Aside0.mk (Kd.R_lower (Kd.R_new' ho0 (Kd.R_lt (by (with_reducible repeat (first | apply Kd.R_alloc | apply Kd.R_drewN | apply Kd.R_drew)); exact HO104.out))) (below_size (by repeat (first | (with_reducible first | exact HB.out | apply below_alloc | apply pw_below_drewN | apply below_drew1) | exact HB.out)))); have n2_ := Aside0.mk (below_step (by repeat (first | (with_reducible first | exact HB.out | apply below_alloc | apply pw_below_drewN | apply below_drew1) | exact HB.out)) hb); clear HO104; clear HB; have HO104 := n0_; have HO111 := n1_; have HB := n2_; clear n0_ n1_ n2_; (try clear hb); (try clear hb2); (try clear hk); (try clear hi); (try clear ho0)))
            go_ret
            exact ⟨by first | rfl | (simp [errW_none, errW_some] <;> rfl) | (simp [*, errW_none, errW_some] <;> rfl), by repeat (first | (with_reducible first | exact HB.out | apply below_alloc | apply pw_below_drewN | apply below_drew1) | exact HB.out)⟩
        · rw [if_neg c14] at H
          have c14b0 : (t109 == 0) = false := beq_eq_false_iff_ne.mpr c14
          have c14b1 : (t109 != 0) = true := bne_iff_ne.mpr c14
          obtain rfl := Option.some.inj H
          go_wp2_with (first | ((with_reducible refine gate_callee (f := 14) rfl ?_); refine goesL_ (some 27) rfl rfl Try.func14 (by kernel_rfl) rfl #[.string t105] rfl (by (try simp only [List.map_toArray, List.map_cons, List.map_nil]); first | done | rfl | (simp only [List.length_drop, List.length_take]; rfl)) ?_; (with_reducible refine (term_Parse.calls k t105 t107 t108 t109 _ A13.out).mono ?_); rintro e w23 ⟨v110, rfl, ho0, hb⟩; refine ⟨_, rfl, ?_⟩; have n0_ := Aside0.mk (Kd.R_elder' (by (with_reducible repeat (first | apply Kd.R_alloc | apply Kd.R_drewN | apply Kd.R_drew)); exact HO104.out) (Kd.R_base ho0) hb); have n1_ := Aside0.mk (Kd.R_lower (Kd.R_new' ho0 (Kd.R_lt (by (with_reducible repeat (first | apply Kd.R_alloc | apply Kd.R_drewN | apply Kd.R_drew)); exact HO104.out))) (below_size (by repeat (first | (with_reducible first | exact HB.out | apply below_alloc | apply pw_below_drewN | apply below_drew1) | exact HB.out)))); have n2_ := Aside0.mk (below_step (by repeat (first | (with_reducible first | exact HB.out | apply below_alloc | apply pw_below_drewN | apply below_drew1) | exact HB.out)) hb); clear HO104; clear HB; have HO104 := n0_; have HO111 := n1_; have HB := n2_; clear n0_ n1_ n2_; (try clear hb); (try clear hb2); (try clear hk); (try clear hi); (try clear ho0)))
          go_ret
          exact ⟨by first | rfl | (simp [errW_none, errW_some] <;> rfl) | (simp [*, errW_none, errW_some] <;> rfl), by repeat (first | (with_reducible first | exact HB.out | apply below_alloc | apply pw_below_drewN | apply below_drew1) | exact HB.out)⟩
      · rw [if_neg c12] at H
        have c12b0 : (t106 == 0) = false := beq_eq_false_iff_ne.mpr c12
        have c12b1 : (t106 != 0) = true := bne_iff_ne.mpr c12
        (first | rw [c12b0] | (simp only [i64_w, i32_w]; rw [c12b0]) | skip)
        have H' := Aside0.mk H
        clear H
        go_wp2
        go_meet
        case rel => exact ⟨_, H', ⟨by first | omega | exact Nat.le_refl _⟩, ⟨by repeat (first | (with_reducible first | exact HB.out | apply below_alloc | apply pw_below_drewN | apply below_drew1) | exact HB.out)⟩⟩
    case rest =>
      clear HC7
      try clear c1
      try clear p2
      try clear c4
      try clear c5
      try clear c10
      try clear c12
      try clear c12b0
      try clear c12b1
      try clear c14
      try clear c14b0
      try clear c14b1
      try clear c15
      try clear c15b0
      try clear c15b1
      try clear c17
      obtain ⟨kq, HA, HJ6, HB⟩ := hcut
      cases kq with
      | zero => exact absurd HA.out (by simp [aumbrylaw04_TermBack.j0])
      | succ kj6 =>
        have H := HA.out
        clear HA
        simp only [aumbrylaw04_TermBack.j0] at H
        replace H := Option.bind_eq_some_iff.mp H
        obtain ⟨⟨t113, t114, t115⟩, A240, H⟩ := H
        replace H : (if t115 = 0 then ((term_Print.f kj6 t113).bind fun bt118 => (if bt118.2 = 0 then (some (bt118.1.toList == a1.toList)) else (some false))) else (if (t113.length : Int) = 0 then (if t114 ≥ 0 then (some (decide (t114 ≤ (a1.size : Int)))) else (some false)) else (some false))) = some r := H
        have A24 := Aside0.mk A240
        clear A240
        by_cases c25 : t115 = 0
        · rw [if_pos c25] at H
          have c25b0 : (t115 == 0) = true := beq_iff_eq.mpr c25
          have c25b1 : (t115 != 0) = false := bne_eq_false_iff_eq.mpr c25
          clear c25
          replace H := Option.bind_eq_some_iff.mp H
          obtain ⟨⟨t118, t119⟩, A260, H⟩ := H
          replace H : (if t119 = 0 then (some (t118.toList == a1.toList)) else (some false)) = some r := H
          have A26 := Aside0.mk A260
          clear A260
          by_cases c27 : t119 = 0
          · rw [if_pos c27] at H
            have c27b0 : (t119 == 0) = true := beq_iff_eq.mpr c27
            have c27b1 : (t119 != 0) = false := bne_eq_false_iff_eq.mpr c27
            clear c27
            obtain rfl := Option.some.inj H
            go_wp2_with (first | ((with_reducible refine gate_callee (f := 14) rfl ?_); refine goesL_ (some 45) rfl rfl Try.func14 (by kernel_rfl) rfl #[.string a1] rfl (by (try simp only [List.map_toArray, List.map_cons, List.map_nil]); first | done | rfl | (simp only [List.length_drop, List.length_take]; rfl)) ?_; (with_reducible refine (term_Parse.calls kj6 a1 t113 t114 t115 _ A24.out).mono ?_); rintro e w28 ⟨v116, rfl, ho0, hb⟩; refine ⟨_, rfl, ?_⟩; have n0_ := Aside0.mk (Kd.R_lower ho0 (below_size (by repeat (first | (with_reducible first | exact HB.out | apply below_alloc | apply pw_below_drewN | apply below_drew1) | exact HB.out)))); have n1_ := Aside0.mk (below_step (by repeat (first | (with_reducible first | exact HB.out | apply below_alloc | apply pw_below_drewN | apply below_drew1) | exact HB.out)) hb); clear HB; have HO117 := n0_; have HB := n1_; clear n0_ n1_; (try clear hb); (try clear hb2); (try clear hk); (try clear hi); (try clear ho0); obtain ⟨Ao29, co29, eo29⟩ := Kd.R_slice HO117.out; subst eo29) | ((with_reducible refine gate_callee (f := 17) rfl ?_); refine goesL_ (some 66) rfl rfl Try.func17 (by kernel_rfl) rfl #[.slice Ao29 t113.length co29] rfl (by (try simp only [List.map_toArray, List.map_cons, List.map_nil]); first | done | rfl | (simp only [List.length_drop, List.length_take]; rfl)) ?_; (with_reducible refine (term_Print.calls kj6 _ _ t113 t118 t119 _ ?side1 ?side2 A26.out).mono ?_); (case side1 => repeat (first | exact (Kd.R_reads' HO117.out).2.2 | (with_reducible refine Kd.C_alloc ?_ _) | (with_reducible refine Kd.C_drewN ?_ _) | (with_reducible refine Kd.C_drew ?_))); (case side2 => exact (Kd.R_reads' HO117.out).2.1); rintro e w30 ⟨rfl, hb⟩; refine ⟨_, rfl, ?_⟩; have n0_ := Aside0.mk (Kd.R_below (by (with_reducible repeat (first | apply Kd.R_alloc | apply Kd.R_drewN | apply Kd.R_drew)); exact HO117.out) hb); have n1_ := Aside0.mk (below_step (by repeat (first | (with_reducible first | exact HB.out | apply below_alloc | apply pw_below_drewN | apply below_drew1) | exact HB.out)) hb); clear HO117; clear HB; have HO117 := n0_; have HB := n1_; clear n0_ n1_; (try clear hb); (try clear hb2); (try clear hk); (try clear hi)))
            go_ret
            exact ⟨by first | rfl | (simp [errW_none, errW_some] <;> rfl) | (simp [*, errW_none, errW_some] <;> rfl), by repeat (first | (with_reducible first | exact HB.out | apply below_alloc | apply pw_below_drewN | apply below_drew1) | exact HB.out)⟩
          · rw [if_neg c27] at H
            have c27b0 : (t119 == 0) = false := beq_eq_false_iff_ne.mpr c27
            have c27b1 : (t119 != 0) = true := bne_iff_ne.mpr c27
            obtain rfl := Option.some.inj H
            go_wp2_with (first | ((with_reducible refine gate_callee (f := 14) rfl ?_); refine goesL_ (some 45) rfl rfl Try.func14 (by kernel_rfl) rfl #[.string a1] rfl (by (try simp only [List.map_toArray, List.map_cons, List.map_nil]); first | done | rfl | (simp only [List.length_drop, List.length_take]; rfl)) ?_; (with_reducible refine (term_Parse.calls kj6 a1 t113 t114 t115 _ A24.out).mono ?_); rintro e w31 ⟨v116, rfl, ho0, hb⟩; refine ⟨_, rfl, ?_⟩; have n0_ := Aside0.mk (Kd.R_lower ho0 (below_size (by repeat (first | (with_reducible first | exact HB.out | apply below_alloc | apply pw_below_drewN | apply below_drew1) | exact HB.out)))); have n1_ := Aside0.mk (below_step (by repeat (first | (with_reducible first | exact HB.out | apply below_alloc | apply pw_below_drewN | apply below_drew1) | exact HB.out)) hb); clear HB; have HO117 := n0_; have HB := n1_; clear n0_ n1_; (try clear hb); (try clear hb2); (try clear hk); (try clear hi); (try clear ho0); obtain ⟨Ao32, co32, eo32⟩ := Kd.R_slice HO117.out; subst eo32) | ((with_reducible refine gate_callee (f := 17) rfl ?_); refine goesL_ (some 66) rfl rfl Try.func17 (by kernel_rfl) rfl #[.slice Ao32 t113.length co32] rfl (by (try simp only [List.map_toArray, List.map_cons, List.map_nil]); first | done | rfl | (simp only [List.length_drop, List.length_take]; rfl)) ?_; (with_reducible refine (term_Print.calls kj6 _ _ t113 t118 t119 _ ?side1 ?side2 A26.out).mono ?_); (case side1 => repeat (first | exact (Kd.R_reads' HO117.out).2.2 | (with_reducible refine Kd.C_alloc ?_ _) | (with_reducible refine Kd.C_drewN ?_ _) | (with_reducible refine Kd.C_drew ?_))); (case side2 => exact (Kd.R_reads' HO117.out).2.1); rintro e w33 ⟨rfl, hb⟩; refine ⟨_, rfl, ?_⟩; have n0_ := Aside0.mk (Kd.R_below (by (with_reducible repeat (first | apply Kd.R_alloc | apply Kd.R_drewN | apply Kd.R_drew)); exact HO117.out) hb); have n1_ := Aside0.mk (below_step (by repeat (first | (with_reducible first | exact HB.out | apply below_alloc | apply pw_below_drewN | apply below_drew1) | exact HB.out)) hb); clear HO117; clear HB; have HO117 := n0_; have HB := n1_; clear n0_ n1_; (try clear hb); (try clear hb2); (try clear hk); (try clear hi)))
            go_ret
            exact ⟨by first | rfl | (simp [errW_none, errW_some] <;> rfl) | (simp [*, errW_none, errW_some] <;> rfl), by repeat (first | (with_reducible first | exact HB.out | apply below_alloc | apply pw_below_drewN | apply below_drew1) | exact HB.out)⟩
        · rw [if_neg c25] at H
          have c25b0 : (t115 == 0) = false := beq_eq_false_iff_ne.mpr c25
          have c25b1 : (t115 != 0) = true := bne_iff_ne.mpr c25
          by_cases c34 : (t113.length : Int) = 0
          · rw [if_pos c34] at H
            have c34b0 : ((t113.length : Int) == 0) = true := beq_iff_eq.mpr c34
            have c34b1 : ((t113.length : Int) != 0) = false := bne_eq_false_iff_eq.mpr c34
            clear c34
            by_cases c35 : t114 ≥ 0
            · rw [if_pos c35] at H
              have c35b0 : decide (0 ≤ t114) = true := decide_eq_true c35
              clear c35
              obtain rfl := Option.some.inj H
              go_wp2_with (first | ((with_reducible refine gate_callee (f := 14) rfl ?_); refine goesL_ (some 45) rfl rfl Try.func14 (by kernel_rfl) rfl #[.string a1] rfl (by (try simp only [List.map_toArray, List.map_cons, List.map_nil]); first | done | rfl | (simp only [List.length_drop, List.length_take]; rfl)) ?_; (with_reducible refine (term_Parse.calls kj6 a1 t113 t114 t115 _ A24.out).mono ?_); rintro e w36 ⟨v116, rfl, ho0, hb⟩; refine ⟨_, rfl, ?_⟩; have n0_ := Aside0.mk (Kd.R_lower ho0 (below_size (by repeat (first | (with_reducible first | exact HB.out | apply below_alloc | apply pw_below_drewN | apply below_drew1) | exact HB.out)))); have n1_ := Aside0.mk (below_step (by repeat (first | (with_reducible first | exact HB.out | apply below_alloc | apply pw_below_drewN | apply below_drew1) | exact HB.out)) hb); clear HB; have HO117 := n0_; have HB := n1_; clear n0_ n1_; (try clear hb); (try clear hb2); (try clear hk); (try clear hi); (try clear ho0); obtain ⟨Ao37, co37, eo37⟩ := Kd.R_slice HO117.out; subst eo37))
              go_ret
              exact ⟨by first | rfl | (simp [errW_none, errW_some] <;> rfl) | (simp [*, errW_none, errW_some] <;> rfl), by repeat (first | (with_reducible first | exact HB.out | apply below_alloc | apply pw_below_drewN | apply below_drew1) | exact HB.out)⟩
            · rw [if_neg c35] at H
              have c35b0 : decide (0 ≤ t114) = false := decide_eq_false c35
              clear c35
              obtain rfl := Option.some.inj H
              go_wp2_with (first | ((with_reducible refine gate_callee (f := 14) rfl ?_); refine goesL_ (some 45) rfl rfl Try.func14 (by kernel_rfl) rfl #[.string a1] rfl (by (try simp only [List.map_toArray, List.map_cons, List.map_nil]); first | done | rfl | (simp only [List.length_drop, List.length_take]; rfl)) ?_; (with_reducible refine (term_Parse.calls kj6 a1 t113 t114 t115 _ A24.out).mono ?_); rintro e w38 ⟨v116, rfl, ho0, hb⟩; refine ⟨_, rfl, ?_⟩; have n0_ := Aside0.mk (Kd.R_lower ho0 (below_size (by repeat (first | (with_reducible first | exact HB.out | apply below_alloc | apply pw_below_drewN | apply below_drew1) | exact HB.out)))); have n1_ := Aside0.mk (below_step (by repeat (first | (with_reducible first | exact HB.out | apply below_alloc | apply pw_below_drewN | apply below_drew1) | exact HB.out)) hb); clear HB; have HO117 := n0_; have HB := n1_; clear n0_ n1_; (try clear hb); (try clear hb2); (try clear hk); (try clear hi); (try clear ho0); obtain ⟨Ao39, co39, eo39⟩ := Kd.R_slice HO117.out; subst eo39))
              go_ret
              exact ⟨by first | rfl | (simp [errW_none, errW_some] <;> rfl) | (simp [*, errW_none, errW_some] <;> rfl), by repeat (first | (with_reducible first | exact HB.out | apply below_alloc | apply pw_below_drewN | apply below_drew1) | exact HB.out)⟩
          · rw [if_neg c34] at H
            have c34b0 : ((t113.length : Int) == 0) = false := beq_eq_false_iff_ne.mpr c34
            have c34b1 : ((t113.length : Int) != 0) = true := bne_iff_ne.mpr c34
            have c34b2 : ¬ (t113 = []) := fun h_ => c34 (by rw [h_]; rfl)
            obtain rfl := Option.some.inj H
            go_wp2_with (first | ((with_reducible refine gate_callee (f := 14) rfl ?_); refine goesL_ (some 45) rfl rfl Try.func14 (by kernel_rfl) rfl #[.string a1] rfl (by (try simp only [List.map_toArray, List.map_cons, List.map_nil]); first | done | rfl | (simp only [List.length_drop, List.length_take]; rfl)) ?_; (with_reducible refine (term_Parse.calls kj6 a1 t113 t114 t115 _ A24.out).mono ?_); rintro e w40 ⟨v116, rfl, ho0, hb⟩; refine ⟨_, rfl, ?_⟩; have n0_ := Aside0.mk (Kd.R_lower ho0 (below_size (by repeat (first | (with_reducible first | exact HB.out | apply below_alloc | apply pw_below_drewN | apply below_drew1) | exact HB.out)))); have n1_ := Aside0.mk (below_step (by repeat (first | (with_reducible first | exact HB.out | apply below_alloc | apply pw_below_drewN | apply below_drew1) | exact HB.out)) hb); clear HB; have HO117 := n0_; have HB := n1_; clear n0_ n1_; (try clear hb); (try clear hb2); (try clear hk); (try clear hi); (try clear ho0); obtain ⟨Ao41, co41, eo41⟩ := Kd.R_slice HO117.out; subst eo41))
            go_ret
            exact ⟨by first | rfl | (simp [errW_none, errW_some] <;> rfl) | (simp [*, errW_none, errW_some] <;> rfl), by repeat (first | (with_reducible first | exact HB.out | apply below_alloc | apply pw_below_drewN | apply below_drew1) | exact HB.out)⟩
  · replace c4 := Bool.eq_false_iff.mpr c4
    subst c4
    have H1 : (some false) = some r := by rw [if_neg (show ¬ (false = true) by decide)] at H; exact H
    clear H
    have H := H1
    clear H1
    obtain rfl := Option.some.inj H
    go_enter Try.func5, Try.ntmps5
    go_wp2_with (first | ((with_reducible refine gate_callee (f := 10) rfl ?_); refine goesL_ (some 15) rfl rfl Try.func10 (by kernel_rfl) rfl #[] rfl (by (try simp only [List.map_toArray, List.map_cons, List.map_nil]); first | done | rfl | (simp only [List.length_drop, List.length_take]; rfl)) ?_; (with_reducible refine (aumbrylaw04_wakes.calls k  false _ A3.out).mono ?_); rintro e w42 ⟨rfl, hb⟩; refine ⟨_, rfl, ?_⟩; have n0_ := Aside0.mk (below_step (by repeat (first | (with_reducible first | exact HB.out | apply below_alloc | apply pw_below_drewN | apply below_drew1) | exact HB.out)) hb); clear HB; have HB := n0_; clear n0_; (try clear hb); (try clear hb2); (try clear hk); (try clear hi)))
    go_ret
    exact ⟨by first | rfl | (simp [errW_none, errW_some] <;> rfl) | (simp [*, errW_none, errW_some] <;> rfl), by repeat (first | (with_reducible first | exact HB.out | apply below_alloc | apply pw_below_drewN | apply below_drew1) | exact HB.out)⟩

end Go.Proofs.Ytcmnpjgmpgjbdaa.P

-- ==== Open
/- What came in and can be read as data, read as the print's kinds: for each kind one fact, put together by the types' shapes. -/
set_option linter.unusedVariables false
namespace Go.Proofs.Ytcmnpjgmpgjbdaa.Open
open Go.RowKit Go.Proofs.YtcmnpjgmpgjbdaaW.PrintWords Go.Proofs.Ytcmnpjgmpgjbdaa.Rows

structure Opens {α : Type} (P : Program) (t : TypeId) (d : Kd α) (Sz : α → Prop) (Bk : α → Nat) : Prop where
  cells : P.cellsOf t = d.sz
  go : ∀ {H : Type} {enc : TypeId × Value → H} {w : World} {base : Nat} {spare : Nat → Bool} {held : Bool} {n : Nat} {cs : List Value} {x : DataW H × List MemPlace},
    DataW.trod enc P w base spare held n t cs = some x → (∀ m ∈ x.1.weights P t, m ≤ reachBytes) → ∃ v : α, d.K w v cs ∧ Sz v ∧ Bk v ≤ uptoBulk x.1

theorem opens_int {P : Program} {t : TypeId} {k : IntKind} (ht : P.underlying t = some (.int k)) (hc : P.cellsOf t = 1) : Opens P t (Kd.int k) (fun a => (Lit.int k a).wf = true) (fun _ => 1) := by
  refine ⟨hc, fun h _ => ?_⟩
  obtain ⟨a, rfl, rfl, hw⟩ := DataW.trod_int ht h
  exact ⟨a, rfl, hw, by simp [uptoBulk]⟩

theorem opens_string {P : Program} {t : TypeId} (ht : P.underlying t = some .string) (hc : P.cellsOf t = 1) : Opens P t Kd.string (fun s => s.size ≤ 140737488351232) (fun s => s.size + 1) := by
  refine ⟨hc, fun h hw => ?_⟩
  obtain ⟨a, rfl, rfl, hs⟩ := DataW.trod_string ht h
  have hl : a.data.toList.length = a.size := data_length a
  refine ⟨a, rfl, ?_, ?_⟩
  · have := hw a.data.toList.length (by simp [DataW.weights])
    rw [hl] at this
    exact this
  · simp only [uptoBulk]
    omega

theorem mem_weightsAll {H : Type} {P : Program} {e : TypeId} {d : DataW H} : ∀ {l : List (DataW H)}, d ∈ l → ∀ {m : Nat}, m ∈ d.weights P e → m ∈ DataW.weightsAll P e l
  | a :: l, h, m, hm => by
    simp only [DataW.weightsAll, List.mem_append]
    rcases List.mem_cons.1 h with rfl | h
    · exact .inl hm
    · exact .inr (mem_weightsAll h hm)
  | [], h, _, _ => by cases h

def bulkAll {α : Type} (Bk : α → Nat) (l : List α) : Nat := (l.map Bk).sum

theorem bulk_all_le {H α : Type} (Bk : α → Nat) : ∀ (xs : List α) (ds : List (DataW H)), xs.length = ds.length → (∀ (i : Nat) x d, xs[i]? = some x → ds[i]? = some d → Bk x ≤ uptoBulk d) → bulkAll Bk xs ≤ uptoBulkAll ds
  | [], [], _, _ => by simp [bulkAll, uptoBulkAll]
  | x :: xs, d :: ds, hl, h => by
    have h0 := h 0 x d rfl rfl
    have h1 := bulk_all_le Bk xs ds (by simpa using hl) (fun i x' d' hx hd => h (i + 1) x' d' (by simpa using hx) (by simpa using hd))
    simp only [bulkAll, uptoBulkAll, List.map_cons, List.sum_cons] at h1 ⊢
    omega
  | [], _ :: _, hl, _ => by simp at hl
  | _ :: _, [], hl, _ => by simp at hl

theorem opens_slice {α : Type} {P : Program} {t e : TypeId} {d : Kd α} {Sz : α → Prop} {Bk : α → Nat} {b : Nat} (ht : P.underlying t = some (.slice e)) (hc : P.cellsOf t = 1) (hb : P.bytesOf e = b) (ho : Opens P e d Sz Bk) :
    Opens P t (Kd.slice e d) (fun l => l.length * b ≤ 140737488351232 ∧ ∀ x ∈ l, Sz x) (fun l => bulkAll Bk l + 1) := by
  refine ⟨hc, ?_⟩
  intro H enc w base spare held n cs x h hw
  rcases Go.Deep.open_slice ht h with ⟨rfl, rfl⟩ | ⟨a, len, cap, m, n', D, Pl, rfl, _, hl, hm, hmm, rfl, hx⟩
  · exact ⟨[], ⟨none, 0, rfl, Nat.le_refl _, Kd.C_nil d w⟩, ⟨by simp, by simp⟩, by simp [bulkAll, uptoBulk]⟩
  · have hlm : len ≤ m := by rw [hmm]; split <;> omega
    have hel : ∀ i, i < len → ∃ v : α, (∃ cs', w.cells? base (a.add (i * P.cellsOf e)) (P.cellsOf e) = some cs' ∧ d.K w v cs') ∧ Sz v ∧ Bk v ≤ uptoBulk (D i) := by
      intro i hi
      obtain ⟨cs', h1, h2⟩ := hx i (by omega)
      obtain ⟨v, hv, hs, hbk⟩ := ho.go h2 (fun m' hm' => hw m' (by
        simp only [DataW.weights, ht, List.mem_cons, List.mem_append]
        exact .inr (.inl (mem_weightsAll (List.mem_map.2 ⟨i, List.mem_range.2 hi, rfl⟩) hm'))))
      exact ⟨v, ⟨cs', h1, hv⟩, hs, hbk⟩
    have hex : ∃ l : List α, l.length = len ∧ ∀ (i : Nat) v, l[i]? = some v → (∃ cs', w.cells? base (a.add (i * P.cellsOf e)) (P.cellsOf e) = some cs' ∧ d.K w v cs') ∧ Sz v ∧ Bk v ≤ uptoBulk (D i) := by
      clear hx hw h hmm hlm hl hm
      induction len with
      | zero => exact ⟨[], rfl, fun i v hv => by simp at hv⟩
      | succ k ih =>
        obtain ⟨l, h1, h2⟩ := ih (fun i hi => hel i (by omega))
        obtain ⟨v, hv⟩ := hel k (by omega)
        refine ⟨l ++ [v], by simp [h1], fun i u hu => ?_⟩
        by_cases hi : i < l.length
        · rw [List.getElem?_append_left hi] at hu
          exact h2 i u hu
        · have hik : i = l.length := by
            have := (List.getElem?_eq_some_iff.1 hu).1
            simp at this
            omega
          subst hik
          simp at hu
          subst hu
          rw [h1]
          exact hv
    obtain ⟨l, hll, hlv⟩ := hex
    subst hll
    refine ⟨l, ⟨some a, cap, rfl, hl, rfl, ?_, fun hp => ⟨a, rfl, fun j v hj => ?_⟩⟩, ⟨?_, ?_⟩, ?_⟩
    · have : maxLen ≤ 9223372036854775807 := by decide
      omega
    · obtain ⟨⟨cs', h1, h2⟩, _, _⟩ := hlv j v hj
      refine ⟨cs', d.K_len h2, h2, fun i u hu => ?_⟩
      obtain ⟨_, hlen, hcell⟩ := World.cells?_some h1
      have hi : i < cs'.length := (List.getElem?_eq_some_iff.1 hu).1
      have hsz := d.K_len h2
      rw [ho.cells] at hcell hlen
      have := hcell i (by omega)
      rw [hu] at this
      rw [← this, add_add]
    · have := hw ((((List.range l.length).map D).length + ((List.range (m - l.length)).map fun j => D (l.length + j)).length) * P.bytesOf e) (by simp [DataW.weights, ht])
      simp only [List.length_map, List.length_range] at this
      rw [hb] at this
      have h3 : reachBytes = 140737488351232 := by decide
      rw [h3] at this
      have h4 : l.length * b ≤ (l.length + (m - l.length)) * b := Nat.mul_le_mul_right _ (by omega)
      omega
    · intro v hv
      obtain ⟨i, hi, rfl⟩ := List.mem_iff_getElem.1 hv
      exact (hlv i _ (List.getElem?_eq_getElem hi)).2.1
    · have := bulk_all_le Bk l ((List.range l.length).map D) (by simp) (fun i v dd hv hd => by
        have hi : i < l.length := (List.getElem?_eq_some_iff.1 hv).1
        simp [hi] at hd
        rw [← hd]
        exact (hlv i v hv).2.2)
      simp only [uptoBulk]
      omega

/-! Structs: the fields, one behind the other. -/
def offs (P : Program) : List TypeId → Nat → Nat
  | [], _ => 0
  | _, 0 => 0
  | t :: ts, i + 1 => P.cellsOf t + offs P ts i

structure OpensF {α : Type} (P : Program) (ts : List TypeId) (d : Kd α) (Sz : α → Prop) (Bk : α → Nat) : Prop where
  cells : (ts.map P.cellsOf).sum = d.sz
  go : ∀ {H : Type} {enc : TypeId × Value → H} {w : World} {base : Nat} {spare : Nat → Bool} {held : Bool} {n : Nat} {cs : List Value} {xs : List (DataW H × List MemPlace)},
    cs.length = d.sz → xs.length = ts.length → (∀ (i : Nat) t, ts[i]? = some t → DataW.trod enc P w base spare held n t ((cs.drop (offs P ts i)).take (P.cellsOf t)) = xs[i]?) →
    (∀ m ∈ DataW.weightsEach P ts (xs.map (·.1)), m ≤ reachBytes) → ∃ v : α, d.K w v cs ∧ Sz v ∧ Bk v ≤ uptoBulkAll (xs.map (·.1))

theorem opensF_one {α : Type} {P : Program} {t : TypeId} {d : Kd α} {Sz : α → Prop} {Bk : α → Nat} (ho : Opens P t d Sz Bk) : OpensF P [t] d Sz Bk := by
  refine ⟨by simp [ho.cells], fun {H enc w base spare held n cs xs} hl hx h hw => ?_⟩
  match xs, hx with
  | [y], _ =>
    have h0 := h 0 t rfl
    rw [show offs P [t] 0 = 0 from rfl, List.drop_zero, List.take_of_length_le (by rw [ho.cells]; omega)] at h0
    obtain ⟨v, h1, h2, h3⟩ := ho.go h0 (fun m hm => hw m (by simp [DataW.weightsEach, hm]))
    exact ⟨v, h1, h2, by simpa [uptoBulkAll] using h3⟩

theorem opensF_cons {α β : Type} {P : Program} {t : TypeId} {ts : List TypeId} {d : Kd α} {ds : Kd β} {Sz : α → Prop} {Bk : α → Nat} {Szs : β → Prop} {Bks : β → Nat} (ho : Opens P t d Sz Bk) (hs : OpensF P ts ds Szs Bks) :
    OpensF P (t :: ts) (Kd.pair d ds) (fun x => Sz x.1 ∧ Szs x.2) (fun x => Bk x.1 + Bks x.2) := by
  refine ⟨by simp [ho.cells, hs.cells, Kd.pair], fun {H enc w base spare held n cs xs} hl hx h hw => ?_⟩
  match xs, hx with
  | y :: ys, hx =>
    have hl' : cs.length = d.sz + ds.sz := hl
    have h0 := h 0 t rfl
    rw [show offs P (t :: ts) 0 = 0 from rfl, List.drop_zero, ho.cells] at h0
    obtain ⟨v, h1, h2, h3⟩ := ho.go h0 (fun m hm => hw m (by simp [DataW.weightsEach, hm]))
    obtain ⟨u, g1, g2, g3⟩ := hs.go (cs := cs.drop d.sz) (xs := ys) (enc := enc) (w := w) (base := base) (spare := spare) (held := held) (n := n) (by rw [List.length_drop]; omega) (by simpa using hx) (fun i t' ht' => by
      have := h (i + 1) t' (by simpa using ht')
      rw [show offs P (t :: ts) (i + 1) = P.cellsOf t + offs P ts i from rfl, ho.cells] at this
      rw [List.drop_drop]
      simpa using this) (fun m hm => hw m (by simp only [List.map_cons, DataW.weightsEach, List.mem_append]; exact .inr hm))
    refine ⟨(v, u), ⟨cs.take d.sz, cs.drop d.sz, (List.take_append_drop _ _).symm, h1, g1⟩, ⟨h2, g2⟩, ?_⟩
    simp only [List.map_cons, uptoBulkAll]
    omega

theorem opens_struct {α β : Type} {P : Program} {t : TypeId} {fs : Array Field} {ts : List TypeId} {d : Kd α} {f : β → α} {Sz : α → Prop} {Bk : α → Nat} (ht : P.underlying t = some (.struct fs)) (hts : fs.toList.map (·.type) = ts)
    (hoff : ∀ (i : Nat) fl, fs[i]? = some fl → fl.offset = offs P ts i) (hc : P.cellsOf t = d.sz) (ho : OpensF P ts d Sz Bk) (g : α → β) (hg : ∀ v, f (g v) = v) :
    Opens P t (Kd.iso d f) (fun x => Sz (f x)) (fun x => Bk (f x) + 1) := by
  refine ⟨hc, fun {H enc w base spare held n cs x} h hw => ?_⟩
  obtain ⟨xs, n', _, rfl, hl, hlen, hf⟩ := DataW.trod_struct ht h
  have hlt : ts.length = fs.size := by rw [← hts]; simp
  obtain ⟨v, h1, h2, h3⟩ := ho.go (cs := cs) (xs := xs) (enc := enc) (w := w) (base := base) (spare := spare) (held := held) (n := n') (by rw [hl, hc]) (by omega) (fun i t' ht' => by
    have hi : i < fs.size := by rw [← hlt]; exact (List.getElem?_eq_some_iff.1 ht').1
    have hfi : fs[i]? = some fs[i] := Array.getElem?_eq_getElem hi
    have := hf i fs[i] hfi
    rw [hoff i _ hfi] at this
    have he : fs[i].type = t' := by
      rw [← hts, List.getElem?_map, Array.getElem?_toList, hfi] at ht'
      simpa using ht'
    rw [he] at this
    exact this) (fun m hm => hw m (by simp only [DataW.weights, ht, hts]; exact hm))
  exact ⟨g v, by show d.K w (f (g v)) cs; rw [hg]; exact h1, by rw [hg]; exact h2, by rw [hg]; simp only [uptoBulk]; omega⟩

end Go.Proofs.Ytcmnpjgmpgjbdaa.Open

-- ==== PO
set_option linter.unusedVariables false
namespace Go.Proofs.Ytcmnpjgmpgjbdaa.P
open Go.RowKit Go.Proofs.YtcmnpjgmpgjbdaaW.PrintWords Go.Proofs.Ytcmnpjgmpgjbdaa.Open
def sz9 (s : ByteArray) : Prop := s.size ≤ 140737488351232
def bk9 (s : ByteArray) : Nat := s.size + 1
theorem op9 : Opens Try.prog 9 Kd.string sz9 bk9 := opens_string Try.underlying9 (by kernel_rfl)
def sz3 (a : Int) : Prop := (Lit.int .i64 a).wf = true
def bk3 (_ : Int) : Nat := 1
theorem op3 : Opens Try.prog 3 (Kd.int .i64) sz3 bk3 := opens_int Try.underlying3 (by kernel_rfl)
def sz50 (x : S50) : Prop := sz9 x.f0 ∧ sz3 x.f1
def bk50 (x : S50) : Nat := (bk9 x.f0 + bk3 x.f1) + 1
theorem op50 : Opens Try.prog 50 k50 sz50 bk50 := opens_struct (P := Try.prog) (ts := [9, 3]) (f := fun x : S50 => (x.f0, x.f1)) Try.underlying50 (by kernel_rfl) (fun i fl h => by
    match i, h with
    | 0, h => obtain rfl := Option.some.inj h; show (0 : Nat) = offs Try.prog [9, 3] 0; kernel_rfl
    | 1, h => obtain rfl := Option.some.inj h; show (1 : Nat) = offs Try.prog [9, 3] 1; kernel_rfl
    | i + 2, h => simp at h) (by kernel_rfl) (opensF_cons op9 (opensF_one op3)) (fun x => ⟨x.1, x.2⟩) (fun _ => rfl)
def sz23 (l : List (S50)) : Prop := l.length * 24 ≤ 140737488351232 ∧ ∀ x ∈ l, sz50 x
def bk23 (l : List (S50)) : Nat := bulkAll bk50 l + 1
theorem op23 : Opens Try.prog 23 (Kd.slice 50 k50) sz23 bk23 := opens_slice Try.underlying23 (by kernel_rfl) (by kernel_rfl) op50
end Go.Proofs.Ytcmnpjgmpgjbdaa.P

-- ==== PS5
namespace Go.Proofs.Ytcmnpjgmpgjbdaa.P
open Go.RowKit Go.Proofs.YtcmnpjgmpgjbdaaW.PrintWords
def aumbrylaw04_TermBack.Pure : Prop := ∀ (l0 : List (S50)) (a1 : ByteArray), sz23 l0 → sz9 a1 → ∃ k, aumbrylaw04_TermBack.f k l0 a1 = some true
end Go.Proofs.Ytcmnpjgmpgjbdaa.P

-- ==== PF34
namespace Go.Proofs.Ytcmnpjgmpgjbdaa.P
open Go.RowKit Go.Proofs.YtcmnpjgmpgjbdaaW.PrintWords Go.Proofs.YtcmnpjgmpgjbdaaW.PrintLast Go.Proofs.YtcmnpjgmpgjbdaaW.PrintMore
attribute [local go_sem] max2_int min2_int max_two min_two max_three min_three max_four min_four   -- for this text's walks alone
set_option linter.unusedVariables false
set_option linter.unusedSimpArgs false

/-! ### aumbryref03_Kind: function 34 -/
mutual
def aumbryref03_Kind.j0 : Nat → ByteArray → Bool → Option (Int)
  | 0, _, _ => none
  | k + 1, x0, x15 => if x15 = true then (some 0) else (aumbryref03_Kind.l0 k x0 true true 0)
def aumbryref03_Kind.l0 : Nat → ByteArray → Bool → Bool → Int → Option (Int)
  | 0, _, _, _, _ => none
  | k + 1, x0, x3, x4, x5 => if x5 < (x0.size : Int) then (if 0 ≤ x5 then (if (bt x0 x5) ≥ 48 then (if (bt x0 x5) ≤ 57 then (if x3 = true then (if (bt x0 x5) ≥ 97 then (if (bt x0 x5) ≤ 122 then (if x4 = true then (if (bt x0 x5) ≥ 65 then (if (bt x0 x5) ≤ 90 then (aumbryref03_Kind.l0 k x0 true true (wrap64 (x5 + 1))) else (aumbryref03_Kind.l0 k x0 true (decide (x5 > 0)) (wrap64 (x5 + 1)))) else (aumbryref03_Kind.l0 k x0 true (decide (x5 > 0)) (wrap64 (x5 + 1)))) else (aumbryref03_Kind.l0 k x0 true false (wrap64 (x5 + 1)))) else (if x4 = true then (if (bt x0 x5) ≥ 65 then (if (bt x0 x5) ≤ 90 then (aumbryref03_Kind.l0 k x0 (decide (x5 > 0)) true (wrap64 (x5 + 1))) else (aumbryref03_Kind.l0 k x0 (decide (x5 > 0)) (decide (x5 > 0)) (wrap64 (x5 + 1)))) else (aumbryref03_Kind.l0 k x0 (decide (x5 > 0)) (decide (x5 > 0)) (wrap64 (x5 + 1)))) else (aumbryref03_Kind.l0 k x0 (decide (x5 > 0)) false (wrap64 (x5 + 1))))) else (if x4 = true then (if (bt x0 x5) ≥ 65 then (if (bt x0 x5) ≤ 90 then (aumbryref03_Kind.l0 k x0 (decide (x5 > 0)) true (wrap64 (x5 + 1))) else (aumbryref03_Kind.l0 k x0 (decide (x5 > 0)) (decide (x5 > 0)) (wrap64 (x5 + 1)))) else (aumbryref03_Kind.l0 k x0 (decide (x5 > 0)) (decide (x5 > 0)) (wrap64 (x5 + 1)))) else (aumbryref03_Kind.l0 k x0 (decide (x5 > 0)) false (wrap64 (x5 + 1))))) else (if x4 = true then (if (bt x0 x5) ≥ 65 then (if (bt x0 x5) ≤ 90 then (aumbryref03_Kind.l0 k x0 false true (wrap64 (x5 + 1))) else (aumbryref03_Kind.l0 k x0 false (decide (x5 > 0)) (wrap64 (x5 + 1)))) else (aumbryref03_Kind.l0 k x0 false (decide (x5 > 0)) (wrap64 (x5 + 1)))) else (aumbryref03_Kind.l0 k x0 false false (wrap64 (x5 + 1))))) else (if x3 = true then (if (bt x0 x5) ≥ 97 then (if (bt x0 x5) ≤ 122 then (if x4 = true then (if (bt x0 x5) ≥ 65 then (if (bt x0 x5) ≤ 90 then (aumbryref03_Kind.l0 k x0 true true (wrap64 (x5 + 1))) else (aumbryref03_Kind.l0 k x0 true false (wrap64 (x5 + 1)))) else (aumbryref03_Kind.l0 k x0 true false (wrap64 (x5 + 1)))) else (aumbryref03_Kind.l0 k x0 true false (wrap64 (x5 + 1)))) else (if x4 = true then (if (bt x0 x5) ≥ 65 then (if (bt x0 x5) ≤ 90 then (aumbryref03_Kind.l0 k x0 false true (wrap64 (x5 + 1))) else (aumbryref03_Kind.l0 k x0 false false (wrap64 (x5 + 1)))) else (aumbryref03_Kind.l0 k x0 false false (wrap64 (x5 + 1)))) else (aumbryref03_Kind.l0 k x0 false false (wrap64 (x5 + 1))))) else (if x4 = true then (if (bt x0 x5) ≥ 65 then (if (bt x0 x5) ≤ 90 then (aumbryref03_Kind.l0 k x0 false true (wrap64 (x5 + 1))) else (aumbryref03_Kind.l0 k x0 false false (wrap64 (x5 + 1)))) else (aumbryref03_Kind.l0 k x0 false false (wrap64 (x5 + 1)))) else (aumbryref03_Kind.l0 k x0 false false (wrap64 (x5 + 1))))) else (if x4 = true then (if (bt x0 x5) ≥ 65 then (if (bt x0 x5) ≤ 90 then (aumbryref03_Kind.l0 k x0 false true (wrap64 (x5 + 1))) else (aumbryref03_Kind.l0 k x0 false false (wrap64 (x5 + 1)))) else (aumbryref03_Kind.l0 k x0 false false (wrap64 (x5 + 1)))) else (aumbryref03_Kind.l0 k x0 false false (wrap64 (x5 + 1)))))) else (if x3 = true then (if (bt x0 x5) ≥ 97 then (if (bt x0 x5) ≤ 122 then (if x4 = true then (if (bt x0 x5) ≥ 65 then (if (bt x0 x5) ≤ 90 then (aumbryref03_Kind.l0 k x0 true true (wrap64 (x5 + 1))) else (aumbryref03_Kind.l0 k x0 true false (wrap64 (x5 + 1)))) else (aumbryref03_Kind.l0 k x0 true false (wrap64 (x5 + 1)))) else (aumbryref03_Kind.l0 k x0 true false (wrap64 (x5 + 1)))) else (if x4 = true then (if (bt x0 x5) ≥ 65 then (if (bt x0 x5) ≤ 90 then (aumbryref03_Kind.l0 k x0 false true (wrap64 (x5 + 1))) else (aumbryref03_Kind.l0 k x0 false false (wrap64 (x5 + 1)))) else (aumbryref03_Kind.l0 k x0 false false (wrap64 (x5 + 1)))) else (aumbryref03_Kind.l0 k x0 false false (wrap64 (x5 + 1))))) else (if x4 = true then (if (bt x0 x5) ≥ 65 then (if (bt x0 x5) ≤ 90 then (aumbryref03_Kind.l0 k x0 false true (wrap64 (x5 + 1))) else (aumbryref03_Kind.l0 k x0 false false (wrap64 (x5 + 1)))) else (aumbryref03_Kind.l0 k x0 false false (wrap64 (x5 + 1)))) else (aumbryref03_Kind.l0 k x0 false false (wrap64 (x5 + 1))))) else (if x4 = true then (if (bt x0 x5) ≥ 65 then (if (bt x0 x5) ≤ 90 then (aumbryref03_Kind.l0 k x0 false true (wrap64 (x5 + 1))) else (aumbryref03_Kind.l0 k x0 false false (wrap64 (x5 + 1)))) else (aumbryref03_Kind.l0 k x0 false false (wrap64 (x5 + 1)))) else (aumbryref03_Kind.l0 k x0 false false (wrap64 (x5 + 1)))))) else (none)) else (if x3 = true then (some 1) else (if x4 = true then (some 2) else (some 0)))
end
def aumbryref03_Kind.f (k : Nat) (a0 : ByteArray) : Option (Int) := if (a0.size : Int) < 1 then (aumbryref03_Kind.j0 k a0 true) else (aumbryref03_Kind.j0 k a0 (decide ((a0.size : Int) > 8)))
end Go.Proofs.Ytcmnpjgmpgjbdaa.P

-- ==== PLa
/- Plain laws, part a: what kind a text is: the program's way and the document's way come to one function. -/
namespace Go.Proofs.Ytcmnpjgmpgjbdaa.P
open Go.RowKit Go.Proofs.YtcmnpjgmpgjbdaaW.PrintWords
set_option linter.unusedVariables false
set_option linter.unusedSimpArgs false

theorem wrap_up {i : Int} (h0 : 0 ≤ i) (h : i < 9223372036854775807) : wrap64 (i + 1) = i + 1 := by
  unfold wrap64
  omega
theorem wrap_id {i : Int} (h0 : -9223372036854775808 ≤ i) (h : i ≤ 9223372036854775807) : wrap64 i = i := by
  unfold wrap64
  omega

theorem evIfp {α : Type} {c : Prop} [Decidable c] {f g : Nat → Option α} {r : α} (h : c) (hf : Ev f r) : Ev (fun k => if c then f k else g k) r :=
  Ev.congr (fun _ => if_pos h) hf
theorem evIfn {α : Type} {c : Prop} [Decidable c] {f g : Nat → Option α} {r : α} (h : ¬ c) (hf : Ev g r) : Ev (fun k => if c then f k else g k) r :=
  Ev.congr (fun _ => if_neg h) hf
theorem evIs {α : Type} {x : Option α} {a : α} (h : x = some a) : Ev (fun _ => x) a := ⟨0, fun _ _ => h⟩

def lowB (s : ByteArray) (i : Int) : Bool := (decide (97 ≤ bt s i) && decide (bt s i ≤ 122)) || (decide (48 ≤ bt s i) && decide (bt s i ≤ 57) && decide (0 < i))
def upB (s : ByteArray) (i : Int) : Bool := (decide (65 ≤ bt s i) && decide (bt s i ≤ 90)) || (decide (48 ≤ bt s i) && decide (bt s i ≤ 57) && decide (0 < i))
/-- p holds at i, i + 1, .. (d places). -/
def allN (p : Int → Bool) : Nat → Int → Bool
  | 0, _ => true
  | d + 1, i => p i && allN p d (i + 1)
theorem allN_congr {p q : Int → Bool} : ∀ (d : Nat) (i : Int), (∀ j, i ≤ j → j < i + d → p j = q j) → allN p d i = allN q d i
  | 0, _, _ => rfl
  | d + 1, i, h => by
    simp only [allN]
    rw [h i (Int.le_refl _) (by omega), allN_congr d (i + 1) (fun j h1 h2 => h j (by omega) (by omega))]
def kindS (s : ByteArray) : Int :=
  if s.size < 1 ∨ 8 < s.size then 0 else if allN (lowB s) s.size 0 = true then 1 else if allN (upB s) s.size 0 = true then 2 else 0

theorem kindS_bad {s : ByteArray} (h : s.size < 1 ∨ 8 < s.size) : kindS s = 0 := by
  unfold kindS
  exact if_pos h
theorem kindS_good {s : ByteArray} (h1 : 1 ≤ s.size) (h8 : s.size ≤ 8) : kindS s = (if allN (lowB s) s.size 0 = true then 1 else if allN (upB s) s.size 0 = true then 2 else 0) := by
  unfold kindS
  exact if_neg (by omega)
theorem kindS_size {s : ByteArray} (h : kindS s ≠ 0) : 1 ≤ s.size ∧ s.size ≤ 8 := by
  unfold kindS at h
  split at h
  · exact absurd rfl h
  · omega

/-! ### the document's -/
theorem refKind_step (k : Nat) (s : ByteArray) (a b : Bool) (i : Int) (h0 : 0 ≤ i) (h1 : i < (s.size : Int)) :
    aumbryref03_Kind.l0 (k + 1) s a b i = aumbryref03_Kind.l0 k s (a && lowB s i) (b && upB s i) (wrap64 (i + 1)) := by
  simp only [aumbryref03_Kind.l0]
  rw [if_pos h1, if_pos h0]
  unfold lowB upB
  generalize bt s i = c
  by_cases c1 : c ≥ 48 <;> by_cases c2 : c ≤ 57 <;> by_cases c3 : c ≥ 97 <;> by_cases c4 : c ≤ 122 <;> by_cases c5 : c ≥ 65 <;> by_cases c6 : c ≤ 90 <;> first | (exfalso; omega) | (cases a <;> cases b <;> simp [c1, c2, c3, c4, c5, c6])
theorem refKind_end (k : Nat) (s : ByteArray) (a b : Bool) (i : Int) (h1 : ¬ i < (s.size : Int)) :
    aumbryref03_Kind.l0 (k + 1) s a b i = some (if a = true then 1 else if b = true then 2 else 0) := by
  simp only [aumbryref03_Kind.l0]
  rw [if_neg h1]
  cases a <;> cases b <;> rfl
theorem refKind_loop (s : ByteArray) (hs : s.size ≤ 8) : ∀ (d : Nat) (k : Nat) (a b : Bool) (i : Int), 0 ≤ i → (s.size : Int) - i = d → d < k →
    aumbryref03_Kind.l0 k s a b i = some (if (a && allN (lowB s) d i) = true then 1 else if (b && allN (upB s) d i) = true then 2 else 0)
  | 0, k, a, b, i, h0, hd, hk => by
    obtain ⟨k, rfl⟩ : ∃ m, k = m + 1 := ⟨k - 1, by omega⟩
    rw [refKind_end k s a b i (by omega)]
    simp [allN]
  | d + 1, k, a, b, i, h0, hd, hk => by
    obtain ⟨k, rfl⟩ : ∃ m, k = m + 1 := ⟨k - 1, by omega⟩
    rw [refKind_step k s a b i h0 (by omega), wrap_up h0 (by omega), refKind_loop s hs d k _ _ (i + 1) (by omega) (by omega) (by omega)]
    simp [allN, Bool.and_assoc]
theorem ev_refKind (s : ByteArray) : Ev (fun k => aumbryref03_Kind.f k s) (kindS s) := by
  refine ⟨12, fun k hk => ?_⟩
  show aumbryref03_Kind.f k s = _
  unfold aumbryref03_Kind.f
  obtain ⟨k, rfl⟩ : ∃ m, k = m + 1 := ⟨k - 1, by omega⟩
  by_cases h1 : (s.size : Int) < 1
  · rw [if_pos h1]
    simp [aumbryref03_Kind.j0, kindS_bad (s := s) (.inl (by omega))]
  · rw [if_neg h1]
    simp only [aumbryref03_Kind.j0]
    by_cases h2 : (s.size : Int) > 8
    · rw [if_pos (by simpa using h2), kindS_bad (s := s) (.inr (by omega))]
    · rw [kindS_good (s := s) (by omega) (by omega), if_neg (by simpa using h2), refKind_loop s (by omega) s.size k true true 0 (by omega) (by omega) (by omega)]
      simp

/-! ### the program's -/
def signS (c : Int) : Int × Int := if 97 ≤ c ∧ c ≤ 122 then (1, 1) else if 65 ≤ c ∧ c ≤ 90 then (2, 2) else if 48 ≤ c ∧ c ≤ 57 then (0, 3) else (0, 0)
theorem sign_at (c : Int) (k : Nat) (hk : 2 ≤ k) : name_sign.f k c = some (signS c) := by
  obtain ⟨k, rfl⟩ : ∃ m, k = m + 2 := ⟨k - 2, by omega⟩
  unfold name_sign.f signS
  by_cases c1 : c ≥ 48 <;> by_cases c2 : c ≤ 57 <;> by_cases c3 : c ≥ 97 <;> by_cases c4 : c ≤ 122 <;> by_cases c5 : c ≥ 65 <;> by_cases c6 : c ≤ 90 <;> first | (exfalso; omega) | (simp [name_sign.j0, name_sign.j1, c1, c2, c3, c4, c5, c6])
theorem bits_and_ (a b : Int) (ha : a = 0 ∨ a = 1 ∨ a = 2 ∨ a = 3) (hb : b = 0 ∨ b = 1 ∨ b = 2) : (Go.bits .and .i64 a b = 0) ↔ (b = 0 ∨ (b = 1 ∧ (a = 0 ∨ a = 2)) ∨ (b = 2 ∧ (a = 0 ∨ a = 1))) := by
  rcases ha with rfl | rfl | rfl | rfl <;> rcases hb with rfl | rfl | rfl <;> decide
def goesB (s : ByteArray) (b : Int) (i : Int) : Bool := decide (¬ (Go.bits .and .i64 (signS (bt s i)).2 b = 0))
theorem kind_loop (s : ByteArray) (b : Int) (hs : s.size ≤ 8) : ∀ (d : Nat) (k : Nat) (i : Int), 0 ≤ i → (s.size : Int) - i = d → d + 2 < k →
    name_Kind.l0 k s b (s.size : Int) i = some (if allN (goesB s b) d i = true then b else 0)
  | 0, k, i, h0, hd, hk => by
    obtain ⟨k, rfl⟩ : ∃ m, k = m + 1 := ⟨k - 1, by omega⟩
    simp only [name_Kind.l0]
    rw [if_neg (by omega)]
    simp [allN]
  | d + 1, k, i, h0, hd, hk => by
    obtain ⟨k, rfl⟩ : ∃ m, k = m + 1 := ⟨k - 1, by omega⟩
    simp only [name_Kind.l0]
    rw [if_pos (by omega), if_pos h0, if_pos (by omega), sign_at _ _ (by omega)]
    simp only [Option.bind_some]
    by_cases hg : Go.bits .and .i64 (signS (bt s i)).2 b = 0
    · rw [if_pos hg]
      simp [allN, goesB, hg]
    · rw [if_neg hg, wrap_up h0 (by omega), kind_loop s b hs d k (i + 1) (by omega) (by omega) (by omega)]
      simp [allN, goesB, hg]
theorem signS_two (c : Int) : (signS c).2 = 0 ∨ (signS c).2 = 1 ∨ (signS c).2 = 2 ∨ (signS c).2 = 3 := by
  unfold signS
  repeat' split
  all_goals simp
theorem goes_one (s : ByteArray) (i : Int) (hi : 0 < i) : goesB s 1 i = lowB s i := by
  have h := bits_and_ (signS (bt s i)).2 1 (signS_two _) (by simp)
  unfold goesB lowB
  rw [Bool.eq_iff_iff]
  simp only [decide_eq_true_eq, h, Bool.or_eq_true, Bool.and_eq_true]
  unfold signS
  repeat' split
  all_goals simp
  all_goals omega
theorem goes_two (s : ByteArray) (i : Int) (hi : 0 < i) : goesB s 2 i = upB s i := by
  have h := bits_and_ (signS (bt s i)).2 2 (signS_two _) (by simp)
  unfold goesB upB
  rw [Bool.eq_iff_iff]
  simp only [decide_eq_true_eq, h, Bool.or_eq_true, Bool.and_eq_true]
  unfold signS
  repeat' split
  all_goals simp
  all_goals omega
theorem kind_eq (s : ByteArray) (h1 : 1 ≤ s.size) (h8 : s.size ≤ 8) : (if allN (goesB s (signS (bt s 0)).1) s.size 0 = true then (signS (bt s 0)).1 else 0) = kindS s := by
  rw [kindS_good h1 h8]
  obtain ⟨n, hn⟩ : ∃ n, s.size = n + 1 := ⟨s.size - 1, by omega⟩
  have e1 : allN (goesB s 1) n (0 + 1) = allN (lowB s) n (0 + 1) := allN_congr _ _ (fun j h1 _ => goes_one s j (by omega))
  have e2 : allN (goesB s 2) n (0 + 1) = allN (upB s) n (0 + 1) := allN_congr _ _ (fun j h1 _ => goes_two s j (by omega))
  by_cases hl : 97 ≤ bt s 0 ∧ bt s 0 ≤ 122
  · have hs : signS (bt s 0) = (1, 1) := by unfold signS; rw [if_pos hl]
    have g0 : goesB s 1 0 = true := by unfold goesB; rw [hs]; decide
    have l0 : lowB s 0 = true := by unfold lowB; simp [hl]
    have u0 : upB s 0 = false := by unfold upB; simp; omega
    simp only [hn, hs, allN, e1, g0, l0, u0, Bool.true_and, Bool.false_and]
    split <;> simp
  · by_cases hu : 65 ≤ bt s 0 ∧ bt s 0 ≤ 90
    · have hs : signS (bt s 0) = (2, 2) := by unfold signS; rw [if_neg hl, if_pos hu]
      have g0 : goesB s 2 0 = true := by unfold goesB; rw [hs]; decide
      have l0 : lowB s 0 = false := by unfold lowB; simp; omega
      have u0 : upB s 0 = true := by unfold upB; simp [hu]
      simp only [hn, hs, allN, e2, g0, l0, u0, Bool.true_and, Bool.false_and]
      simp
    · have hs : (signS (bt s 0)).1 = 0 := by unfold signS; rw [if_neg hl, if_neg hu]; split <;> rfl
      have l0 : lowB s 0 = false := by unfold lowB; simp; omega
      have u0 : upB s 0 = false := by unfold upB; simp; omega
      simp only [hn, hs, allN, l0, u0, Bool.true_and, Bool.false_and]
      simp
theorem toList_nil (s : ByteArray) : s.toList = ([] : List UInt8) ↔ s.size = 0 := by
  rw [ByteArray.toList_eq]
  constructor
  · intro h
    have := congrArg List.length h
    simpa [data_length] using this
  · intro h
    apply List.eq_nil_of_length_eq_zero
    rw [data_length]
    exact h
theorem ev_kind (s : ByteArray) : Ev (fun k => name_Kind.f k s) (kindS s) := by
  refine ⟨16, fun k hk => ?_⟩
  show name_Kind.f k s = _
  unfold name_Kind.f
  obtain ⟨k, rfl⟩ : ∃ m, k = m + 1 := ⟨k - 1, by omega⟩
  by_cases h1 : s.toList = ([] : List UInt8)
  · rw [if_pos h1]
    have := (toList_nil s).1 h1
    simp [name_Kind.j0, kindS_bad (s := s) (.inl (by omega))]
  · have h1' : s.size ≠ 0 := fun h => h1 ((toList_nil s).2 h)
    rw [if_neg h1]
    simp only [name_Kind.j0]
    by_cases h2 : (s.size : Int) > 8
    · rw [if_pos (by simpa using h2), kindS_bad (s := s) (.inr (by omega))]
    · rw [if_neg (by simpa using h2), if_pos (by omega), sign_at _ _ (by omega)]
      simp only [Option.bind_some]
      rw [kind_loop s _ (by omega) s.size k 0 (by omega) (by omega) (by omega), kind_eq s (by omega) (by omega)]
end Go.Proofs.Ytcmnpjgmpgjbdaa.P

-- ==== PF19
namespace Go.Proofs.Ytcmnpjgmpgjbdaa.P
open Go.RowKit Go.Proofs.YtcmnpjgmpgjbdaaW.PrintWords Go.Proofs.YtcmnpjgmpgjbdaaW.PrintLast Go.Proofs.YtcmnpjgmpgjbdaaW.PrintMore
attribute [local go_sem] max2_int min2_int max_two min_two max_three min_three max_four min_four   -- for this text's walks alone
set_option linter.unusedVariables false
set_option linter.unusedSimpArgs false

/-! ### aumbryref04_Behind: function 19 -/
mutual
def aumbryref04_Behind.j0 : Nat → List (S50) → Int → Bool → Option (Int)
  | 0, _, _, _ => none
  | k + 1, x0, x1, x14 => if x14 = true then (some (-1)) else (if 0 ≤ x1 then (if x1 < (x0.length : Int) then (aumbryref04_Behind.l0 k x0 (wrap64 (x1 + 1)) ((rd_T50 x0 x1).f1) 0) else (none)) else (none))
def aumbryref04_Behind.l0 : Nat → List (S50) → Int → Int → Int → Option (Int)
  | 0, _, _, _, _ => none
  | k + 1, x0, x1, x5, x6 => if x6 < x5 then (if x1 ≥ 0 then ((aumbryref04_Behind.f k x0 x1).bind fun t102 => (aumbryref04_Behind.l0 k x0 t102 x5 (wrap64 (x6 + 1)))) else (some x1)) else (some x1)
def aumbryref04_Behind.f : Nat → List (S50) → Int → Option (Int)
  | 0, _, _ => none
  | k + 1, l0, a1 => if a1 < 0 then (aumbryref04_Behind.j0 k l0 a1 true) else (aumbryref04_Behind.j0 k l0 a1 (decide (a1 ≥ (l0.length : Int))))
end
end Go.Proofs.Ytcmnpjgmpgjbdaa.P

-- ==== PF13
namespace Go.Proofs.Ytcmnpjgmpgjbdaa.P
open Go.RowKit Go.Proofs.YtcmnpjgmpgjbdaaW.PrintWords Go.Proofs.YtcmnpjgmpgjbdaaW.PrintLast Go.Proofs.YtcmnpjgmpgjbdaaW.PrintMore
attribute [local go_sem] max2_int min2_int max_two min_two max_three min_three max_four min_four   -- for this text's walks alone
set_option linter.unusedVariables false
set_option linter.unusedSimpArgs false

/-! ### aumbryref04_Check: function 13 -/
def aumbryref04_Check.l0 : Nat → List (S50) → Int → Int → Option (Int)
  | 0, _, _, _ => none
  | k + 1, x0, x9, x10 => if x10 < x9 then (if 0 ≤ x10 then (if x10 < (x0.length : Int) then ((aumbryref03_Kind.f k ((rd_T50 x0 x10).f0)).bind fun t103 => (if t103 = 0 then (some 4) else (if ((rd_T50 x0 x10).f1) < 0 then (some 5) else (if ((rd_T50 x0 x10).f1) > 4 then (some 5) else (if t103 = 2 then (if ((rd_T50 x0 x10).f1) = 0 then (aumbryref04_Check.l0 k x0 x9 (wrap64 (x10 + 1))) else (some 5)) else (aumbryref04_Check.l0 k x0 x9 (wrap64 (x10 + 1)))))))) else (none)) else (none)) else ((aumbryref04_Behind.f k x0 0).bind fun t101 => (if t101 = (x0.length : Int) then (some 0) else (some 3)))
def aumbryref04_Check.f (k : Nat) (l0 : List (S50)) : Option (Int) := if (l0.length : Int) > 64 then (some 6) else (aumbryref04_Check.l0 k l0 (l0.length : Int) 0)
end Go.Proofs.Ytcmnpjgmpgjbdaa.P

-- ==== PLb
/- Plain laws, part b: a list of cells as terms one behind the other; whether it is a term (both ways come to one function). -/
namespace Go.Proofs.Ytcmnpjgmpgjbdaa.P
open Go.RowKit Go.Proofs.YtcmnpjgmpgjbdaaW.PrintWords
set_option linter.unusedVariables false
set_option linter.unusedSimpArgs false

abbrev Cel := S50
instance celEq : DecidableEq Cel := fun a b =>
  if h : a.f0 = b.f0 ∧ a.f1 = b.f1 then isTrue (by cases a; cases b; simp only at h; rw [h.1, h.2]) else isFalse (fun e => h (by rw [e]; exact ⟨rfl, rfl⟩))
theorem drop_cons {α : Type} {t : List α} {n : Nat} {c : α} {s : List α} (h : t.drop n = c :: s) : n < t.length ∧ (∀ d, t.getD n d = c) ∧ t.drop (n + 1) = s := by
  have h1 : n < t.length := by
    rcases Nat.lt_or_ge n t.length with h1 | h1
    · exact h1
    · rw [List.drop_eq_nil_of_le h1] at h
      cases h
  rw [List.drop_eq_getElem_cons h1] at h
  injection h with h2 h3
  exact ⟨h1, fun d => by rw [List.getD_eq_getElem?_getD, List.getElem?_eq_getElem h1]; exact h2, h3⟩
theorem drop_nil_len {α : Type} {t : List α} {n : Nat} (hn : n ≤ t.length) (h : t.drop n = []) : n = t.length := by
  have := congrArg List.length h
  simp at this
  omega
theorem rd_cel {t : List Cel} {n : Nat} {c : Cel} {s : List Cel} (h : t.drop n = c :: s) : rd_T50 t (n : Int) = c := by
  unfold rd_T50
  exact (drop_cons h).2.1 _

def ar (c : Cel) : Nat := c.f1.toNat
def cellErr (c : Cel) : Int := if kindS c.f0 = 0 then 4 else if c.f1 < 0 then 5 else if c.f1 > 4 then 5 else if kindS c.f0 = 2 then (if c.f1 > 0 then 5 else 0) else 0
def errs : List Cel → Int
  | [] => 0
  | c :: l => if cellErr c = 0 then errs l else cellErr c
/-- What is left behind the first n terms. -/
def segN : List Cel → Nat → Option (List Cel)
  | l, 0 => some l
  | [], _ + 1 => none
  | c :: l, n + 1 => segN l (n + ar c)
def checkS (t : List Cel) : Int := if t.length > 64 then 6 else if errs t = 0 then (if segN t 1 = some [] then 0 else 3) else errs t

theorem segN_zero (l : List Cel) : segN l 0 = some l := by cases l <;> rfl
theorem segN_add : ∀ (l : List Cel) (a b : Nat), segN l (a + b) = (segN l a).bind fun r => segN r b
  | l, 0, b => by rw [segN_zero]; simp
  | [], a + 1, b => by rw [show a + 1 + b = (a + b) + 1 by omega]; rfl
  | c :: l, a + 1, b => by
    rw [show a + 1 + b = (a + b) + 1 by omega]
    show segN l (a + b + ar c) = (segN l (a + ar c)).bind _
    rw [show a + b + ar c = (a + ar c) + b by omega]
    exact segN_add l (a + ar c) b
theorem segN_len : ∀ {l r : List Cel} {n : Nat}, segN l n = some r → r.length ≤ l.length ∧ (0 < n → r.length < l.length)
  | l, r, 0, h => by
    rw [segN_zero] at h
    injection h with h
    subst h
    exact ⟨Nat.le_refl _, fun h => absurd h (by omega)⟩
  | [], r, n + 1, h => by cases h
  | c :: l, r, n + 1, h => by
    have := (segN_len (l := l) (r := r) (n := n + ar c) h).1
    simp only [List.length_cons]
    exact ⟨by omega, fun _ => by omega⟩
theorem segN_suffix : ∀ {l r : List Cel} {n : Nat}, segN l n = some r → ∃ m, m ≤ l.length ∧ l.drop m = r
  | l, r, 0, h => by
    rw [segN_zero] at h
    injection h with h
    exact ⟨0, by omega, h⟩
  | [], r, n + 1, h => by cases h
  | c :: l, r, n + 1, h => by
    obtain ⟨m, h1, h2⟩ := segN_suffix (l := l) (r := r) (n := n + ar c) h
    exact ⟨m + 1, by simp; omega, h2⟩

/-- What the cells of a term that is right are. -/
structure Okc (c : Cel) : Prop where
  kind : kindS c.f0 ≠ 0
  lo : 0 ≤ c.f1
  hi : c.f1 ≤ 4
  var : kindS c.f0 = 2 → c.f1 = 0
theorem okc_of {c : Cel} (h : cellErr c = 0) : Okc c := by
  unfold cellErr at h
  by_cases h1 : kindS c.f0 = 0
  · rw [if_pos h1] at h; cases h
  · rw [if_neg h1] at h
    by_cases h2 : c.f1 < 0
    · rw [if_pos h2] at h; cases h
    · rw [if_neg h2] at h
      by_cases h3 : c.f1 > 4
      · rw [if_pos h3] at h; cases h
      · rw [if_neg h3] at h
        refine ⟨h1, by omega, by omega, fun hk => ?_⟩
        rw [if_pos hk] at h
        by_cases h4 : c.f1 > 0
        · rw [if_pos h4] at h; cases h
        · omega
theorem errs_ok : ∀ {l : List Cel}, errs l = 0 → ∀ c ∈ l, Okc c
  | [], _, _, h => by cases h
  | a :: l, h, c, hc => by
    unfold errs at h
    by_cases h1 : cellErr a = 0
    · rw [if_pos h1] at h
      rcases List.mem_cons.1 hc with rfl | hc
      · exact okc_of h1
      · exact errs_ok h c hc
    · rw [if_neg h1] at h
      exact absurd h h1
/-! ### the program's: behind, Check -/
theorem ev_cell (c : Cel) : Ev (fun k => term_cell.f k c.f0 c.f1) (cellErr c) := by
  unfold term_cell.f
  refine Ev.bind (ev_kind c.f0) ?_
  refine Ev.congr (f := fun _ => some (cellErr c)) (fun k => ?_) (Ev.now _)
  unfold cellErr
  simp only [apply_ite some]
/-- The place behind n terms that begin at 'at'; -1: they have no end. -/
def behS (t : List Cel) (a n : Nat) : Int := match segN (t.drop a) n with
  | none => -1
  | some r => ((t.length - r.length : Nat) : Int)
theorem ev_behind_loop (t : List Cel) (ht : t.length ≤ 64) (hok : ∀ c ∈ t, Okc c) : ∀ (s : List Cel) (a n : Nat), a ≤ t.length → t.drop a = s → n ≤ 1 + 4 * a →
    Ev (fun k => term_behind.l0 k t (a : Int) (n : Int)) (behS t a n)
  | s, a, 0, ha, hs, hn => by
    refine Ev.step (f := fun _ => some (a : Int)) (fun k => by simp only [term_behind.l0]; rw [if_neg (by omega)]) ?_
    have : behS t a 0 = (a : Int) := by
      unfold behS
      rw [segN_zero]
      simp only [List.length_drop]
      omega
    rw [this]
    exact Ev.now _
  | [], a, n + 1, ha, hs, hn => by
    have hl := drop_nil_len ha hs
    refine Ev.step (f := fun _ => some (-1 : Int)) (fun k => by simp only [term_behind.l0]; rw [if_pos (by omega), if_pos (by omega)]) ?_
    have : behS t a (n + 1) = -1 := by
      unfold behS
      rw [hs]
      rfl
    rw [this]
    exact Ev.now _
  | c :: s, a, n + 1, ha, hs, hn => by
    obtain ⟨h1, h2, h3⟩ := drop_cons hs
    have hc : Okc c := hok c (List.mem_of_mem_drop (hs ▸ List.mem_cons_self ..))
    have har : (ar c : Int) = c.f1 := by unfold ar; have := hc.lo; omega
    have hh := hc.hi
    have hl0 := hc.lo
    refine Ev.step (f := fun k => term_behind.l0 k t ((a + 1 : Nat) : Int) ((n + ar c : Nat) : Int)) (fun k => ?_) ?_
    · simp only [term_behind.l0]
      rw [if_pos (by omega), if_neg (by omega), if_pos (by omega), if_pos (by omega), rd_cel hs, wrap_up (by omega) (by omega)]
      have e : wrap64 (((n + 1 : Nat) : Int) + wrap64 (c.f1 - 1)) = ((n + ar c : Nat) : Int) := by
        rw [wrap_id (i := c.f1 - 1) (by omega) (by omega), wrap_id (by omega) (by omega)]
        omega
      rw [e]
      rfl
    · have : behS t a (n + 1) = behS t (a + 1) (n + ar c) := by
        unfold behS
        rw [hs, h3]
        rfl
      rw [this]
      exact ev_behind_loop t ht hok s (a + 1) (n + ar c) (by omega) h3 (by omega)
theorem ev_behind (t : List Cel) (ht : t.length ≤ 64) (hok : ∀ c ∈ t, Okc c) (a : Nat) (ha : a ≤ t.length) : Ev (fun k => term_behind.f k t (a : Int)) (behS t a 1) := by
  unfold term_behind.f
  exact ev_behind_loop t ht hok _ a 1 ha rfl (by omega)
theorem behS_whole (t : List Cel) : (behS t 0 1 = (t.length : Int)) ↔ segN t 1 = some [] := by
  unfold behS
  rw [List.drop_zero]
  cases h : segN t 1 with
  | none => simp
  | some r =>
    have := segN_len h
    simp only [Option.some.injEq]
    constructor
    · intro h1
      apply List.eq_nil_of_length_eq_zero
      omega
    · rintro rfl
      simp
theorem ev_check_loop (t : List Cel) (ht : t.length ≤ 64) : ∀ (s : List Cel) (a : Nat), a ≤ t.length → t.drop a = s → (∀ c ∈ t.take a, Okc c) →
    Ev (fun k => term_Check.l0 k t t (t.length : Int) (a : Int)) (if errs s = 0 then (if segN t 1 = some [] then 0 else 3) else errs s)
  | [], a, ha, hs, hok => by
    have hl := drop_nil_len ha hs
    rw [hl, List.take_length] at hok
    refine Ev.step (f := fun k => (term_behind.f k t 0).bind fun r => (if r = (t.length : Int) then (some 0) else (some 3))) (fun k => by simp only [term_Check.l0]; rw [if_neg (by omega)]) ?_
    refine Ev.bind (ev_behind t ht hok 0 (by omega)) ?_
    refine Ev.congr (f := fun _ => some (if segN t 1 = some [] then 0 else 3)) (fun k => ?_) (Ev.now _)
    by_cases h : segN t 1 = some []
    · rw [if_pos ((behS_whole t).2 h), if_pos h]
    · rw [if_neg (fun h' => h ((behS_whole t).1 h')), if_neg h]
  | c :: s, a, ha, hs, hok => by
    obtain ⟨h1, h2, h3⟩ := drop_cons hs
    refine Ev.step (f := fun k => (term_cell.f k c.f0 c.f1).bind fun e => (if e = 0 then (term_Check.l0 k t t (t.length : Int) ((a + 1 : Nat) : Int)) else (some e))) (fun k => ?_) ?_
    · simp only [term_Check.l0]
      rw [if_pos (by omega), if_pos (by omega), if_pos (by omega), rd_cel hs, wrap_up (by omega) (by omega)]
      rfl
    · refine Ev.bind (ev_cell c) ?_
      by_cases he : cellErr c = 0
      · refine Ev.congr (f := fun k => term_Check.l0 k t t (t.length : Int) ((a + 1 : Nat) : Int)) (fun k => by rw [if_pos he]) ?_
        have : errs (c :: s) = errs s := by simp only [errs]; rw [if_pos he]
        rw [this]
        refine ev_check_loop t ht s (a + 1) (by omega) h3 (fun x hx => ?_)
        rw [List.take_succ_eq_append_getElem h1] at hx
        rcases List.mem_append.1 hx with hx | hx
        · exact hok x hx
        · have hce : t[a] = c := by have := h2 c; rw [List.getD_eq_getElem?_getD, List.getElem?_eq_getElem h1] at this; exact this
          rw [List.mem_singleton.1 hx, hce]
          exact okc_of he
      · refine Ev.congr (f := fun _ => some (cellErr c)) (fun k => by rw [if_neg he]) ?_
        have : errs (c :: s) = cellErr c := by simp only [errs]; rw [if_neg he]
        rw [this, if_neg he]
        exact Ev.now _
theorem ev_check (t : List Cel) : Ev (fun k => term_Check.f k t) (checkS t) := by
  unfold term_Check.f checkS
  by_cases h : t.length > 64
  · rw [if_pos h]
    exact Ev.congr (f := fun _ => some 6) (fun k => if_pos (by omega)) (Ev.now _)
  · rw [if_neg h]
    exact Ev.congr (f := fun k => term_Check.l0 k t t (t.length : Int) ((0 : Nat) : Int)) (fun k => if_neg (by omega)) (ev_check_loop t (by omega) t 0 (by omega) rfl (by simp))

/-! ### the document's: Behind, Check -/
end Go.Proofs.Ytcmnpjgmpgjbdaa.P

-- ==== PLs
/- Plain laws: lists of cells as terms, taken apart (for chapters without match). -/
namespace Go.Proofs.Ytcmnpjgmpgjbdaa.P
open Go.RowKit Go.Proofs.YtcmnpjgmpgjbdaaW.PrintWords
set_option linter.unusedVariables false
set_option linter.unusedSimpArgs false

/-- The first term of a list. -/
def fstT (t r : List Cel) : List Cel := t.take (t.length - r.length)
theorem segN_append : ∀ {l r : List Cel} {n : Nat} (q : List Cel), segN l n = some r → segN (l ++ q) n = some (r ++ q)
  | l, r, 0, q, h => by
    rw [segN_zero] at h ⊢
    injection h with h
    rw [h]
  | [], r, n + 1, q, h => by cases h
  | c :: l, r, n + 1, q, h => segN_append (l := l) (r := r) (n := n + ar c) q h
theorem segN_nil_pos {n : Nat} (h : segN [] n = some []) : n = 0 := by
  cases n with
  | zero => rfl
  | succ n => cases h
theorem segN_fst {t r : List Cel} {n : Nat} (h : segN t n = some r) : t = fstT t r ++ r ∧ segN (fstT t r) n = some [] := by
  obtain ⟨m, hm, hd⟩ := segN_suffix h
  have hl : r.length = t.length - m := by rw [← hd, List.length_drop]
  have he : fstT t r = t.take m := by unfold fstT; rw [show t.length - r.length = m by omega]
  rw [he]
  refine ⟨by rw [← hd]; exact (List.take_append_drop m t).symm, ?_⟩
  have : ∀ (l : List Cel) (n m : Nat), m ≤ l.length → segN l n = some (l.drop m) → segN (l.take m) n = some [] := by
    intro l
    induction l with
    | nil =>
      intro n m hm h
      have hm0 : m = 0 := by simpa using hm
      subst hm0
      simpa using h
    | cons c l ih =>
      intro n m hm h
      cases n with
      | zero =>
        rw [segN_zero] at h ⊢
        injection h with h
        have := congrArg List.length h
        simp only [List.length_cons, List.length_drop] at this
        have hm0 : m = 0 := by simp at hm; omega
        rw [hm0]
        rfl
      | succ n =>
        cases m with
        | zero =>
          have := segN_len h
          simp at this
        | succ m =>
          simp only [List.drop_succ_cons] at h
          exact ih (n + ar c) m (by simpa using hm) h
  rw [← hd] at h
  exact this t n m hm h

theorem bytes_eq (a b : ByteArray) : a.toList = b.toList ↔ a = b := by
  rw [ByteArray.toList_eq, ByteArray.toList_eq]
  constructor
  · intro h
    cases a; cases b
    simp only [ByteArray.mk.injEq]
    exact Array.toList_inj.1 h
  · intro h
    rw [h]
theorem cel_ne (c d : Cel) : ((!((c.f0.toList) == (d.f0.toList)) || (!(c.f1 == d.f1))) = true) ↔ c ≠ d := by
  cases c with | mk a b => cases d with | mk a' b' =>
  simp only [Bool.or_eq_true, Bool.not_eq_true', beq_eq_false_iff_ne, ne_eq, bytes_eq, S50.mk.injEq]
  by_cases h : a = a' <;> simp [h]
theorem ev_cels_loop (F : Nat → List Cel → List Cel → Int → Int → Option Bool)
    (hF : ∀ k x y n i, F (k + 1) x y n i = if i < n then (if 0 ≤ i then (if i < (x.length : Int) then (if i < (y.length : Int) then (if (!((((rd_T50 x i).f0).toList) == (((rd_T50 y i).f0).toList)) || (!(((rd_T50 x i).f1) == ((rd_T50 y i).f1)))) = true then (some false) else (F k x y n (wrap64 (i + 1)))) else (none)) else (none)) else (none)) else (some true))
    (x y : List Cel) (hl : x.length = y.length) (hb : x.length ≤ 9223372036854775806) : ∀ (s u : List Cel) (a : Nat), a ≤ x.length → x.drop a = s → y.drop a = u → Ev (fun k => F k x y (x.length : Int) (a : Int)) (decide (s = u))
  | [], u, a, ha, hs, hu => by
    have h1 := drop_nil_len ha hs
    have h2 : u = [] := by rw [← hu]; exact List.drop_eq_nil_of_le (by omega)
    refine Ev.step (f := fun _ => some true) (fun k => by rw [hF, if_neg (by omega)]) ?_
    rw [h2]
    exact Ev.now _
  | c :: s, u, a, ha, hs, hu => by
    obtain ⟨h1, _, h3⟩ := drop_cons hs
    rcases u with _ | ⟨d, u⟩
    · have := drop_nil_len (by omega) hu
      omega
    obtain ⟨_, _, h4⟩ := drop_cons hu
    by_cases hcd : c = d
    · refine Ev.step (f := fun k => F k x y (x.length : Int) ((a + 1 : Nat) : Int)) (fun k => by
        rw [hF, if_pos (by omega), if_pos (by omega), if_pos (by omega), if_pos (by omega), rd_cel hs, rd_cel hu, if_neg (fun h => (cel_ne c d).1 h hcd), wrap_up (by omega) (by omega)]
        rfl) ?_
      have : decide (c :: s = d :: u) = decide (s = u) := by subst hcd; simp
      rw [this]
      exact ev_cels_loop F hF x y hl hb s u (a + 1) (by omega) h3 h4
    · refine Ev.step (f := fun _ => some false) (fun k => by
        rw [hF, if_pos (by omega), if_pos (by omega), if_pos (by omega), if_pos (by omega), rd_cel hs, rd_cel hu, if_pos ((cel_ne c d).2 hcd)]) ?_
      have : decide (c :: s = d :: u) = false := by simp [hcd]
      rw [this]
      exact Ev.now _
theorem ev_refSame4 (x y : List Cel) (hb : x.length ≤ 9223372036854775806 ∨ y.length ≤ 9223372036854775806) : Ev (fun k => aumbryref04_Same.f k x y) (decide (x = y)) := by
  unfold aumbryref04_Same.f
  by_cases h : (x.length : Int) = (y.length : Int)
  · exact Ev.congr (f := fun k => aumbryref04_Same.l0 k x y (x.length : Int) ((0 : Nat) : Int)) (fun k => by rw [if_pos h]; rfl) (ev_cels_loop _ (fun k x y n i => rfl) x y (by omega) (by omega) x y 0 (by omega) rfl rfl)
  · refine Ev.congr (f := fun _ => some (decide (x = y))) (fun k => ?_) (Ev.now _)
    rw [if_neg h]
    congr 1
    rw [Eq.comm, decide_eq_false_iff_not]
    rintro rfl
    exact h rfl
theorem copy_at (x : List Cel) (h : x.length < 5864062014805) : aumbryref04_Copy.f x = some x := by
  unfold aumbryref04_Copy.f
  rw [if_pos (by simpa using h)]
  rfl

theorem checkS_ok {t : List Cel} (h : checkS t = 0) : t.length ≤ 64 ∧ (∀ c ∈ t, Okc c) ∧ segN t 1 = some [] := by
  unfold checkS at h
  by_cases h1 : t.length > 64
  · rw [if_pos h1] at h
    cases h
  · rw [if_neg h1] at h
    by_cases h2 : errs t = 0
    · rw [if_pos h2] at h
      by_cases h3 : segN t 1 = some []
      · exact ⟨by omega, errs_ok h2, h3⟩
      · rw [if_neg h3] at h
        cases h
    · rw [if_neg h2] at h
      exact absurd h h2
theorem cellErr_okc {c : Cel} (h : Okc c) : cellErr c = 0 := by
  unfold cellErr
  have h1 := h.lo
  have h2 := h.hi
  rw [if_neg h.kind, if_neg (by omega), if_neg (by omega)]
  by_cases hk : kindS c.f0 = 2
  · rw [if_pos hk, if_neg (by have := h.var hk; omega)]
  · rw [if_neg hk]
theorem ok_errs : ∀ {l : List Cel}, (∀ c ∈ l, Okc c) → errs l = 0
  | [], _ => rfl
  | a :: l, h => by
    unfold errs
    rw [if_pos (cellErr_okc (h a (List.mem_cons_self ..)))]
    exact ok_errs fun c hc => h c (List.mem_cons_of_mem _ hc)
theorem checkS_of {t : List Cel} (h1 : t.length ≤ 64) (h2 : ∀ c ∈ t, Okc c) (h3 : segN t 1 = some []) : checkS t = 0 := by
  unfold checkS
  rw [if_neg (by omega), if_pos (ok_errs h2), if_pos h3]
end Go.Proofs.Ytcmnpjgmpgjbdaa.P

-- ==== PL4
/- Plain laws of chapter 4: what the statements ask ahead (wakes), and copies. -/
namespace Go.Proofs.Ytcmnpjgmpgjbdaa.P
open Go.RowKit Go.Proofs.YtcmnpjgmpgjbdaaW.PrintWords
set_option linter.unusedVariables false
set_option linter.unusedSimpArgs false

set_option maxRecDepth 100000 in
theorem ev_wakes4 : Ev (fun k => aumbrylaw04_wakes.f k) true := Ev.of (g := fun k => aumbrylaw04_wakes.f k) aumbrylaw04_wakes.mono (k := 40) (by kernel_rfl)
theorem sz_len {l : List Cel} (h : sz23 l) : l.length < 5864062014805 := by
  have := h.1
  omega
end Go.Proofs.Ytcmnpjgmpgjbdaa.P

-- ==== PF20
namespace Go.Proofs.Ytcmnpjgmpgjbdaa.P
open Go.RowKit Go.Proofs.YtcmnpjgmpgjbdaaW.PrintWords Go.Proofs.YtcmnpjgmpgjbdaaW.PrintLast Go.Proofs.YtcmnpjgmpgjbdaaW.PrintMore
attribute [local go_sem] max2_int min2_int max_two min_two max_three min_three max_four min_four   -- for this text's walks alone
set_option linter.unusedVariables false
set_option linter.unusedSimpArgs false

/-! ### term_Kids: function 20 -/
def term_Kids.l0 : Nat → List (S50) → List (List (S50)) → Int → Option ((List (List (S50))) × Int)
  | 0, _, _, _ => none
  | k + 1, x0, x5, x6 => if x6 < (x0.length : Int) then ((term_behind.f k x0 x6).bind fun t102 => (if 0 ≤ x6 then (if x6 ≤ t102 then (if t102 ≤ (x0.length : Int) then ((api_Cell.f ((x0.take (t102 : Int).toNat).drop (x6 : Int).toNat)).bind fun t107 => (if x5.length < 5864062014805 then (term_Kids.l0 k x0 (x5 ++ [t107]) t102) else (none))) else (none)) else (none)) else (none))) else (some (x5, 0))
def term_Kids.f (k : Nat) (l0 : List (S50)) : Option ((List (List (S50))) × Int) := (term_Check.f k l0).bind fun t101 => (if t101 = 0 then (term_Kids.l0 k l0 ([] : List (List (S50))) 1) else (some (([] : List (List (S50))), t101)))
end Go.Proofs.Ytcmnpjgmpgjbdaa.P

-- ==== PL4k
/- Plain laws of chapter 4: a term's arguments. -/
namespace Go.Proofs.Ytcmnpjgmpgjbdaa.P
open Go.RowKit Go.Proofs.YtcmnpjgmpgjbdaaW.PrintWords
set_option linter.unusedVariables false
set_option linter.unusedSimpArgs false
theorem up_cast (a : Nat) (h : a < 9223372036854775807) : wrap64 ((a : Int) + 1) = ((a + 1 : Nat) : Int) := by rw [wrap_up (by omega) (by omega)]; rfl
end Go.Proofs.Ytcmnpjgmpgjbdaa.P

-- ==== PF50
namespace Go.Proofs.Ytcmnpjgmpgjbdaa.P
open Go.RowKit Go.Proofs.YtcmnpjgmpgjbdaaW.PrintWords Go.Proofs.YtcmnpjgmpgjbdaaW.PrintLast Go.Proofs.YtcmnpjgmpgjbdaaW.PrintMore
attribute [local go_sem] max2_int min2_int max_two min_two max_three min_three max_four min_four   -- for this text's walks alone
set_option linter.unusedVariables false
set_option linter.unusedSimpArgs false

/-! ### aumbryref04_sign: function 50 -/
def aumbryref04_sign.f (a0 : Int) : Option (Bool) := if a0 ≥ 97 then (if a0 ≤ 122 then (some true) else (if a0 ≥ 65 then (if a0 ≤ 90 then (some true) else (if a0 ≥ 48 then (some (decide (a0 ≤ 57))) else (some false))) else (if a0 ≥ 48 then (some (decide (a0 ≤ 57))) else (some false)))) else (if a0 ≥ 65 then (if a0 ≤ 90 then (some true) else (if a0 ≥ 48 then (some (decide (a0 ≤ 57))) else (some false))) else (if a0 ≥ 48 then (some (decide (a0 ≤ 57))) else (some false)))
end Go.Proofs.Ytcmnpjgmpgjbdaa.P

-- ==== PL4x
/- Plain laws of chapter 4: a text's signs, its words. -/
namespace Go.Proofs.Ytcmnpjgmpgjbdaa.P
open Go.RowKit Go.Proofs.YtcmnpjgmpgjbdaaW.PrintWords
set_option linter.unusedVariables false
set_option linter.unusedSimpArgs false
def signI (c : Int) : Bool := (decide (97 ≤ c) && decide (c ≤ 122)) || (decide (65 ≤ c) && decide (c ≤ 90)) || (decide (48 ≤ c) && decide (c ≤ 57))
def signU (x : UInt8) : Bool := signI (x.toNat : Int)
abbrev bl (s : ByteArray) : List UInt8 := s.data.toList
theorem bl_len (s : ByteArray) : (bl s).length = s.size := data_length s
theorem bl_inj {a b : ByteArray} (h : bl a = bl b) : a = b := by
  cases a; cases b
  simp only [ByteArray.mk.injEq]
  exact Array.toList_inj.1 h
theorem bt_drop {s : ByteArray} {j : Nat} {x : UInt8} {r : List UInt8} (h : (bl s).drop j = x :: r) : j < s.size ∧ bt s (j : Int) = (x.toNat : Int) ∧ (bl s).drop (j + 1) = r := by
  obtain ⟨h1, h2, h3⟩ := drop_cons h
  rw [bl_len] at h1
  refine ⟨h1, ?_, h3⟩
  unfold bt
  simp only [Int.toNat_natCast]
  rw [dif_pos h1]
  have := h2 0
  rw [List.getD_eq_getElem?_getD, List.getElem?_eq_getElem (by rw [bl_len]; exact h1)] at this
  simp only [Option.getD_some] at this
  rw [← this]
  simp [bl, ByteArray.getElem_eq_getElem_data]
theorem bl_drop_nil {s : ByteArray} {j : Nat} (h : j ≤ s.size) (h1 : (bl s).drop j = []) : j = s.size := by
  have := drop_nil_len (by rw [bl_len]; exact h) h1
  rw [bl_len] at this
  exact this
theorem bl_extract (s : ByteArray) (i j : Nat) : bl (s.extract i j) = ((bl s).drop i).take (j - i) := by
  unfold bl
  rw [ByteArray.data_extract, Array.toList_extract]
theorem sign_eq (c : Int) : aumbryref04_sign.f c = some (signI c) := by
  unfold aumbryref04_sign.f signI
  by_cases c1 : c ≥ 48 <;> by_cases c2 : c ≤ 57 <;> by_cases c3 : c ≥ 97 <;> by_cases c4 : c ≤ 122 <;> by_cases c5 : c ≥ 65 <;> by_cases c6 : c ≤ 90 <;> first | (exfalso; omega) | (simp [c1, c2, c3, c4, c5, c6])
/-- The word that begins at a place. -/
def wdL (s : ByteArray) (i : Nat) : List UInt8 := ((bl s).drop i).takeWhile signU
theorem wdL_cons {s : ByteArray} {j : Nat} {x : UInt8} {r : List UInt8} (h : (bl s).drop j = x :: r) (hx : signU x = true) : wdL s j = x :: wdL s (j + 1) := by
  unfold wdL
  rw [h, List.takeWhile_cons_of_pos hx, (bt_drop h).2.2]
theorem wdL_stop {s : ByteArray} {j : Nat} {x : UInt8} {r : List UInt8} (h : (bl s).drop j = x :: r) (hx : ¬ signU x = true) : wdL s j = [] := by
  unfold wdL
  rw [h, List.takeWhile_cons_of_neg hx]
theorem wdL_end {s : ByteArray} {j : Nat} (h : (bl s).drop j = []) : wdL s j = [] := by
  unfold wdL
  rw [h]
  rfl
theorem wdL_bound {s : ByteArray} {j : Nat} (h : j ≤ s.size) : j + (wdL s j).length ≤ s.size := by
  have h1 : (wdL s j).length ≤ ((bl s).drop j).length := by
    unfold wdL
    exact (List.takeWhile_sublist _).length_le
  rw [List.length_drop, bl_len] at h1
  omega
/-- The word, as a text. -/
def wdT (s : ByteArray) (i : Nat) : ByteArray := s.extract i (i + (wdL s i).length)
theorem wdT_bl (s : ByteArray) (i : Nat) : bl (wdT s i) = wdL s i := by
  unfold wdT
  rw [bl_extract, show i + (wdL s i).length - i = (wdL s i).length by omega]
  have : wdL s i <+: (bl s).drop i := List.takeWhile_prefix _
  exact (List.prefix_iff_eq_take.1 this).symm
/-- Behind the word no sign stands. -/
theorem wd_behind (s : ByteArray) (i : Nat) : (bl s).drop (i + (wdL s i).length) = ((bl s).drop i).dropWhile signU := by
  rw [← List.drop_drop]
  have : ∀ l : List UInt8, l.drop (l.takeWhile signU).length = l.dropWhile signU := by
    intro l
    induction l with
    | nil => rfl
    | cons x l ih =>
      by_cases hx : signU x = true
      · rw [List.takeWhile_cons_of_pos hx, List.dropWhile_cons_of_pos hx]
        simpa using ih
      · rw [List.takeWhile_cons_of_neg hx, List.dropWhile_cons_of_neg hx]
        rfl
  exact this _
def nxL (s : ByteArray) (i : Nat) : Int := match (bl s).drop i with
  | [] => 0
  | x :: _ => (x.toNat : Int)
theorem nxS_eq (s : ByteArray) (i : Nat) (h : i ≤ s.size) : nxS s (i : Int) = nxL s i := by
  unfold nxS nxL
  cases hd : (bl s).drop i with
  | nil =>
    have := bl_drop_nil h hd
    rw [if_neg (by omega)]
  | cons x r =>
    have := bt_drop hd
    rw [if_pos (by omega), this.2.1]
theorem word_step (k : Nat) (from_ c : Int) (s : ByteArray) (i : Int) (v : Value) : term_reader_word.l0 (k + 1) from_ c s i v =
    if signI c = true then ((term_reader_next.f s (wrap64 (i + 1)) v).bind fun b => term_reader_word.l0 k from_ b.1 b.2.1 b.2.2 v)
    else (if 0 ≤ from_ then (if from_ ≤ i then (if i ≤ (s.size : Int) then some (s.extract from_.toNat i.toNat, s, i) else none) else none) else none) := by
  rw [term_reader_word.l0]
  unfold signI
  by_cases c1 : c ≥ 48 <;> by_cases c2 : c ≤ 57 <;> by_cases c3 : c ≥ 97 <;> by_cases c4 : c ≤ 122 <;> by_cases c5 : c ≥ 65 <;> by_cases c6 : c ≤ 90 <;> first | (exfalso; omega) | (simp [c1, c2, c3, c4, c5, c6])
theorem ev_word_loop (s : ByteArray) (v : Value) (hs : s.size ≤ 100000) (from_ : Nat) : ∀ (l : List UInt8) (j : Nat), from_ ≤ j → j ≤ s.size → (bl s).drop j = l →
    Ev (fun k => term_reader_word.l0 k (from_ : Int) (nxL s j) s (j : Int) v) (s.extract from_ (j + (wdL s j).length), s, ((j + (wdL s j).length : Nat) : Int))
  | [], j, hf, hj, hd => by
    have h0 : nxL s j = 0 := by unfold nxL; rw [hd]
    refine Ev.step (fun k => word_step k _ _ s _ v) ?_
    rw [h0, wdL_end hd]
    refine evIfn (by decide) (evIfp (by omega) (evIfp (by omega) (evIfp (by omega) ?_)))
    simp only [Int.toNat_natCast, List.length_nil, Nat.add_zero]
    exact Ev.now _
  | x :: r, j, hf, hj, hd => by
    obtain ⟨h1, h2, h3⟩ := bt_drop hd
    have h0 : nxL s j = (x.toNat : Int) := by unfold nxL; rw [hd]
    refine Ev.step (fun k => word_step k _ _ s _ v) ?_
    rw [h0]
    by_cases hx : signU x = true
    · refine evIfp hx ?_
      rw [wrap_up (by omega) (by omega)]
      have hn : term_reader_next.f s ((j : Int) + 1) v = some (nxL s (j + 1), s, ((j + 1 : Nat) : Int)) := by
        rw [next_at s _ v (by omega), show (j : Int) + 1 = ((j + 1 : Nat) : Int) by omega, nxS_eq s (j + 1) (by omega)]
      refine Ev.bind (evIs hn) ?_
      rw [wdL_cons hd hx]
      have := ev_word_loop s v hs from_ r (j + 1) (by omega) (by omega) h3
      simp only [List.length_cons]
      rw [show j + ((wdL s (j + 1)).length + 1) = j + 1 + (wdL s (j + 1)).length by omega]
      exact this
    · refine evIfn hx (evIfp (by omega) (evIfp (by omega) (evIfp (by omega) ?_)))
      rw [wdL_stop hd hx]
      simp only [Int.toNat_natCast, List.length_nil, Nat.add_zero]
      exact Ev.now _
theorem ev_word (s : ByteArray) (v : Value) (hs : s.size ≤ 100000) (i : Nat) (hi : i ≤ s.size) : Ev (fun k => term_reader_word.f k s (i : Int) v) (wdT s i, s, ((i + (wdL s i).length : Nat) : Int)) := by
  unfold term_reader_word.f
  have hn : term_reader_next.f s (i : Int) v = some (nxL s i, s, (i : Int)) := by
    rw [next_at s _ v (by omega), nxS_eq s i hi]
  refine Ev.bind (evIs hn) ?_
  exact ev_word_loop s v hs i _ i (by omega) hi rfl
/-- A name's signs. -/
theorem kindS_signs {w : ByteArray} (h : kindS w ≠ 0) : ∀ x ∈ bl w, signU x = true := by
  have hsz := kindS_size h
  have key : ∀ (p : Int → Bool), (∀ j : Int, p j = true → signI (bt w j) = true) → ∀ (d : Nat) (i : Nat), i + d = w.size → allN p d (i : Int) = true → ∀ x ∈ (bl w).drop i, signU x = true := by
    intro p hp d
    induction d with
    | zero =>
      intro i hi _ x hx
      rw [List.drop_eq_nil_of_le (by rw [bl_len]; omega)] at hx
      cases hx
    | succ d ih =>
      intro i hi ha x hx
      cases hd : (bl w).drop i with
      | nil =>
        rw [hd] at hx
        cases hx
      | cons y r =>
        rw [hd] at hx
        obtain ⟨h1, h2, h3⟩ := bt_drop hd
        simp only [allN, Bool.and_eq_true] at ha
        rcases List.mem_cons.1 hx with rfl | hx
        · have := hp _ ha.1
          rw [h2] at this
          exact this
        · exact ih (i + 1) (by omega) ha.2 x (by rw [h3]; exact hx)
  have hl : ∀ j : Int, lowB w j = true → signI (bt w j) = true := by
    intro j hj
    unfold lowB at hj
    unfold signI
    simp only [Bool.or_eq_true, Bool.and_eq_true, decide_eq_true_eq] at hj ⊢
    omega
  have hu : ∀ j : Int, upB w j = true → signI (bt w j) = true := by
    intro j hj
    unfold upB at hj
    unfold signI
    simp only [Bool.or_eq_true, Bool.and_eq_true, decide_eq_true_eq] at hj ⊢
    omega
  rw [kindS_good hsz.1 hsz.2] at h
  intro x hx
  by_cases h1 : allN (lowB w) w.size 0 = true
  · exact key _ hl w.size 0 (by omega) h1 x (by simpa using hx)
  · rw [if_neg h1] at h
    by_cases h2 : allN (upB w) w.size 0 = true
    · exact key _ hu w.size 0 (by omega) h2 x (by simpa using hx)
    · rw [if_neg h2] at h
      exact absurd rfl h
/-- Where a name stands and no sign behind it, the word is the name. -/
theorem wdL_name {s w : ByteArray} {i : Nat} {q : List UInt8} (h : (bl s).drop i = bl w ++ q) (hw : ∀ x ∈ bl w, signU x = true) (hq : ∀ x r, q = x :: r → signU x = false) : wdL s i = bl w := by
  unfold wdL
  rw [h, List.takeWhile_append_of_pos hw]
  cases q with
  | nil => simp
  | cons x r => rw [List.takeWhile_cons_of_neg (by rw [hq x r rfl]; decide)]; simp
end Go.Proofs.Ytcmnpjgmpgjbdaa.P

-- ==== PL4t
/- Plain laws of chapter 4: a term's text. -/
namespace Go.Proofs.Ytcmnpjgmpgjbdaa.P
open Go.RowKit Go.Proofs.YtcmnpjgmpgjbdaaW.PrintWords
set_option linter.unusedVariables false
set_option linter.unusedSimpArgs false
def closeB (n : Nat) : List UInt8 := if n = 0 then [] else [41]
def sepB (i : Nat) : UInt8 := if i = 0 then 40 else 44
/-- The arguments i, .., n - 1 of a cell with n, their text, their depth. -/
inductive Tx : Nat → Nat → List Cel → List UInt8 → Nat → Prop
  | done (n : Nat) : Tx n n [] [] 0
  | arg {i n : Nat} {c : Cel} {l1 l2 : List Cel} {b1 b2 : List UInt8} {d1 d2 : Nat} (h : i < n) (h1 : Tx 0 (ar c) l1 b1 d1) (h2 : Tx (i + 1) n l2 b2 d2) :
      Tx i n (c :: (l1 ++ l2)) (sepB i :: (bl c.f0 ++ b1 ++ closeB (ar c) ++ b2)) (max (d1 + 1) d2)
theorem tx_le {i n : Nat} {l : List Cel} {b : List UInt8} {d : Nat} (h : Tx i n l b d) : i ≤ n := by
  cases h with
  | done => exact Nat.le_refl _
  | arg h _ _ => omega
theorem tx_seg {i n : Nat} {l : List Cel} {b : List UInt8} {d : Nat} (h : Tx i n l b d) : segN l (n - i) = some [] := by
  induction h with
  | done n => rw [Nat.sub_self]; rfl
  | @arg i n c l1 l2 b1 b2 d1 d2 h h1 h2 ih1 ih2 =>
    rw [show n - i = (n - (i + 1)) + 1 by omega]
    show segN (l1 ++ l2) (n - (i + 1) + ar c) = some []
    rw [Nat.add_comm, segN_add]
    have := segN_append l2 ih1
    rw [Nat.sub_zero] at this
    rw [this]
    exact ih2
theorem tx_of : ∀ (m : Nat) (l : List Cel) (i n : Nat), l.length ≤ m → i ≤ n → segN l (n - i) = some [] → ∃ b d, Tx i n l b d := by
  intro m
  induction m with
  | zero =>
    intro l i n hl hi h
    have : l = [] := List.eq_nil_of_length_eq_zero (by omega)
    subst this
    have := segN_nil_pos h
    have : i = n := by omega
    subst this
    exact ⟨[], 0, .done i⟩
  | succ m ih =>
    intro l i n hl hi h
    cases l with
    | nil =>
      have := segN_nil_pos h
      have : i = n := by omega
      subst this
      exact ⟨[], 0, .done i⟩
    | cons c l =>
      have hin : i < n := by
        rcases Nat.lt_or_ge i n with h1 | h1
        · exact h1
        · rw [show n - i = 0 by omega] at h
          cases h
      rw [show n - i = (n - (i + 1)) + 1 by omega] at h
      have h' : segN l (n - (i + 1) + ar c) = some [] := h
      rw [Nat.add_comm, segN_add] at h'
      cases hr : segN l (ar c) with
      | none => rw [hr] at h'; cases h'
      | some r =>
        rw [hr] at h'
        obtain ⟨e, hs⟩ := segN_fst hr
        have hrl := (segN_len hr).1
        simp at hl
        obtain ⟨b1, d1, t1⟩ := ih (fstT l r) 0 (ar c) (by unfold fstT; rw [List.length_take]; omega) (Nat.zero_le _) (by rw [Nat.sub_zero]; exact hs)
        obtain ⟨b2, d2, t2⟩ := ih r (i + 1) n (by omega) (by omega) h'
        have ht := Tx.arg (c := c) hin t1 t2
        rw [← e] at ht
        exact ⟨_, _, ht⟩
theorem tx_len {i n : Nat} {l : List Cel} {b : List UInt8} {d : Nat} (h : Tx i n l b d) (hc : ∀ c ∈ l, Okc c) : b.length ≤ 10 * l.length ∧ d ≤ l.length := by
  induction h with
  | done n => simp
  | @arg i n c l1 l2 b1 b2 d1 d2 h h1 h2 ih1 ih2 =>
    have i1 := ih1 fun x hx => hc x (List.mem_cons_of_mem _ (List.mem_append_left _ hx))
    have i2 := ih2 fun x hx => hc x (List.mem_cons_of_mem _ (List.mem_append_right _ hx))
    have hk := kindS_size (hc c (List.mem_cons_self ..)).kind
    have hb : (bl c.f0).length ≤ 8 := by rw [bl_len]; exact hk.2
    have hcl : (closeB (ar c)).length ≤ 1 := by unfold closeB; split <;> simp
    simp only [List.length_cons, List.length_append]
    omega
theorem ar_eq {c : Cel} (h : Okc c) : c.f1 = ((ar c : Nat) : Int) := by
  have := h.lo
  unfold ar
  omega
theorem ar_le {c : Cel} (h : Okc c) : ar c ≤ 4 := by
  have := h.hi
  unfold ar
  omega
/-! ### writing -/
theorem ev_wrL (t : List Cel) (ht : t.length ≤ 64) {i n : Nat} {l : List Cel} {b : List UInt8} {d : Nat} (h : Tx i n l b d) : ∀ (pos : Nat) (q : List Cel) (acc : List UInt8), n ≤ 4 → pos ≤ t.length → t.drop pos = l ++ q → (∀ c ∈ l, Okc c) → acc.length + b.length + 1 ≤ 4000 →
    Ev (fun k => wrL k t (n : Int) (i : Int) (pos : Int) acc) (acc ++ b, ((pos + l.length : Nat) : Int)) := by
  induction h with
  | done n =>
    intro pos q acc hn hp hd hc hl
    refine Ev.step (fun k => (show wrL (k + 1) t (n : Int) (n : Int) (pos : Int) acc = _ from by rw [wrL])) ?_
    refine evIfn (by omega) ?_
    rw [List.append_nil]
    exact Ev.now _
  | @arg i n c l1 l2 b1 b2 d1 d2 h h1 h2 ih1 ih2 =>
    intro pos q acc hn hp hd hc hl
    have hcc := hc c (List.mem_cons_self ..)
    obtain ⟨p1, p2, p3⟩ := drop_cons (show t.drop pos = c :: (l1 ++ l2 ++ q) from hd)
    simp only [List.length_cons, List.length_append] at hl
    have hsz := bl_len c.f0
    refine Ev.step (fun k => (show wrL (k + 1) t (n : Int) (i : Int) (pos : Int) acc = _ from by rw [wrL])) ?_
    refine evIfp (by omega) (evIfp (by omega) (evIfp (by omega) ?_))
    have hsep : (if (i : Int) = 0 then (40 : UInt8) else 44) = sepB i := by
      unfold sepB
      by_cases hi : i = 0
      · rw [if_pos (by omega), if_pos hi]
      · rw [if_neg (by omega), if_neg hi]
    rw [hsep]
    have hr : Ev (fun k => wrT k t (pos : Int) (acc ++ [sepB i])) (acc ++ (sepB i :: (bl c.f0 ++ b1 ++ closeB (ar c))), ((pos + 1 + l1.length : Nat) : Int)) := by
      refine Ev.step (fun k => (show wrT (k + 1) t (pos : Int) (acc ++ [sepB i]) = _ from by rw [wrT])) ?_
      simp only [rd_cel hd]
      refine evIfp (by omega) (evIfp (by omega) (evIfp (by simp only [List.length_append, List.length_cons, List.length_nil]; omega) ?_))
      have e1 := ih1 (pos + 1) (l2 ++ q) (acc ++ [sepB i] ++ bl c.f0) (ar_le hcc) (by omega) (by rw [p3]; simp) (fun x hx => hc x (List.mem_cons_of_mem _ (List.mem_append_left _ hx))) (by simp only [List.length_append, List.length_cons, List.length_nil]; omega)
      rw [ar_eq hcc]
      rw [wrap_up (i := (pos : Int)) (by omega) (by omega)]
      refine Ev.bind e1 ?_
      by_cases ha : ar c = 0
      · refine evIfn (by omega) ?_
        have : closeB (ar c) = [] := by unfold closeB; exact if_pos ha
        rw [this]
        simp only [List.append_assoc, List.cons_append, List.nil_append, List.append_nil]
        exact Ev.now _
      · have hcl : closeB (ar c) = [41] := by unfold closeB; exact if_neg ha
        rw [hcl] at hl ⊢
        refine evIfp (by omega) (evIfp (by simp only [List.length_append, List.length_cons, List.length_nil] at hl ⊢; omega) ?_)
        simp only [List.append_assoc, List.cons_append, List.nil_append, List.append_nil]
        exact Ev.now _
    refine Ev.bind hr ?_
    rw [wrap_up (i := (i : Int)) (by omega) (by omega)]
    have hpl : t.drop (pos + 1 + l1.length) = l2 ++ q := by
      rw [← List.drop_drop, p3, List.append_assoc, List.drop_left]
    have hpn : pos + 1 + l1.length ≤ t.length := by
      have := congrArg List.length p3
      simp only [List.length_drop, List.length_append] at this
      omega
    have e2 := ih2 (pos + 1 + l1.length) q (acc ++ (sepB i :: (bl c.f0 ++ b1 ++ closeB (ar c)))) hn hpn hpl (fun x hx => hc x (List.mem_cons_of_mem _ (List.mem_append_right _ hx))) (by simp only [List.length_append, List.length_cons]; omega)
    have g1 : acc ++ sepB i :: (bl c.f0 ++ b1 ++ closeB (ar c) ++ b2) = acc ++ sepB i :: (bl c.f0 ++ b1 ++ closeB (ar c)) ++ b2 := by simp
    have g2 : pos + (c :: (l1 ++ l2)).length = pos + 1 + l1.length + l2.length := by simp; omega
    rw [g1, g2]
    exact e2
/-- A term that is right, taken apart. -/
theorem tx_term {t : List Cel} (h : checkS t = 0) : ∃ c l b d, t = c :: l ∧ Tx 0 (ar c) l b d ∧ (∀ x ∈ c :: l, Okc x) ∧ (c :: l).length ≤ 64 := by
  obtain ⟨h1, h2, h3⟩ := checkS_ok h
  rcases t with _ | ⟨c, l⟩
  · cases h3
  have h4 : segN l (0 + ar c) = some [] := h3
  rw [Nat.zero_add] at h4
  obtain ⟨b, d, ht⟩ := tx_of l.length l 0 (ar c) (Nat.le_refl _) (Nat.zero_le _) h4
  exact ⟨c, l, b, d, rfl, ht, h2, h1⟩
def txtL (c : Cel) (b : List UInt8) : List UInt8 := bl c.f0 ++ b ++ closeB (ar c)
def txtB (c : Cel) (b : List UInt8) : ByteArray := ⟨(txtL c b).toArray⟩
theorem txt_bl (c : Cel) (b : List UInt8) : bl (txtB c b) = txtL c b := rfl
theorem txt_len {c : Cel} {l : List Cel} {b : List UInt8} {d : Nat} (h : Tx 0 (ar c) l b d) (ho : ∀ x ∈ c :: l, Okc x) (hl : (c :: l).length ≤ 64) : (txtL c b).length ≤ 640 ∧ txtL c b ≠ [] := by
  have h1 := tx_len h fun x hx => ho x (List.mem_cons_of_mem _ hx)
  have hk := kindS_size (ho c (List.mem_cons_self ..)).kind
  have hb := bl_len c.f0
  have hcl : (closeB (ar c)).length ≤ 1 := by unfold closeB; split <;> simp
  unfold txtL
  simp only [List.length_cons] at hl
  refine ⟨by simp only [List.length_append]; omega, fun he => ?_⟩
  have := congrArg List.length he
  simp only [List.length_append, List.length_nil] at this
  omega
theorem ev_print {c : Cel} {l : List Cel} {b : List UInt8} {d : Nat} (h : Tx 0 (ar c) l b d) (ho : ∀ x ∈ c :: l, Okc x) (hl : (c :: l).length ≤ 64) : Ev (fun k => term_Print.f k (c :: l)) (txtB c b, 0) := by
  have hck : checkS (c :: l) = 0 := by
    refine checkS_of hl ho ?_
    show segN l (0 + ar c) = some []
    have := tx_seg h
    rw [Nat.zero_add]
    exact this
  have hlen := txt_len h ho hl
  have hcc := ho c (List.mem_cons_self ..)
  have h1 := tx_len h fun x hx => ho x (List.mem_cons_of_mem _ hx)
  have hk := kindS_size hcc.kind
  have hb := bl_len c.f0
  simp only [List.length_cons] at hl
  unfold term_Print.f printF
  refine Ev.bind (ev_check _) ?_
  refine evIfp hck ?_
  have hr : Ev (fun k => wrT k (c :: l) 0 []) (txtL c b, ((1 + l.length : Nat) : Int)) := by
    refine Ev.step (fun k => (show wrT (k + 1) (c :: l) 0 [] = _ from by rw [wrT])) ?_
    have hrd : rd_T50 (c :: l) 0 = c := rd_cel (t := c :: l) (n := 0) (c := c) (s := l) rfl
    simp only [hrd]
    refine evIfp (by omega) (evIfp (by simp) (evIfp (by simp only [List.length_nil]; omega) ?_))
    have e1 := ev_wrL (c :: l) (by simp; omega) h 1 [] ([] ++ bl c.f0) (ar_le hcc) (by simp) (by simp) (fun x hx => ho x (List.mem_cons_of_mem _ hx)) (by simp only [List.length_append, List.length_nil]; omega)
    rw [ar_eq hcc, show wrap64 (0 + 1) = ((1 : Nat) : Int) from up_cast 0 (by omega)]
    refine Ev.bind e1 ?_
    by_cases ha : ar c = 0
    · refine evIfn (by omega) ?_
      have : closeB (ar c) = [] := by unfold closeB; exact if_pos ha
      unfold txtL
      rw [this]
      simp only [List.nil_append, List.append_nil]
      exact Ev.now _
    · have hcl : closeB (ar c) = [41] := by unfold closeB; exact if_neg ha
      refine evIfp (by omega) (evIfp (by simp only [List.length_append, List.length_nil]; omega) ?_)
      unfold txtL
      rw [hcl]
      simp only [List.nil_append]
      exact Ev.now _
  refine Ev.bind hr ?_
  refine evIfn hlen.2 (evIfp (by simp only; omega) ?_)
  exact Ev.now _
theorem ev_print_no {t : List Cel} (h : ¬ checkS t = 0) : Ev (fun k => term_Print.f k t) (⟨#[]⟩, checkS t) := by
  unfold term_Print.f printF
  refine Ev.bind (ev_check t) ?_
  exact evIfn h (Ev.now _)
end Go.Proofs.Ytcmnpjgmpgjbdaa.P

-- ==== PF39
namespace Go.Proofs.Ytcmnpjgmpgjbdaa.P
open Go.RowKit Go.Proofs.YtcmnpjgmpgjbdaaW.PrintWords Go.Proofs.YtcmnpjgmpgjbdaaW.PrintLast Go.Proofs.YtcmnpjgmpgjbdaaW.PrintMore
attribute [local go_sem] max2_int min2_int max_two min_two max_three min_three max_four min_four   -- for this text's walks alone
set_option linter.unusedVariables false
set_option linter.unusedSimpArgs false

/-! ### aumbryref04_Read: function 39 -/
mutual
def aumbryref04_Read.j1 : Nat → ByteArray → Int → List (S50) → Int → Option ((List (S50)) × Int × Int)
  | 0, _, _, _, _ => none
  | k + 1, x0, x1, x2, x9 => if 0 ≤ x1 then (if x1 ≤ x9 then (if x9 ≤ (x0.size : Int) then (if (x0.extract (x1 : Int).toNat (x9 : Int).toNat).toList = ([] : List UInt8) then (some (([] : List (S50)), x1, 3)) else ((aumbryref03_Kind.f k (x0.extract (x1 : Int).toNat (x9 : Int).toNat)).bind fun t102 => (if t102 = 0 then (some (([] : List (S50)), x1, 4)) else (if (x2.length : Int) = 64 then (some (([] : List (S50)), x1, 6)) else (if x2.length < 5864062014805 then ((some (x2 ++ [(⟨x0.extract (x1 : Int).toNat (x9 : Int).toNat, 0⟩ : S50)] : List (S50))).bind fun y103 => (if x9 = (x0.size : Int) then (aumbryref04_Read.j2 k x0 y103 x9 t102 (x2.length : Int) true) else (if 0 ≤ x9 then (if x9 < (x0.size : Int) then (aumbryref04_Read.j2 k x0 y103 x9 t102 (x2.length : Int) ((bt x0 x9) != 40)) else (none)) else (none)))) else (none)))))) else (none)) else (none)) else (none)
def aumbryref04_Read.j2 : Nat → ByteArray → List (S50) → Int → Int → Int → Bool → Option ((List (S50)) × Int × Int)
  | 0, _, _, _, _, _, _ => none
  | k + 1, x0, x2, x9, x11, x12, x62 => if x62 = true then (some (x2, x9, 0)) else (if x11 = 2 then (some (([] : List (S50)), x9, 5)) else (aumbryref04_Read.l1 k x0 x2 x9 x12 1))
def aumbryref04_Read.l1 : Nat → ByteArray → List (S50) → Int → Int → Int → Option ((List (S50)) × Int × Int)
  | 0, _, _, _, _, _ => none
  | k + 1, x0, x2, x9, x12, x13 => (aumbryref04_Read.f k x0 (wrap64 (x9 + 1)) x2).bind fun bt106 => (if bt106.2.2 = 0 then (if 0 ≤ x12 then (if x12 < (bt106.1.length : Int) then ((some (bt106.1.set (x12 : Int).toNat (⟨(rd_T50 bt106.1 x12).f0, x13⟩ : S50) : List (S50))).bind fun y111 => (if bt106.2.1 < (x0.size : Int) then (if 0 ≤ bt106.2.1 then (aumbryref04_Read.j4 k x0 y111 bt106.2.1 x12 x13 ((bt x0 bt106.2.1) == 41)) else (none)) else (aumbryref04_Read.j4 k x0 y111 bt106.2.1 x12 x13 false))) else (none)) else (none)) else (some (([] : List (S50)), bt106.2.1, bt106.2.2)))
def aumbryref04_Read.j4 : Nat → ByteArray → List (S50) → Int → Int → Int → Bool → Option ((List (S50)) × Int × Int)
  | 0, _, _, _, _, _, _ => none
  | k + 1, x0, x2, x9, x12, x13, x99 => if x99 = true then (some (x2, wrap64 (x9 + 1), 0)) else (if x9 = (x0.size : Int) then (aumbryref04_Read.j5 k x0 x2 x9 x12 x13 true) else (if 0 ≤ x9 then (if x9 < (x0.size : Int) then (aumbryref04_Read.j5 k x0 x2 x9 x12 x13 ((bt x0 x9) != 44)) else (none)) else (none)))
def aumbryref04_Read.j5 : Nat → ByteArray → List (S50) → Int → Int → Int → Bool → Option ((List (S50)) × Int × Int)
  | 0, _, _, _, _, _, _ => none
  | k + 1, x0, x2, x9, x12, x13, x112 => if x112 = true then (some (([] : List (S50)), x9, 3)) else (if x13 = 4 then (some (([] : List (S50)), x9, 5)) else (aumbryref04_Read.l1 k x0 x2 x9 x12 (wrap64 (x13 + 1))))
def aumbryref04_Read.l0 : Nat → ByteArray → Int → List (S50) → Int → Option ((List (S50)) × Int × Int)
  | 0, _, _, _, _ => none
  | k + 1, x0, x1, x2, x9 => if x9 < (x0.size : Int) then (if 0 ≤ x9 then ((aumbryref04_sign.f (bt x0 x9)).bind fun t101 => (if t101 = true then (aumbryref04_Read.l0 k x0 x1 x2 (wrap64 (x9 + 1))) else (aumbryref04_Read.j1 k x0 x1 x2 x9))) else (none)) else (aumbryref04_Read.j1 k x0 x1 x2 x9)
def aumbryref04_Read.f : Nat → ByteArray → Int → List (S50) → Option ((List (S50)) × Int × Int)
  | 0, _, _, _ => none
  | k + 1, a0, a1, l2 => aumbryref04_Read.l0 k a0 a1 l2 a1
end
end Go.Proofs.Ytcmnpjgmpgjbdaa.P

-- ==== PF15
namespace Go.Proofs.Ytcmnpjgmpgjbdaa.P
open Go.RowKit Go.Proofs.YtcmnpjgmpgjbdaaW.PrintWords Go.Proofs.YtcmnpjgmpgjbdaaW.PrintLast Go.Proofs.YtcmnpjgmpgjbdaaW.PrintMore
attribute [local go_sem] max2_int min2_int max_two min_two max_three min_three max_four min_four   -- for this text's walks alone
set_option linter.unusedVariables false
set_option linter.unusedSimpArgs false

/-! ### aumbryref04_Parse: function 15 -/
def aumbryref04_Parse.j0 : Nat → List (S50) → Int → Int → Bool → Option ((List (S50)) × Int × Int)
  | 0, _, _, _, _ => none
  | k + 1, x5, x6, x7, x24 => if x24 = true then (some (([] : List (S50)), x6, 3)) else (if x7 = 0 then (some (x5, 0, 0)) else (some (([] : List (S50)), x6, x7)))
def aumbryref04_Parse.f (k : Nat) (a0 : ByteArray) : Option ((List (S50)) × Int × Int) := if (a0.size : Int) > 1024 then (some (([] : List (S50)), 0, 2)) else ((aumbryref04_Read.f k a0 0 ([] : List (S50))).bind fun bt101 => (if bt101.2.2 = 0 then (aumbryref04_Parse.j0 k bt101.1 bt101.2.1 bt101.2.2 (decide (bt101.2.1 < (a0.size : Int)))) else (aumbryref04_Parse.j0 k bt101.1 bt101.2.1 bt101.2.2 false)))
end Go.Proofs.Ytcmnpjgmpgjbdaa.P
