/- RewriteStarts: the law answers true at every input that the given row speaks of. Conditions: those of the given row, none besides. (Part 5 of 6; written by programs of this session, which drive the kit's print, and by hand.) -/
import Derived.Test.YtdlkhpfgkghhmaaRows
import Derived.Test.YtdlkhpfgkghhmaaZRewriteStartsWWords
import Derived.Deep.Slices
import Derived.SizedLaws
import Derived.ChangeSame
import Derived.ChangeArms
import Derived.Test.YtdlkhpfgkghhmaaZRewriteStarts0
import Derived.Test.YtdlkhpfgkghhmaaZRewriteStarts1
import Derived.Test.YtdlkhpfgkghhmaaZRewriteStarts2
import Derived.Test.YtdlkhpfgkghhmaaZRewriteStarts3
set_option maxHeartbeats 8000000
set_option maxRecDepth 100000
-- ==== PF18
namespace Go.Proofs.Ytdlkhpfgkghhmaa.P
open Go.RowKit Go.Proofs.YtdlkhpfgkghhmaaW.PrintWords Go.Proofs.YtdlkhpfgkghhmaaW.PrintLast Go.Proofs.YtdlkhpfgkghhmaaW.PrintMore
attribute [local go_sem] max2_int min2_int max_two min_two max_three min_three max_four min_four   -- for this text's walks alone
set_option linter.unusedVariables false
set_option linter.unusedSimpArgs false

/-! ### aumbryref07_Right: function 18 -/
mutual
def aumbryref07_Right.l0 : Nat → Int → Int → List (S70) → List (List (S54)) → Int → List ByteArray → Option (Bool)
 | 0, _, _, _, _, _, _ => none
 | k + 1, x3, x4, x102000, x102001, x102002, x102003 => if x4 ≥ 0 then (if 0 ≤ x4 then (if x4 < (x102000.length : Int) then (if ((rd_T70 x102000 x4).f0) = 1 then (if (((rd_T70 x102000 x4).f2).length : Int) > 0 then (some false) else ((aumbryref03_Kind.f k ((rd_T70 x102000 x4).f1.f0)).bind fun t104 => (if t104 = 1 then (if ((rd_T70 x102000 x4).f1.f1) < 0 then (some false) else (if ((rd_T70 x102000 x4).f1.f1) > 4 then (some false) else (if ((rd_T70 x102000 x4).f1.f1) > x3 then (some false) else (aumbryref07_Right.l0 k (wrap64 ((wrap64 (x3 - ((rd_T70 x102000 x4).f1.f1))) + 1)) (wrap64 (x4 - 1)) x102000 x102001 x102002 x102003)))) else (some false)))) else (if ((rd_T70 x102000 x4).f0) = 2 then (if ((rd_T70 x102000 x4).f1.f0).toList = ([] : List UInt8) then (if ((rd_T70 x102000 x4).f1.f1) = 0 then ((aumbryref07_Ground.f k ((rd_T70 x102000 x4).f2)).bind fun t105 => (if t105 = true then (aumbryref07_Right.l0 k (wrap64 (x3 + 1)) (wrap64 (x4 - 1)) x102000 x102001 x102002 x102003) else (some false))) else (some false)) else (some false)) else (some false))) else (none)) else (none)) else (aumbryref07_Right.l1 k x3 (x102001.length : Int) 0 x102000 x102001 x102002 x102003)
def aumbryref07_Right.l1 : Nat → Int → Int → Int → List (S70) → List (List (S54)) → Int → List ByteArray → Option (Bool)
 | 0, _, _, _, _, _, _, _ => none
 | k + 1, x3, x86, x87, x102000, x102001, x102002, x102003 => if x87 < x86 then (if 0 ≤ x87 then (if x87 < (x102001.length : Int) then ((aumbryref07_Ground.f k (rd_L3 x102001 x87)).bind fun t107 => (if t107 = true then (aumbryref07_Right.l1 k x3 x86 (wrap64 (x87 + 1)) x102000 x102001 x102002 x102003) else (some false))) else (none)) else (none)) else (aumbryref07_Right.l2 k x3 (x102003.length : Int) 0 x102000 x102001 x102002 x102003)
def aumbryref07_Right.l2 : Nat → Int → Int → Int → List (S70) → List (List (S54)) → Int → List ByteArray → Option (Bool)
 | 0, _, _, _, _, _, _, _ => none
 | k + 1, x3, x100, x101, x102000, x102001, x102002, x102003 => if x101 < x100 then (if 0 ≤ x101 then (if x101 < (x102003.length : Int) then ((aumbryref03_Kind.f k (rdOf ByteArray.empty x102003 x101)).bind fun t109 => (if t109 = 1 then (if x101 > 0 then (if 0 ≤ (wrap64 (x101 - 1)) then (if (wrap64 (x101 - 1)) < (x102003.length : Int) then (if ((Op.bytesLess ((rdOf ByteArray.empty x102003 (wrap64 (x101 - 1))).toList) ((rdOf ByteArray.empty x102003 x101).toList)) = true) then (aumbryref07_Right.l2 k x3 x100 (wrap64 (x101 + 1)) x102000 x102001 x102002 x102003) else (some false)) else (none)) else (none)) else (aumbryref07_Right.l2 k x3 x100 (wrap64 (x101 + 1)) x102000 x102001 x102002 x102003)) else (some false))) else (none)) else (none)) else (if x3 = 1 then (some (decide (x102002 ≥ 0))) else (some false))
end
def aumbryref07_Right.f (k : Nat) (l0_0 : List (S70)) (l0_1 : List (List (S54))) (a0_2 : Int) (l0_3 : List ByteArray) : Option (Bool) := aumbryref07_Right.l0 k (l0_1.length : Int) (wrap64 ((l0_0.length : Int) - 1)) l0_0 l0_1 a0_2 l0_3
theorem aumbryref07_Right.calls (k : Nat) (A0_0 : Option Addr) (c0_0 : Nat) (l0_0 : List (S70)) (A0_1 : Option Addr) (c0_1 : Nat) (l0_1 : List (List (S54))) (a0_2 : Int) (A0_3 : Option Addr) (c0_3 : Nat) (l0_3 : List ByteArray) (r : Bool) (w : World) (hr0_0 : Kd.C k70 w A0_0 l0_0.length l0_0) (hc0_0 : l0_0.length ≤ c0_0) (hr0_1 : Kd.C (Kd.slice 54 k54) w A0_1 l0_1.length l0_1) (hc0_1 : l0_1.length ≤ c0_1) (hr0_3 : Kd.C Kd.string w A0_3 l0_3.length l0_3) (hc0_3 : l0_3.length ≤ c0_3) (h : aumbryref07_Right.f k l0_0 l0_1 a0_2 l0_3 = some r) :
 Calls Try.prog 18 #[.agg #[.slice A0_0 l0_0.length c0_0, .slice A0_1 l0_1.length c0_1, .int .i64 a0_2, .slice A0_3 l0_3.length c0_3]] w fun e w' => e = .returned (.bool r) ∧ Below w.heap.size w w' := by
 have hu28 := Try.underlying28
 have hu70 := Try.underlying70
 have HR0_0 := zM hr0_0
 have HC0_0 := zM hc0_0
 clear hr0_0 hc0_0
 have HR0_1 := zM hr0_1
 have HC0_1 := zM hc0_1
 clear hr0_1 hc0_1
 have HR0_3 := zM hr0_3
 have HC0_3 := zM hc0_3
 clear hr0_3 hc0_3
 have HB := zM (Below.refl w.heap.size w)
 have H : (aumbryref07_Right.l0 k (l0_1.length : Int) (wrap64 ((l0_0.length : Int) - 1)) l0_0 l0_1 a0_2 l0_3) = some r := h
 clear h
 have H' := zM H
 clear H
 go_enter Try.func18, Try.ntmps18
 go_wp2_with (first | ((with_reducible refine gate_dst (N := 1) rfl ?_); refine box_event ?hg (N := 1) ?hd (cs := #[.slice A0_0 l0_0.length c0_0, .slice A0_1 l0_1.length c0_1, .int .i64 a0_2, .slice A0_3 l0_3.length c0_3]) (t := 28) ?hr ?_; (case hd => rfl); (case hg => rfl); (case hr => first | (go_simp; done) | (go_simp; rfl)); intro gb101 hg w2 hbox hb; have BK101 := zM (hbox); have GW101 := zM (zh hg : w.heap.size ≤ gb101); have GE101 := zM (zh hg : w.heap.size ≤ gb101); replace HB := zM (below_step zb hb); clear hb hbox hg; have hcz3_0 : w2.cell? ⟨gb101, 0, none⟩ = some (.slice A0_0 l0_0.length c0_0) := (zX BK101.out 0).trans rfl; have hcz3_1 : w2.cell? ⟨gb101, 1, none⟩ = some (.slice A0_1 l0_1.length c0_1) := (zX BK101.out 1).trans rfl; have hcz3_2 : w2.cell? ⟨gb101, 2, none⟩ = some (.int .i64 a0_2) := (zX BK101.out 2).trans rfl; have hcz3_3 : w2.cell? ⟨gb101, 3, none⟩ = some (.slice A0_3 l0_3.length c0_3) := (zX BK101.out 3).trans rfl; have hfz3_0 := zY BK101.out 0; have hfz3_1 := zY BK101.out 1; have hfz3_2 := zY BK101.out 2; have hfz3_3 := zY BK101.out 3))
 go_loopg [3, 4] k (fun kq v3 v4 w' => ∃ (x3_1 : Int) (x4_1 : Int), v3 = .int .i64 x3_1 ∧ v4 = .int .i64 x4_1 ∧ Aside0 (aumbryref07_Right.l0 kq x3_1 x4_1 l0_0 l0_1 a0_2 l0_3 = some r) ∧ Aside0 (kq ≤ k) ∧ Aside0 (w'.heap[gb101]? = some (.cells #[(.slice A0_0 l0_0.length c0_0), (.slice A0_1 l0_1.length c0_1), .int .i64 a0_2, (.slice A0_3 l0_3.length c0_3)] 28 (0, 0))) ∧ Aside0 (Below w.heap.size w w'))
 case atStart => exact ⟨((l0_1.length : Int)), (wrap64 ((l0_0.length : Int) - 1)), zy, zy, H', ⟨Nat.le_refl _⟩, ⟨by refine zk ?_; exact BK101.out⟩, ⟨zb⟩⟩
 case round =>
  clear H'
  try clear c1
  try clear p2
  try clear hcz3_0
  try clear hcz3_1
  try clear hcz3_2
  try clear hcz3_3
  try clear hfz3_0
  try clear hfz3_1
  try clear hfz3_2
  try clear hfz3_3
  obtain ⟨x3_1, x4_1, rfl, rfl, HA, HK1, BK101, HB⟩ := hrel
  cases gk with
  | zero => exact absurd HA.out (by simp [aumbryref07_Right.l0])
  | succ k1 =>
   have H := HA.out
   clear HA
   simp only [aumbryref07_Right.l0] at H
   by_cases c4 : x4_1 ≥ 0
   ·
    rw [if_pos c4] at H
    have c4b0 : decide (0 ≤ x4_1) = true := zQ c4
    clear c4
    by_cases c5 : 0 ≤ x4_1
    ·
     rw [if_pos c5] at H
     have c5b0 : decide (0 ≤ x4_1) = true := zQ c5
     clear c5
     by_cases c6 : x4_1 < (l0_0.length : Int)
     ·
      rw [if_pos c6] at H
      have c6b0 : decide (x4_1 < (l0_0.length : Int)) = true := zQ c6
      clear c6
      by_cases c7 : ((rd_T70 l0_0 x4_1).f0) = 1
      ·
       rw [if_pos c7] at H
       have c7b0 : (((rd_T70 l0_0 x4_1).f0) == 1) = true := zG c7
       have c7b1 : (((rd_T70 l0_0 x4_1).f0) != 1) = false := zH c7
       clear c7
       by_cases c8 : (((rd_T70 l0_0 x4_1).f2).length : Int) > 0
       ·
        rw [if_pos c8] at H
        have c8b0 : decide (0 < (((rd_T70 l0_0 x4_1).f2).length : Int)) = true := zQ c8
        have c8b1 : decide (0 < ((rd_T70 l0_0 x4_1).f2).length) = true := zQ (by omega)
        clear c8
        obtain rfl := zS H
        have hcz9_0 : wr.cell? ⟨gb101, 0, none⟩ = some (.slice A0_0 l0_0.length c0_0) := (zX BK101.out 0).trans rfl
        have hcz9_1 : wr.cell? ⟨gb101, 1, none⟩ = some (.slice A0_1 l0_1.length c0_1) := (zX BK101.out 1).trans rfl
        have hcz9_2 : wr.cell? ⟨gb101, 2, none⟩ = some (.int .i64 a0_2) := (zX BK101.out 2).trans rfl
        have hcz9_3 : wr.cell? ⟨gb101, 3, none⟩ = some (.slice A0_3 l0_3.length c0_3) := (zX BK101.out 3).trans rfl
        have hfz9_0 := zY BK101.out 0
        have hfz9_1 := zY BK101.out 1
        have hfz9_2 := zY BK101.out 2
        have hfz9_3 := zY BK101.out 3
        have p102 : 0 ≤ (x4_1 : Int) := zT zv
        have q102 : x4_1 < (l0_0.length : Int) := zT zv
        obtain ⟨ad102, A102_3, c102_3, e102, hx102_0, hx102_1, hx102_2, hx102_3, hl102_3, hi102_3⟩ := at_T70 HR0_0.out x4_1 p102 q102
        cases e102
        replace hx102_0 := (HB.out.cell (World.block_lt_of_cell? w _ hx102_0)).trans hx102_0
        replace hx102_1 := (HB.out.cell (World.block_lt_of_cell? w _ hx102_1)).trans hx102_1
        replace hx102_2 := (HB.out.cell (World.block_lt_of_cell? w _ hx102_2)).trans hx102_2
        replace hx102_3 := (HB.out.cell (World.block_lt_of_cell? w _ hx102_3)).trans hx102_3
        have HR102_3 := zM hi102_3
        have HC102_3 := zM hl102_3
        clear hi102_3 hl102_3
        replace p102 := eq_true p102
        replace q102 := eq_true q102
        go_wp2_with (first | ((with_reducible refine gate_dst (N := 5) rfl ?_); refine box_event ?hg (N := 5) ?hd (cs := #[.int .i64 0, .string (⟨#[]⟩ : ByteArray), .int .i64 0, .slice none 0 0]) (t := 70) ?hr ?_; (case hd => rfl); (case hg => rfl); (case hr => first | (go_simp; done) | (go_simp; rfl)); intro gb103 hg w10 hbox hb; have BK103 := zM (hbox); have GW103 := zM (zh hg : w.heap.size ≤ gb103); have GE103 := zM (zh hg : w.heap.size ≤ gb103); replace HB := zM (below_step zb hb); have NB101_103 := zM ((by rw [hg]; exact Nat.ne_of_lt (blk_lt (zk BK101.out)) : gb101 ≠ gb103)); have NB103_101 := zM ((by rw [hg]; exact Nat.ne_of_gt (blk_lt (zk BK101.out)) : gb103 ≠ gb101)); replace BK101 := zM (blk_below (zk BK101.out) hb); clear hb hbox hg; have hnb11 := NB103_101.out; have hnc11 := NB101_103.out; have hcz12_0 : w10.cell? ⟨gb103, 0, none⟩ = some (.int .i64 0) := (zX BK103.out 0).trans rfl; have hcz12_1 : w10.cell? ⟨gb103, 1, none⟩ = some (.string (⟨#[]⟩ : ByteArray)) := (zX BK103.out 1).trans rfl; have hcz12_2 : w10.cell? ⟨gb103, 2, none⟩ = some (.int .i64 0) := (zX BK103.out 2).trans rfl; have hcz12_3 : w10.cell? ⟨gb103, 3, none⟩ = some (.slice none 0 0) := (zX BK103.out 3).trans rfl; have hfz12_0 := zY BK103.out 0; have hfz12_1 := zY BK103.out 1; have hfz12_2 := zY BK103.out 2; have hfz12_3 := zY BK103.out 3))
        go_ret
        exact ⟨zw, zb⟩
       ·
        rw [if_neg c8] at H
        have c8b0 : decide (0 < (((rd_T70 l0_0 x4_1).f2).length : Int)) = false := zR c8
        have c8b1 : decide (0 < ((rd_T70 l0_0 x4_1).f2).length) = false := zR (by omega)
        clear c8
        replace H := zB H
        obtain ⟨t104, A130, H⟩ := H
        try dsimp only at H
        have A13 := zM A130
        clear A130
        by_cases c14 : t104 = 1
        ·
         rw [if_pos c14] at H
         have c14b0 : (t104 == 1) = true := zG c14
         have c14b1 : (t104 != 1) = false := zH c14
         clear c14
         by_cases c15 : ((rd_T70 l0_0 x4_1).f1.f1) < 0
         ·
          rw [if_pos c15] at H
          have c15b0 : decide (((rd_T70 l0_0 x4_1).f1.f1) < 0) = true := zQ c15
          clear c15
          obtain rfl := zS H
          have hcz16_0 : wr.cell? ⟨gb101, 0, none⟩ = some (.slice A0_0 l0_0.length c0_0) := (zX BK101.out 0).trans rfl
          have hcz16_1 : wr.cell? ⟨gb101, 1, none⟩ = some (.slice A0_1 l0_1.length c0_1) := (zX BK101.out 1).trans rfl
          have hcz16_2 : wr.cell? ⟨gb101, 2, none⟩ = some (.int .i64 a0_2) := (zX BK101.out 2).trans rfl
          have hcz16_3 : wr.cell? ⟨gb101, 3, none⟩ = some (.slice A0_3 l0_3.length c0_3) := (zX BK101.out 3).trans rfl
          have hfz16_0 := zY BK101.out 0
          have hfz16_1 := zY BK101.out 1
          have hfz16_2 := zY BK101.out 2
          have hfz16_3 := zY BK101.out 3
          have p102 : 0 ≤ (x4_1 : Int) := zT zv
          have q102 : x4_1 < (l0_0.length : Int) := zT zv
          obtain ⟨ad102, A102_3, c102_3, e102, hx102_0, hx102_1, hx102_2, hx102_3, hl102_3, hi102_3⟩ := at_T70 HR0_0.out x4_1 p102 q102
          cases e102
          replace hx102_0 := (HB.out.cell (World.block_lt_of_cell? w _ hx102_0)).trans hx102_0
          replace hx102_1 := (HB.out.cell (World.block_lt_of_cell? w _ hx102_1)).trans hx102_1
          replace hx102_2 := (HB.out.cell (World.block_lt_of_cell? w _ hx102_2)).trans hx102_2
          replace hx102_3 := (HB.out.cell (World.block_lt_of_cell? w _ hx102_3)).trans hx102_3
          have HR102_3 := zM hi102_3
          have HC102_3 := zM hl102_3
          clear hi102_3 hl102_3
          replace p102 := eq_true p102
          replace q102 := eq_true q102
          go_wp2_with (first | ((with_reducible refine gate_dst (N := 5) rfl ?_); refine box_event ?hg (N := 5) ?hd (cs := #[.int .i64 0, .string (⟨#[]⟩ : ByteArray), .int .i64 0, .slice none 0 0]) (t := 70) ?hr ?_; (case hd => rfl); (case hg => rfl); (case hr => first | (go_simp; done) | (go_simp; rfl)); intro gb103 hg w17 hbox hb; have BK103 := zM (hbox); have GW103 := zM (zh hg : w.heap.size ≤ gb103); have GE103 := zM (zh hg : w.heap.size ≤ gb103); replace HB := zM (below_step zb hb); have NB101_103 := zM ((by rw [hg]; exact Nat.ne_of_lt (blk_lt (zk BK101.out)) : gb101 ≠ gb103)); have NB103_101 := zM ((by rw [hg]; exact Nat.ne_of_gt (blk_lt (zk BK101.out)) : gb103 ≠ gb101)); replace BK101 := zM (blk_below (zk BK101.out) hb); clear hb hbox hg; have hnb18 := NB103_101.out; have hnc18 := NB101_103.out; have hcz19_0 : w17.cell? ⟨gb103, 0, none⟩ = some (.int .i64 0) := (zX BK103.out 0).trans rfl; have hcz19_1 : w17.cell? ⟨gb103, 1, none⟩ = some (.string (⟨#[]⟩ : ByteArray)) := (zX BK103.out 1).trans rfl; have hcz19_2 : w17.cell? ⟨gb103, 2, none⟩ = some (.int .i64 0) := (zX BK103.out 2).trans rfl; have hcz19_3 : w17.cell? ⟨gb103, 3, none⟩ = some (.slice none 0 0) := (zX BK103.out 3).trans rfl; have hfz19_0 := zY BK103.out 0; have hfz19_1 := zY BK103.out 1; have hfz19_2 := zY BK103.out 2; have hfz19_3 := zY BK103.out 3) | (go_at_call 45; (with_reducible refine (aumbryref03_Kind.calls k1 ((rd_T70 l0_0 x4_1).f1.f0) t104 _ A13.out).mono ?_); rintro e w' ⟨rfl, ⟨nd, rfl⟩⟩; (try first | exact ⟨rfl, _, World.drewN_drewN _ _ _⟩ | exact ⟨rfl, _, Eq.trans (World.drewN_drewN _ _ _) (congrArg (World.drewN _) (Nat.add_assoc _ _ _))⟩)))
          go_ret
          exact ⟨zw, zb⟩
         ·
          rw [if_neg c15] at H
          have c15b0 : decide (((rd_T70 l0_0 x4_1).f1.f1) < 0) = false := zR c15
          clear c15
          by_cases c20 : ((rd_T70 l0_0 x4_1).f1.f1) > 4
          ·
           rw [if_pos c20] at H
           have c20b0 : decide (4 < ((rd_T70 l0_0 x4_1).f1.f1)) = true := zQ c20
           clear c20
           obtain rfl := zS H
           have hcz21_0 : wr.cell? ⟨gb101, 0, none⟩ = some (.slice A0_0 l0_0.length c0_0) := (zX BK101.out 0).trans rfl
           have hcz21_1 : wr.cell? ⟨gb101, 1, none⟩ = some (.slice A0_1 l0_1.length c0_1) := (zX BK101.out 1).trans rfl
           have hcz21_2 : wr.cell? ⟨gb101, 2, none⟩ = some (.int .i64 a0_2) := (zX BK101.out 2).trans rfl
           have hcz21_3 : wr.cell? ⟨gb101, 3, none⟩ = some (.slice A0_3 l0_3.length c0_3) := (zX BK101.out 3).trans rfl
           have hfz21_0 := zY BK101.out 0
           have hfz21_1 := zY BK101.out 1
           have hfz21_2 := zY BK101.out 2
           have hfz21_3 := zY BK101.out 3
           have p102 : 0 ≤ (x4_1 : Int) := zT zv
           have q102 : x4_1 < (l0_0.length : Int) := zT zv
           obtain ⟨ad102, A102_3, c102_3, e102, hx102_0, hx102_1, hx102_2, hx102_3, hl102_3, hi102_3⟩ := at_T70 HR0_0.out x4_1 p102 q102
           cases e102
           replace hx102_0 := (HB.out.cell (World.block_lt_of_cell? w _ hx102_0)).trans hx102_0
           replace hx102_1 := (HB.out.cell (World.block_lt_of_cell? w _ hx102_1)).trans hx102_1
           replace hx102_2 := (HB.out.cell (World.block_lt_of_cell? w _ hx102_2)).trans hx102_2
           replace hx102_3 := (HB.out.cell (World.block_lt_of_cell? w _ hx102_3)).trans hx102_3
           have HR102_3 := zM hi102_3
           have HC102_3 := zM hl102_3
           clear hi102_3 hl102_3
           replace p102 := eq_true p102
           replace q102 := eq_true q102
           go_wp2_with (first | ((with_reducible refine gate_dst (N := 5) rfl ?_); refine box_event ?hg (N := 5) ?hd (cs := #[.int .i64 0, .string (⟨#[]⟩ : ByteArray), .int .i64 0, .slice none 0 0]) (t := 70) ?hr ?_; (case hd => rfl); (case hg => rfl); (case hr => first | (go_simp; done) | (go_simp; rfl)); intro gb103 hg w22 hbox hb; have BK103 := zM (hbox); have GW103 := zM (zh hg : w.heap.size ≤ gb103); have GE103 := zM (zh hg : w.heap.size ≤ gb103); replace HB := zM (below_step zb hb); have NB101_103 := zM ((by rw [hg]; exact Nat.ne_of_lt (blk_lt (zk BK101.out)) : gb101 ≠ gb103)); have NB103_101 := zM ((by rw [hg]; exact Nat.ne_of_gt (blk_lt (zk BK101.out)) : gb103 ≠ gb101)); replace BK101 := zM (blk_below (zk BK101.out) hb); clear hb hbox hg; have hnb23 := NB103_101.out; have hnc23 := NB101_103.out; have hcz24_0 : w22.cell? ⟨gb103, 0, none⟩ = some (.int .i64 0) := (zX BK103.out 0).trans rfl; have hcz24_1 : w22.cell? ⟨gb103, 1, none⟩ = some (.string (⟨#[]⟩ : ByteArray)) := (zX BK103.out 1).trans rfl; have hcz24_2 : w22.cell? ⟨gb103, 2, none⟩ = some (.int .i64 0) := (zX BK103.out 2).trans rfl; have hcz24_3 : w22.cell? ⟨gb103, 3, none⟩ = some (.slice none 0 0) := (zX BK103.out 3).trans rfl; have hfz24_0 := zY BK103.out 0; have hfz24_1 := zY BK103.out 1; have hfz24_2 := zY BK103.out 2; have hfz24_3 := zY BK103.out 3) | (go_at_call 45; (with_reducible refine (aumbryref03_Kind.calls k1 ((rd_T70 l0_0 x4_1).f1.f0) t104 _ A13.out).mono ?_); rintro e w' ⟨rfl, ⟨nd, rfl⟩⟩; (try first | exact ⟨rfl, _, World.drewN_drewN _ _ _⟩ | exact ⟨rfl, _, Eq.trans (World.drewN_drewN _ _ _) (congrArg (World.drewN _) (Nat.add_assoc _ _ _))⟩)))
           go_ret
           exact ⟨zw, zb⟩
          ·
           rw [if_neg c20] at H
           have c20b0 : decide (4 < ((rd_T70 l0_0 x4_1).f1.f1)) = false := zR c20
           clear c20
           by_cases c25 : ((rd_T70 l0_0 x4_1).f1.f1) > x3_1
           ·
            rw [if_pos c25] at H
            have c25b0 : decide (x3_1 < ((rd_T70 l0_0 x4_1).f1.f1)) = true := zQ c25
            clear c25
            obtain rfl := zS H
            have hcz26_0 : wr.cell? ⟨gb101, 0, none⟩ = some (.slice A0_0 l0_0.length c0_0) := (zX BK101.out 0).trans rfl
            have hcz26_1 : wr.cell? ⟨gb101, 1, none⟩ = some (.slice A0_1 l0_1.length c0_1) := (zX BK101.out 1).trans rfl
            have hcz26_2 : wr.cell? ⟨gb101, 2, none⟩ = some (.int .i64 a0_2) := (zX BK101.out 2).trans rfl
            have hcz26_3 : wr.cell? ⟨gb101, 3, none⟩ = some (.slice A0_3 l0_3.length c0_3) := (zX BK101.out 3).trans rfl
            have hfz26_0 := zY BK101.out 0
            have hfz26_1 := zY BK101.out 1
            have hfz26_2 := zY BK101.out 2
            have hfz26_3 := zY BK101.out 3
            have p102 : 0 ≤ (x4_1 : Int) := zT zv
            have q102 : x4_1 < (l0_0.length : Int) := zT zv
            obtain ⟨ad102, A102_3, c102_3, e102, hx102_0, hx102_1, hx102_2, hx102_3, hl102_3, hi102_3⟩ := at_T70 HR0_0.out x4_1 p102 q102
            cases e102
            replace hx102_0 := (HB.out.cell (World.block_lt_of_cell? w _ hx102_0)).trans hx102_0
            replace hx102_1 := (HB.out.cell (World.block_lt_of_cell? w _ hx102_1)).trans hx102_1
            replace hx102_2 := (HB.out.cell (World.block_lt_of_cell? w _ hx102_2)).trans hx102_2
            replace hx102_3 := (HB.out.cell (World.block_lt_of_cell? w _ hx102_3)).trans hx102_3
            have HR102_3 := zM hi102_3
            have HC102_3 := zM hl102_3
            clear hi102_3 hl102_3
            replace p102 := eq_true p102
            replace q102 := eq_true q102
            go_wp2_with (first | ((with_reducible refine gate_dst (N := 5) rfl ?_); refine box_event ?hg (N := 5) ?hd (cs := #[.int .i64 0, .string (⟨#[]⟩ : ByteArray), .int .i64 0, .slice none 0 0]) (t := 70) ?hr ?_; (case hd => rfl); (case hg => rfl); (case hr => first | (go_simp; done) | (go_simp; rfl)); intro gb103 hg w27 hbox hb; have BK103 := zM (hbox); have GW103 := zM (zh hg : w.heap.size ≤ gb103); have GE103 := zM (zh hg : w.heap.size ≤ gb103); replace HB := zM (below_step zb hb); have NB101_103 := zM ((by rw [hg]; exact Nat.ne_of_lt (blk_lt (zk BK101.out)) : gb101 ≠ gb103)); have NB103_101 := zM ((by rw [hg]; exact Nat.ne_of_gt (blk_lt (zk BK101.out)) : gb103 ≠ gb101)); replace BK101 := zM (blk_below (zk BK101.out) hb); clear hb hbox hg; have hnb28 := NB103_101.out; have hnc28 := NB101_103.out; have hcz29_0 : w27.cell? ⟨gb103, 0, none⟩ = some (.int .i64 0) := (zX BK103.out 0).trans rfl; have hcz29_1 : w27.cell? ⟨gb103, 1, none⟩ = some (.string (⟨#[]⟩ : ByteArray)) := (zX BK103.out 1).trans rfl; have hcz29_2 : w27.cell? ⟨gb103, 2, none⟩ = some (.int .i64 0) := (zX BK103.out 2).trans rfl; have hcz29_3 : w27.cell? ⟨gb103, 3, none⟩ = some (.slice none 0 0) := (zX BK103.out 3).trans rfl; have hfz29_0 := zY BK103.out 0; have hfz29_1 := zY BK103.out 1; have hfz29_2 := zY BK103.out 2; have hfz29_3 := zY BK103.out 3) | (go_at_call 45; (with_reducible refine (aumbryref03_Kind.calls k1 ((rd_T70 l0_0 x4_1).f1.f0) t104 _ A13.out).mono ?_); rintro e w' ⟨rfl, ⟨nd, rfl⟩⟩; (try first | exact ⟨rfl, _, World.drewN_drewN _ _ _⟩ | exact ⟨rfl, _, Eq.trans (World.drewN_drewN _ _ _) (congrArg (World.drewN _) (Nat.add_assoc _ _ _))⟩)))
            go_ret
            exact ⟨zw, zb⟩
           ·
            rw [if_neg c25] at H
            have c25b0 : decide (x3_1 < ((rd_T70 l0_0 x4_1).f1.f1)) = false := zR c25
            clear c25
            have H' := zM H
            clear H
            have hcz30_0 : wr.cell? ⟨gb101, 0, none⟩ = some (.slice A0_0 l0_0.length c0_0) := (zX BK101.out 0).trans rfl
            have hcz30_1 : wr.cell? ⟨gb101, 1, none⟩ = some (.slice A0_1 l0_1.length c0_1) := (zX BK101.out 1).trans rfl
            have hcz30_2 : wr.cell? ⟨gb101, 2, none⟩ = some (.int .i64 a0_2) := (zX BK101.out 2).trans rfl
            have hcz30_3 : wr.cell? ⟨gb101, 3, none⟩ = some (.slice A0_3 l0_3.length c0_3) := (zX BK101.out 3).trans rfl
            have hfz30_0 := zY BK101.out 0
            have hfz30_1 := zY BK101.out 1
            have hfz30_2 := zY BK101.out 2
            have hfz30_3 := zY BK101.out 3
            have p102 : 0 ≤ (x4_1 : Int) := zT zv
            have q102 : x4_1 < (l0_0.length : Int) := zT zv
            obtain ⟨ad102, A102_3, c102_3, e102, hx102_0, hx102_1, hx102_2, hx102_3, hl102_3, hi102_3⟩ := at_T70 HR0_0.out x4_1 p102 q102
            cases e102
            replace hx102_0 := (HB.out.cell (World.block_lt_of_cell? w _ hx102_0)).trans hx102_0
            replace hx102_1 := (HB.out.cell (World.block_lt_of_cell? w _ hx102_1)).trans hx102_1
            replace hx102_2 := (HB.out.cell (World.block_lt_of_cell? w _ hx102_2)).trans hx102_2
            replace hx102_3 := (HB.out.cell (World.block_lt_of_cell? w _ hx102_3)).trans hx102_3
            have HR102_3 := zM hi102_3
            have HC102_3 := zM hl102_3
            clear hi102_3 hl102_3
            replace p102 := eq_true p102
            replace q102 := eq_true q102
            go_wp2_with (first | ((with_reducible refine gate_dst (N := 5) rfl ?_); refine box_event ?hg (N := 5) ?hd (cs := #[.int .i64 0, .string (⟨#[]⟩ : ByteArray), .int .i64 0, .slice none 0 0]) (t := 70) ?hr ?_; (case hd => rfl); (case hg => rfl); (case hr => first | (go_simp; done) | (go_simp; rfl)); intro gb103 hg w31 hbox hb; have BK103 := zM (hbox); have GW103 := zM (zh hg : w.heap.size ≤ gb103); have GE103 := zM (zh hg : w.heap.size ≤ gb103); replace HB := zM (below_step zb hb); have NB101_103 := zM ((by rw [hg]; exact Nat.ne_of_lt (blk_lt (zk BK101.out)) : gb101 ≠ gb103)); have NB103_101 := zM ((by rw [hg]; exact Nat.ne_of_gt (blk_lt (zk BK101.out)) : gb103 ≠ gb101)); replace BK101 := zM (blk_below (zk BK101.out) hb); clear hb hbox hg; have hnb32 := NB103_101.out; have hnc32 := NB101_103.out; have hcz33_0 : w31.cell? ⟨gb103, 0, none⟩ = some (.int .i64 0) := (zX BK103.out 0).trans rfl; have hcz33_1 : w31.cell? ⟨gb103, 1, none⟩ = some (.string (⟨#[]⟩ : ByteArray)) := (zX BK103.out 1).trans rfl; have hcz33_2 : w31.cell? ⟨gb103, 2, none⟩ = some (.int .i64 0) := (zX BK103.out 2).trans rfl; have hcz33_3 : w31.cell? ⟨gb103, 3, none⟩ = some (.slice none 0 0) := (zX BK103.out 3).trans rfl; have hfz33_0 := zY BK103.out 0; have hfz33_1 := zY BK103.out 1; have hfz33_2 := zY BK103.out 2; have hfz33_3 := zY BK103.out 3) | (go_at_call 45; (with_reducible refine (aumbryref03_Kind.calls k1 ((rd_T70 l0_0 x4_1).f1.f0) t104 _ A13.out).mono ?_); rintro e w' ⟨rfl, ⟨nd, rfl⟩⟩; (try first | exact ⟨rfl, _, World.drewN_drewN _ _ _⟩ | exact ⟨rfl, _, Eq.trans (World.drewN_drewN _ _ _) (congrArg (World.drewN _) (Nat.add_assoc _ _ _))⟩)))
            go_roundg k1
            case measure => have := HK1.out; omega
            case rel => exact ⟨(wrap64 ((wrap64 (x3_1 - ((rd_T70 l0_0 x4_1).f1.f1))) + 1)), (wrap64 (x4_1 - 1)), zy, zy, H', ⟨by have := HK1.out; omega⟩, ⟨by refine zk ?_; refine blk_far ?_ NB101_103.out _; refine zk ?_; refine blk_far ?_ NB101_103.out _; refine zk ?_; refine blk_far ?_ NB101_103.out _; refine zk ?_; refine blk_far ?_ NB101_103.out _; refine zk ?_; exact BK101.out⟩, ⟨zb⟩⟩
        ·
         rw [if_neg c14] at H
         have c14b0 : (t104 == 1) = false := zE c14
         have c14b1 : (t104 != 1) = true := zF c14
         obtain rfl := zS H
         have hcz34_0 : wr.cell? ⟨gb101, 0, none⟩ = some (.slice A0_0 l0_0.length c0_0) := (zX BK101.out 0).trans rfl
         have hcz34_1 : wr.cell? ⟨gb101, 1, none⟩ = some (.slice A0_1 l0_1.length c0_1) := (zX BK101.out 1).trans rfl
         have hcz34_2 : wr.cell? ⟨gb101, 2, none⟩ = some (.int .i64 a0_2) := (zX BK101.out 2).trans rfl
         have hcz34_3 : wr.cell? ⟨gb101, 3, none⟩ = some (.slice A0_3 l0_3.length c0_3) := (zX BK101.out 3).trans rfl
         have hfz34_0 := zY BK101.out 0
         have hfz34_1 := zY BK101.out 1
         have hfz34_2 := zY BK101.out 2
         have hfz34_3 := zY BK101.out 3
         have p102 : 0 ≤ (x4_1 : Int) := zT zv
         have q102 : x4_1 < (l0_0.length : Int) := zT zv
         obtain ⟨ad102, A102_3, c102_3, e102, hx102_0, hx102_1, hx102_2, hx102_3, hl102_3, hi102_3⟩ := at_T70 HR0_0.out x4_1 p102 q102
         cases e102
         replace hx102_0 := (HB.out.cell (World.block_lt_of_cell? w _ hx102_0)).trans hx102_0
         replace hx102_1 := (HB.out.cell (World.block_lt_of_cell? w _ hx102_1)).trans hx102_1
         replace hx102_2 := (HB.out.cell (World.block_lt_of_cell? w _ hx102_2)).trans hx102_2
         replace hx102_3 := (HB.out.cell (World.block_lt_of_cell? w _ hx102_3)).trans hx102_3
         have HR102_3 := zM hi102_3
         have HC102_3 := zM hl102_3
         clear hi102_3 hl102_3
         replace p102 := eq_true p102
         replace q102 := eq_true q102
         go_wp2_with (first | ((with_reducible refine gate_dst (N := 5) rfl ?_); refine box_event ?hg (N := 5) ?hd (cs := #[.int .i64 0, .string (⟨#[]⟩ : ByteArray), .int .i64 0, .slice none 0 0]) (t := 70) ?hr ?_; (case hd => rfl); (case hg => rfl); (case hr => first | (go_simp; done) | (go_simp; rfl)); intro gb103 hg w35 hbox hb; have BK103 := zM (hbox); have GW103 := zM (zh hg : w.heap.size ≤ gb103); have GE103 := zM (zh hg : w.heap.size ≤ gb103); replace HB := zM (below_step zb hb); have NB101_103 := zM ((by rw [hg]; exact Nat.ne_of_lt (blk_lt (zk BK101.out)) : gb101 ≠ gb103)); have NB103_101 := zM ((by rw [hg]; exact Nat.ne_of_gt (blk_lt (zk BK101.out)) : gb103 ≠ gb101)); replace BK101 := zM (blk_below (zk BK101.out) hb); clear hb hbox hg; have hnb36 := NB103_101.out; have hnc36 := NB101_103.out; have hcz37_0 : w35.cell? ⟨gb103, 0, none⟩ = some (.int .i64 0) := (zX BK103.out 0).trans rfl; have hcz37_1 : w35.cell? ⟨gb103, 1, none⟩ = some (.string (⟨#[]⟩ : ByteArray)) := (zX BK103.out 1).trans rfl; have hcz37_2 : w35.cell? ⟨gb103, 2, none⟩ = some (.int .i64 0) := (zX BK103.out 2).trans rfl; have hcz37_3 : w35.cell? ⟨gb103, 3, none⟩ = some (.slice none 0 0) := (zX BK103.out 3).trans rfl; have hfz37_0 := zY BK103.out 0; have hfz37_1 := zY BK103.out 1; have hfz37_2 := zY BK103.out 2; have hfz37_3 := zY BK103.out 3) | (go_at_call 45; (with_reducible refine (aumbryref03_Kind.calls k1 ((rd_T70 l0_0 x4_1).f1.f0) t104 _ A13.out).mono ?_); rintro e w' ⟨rfl, ⟨nd, rfl⟩⟩; (try first | exact ⟨rfl, _, World.drewN_drewN _ _ _⟩ | exact ⟨rfl, _, Eq.trans (World.drewN_drewN _ _ _) (congrArg (World.drewN _) (Nat.add_assoc _ _ _))⟩)))
         go_ret
         exact ⟨zw, zb⟩
      ·
       rw [if_neg c7] at H
       have c7b0 : (((rd_T70 l0_0 x4_1).f0) == 1) = false := zE c7
       have c7b1 : (((rd_T70 l0_0 x4_1).f0) != 1) = true := zF c7
       by_cases c38 : ((rd_T70 l0_0 x4_1).f0) = 2
       ·
        rw [if_pos c38] at H
        have c38b0 : (((rd_T70 l0_0 x4_1).f0) == 2) = true := zG c38
        have c38b1 : (((rd_T70 l0_0 x4_1).f0) != 2) = false := zH c38
        clear c38
        by_cases c39 : ((rd_T70 l0_0 x4_1).f1.f0).toList = ([] : List UInt8)
        ·
         rw [if_pos c39] at H
         have c39b0 : (((rd_T70 l0_0 x4_1).f1.f0).toList == ([] : List UInt8)) = true := zG c39
         have c39b1 : (((rd_T70 l0_0 x4_1).f1.f0).toList != ([] : List UInt8)) = false := zH c39
         clear c39
         by_cases c40 : ((rd_T70 l0_0 x4_1).f1.f1) = 0
         ·
          rw [if_pos c40] at H
          have c40b0 : (((rd_T70 l0_0 x4_1).f1.f1) == 0) = true := zG c40
          have c40b1 : (((rd_T70 l0_0 x4_1).f1.f1) != 0) = false := zH c40
          clear c40
          replace H := zB H
          obtain ⟨t105, A410, H⟩ := H
          try dsimp only at H
          have A41 := zM A410
          clear A410
          by_cases c42 : t105 = true
          ·
           subst c42
           rw [if_pos rfl] at H
           have H' := zM H
           clear H
           have hcz43_0 : wr.cell? ⟨gb101, 0, none⟩ = some (.slice A0_0 l0_0.length c0_0) := (zX BK101.out 0).trans rfl
           have hcz43_1 : wr.cell? ⟨gb101, 1, none⟩ = some (.slice A0_1 l0_1.length c0_1) := (zX BK101.out 1).trans rfl
           have hcz43_2 : wr.cell? ⟨gb101, 2, none⟩ = some (.int .i64 a0_2) := (zX BK101.out 2).trans rfl
           have hcz43_3 : wr.cell? ⟨gb101, 3, none⟩ = some (.slice A0_3 l0_3.length c0_3) := (zX BK101.out 3).trans rfl
           have hfz43_0 := zY BK101.out 0
           have hfz43_1 := zY BK101.out 1
           have hfz43_2 := zY BK101.out 2
           have hfz43_3 := zY BK101.out 3
           have p102 : 0 ≤ (x4_1 : Int) := zT zv
           have q102 : x4_1 < (l0_0.length : Int) := zT zv
           obtain ⟨ad102, A102_3, c102_3, e102, hx102_0, hx102_1, hx102_2, hx102_3, hl102_3, hi102_3⟩ := at_T70 HR0_0.out x4_1 p102 q102
           cases e102
           replace hx102_0 := (HB.out.cell (World.block_lt_of_cell? w _ hx102_0)).trans hx102_0
           replace hx102_1 := (HB.out.cell (World.block_lt_of_cell? w _ hx102_1)).trans hx102_1
           replace hx102_2 := (HB.out.cell (World.block_lt_of_cell? w _ hx102_2)).trans hx102_2
           replace hx102_3 := (HB.out.cell (World.block_lt_of_cell? w _ hx102_3)).trans hx102_3
           have HR102_3 := zM hi102_3
           have HC102_3 := zM hl102_3
           clear hi102_3 hl102_3
           replace p102 := eq_true p102
           replace q102 := eq_true q102
           go_wp2_with (first | ((with_reducible refine gate_dst (N := 5) rfl ?_); refine box_event ?hg (N := 5) ?hd (cs := #[.int .i64 0, .string (⟨#[]⟩ : ByteArray), .int .i64 0, .slice none 0 0]) (t := 70) ?hr ?_; (case hd => rfl); (case hg => rfl); (case hr => first | (go_simp; done) | (go_simp; rfl)); intro gb103 hg w44 hbox hb; have BK103 := zM (hbox); have GW103 := zM (zh hg : w.heap.size ≤ gb103); have GE103 := zM (zh hg : w.heap.size ≤ gb103); replace HB := zM (below_step zb hb); have NB101_103 := zM ((by rw [hg]; exact Nat.ne_of_lt (blk_lt (zk BK101.out)) : gb101 ≠ gb103)); have NB103_101 := zM ((by rw [hg]; exact Nat.ne_of_gt (blk_lt (zk BK101.out)) : gb103 ≠ gb101)); replace BK101 := zM (blk_below (zk BK101.out) hb); clear hb hbox hg; have hnb45 := NB103_101.out; have hnc45 := NB101_103.out; have hcz46_0 : w44.cell? ⟨gb103, 0, none⟩ = some (.int .i64 0) := (zX BK103.out 0).trans rfl; have hcz46_1 : w44.cell? ⟨gb103, 1, none⟩ = some (.string (⟨#[]⟩ : ByteArray)) := (zX BK103.out 1).trans rfl; have hcz46_2 : w44.cell? ⟨gb103, 2, none⟩ = some (.int .i64 0) := (zX BK103.out 2).trans rfl; have hcz46_3 : w44.cell? ⟨gb103, 3, none⟩ = some (.slice none 0 0) := (zX BK103.out 3).trans rfl; have hfz46_0 := zY BK103.out 0; have hfz46_1 := zY BK103.out 1; have hfz46_2 := zY BK103.out 2; have hfz46_3 := zY BK103.out 3) | (go_at_call 23; (with_reducible refine (aumbryref07_Ground.calls k1 _ _ ((rd_T70 l0_0 x4_1).f2) true _ ?side1 ?side2 A41.out).mono ?_); (case side1 => exact Kd.C_below HR102_3.out zb); (case side2 => exact HC102_3.out); rintro e w47 ⟨rfl, hb⟩; replace BK101 := zM (blk_below (g := gb101) (o := .cells #[.slice (some ad102) l0_0.length c0_0, .slice A0_1 l0_1.length c0_1, .int .i64 a0_2, .slice A0_3 l0_3.length c0_3] 28 (0, 0)) (by refine zk ?_; refine blk_far ?_ NB101_103.out _; refine zk ?_; refine blk_far ?_ NB101_103.out _; refine zk ?_; refine blk_far ?_ NB101_103.out _; refine zk ?_; refine blk_far ?_ NB101_103.out _; refine zk ?_; exact BK101.out) hb); replace BK103 := zM (blk_below (g := gb103) (o := .cells #[.int .i64 ((rd_T70 l0_0 x4_1).f0), .string ((rd_T70 l0_0 x4_1).f1.f0), .int .i64 ((rd_T70 l0_0 x4_1).f1.f1), .slice A102_3 ((rd_T70 l0_0 x4_1).f2).length c102_3] 70 (0, 0)) (by refine zk ?_; refine blk_put (cs := #[.int .i64 ((rd_T70 l0_0 x4_1).f0), .string ((rd_T70 l0_0 x4_1).f1.f0), .int .i64 ((rd_T70 l0_0 x4_1).f1.f1), .slice none 0 0]) ?_ 3 _ rfl; refine zk ?_; refine blk_put (cs := #[.int .i64 ((rd_T70 l0_0 x4_1).f0), .string ((rd_T70 l0_0 x4_1).f1.f0), .int .i64 0, .slice none 0 0]) ?_ 2 _ rfl; refine zk ?_; refine blk_put (cs := #[.int .i64 ((rd_T70 l0_0 x4_1).f0), .string (⟨#[]⟩ : ByteArray), .int .i64 0, .slice none 0 0]) ?_ 1 _ rfl; refine zk ?_; refine blk_put (cs := #[.int .i64 0, .string (⟨#[]⟩ : ByteArray), .int .i64 0, .slice none 0 0]) ?_ 0 _ rfl; refine zk ?_; exact BK103.out) hb); replace HB := zM (below_step zb hb); (try clear hb)))
           go_roundg k1
           case measure => have := HK1.out; omega
           case rel => exact ⟨(wrap64 (x3_1 + 1)), (wrap64 (x4_1 - 1)), zy, zy, H', ⟨by have := HK1.out; omega⟩, ⟨by refine zk ?_; exact BK101.out⟩, ⟨zb⟩⟩
          ·
           replace c42 := zI c42
           subst c42
           rw [if_neg (show ¬ (false = true) by decide)] at H
           obtain rfl := zS H
           have hcz48_0 : wr.cell? ⟨gb101, 0, none⟩ = some (.slice A0_0 l0_0.length c0_0) := (zX BK101.out 0).trans rfl
           have hcz48_1 : wr.cell? ⟨gb101, 1, none⟩ = some (.slice A0_1 l0_1.length c0_1) := (zX BK101.out 1).trans rfl
           have hcz48_2 : wr.cell? ⟨gb101, 2, none⟩ = some (.int .i64 a0_2) := (zX BK101.out 2).trans rfl
           have hcz48_3 : wr.cell? ⟨gb101, 3, none⟩ = some (.slice A0_3 l0_3.length c0_3) := (zX BK101.out 3).trans rfl
           have hfz48_0 := zY BK101.out 0
           have hfz48_1 := zY BK101.out 1
           have hfz48_2 := zY BK101.out 2
           have hfz48_3 := zY BK101.out 3
           have p102 : 0 ≤ (x4_1 : Int) := zT zv
           have q102 : x4_1 < (l0_0.length : Int) := zT zv
           obtain ⟨ad102, A102_3, c102_3, e102, hx102_0, hx102_1, hx102_2, hx102_3, hl102_3, hi102_3⟩ := at_T70 HR0_0.out x4_1 p102 q102
           cases e102
           replace hx102_0 := (HB.out.cell (World.block_lt_of_cell? w _ hx102_0)).trans hx102_0
           replace hx102_1 := (HB.out.cell (World.block_lt_of_cell? w _ hx102_1)).trans hx102_1
           replace hx102_2 := (HB.out.cell (World.block_lt_of_cell? w _ hx102_2)).trans hx102_2
           replace hx102_3 := (HB.out.cell (World.block_lt_of_cell? w _ hx102_3)).trans hx102_3
           have HR102_3 := zM hi102_3
           have HC102_3 := zM hl102_3
           clear hi102_3 hl102_3
           replace p102 := eq_true p102
           replace q102 := eq_true q102
           go_wp2_with (first | ((with_reducible refine gate_dst (N := 5) rfl ?_); refine box_event ?hg (N := 5) ?hd (cs := #[.int .i64 0, .string (⟨#[]⟩ : ByteArray), .int .i64 0, .slice none 0 0]) (t := 70) ?hr ?_; (case hd => rfl); (case hg => rfl); (case hr => first | (go_simp; done) | (go_simp; rfl)); intro gb103 hg w49 hbox hb; have BK103 := zM (hbox); have GW103 := zM (zh hg : w.heap.size ≤ gb103); have GE103 := zM (zh hg : w.heap.size ≤ gb103); replace HB := zM (below_step zb hb); have NB101_103 := zM ((by rw [hg]; exact Nat.ne_of_lt (blk_lt (zk BK101.out)) : gb101 ≠ gb103)); have NB103_101 := zM ((by rw [hg]; exact Nat.ne_of_gt (blk_lt (zk BK101.out)) : gb103 ≠ gb101)); replace BK101 := zM (blk_below (zk BK101.out) hb); clear hb hbox hg; have hnb50 := NB103_101.out; have hnc50 := NB101_103.out; have hcz51_0 : w49.cell? ⟨gb103, 0, none⟩ = some (.int .i64 0) := (zX BK103.out 0).trans rfl; have hcz51_1 : w49.cell? ⟨gb103, 1, none⟩ = some (.string (⟨#[]⟩ : ByteArray)) := (zX BK103.out 1).trans rfl; have hcz51_2 : w49.cell? ⟨gb103, 2, none⟩ = some (.int .i64 0) := (zX BK103.out 2).trans rfl; have hcz51_3 : w49.cell? ⟨gb103, 3, none⟩ = some (.slice none 0 0) := (zX BK103.out 3).trans rfl; have hfz51_0 := zY BK103.out 0; have hfz51_1 := zY BK103.out 1; have hfz51_2 := zY BK103.out 2; have hfz51_3 := zY BK103.out 3) | (go_at_call 23; (with_reducible refine (aumbryref07_Ground.calls k1 _ _ ((rd_T70 l0_0 x4_1).f2) false _ ?side1 ?side2 A41.out).mono ?_); (case side1 => exact Kd.C_below HR102_3.out zb); (case side2 => exact HC102_3.out); rintro e w52 ⟨rfl, hb⟩; replace BK101 := zM (blk_below (g := gb101) (o := .cells #[.slice (some ad102) l0_0.length c0_0, .slice A0_1 l0_1.length c0_1, .int .i64 a0_2, .slice A0_3 l0_3.length c0_3] 28 (0, 0)) (by refine zk ?_; refine blk_far ?_ NB101_103.out _; refine zk ?_; refine blk_far ?_ NB101_103.out _; refine zk ?_; refine blk_far ?_ NB101_103.out _; refine zk ?_; refine blk_far ?_ NB101_103.out _; refine zk ?_; exact BK101.out) hb); replace BK103 := zM (blk_below (g := gb103) (o := .cells #[.int .i64 ((rd_T70 l0_0 x4_1).f0), .string ((rd_T70 l0_0 x4_1).f1.f0), .int .i64 ((rd_T70 l0_0 x4_1).f1.f1), .slice A102_3 ((rd_T70 l0_0 x4_1).f2).length c102_3] 70 (0, 0)) (by refine zk ?_; refine blk_put (cs := #[.int .i64 ((rd_T70 l0_0 x4_1).f0), .string ((rd_T70 l0_0 x4_1).f1.f0), .int .i64 ((rd_T70 l0_0 x4_1).f1.f1), .slice none 0 0]) ?_ 3 _ rfl; refine zk ?_; refine blk_put (cs := #[.int .i64 ((rd_T70 l0_0 x4_1).f0), .string ((rd_T70 l0_0 x4_1).f1.f0), .int .i64 0, .slice none 0 0]) ?_ 2 _ rfl; refine zk ?_; refine blk_put (cs := #[.int .i64 ((rd_T70 l0_0 x4_1).f0), .string (⟨#[]⟩ : ByteArray), .int .i64 0, .slice none 0 0]) ?_ 1 _ rfl; refine zk ?_; refine blk_put (cs := #[.int .i64 0, .string (⟨#[]⟩ : ByteArray), .int .i64 0, .slice none 0 0]) ?_ 0 _ rfl; refine zk ?_; exact BK103.out) hb); replace HB := zM (below_step zb hb); (try clear hb)))
           go_ret
           exact ⟨zw, zb⟩
         ·
          rw [if_neg c40] at H
          have c40b0 : (((rd_T70 l0_0 x4_1).f1.f1) == 0) = false := zE c40
          have c40b1 : (((rd_T70 l0_0 x4_1).f1.f1) != 0) = true := zF c40
          obtain rfl := zS H
          have hcz53_0 : wr.cell? ⟨gb101, 0, none⟩ = some (.slice A0_0 l0_0.length c0_0) := (zX BK101.out 0).trans rfl
          have hcz53_1 : wr.cell? ⟨gb101, 1, none⟩ = some (.slice A0_1 l0_1.length c0_1) := (zX BK101.out 1).trans rfl
          have hcz53_2 : wr.cell? ⟨gb101, 2, none⟩ = some (.int .i64 a0_2) := (zX BK101.out 2).trans rfl
          have hcz53_3 : wr.cell? ⟨gb101, 3, none⟩ = some (.slice A0_3 l0_3.length c0_3) := (zX BK101.out 3).trans rfl
          have hfz53_0 := zY BK101.out 0
          have hfz53_1 := zY BK101.out 1
          have hfz53_2 := zY BK101.out 2
          have hfz53_3 := zY BK101.out 3
          have p102 : 0 ≤ (x4_1 : Int) := zT zv
          have q102 : x4_1 < (l0_0.length : Int) := zT zv
          obtain ⟨ad102, A102_3, c102_3, e102, hx102_0, hx102_1, hx102_2, hx102_3, hl102_3, hi102_3⟩ := at_T70 HR0_0.out x4_1 p102 q102
          cases e102
          replace hx102_0 := (HB.out.cell (World.block_lt_of_cell? w _ hx102_0)).trans hx102_0
          replace hx102_1 := (HB.out.cell (World.block_lt_of_cell? w _ hx102_1)).trans hx102_1
          replace hx102_2 := (HB.out.cell (World.block_lt_of_cell? w _ hx102_2)).trans hx102_2
          replace hx102_3 := (HB.out.cell (World.block_lt_of_cell? w _ hx102_3)).trans hx102_3
          have HR102_3 := zM hi102_3
          have HC102_3 := zM hl102_3
          clear hi102_3 hl102_3
          replace p102 := eq_true p102
          replace q102 := eq_true q102
          go_wp2_with (first | ((with_reducible refine gate_dst (N := 5) rfl ?_); refine box_event ?hg (N := 5) ?hd (cs := #[.int .i64 0, .string (⟨#[]⟩ : ByteArray), .int .i64 0, .slice none 0 0]) (t := 70) ?hr ?_; (case hd => rfl); (case hg => rfl); (case hr => first | (go_simp; done) | (go_simp; rfl)); intro gb103 hg w54 hbox hb; have BK103 := zM (hbox); have GW103 := zM (zh hg : w.heap.size ≤ gb103); have GE103 := zM (zh hg : w.heap.size ≤ gb103); replace HB := zM (below_step zb hb); have NB101_103 := zM ((by rw [hg]; exact Nat.ne_of_lt (blk_lt (zk BK101.out)) : gb101 ≠ gb103)); have NB103_101 := zM ((by rw [hg]; exact Nat.ne_of_gt (blk_lt (zk BK101.out)) : gb103 ≠ gb101)); replace BK101 := zM (blk_below (zk BK101.out) hb); clear hb hbox hg; have hnb55 := NB103_101.out; have hnc55 := NB101_103.out; have hcz56_0 : w54.cell? ⟨gb103, 0, none⟩ = some (.int .i64 0) := (zX BK103.out 0).trans rfl; have hcz56_1 : w54.cell? ⟨gb103, 1, none⟩ = some (.string (⟨#[]⟩ : ByteArray)) := (zX BK103.out 1).trans rfl; have hcz56_2 : w54.cell? ⟨gb103, 2, none⟩ = some (.int .i64 0) := (zX BK103.out 2).trans rfl; have hcz56_3 : w54.cell? ⟨gb103, 3, none⟩ = some (.slice none 0 0) := (zX BK103.out 3).trans rfl; have hfz56_0 := zY BK103.out 0; have hfz56_1 := zY BK103.out 1; have hfz56_2 := zY BK103.out 2; have hfz56_3 := zY BK103.out 3))
          go_ret
          exact ⟨zw, zb⟩
        ·
         rw [if_neg c39] at H
         have c39b0 : (((rd_T70 l0_0 x4_1).f1.f0).toList == ([] : List UInt8)) = false := zE c39
         have c39b1 : (((rd_T70 l0_0 x4_1).f1.f0).toList != ([] : List UInt8)) = true := zF c39
         obtain rfl := zS H
         have hcz57_0 : wr.cell? ⟨gb101, 0, none⟩ = some (.slice A0_0 l0_0.length c0_0) := (zX BK101.out 0).trans rfl
         have hcz57_1 : wr.cell? ⟨gb101, 1, none⟩ = some (.slice A0_1 l0_1.length c0_1) := (zX BK101.out 1).trans rfl
         have hcz57_2 : wr.cell? ⟨gb101, 2, none⟩ = some (.int .i64 a0_2) := (zX BK101.out 2).trans rfl
         have hcz57_3 : wr.cell? ⟨gb101, 3, none⟩ = some (.slice A0_3 l0_3.length c0_3) := (zX BK101.out 3).trans rfl
         have hfz57_0 := zY BK101.out 0
         have hfz57_1 := zY BK101.out 1
         have hfz57_2 := zY BK101.out 2
         have hfz57_3 := zY BK101.out 3
         have p102 : 0 ≤ (x4_1 : Int) := zT zv
         have q102 : x4_1 < (l0_0.length : Int) := zT zv
         obtain ⟨ad102, A102_3, c102_3, e102, hx102_0, hx102_1, hx102_2, hx102_3, hl102_3, hi102_3⟩ := at_T70 HR0_0.out x4_1 p102 q102
         cases e102
         replace hx102_0 := (HB.out.cell (World.block_lt_of_cell? w _ hx102_0)).trans hx102_0
         replace hx102_1 := (HB.out.cell (World.block_lt_of_cell? w _ hx102_1)).trans hx102_1
         replace hx102_2 := (HB.out.cell (World.block_lt_of_cell? w _ hx102_2)).trans hx102_2
         replace hx102_3 := (HB.out.cell (World.block_lt_of_cell? w _ hx102_3)).trans hx102_3
         have HR102_3 := zM hi102_3
         have HC102_3 := zM hl102_3
         clear hi102_3 hl102_3
         replace p102 := eq_true p102
         replace q102 := eq_true q102
         go_wp2_with (first | ((with_reducible refine gate_dst (N := 5) rfl ?_); refine box_event ?hg (N := 5) ?hd (cs := #[.int .i64 0, .string (⟨#[]⟩ : ByteArray), .int .i64 0, .slice none 0 0]) (t := 70) ?hr ?_; (case hd => rfl); (case hg => rfl); (case hr => first | (go_simp; done) | (go_simp; rfl)); intro gb103 hg w58 hbox hb; have BK103 := zM (hbox); have GW103 := zM (zh hg : w.heap.size ≤ gb103); have GE103 := zM (zh hg : w.heap.size ≤ gb103); replace HB := zM (below_step zb hb); have NB101_103 := zM ((by rw [hg]; exact Nat.ne_of_lt (blk_lt (zk BK101.out)) : gb101 ≠ gb103)); have NB103_101 := zM ((by rw [hg]; exact Nat.ne_of_gt (blk_lt (zk BK101.out)) : gb103 ≠ gb101)); replace BK101 := zM (blk_below (zk BK101.out) hb); clear hb hbox hg; have hnb59 := NB103_101.out; have hnc59 := NB101_103.out; have hcz60_0 : w58.cell? ⟨gb103, 0, none⟩ = some (.int .i64 0) := (zX BK103.out 0).trans rfl; have hcz60_1 : w58.cell? ⟨gb103, 1, none⟩ = some (.string (⟨#[]⟩ : ByteArray)) := (zX BK103.out 1).trans rfl; have hcz60_2 : w58.cell? ⟨gb103, 2, none⟩ = some (.int .i64 0) := (zX BK103.out 2).trans rfl; have hcz60_3 : w58.cell? ⟨gb103, 3, none⟩ = some (.slice none 0 0) := (zX BK103.out 3).trans rfl; have hfz60_0 := zY BK103.out 0; have hfz60_1 := zY BK103.out 1; have hfz60_2 := zY BK103.out 2; have hfz60_3 := zY BK103.out 3))
         go_ret
         exact ⟨zw, zb⟩
       ·
        rw [if_neg c38] at H
        have c38b0 : (((rd_T70 l0_0 x4_1).f0) == 2) = false := zE c38
        have c38b1 : (((rd_T70 l0_0 x4_1).f0) != 2) = true := zF c38
        obtain rfl := zS H
        have hcz61_0 : wr.cell? ⟨gb101, 0, none⟩ = some (.slice A0_0 l0_0.length c0_0) := (zX BK101.out 0).trans rfl
        have hcz61_1 : wr.cell? ⟨gb101, 1, none⟩ = some (.slice A0_1 l0_1.length c0_1) := (zX BK101.out 1).trans rfl
        have hcz61_2 : wr.cell? ⟨gb101, 2, none⟩ = some (.int .i64 a0_2) := (zX BK101.out 2).trans rfl
        have hcz61_3 : wr.cell? ⟨gb101, 3, none⟩ = some (.slice A0_3 l0_3.length c0_3) := (zX BK101.out 3).trans rfl
        have hfz61_0 := zY BK101.out 0
        have hfz61_1 := zY BK101.out 1
        have hfz61_2 := zY BK101.out 2
        have hfz61_3 := zY BK101.out 3
        have p102 : 0 ≤ (x4_1 : Int) := zT zv
        have q102 : x4_1 < (l0_0.length : Int) := zT zv
        obtain ⟨ad102, A102_3, c102_3, e102, hx102_0, hx102_1, hx102_2, hx102_3, hl102_3, hi102_3⟩ := at_T70 HR0_0.out x4_1 p102 q102
        cases e102
        replace hx102_0 := (HB.out.cell (World.block_lt_of_cell? w _ hx102_0)).trans hx102_0
        replace hx102_1 := (HB.out.cell (World.block_lt_of_cell? w _ hx102_1)).trans hx102_1
        replace hx102_2 := (HB.out.cell (World.block_lt_of_cell? w _ hx102_2)).trans hx102_2
        replace hx102_3 := (HB.out.cell (World.block_lt_of_cell? w _ hx102_3)).trans hx102_3
        have HR102_3 := zM hi102_3
        have HC102_3 := zM hl102_3
        clear hi102_3 hl102_3
        replace p102 := eq_true p102
        replace q102 := eq_true q102
        go_wp2_with (first | ((with_reducible refine gate_dst (N := 5) rfl ?_); refine box_event ?hg (N := 5) ?hd (cs := #[.int .i64 0, .string (⟨#[]⟩ : ByteArray), .int .i64 0, .slice none 0 0]) (t := 70) ?hr ?_; (case hd => rfl); (case hg => rfl); (case hr => first | (go_simp; done) | (go_simp; rfl)); intro gb103 hg w62 hbox hb; have BK103 := zM (hbox); have GW103 := zM (zh hg : w.heap.size ≤ gb103); have GE103 := zM (zh hg : w.heap.size ≤ gb103); replace HB := zM (below_step zb hb); have NB101_103 := zM ((by rw [hg]; exact Nat.ne_of_lt (blk_lt (zk BK101.out)) : gb101 ≠ gb103)); have NB103_101 := zM ((by rw [hg]; exact Nat.ne_of_gt (blk_lt (zk BK101.out)) : gb103 ≠ gb101)); replace BK101 := zM (blk_below (zk BK101.out) hb); clear hb hbox hg; have hnb63 := NB103_101.out; have hnc63 := NB101_103.out; have hcz64_0 : w62.cell? ⟨gb103, 0, none⟩ = some (.int .i64 0) := (zX BK103.out 0).trans rfl; have hcz64_1 : w62.cell? ⟨gb103, 1, none⟩ = some (.string (⟨#[]⟩ : ByteArray)) := (zX BK103.out 1).trans rfl; have hcz64_2 : w62.cell? ⟨gb103, 2, none⟩ = some (.int .i64 0) := (zX BK103.out 2).trans rfl; have hcz64_3 : w62.cell? ⟨gb103, 3, none⟩ = some (.slice none 0 0) := (zX BK103.out 3).trans rfl; have hfz64_0 := zY BK103.out 0; have hfz64_1 := zY BK103.out 1; have hfz64_2 := zY BK103.out 2; have hfz64_3 := zY BK103.out 3))
        go_ret
        exact ⟨zw, zb⟩
     ·
      rw [if_neg c6] at H
      exact absurd H (by simp)
    ·
     rw [if_neg c5] at H
     exact absurd H (by simp)
   ·
    rw [if_neg c4] at H
    have c4b0 : decide (0 ≤ x4_1) = false := zR c4
    clear c4
    have H' := zM H
    clear H
    have hcz65_0 : wr.cell? ⟨gb101, 0, none⟩ = some (.slice A0_0 l0_0.length c0_0) := (zX BK101.out 0).trans rfl
    have hcz65_1 : wr.cell? ⟨gb101, 1, none⟩ = some (.slice A0_1 l0_1.length c0_1) := (zX BK101.out 1).trans rfl
    have hcz65_2 : wr.cell? ⟨gb101, 2, none⟩ = some (.int .i64 a0_2) := (zX BK101.out 2).trans rfl
    have hcz65_3 : wr.cell? ⟨gb101, 3, none⟩ = some (.slice A0_3 l0_3.length c0_3) := (zX BK101.out 3).trans rfl
    have hfz65_0 := zY BK101.out 0
    have hfz65_1 := zY BK101.out 1
    have hfz65_2 := zY BK101.out 2
    have hfz65_3 := zY BK101.out 3
    go_wp2
    repeat (go_quiet (fail); try go_wp2)
    go_loopg [87] k1 (fun kq v87 w' => ∃ (x87_2 : Int), v87 = .int .i64 x87_2 ∧ Aside0 (aumbryref07_Right.l1 kq x3_1 (l0_1.length : Int) x87_2 l0_0 l0_1 a0_2 l0_3 = some r) ∧ Aside0 (kq ≤ k1) ∧ Aside0 (w'.heap[gb101]? = some (.cells #[(.slice A0_0 l0_0.length c0_0), (.slice A0_1 l0_1.length c0_1), .int .i64 a0_2, (.slice A0_3 l0_3.length c0_3)] 28 (0, 0))) ∧ Aside0 (Below w.heap.size w w'))
    case atStart => exact ⟨(0), zy, H', ⟨Nat.le_refl _⟩, ⟨by refine zk ?_; exact BK101.out⟩, ⟨zb⟩⟩
    case round =>
     clear H'
     try clear c1
     try clear p1
     try clear q1
     try clear hx1
     try clear c2
     try clear p2
     try clear c3
     try clear c4
     try clear c4b0
     try clear c5
     try clear c5b0
     try clear c6
     try clear c6b0
     try clear p6
     try clear c7
     try clear c7b0
     try clear c7b1
     try clear c8
     try clear c8b0
     try clear c8b1
     try clear c10
     try clear p10
     try clear q10
     try clear hx10
     try clear c11
     try clear c14
     try clear c14b0
     try clear c14b1
     try clear c15
     try clear c15b0
     try clear c18
     try clear c20
     try clear c20b0
     try clear c23
     try clear c25
     try clear c25b0
     try clear c28
     try clear c32
     try clear c36
     try clear c38
     try clear c38b0
     try clear c38b1
     try clear c39
     try clear c39b0
     try clear c39b1
     try clear c40
     try clear c40b0
     try clear c40b1
     try clear c42
     try clear c45
     try clear c50
     try clear c55
     try clear c59
     try clear c63
     try clear p64
     try clear hcz12_0
     try clear hcz12_1
     try clear hcz12_2
     try clear hcz12_3
     try clear hcz16_0
     try clear hcz16_1
     try clear hcz16_2
     try clear hcz16_3
     try clear hcz19_0
     try clear hcz19_1
     try clear hcz19_2
     try clear hcz19_3
     try clear hcz21_0
     try clear hcz21_1
     try clear hcz21_2
     try clear hcz21_3
     try clear hcz24_0
     try clear hcz24_1
     try clear hcz24_2
     try clear hcz24_3
     try clear hcz26_0
     try clear hcz26_1
     try clear hcz26_2
     try clear hcz26_3
     try clear hcz29_0
     try clear hcz29_1
     try clear hcz29_2
     try clear hcz29_3
     try clear hcz30_0
     try clear hcz30_1
     try clear hcz30_2
     try clear hcz30_3
     try clear hcz33_0
     try clear hcz33_1
     try clear hcz33_2
     try clear hcz33_3
     try clear hcz34_0
     try clear hcz34_1
     try clear hcz34_2
     try clear hcz34_3
     try clear hcz37_0
     try clear hcz37_1
     try clear hcz37_2
     try clear hcz37_3
     try clear hcz3_0
     try clear hcz3_1
     try clear hcz3_2
     try clear hcz3_3
     try clear hcz43_0
     try clear hcz43_1
     try clear hcz43_2
     try clear hcz43_3
     try clear hcz46_0
     try clear hcz46_1
     try clear hcz46_2
     try clear hcz46_3
     try clear hcz48_0
     try clear hcz48_1
     try clear hcz48_2
     try clear hcz48_3
     try clear hcz51_0
     try clear hcz51_1
     try clear hcz51_2
     try clear hcz51_3
     try clear hcz53_0
     try clear hcz53_1
     try clear hcz53_2
     try clear hcz53_3
     try clear hcz56_0
     try clear hcz56_1
     try clear hcz56_2
     try clear hcz56_3
     try clear hcz57_0
     try clear hcz57_1
     try clear hcz57_2
     try clear hcz57_3
     try clear hcz60_0
     try clear hcz60_1
     try clear hcz60_2
     try clear hcz60_3
     try clear hcz61_0
     try clear hcz61_1
     try clear hcz61_2
     try clear hcz61_3
     try clear hcz64_0
     try clear hcz64_1
     try clear hcz64_2
     try clear hcz64_3
     try clear hcz65_0
     try clear hcz65_1
     try clear hcz65_2
     try clear hcz65_3
     try clear hcz9_0
     try clear hcz9_1
     try clear hcz9_2
     try clear hcz9_3
     try clear hfz12_0
     try clear hfz12_1
     try clear hfz12_2
     try clear hfz12_3
     try clear hfz16_0
     try clear hfz16_1
     try clear hfz16_2
     try clear hfz16_3
     try clear hfz19_0
     try clear hfz19_1
     try clear hfz19_2
     try clear hfz19_3
     try clear hfz21_0
     try clear hfz21_1
     try clear hfz21_2
     try clear hfz21_3
     try clear hfz24_0
     try clear hfz24_1
     try clear hfz24_2
     try clear hfz24_3
     try clear hfz26_0
     try clear hfz26_1
     try clear hfz26_2
     try clear hfz26_3
     try clear hfz29_0
     try clear hfz29_1
     try clear hfz29_2
     try clear hfz29_3
     try clear hfz30_0
     try clear hfz30_1
     try clear hfz30_2
     try clear hfz30_3
     try clear hfz33_0
     try clear hfz33_1
     try clear hfz33_2
     try clear hfz33_3
     try clear hfz34_0
     try clear hfz34_1
     try clear hfz34_2
     try clear hfz34_3
     try clear hfz37_0
     try clear hfz37_1
     try clear hfz37_2
     try clear hfz37_3
     try clear hfz3_0
     try clear hfz3_1
     try clear hfz3_2
     try clear hfz3_3
     try clear hfz43_0
     try clear hfz43_1
     try clear hfz43_2
     try clear hfz43_3
     try clear hfz46_0
     try clear hfz46_1
     try clear hfz46_2
     try clear hfz46_3
     try clear hfz48_0
     try clear hfz48_1
     try clear hfz48_2
     try clear hfz48_3
     try clear hfz51_0
     try clear hfz51_1
     try clear hfz51_2
     try clear hfz51_3
     try clear hfz53_0
     try clear hfz53_1
     try clear hfz53_2
     try clear hfz53_3
     try clear hfz56_0
     try clear hfz56_1
     try clear hfz56_2
     try clear hfz56_3
     try clear hfz57_0
     try clear hfz57_1
     try clear hfz57_2
     try clear hfz57_3
     try clear hfz60_0
     try clear hfz60_1
     try clear hfz60_2
     try clear hfz60_3
     try clear hfz61_0
     try clear hfz61_1
     try clear hfz61_2
     try clear hfz61_3
     try clear hfz64_0
     try clear hfz64_1
     try clear hfz64_2
     try clear hfz64_3
     try clear hfz65_0
     try clear hfz65_1
     try clear hfz65_2
     try clear hfz65_3
     try clear hfz9_0
     try clear hfz9_1
     try clear hfz9_2
     try clear hfz9_3
     try clear hx102_0
     try clear hx102_1
     try clear hx102_2
     try clear hx102_3
     try clear p102
     try clear p2
     try clear q102
     obtain ⟨x87_2, rfl, HA, HK2, BK101, HB⟩ := hrel
     cases gk with
     | zero => exact absurd HA.out (by simp [aumbryref07_Right.l1])
     | succ k2 =>
      have H := HA.out
      clear HA
      simp only [aumbryref07_Right.l1] at H
      by_cases c66 : x87_2 < (l0_1.length : Int)
      ·
       rw [if_pos c66] at H
       have c66b0 : decide (x87_2 < (l0_1.length : Int)) = true := zQ c66
       clear c66
       by_cases c67 : 0 ≤ x87_2
       ·
        rw [if_pos c67] at H
        have c67b0 : decide (0 ≤ x87_2) = true := zQ c67
        clear c67
        by_cases c68 : x87_2 < (l0_1.length : Int)
        ·
         rw [if_pos c68] at H
         have c68b0 : decide (x87_2 < (l0_1.length : Int)) = true := zQ c68
         clear c68
         replace H := zB H
         obtain ⟨t107, A690, H⟩ := H
         try dsimp only at H
         have A69 := zM A690
         clear A690
         by_cases c70 : t107 = true
         ·
          subst c70
          rw [if_pos rfl] at H
          have H' := zM H
          clear H
          have hcz71_0 : wr.cell? ⟨gb101, 0, none⟩ = some (.slice A0_0 l0_0.length c0_0) := (zX BK101.out 0).trans rfl
          have hcz71_1 : wr.cell? ⟨gb101, 1, none⟩ = some (.slice A0_1 l0_1.length c0_1) := (zX BK101.out 1).trans rfl
          have hcz71_2 : wr.cell? ⟨gb101, 2, none⟩ = some (.int .i64 a0_2) := (zX BK101.out 2).trans rfl
          have hcz71_3 : wr.cell? ⟨gb101, 3, none⟩ = some (.slice A0_3 l0_3.length c0_3) := (zX BK101.out 3).trans rfl
          have hfz71_0 := zY BK101.out 0
          have hfz71_1 := zY BK101.out 1
          have hfz71_2 := zY BK101.out 2
          have hfz71_3 := zY BK101.out 3
          have p106 : 0 ≤ (x87_2 : Int) := zT zv
          have q106 : x87_2 < (l0_1.length : Int) := zT zv
          obtain ⟨ad106, A106_0, c106_0, e106, hx106_0, hl106_0, hi106_0⟩ := at_L3 HR0_1.out x87_2 p106 q106
          cases e106
          replace hx106_0 := (HB.out.cell (World.block_lt_of_cell? w _ hx106_0)).trans hx106_0
          have HR106_0 := zM hi106_0
          have HC106_0 := zM hl106_0
          clear hi106_0 hl106_0
          replace p106 := eq_true p106
          replace q106 := eq_true q106
          go_wp2_with (first | (go_at_call 23; (with_reducible refine (aumbryref07_Ground.calls k2 _ _ (rd_L3 l0_1 x87_2) true _ ?side1 ?side2 A69.out).mono ?_); (case side1 => exact Kd.C_below HR106_0.out zb); (case side2 => exact HC106_0.out); rintro e w72 ⟨rfl, hb⟩; replace BK101 := zM (blk_below (zk BK101.out) hb); replace HB := zM (below_step zb hb); (try clear hb)))
          repeat (go_quiet (first | (go_at_call 23; (with_reducible refine (aumbryref07_Ground.calls k2 _ _ (rd_L3 l0_1 x87_2) true _ ?side1 ?side2 A69.out).mono ?_); (case side1 => exact Kd.C_below HR106_0.out zb); (case side2 => exact HC106_0.out); rintro e w72 ⟨rfl, hb⟩; replace BK101 := zM (blk_below (zk BK101.out) hb); replace HB := zM (below_step zb hb); (try clear hb))); try go_wp2_with (first | (go_at_call 23; (with_reducible refine (aumbryref07_Ground.calls k2 _ _ (rd_L3 l0_1 x87_2) true _ ?side1 ?side2 A69.out).mono ?_); (case side1 => exact Kd.C_below HR106_0.out zb); (case side2 => exact HC106_0.out); rintro e w72 ⟨rfl, hb⟩; replace BK101 := zM (blk_below (zk BK101.out) hb); replace HB := zM (below_step zb hb); (try clear hb))))
          go_roundg k2
          case measure => have := HK1.out; have := HK2.out; omega
          case rel => exact ⟨(wrap64 (x87_2 + 1)), zy, H', ⟨by have := HK1.out; have := HK2.out; omega⟩, ⟨by refine zk ?_; exact BK101.out⟩, ⟨zb⟩⟩
         ·
          replace c70 := zI c70
          subst c70
          rw [if_neg (show ¬ (false = true) by decide)] at H
          obtain rfl := zS H
          have hcz73_0 : wr.cell? ⟨gb101, 0, none⟩ = some (.slice A0_0 l0_0.length c0_0) := (zX BK101.out 0).trans rfl
          have hcz73_1 : wr.cell? ⟨gb101, 1, none⟩ = some (.slice A0_1 l0_1.length c0_1) := (zX BK101.out 1).trans rfl
          have hcz73_2 : wr.cell? ⟨gb101, 2, none⟩ = some (.int .i64 a0_2) := (zX BK101.out 2).trans rfl
          have hcz73_3 : wr.cell? ⟨gb101, 3, none⟩ = some (.slice A0_3 l0_3.length c0_3) := (zX BK101.out 3).trans rfl
          have hfz73_0 := zY BK101.out 0
          have hfz73_1 := zY BK101.out 1
          have hfz73_2 := zY BK101.out 2
          have hfz73_3 := zY BK101.out 3
          have p106 : 0 ≤ (x87_2 : Int) := zT zv
          have q106 : x87_2 < (l0_1.length : Int) := zT zv
          obtain ⟨ad106, A106_0, c106_0, e106, hx106_0, hl106_0, hi106_0⟩ := at_L3 HR0_1.out x87_2 p106 q106
          cases e106
          replace hx106_0 := (HB.out.cell (World.block_lt_of_cell? w _ hx106_0)).trans hx106_0
          have HR106_0 := zM hi106_0
          have HC106_0 := zM hl106_0
          clear hi106_0 hl106_0
          replace p106 := eq_true p106
          replace q106 := eq_true q106
          go_wp2_with (first | (go_at_call 23; (with_reducible refine (aumbryref07_Ground.calls k2 _ _ (rd_L3 l0_1 x87_2) false _ ?side1 ?side2 A69.out).mono ?_); (case side1 => exact Kd.C_below HR106_0.out zb); (case side2 => exact HC106_0.out); rintro e w74 ⟨rfl, hb⟩; replace BK101 := zM (blk_below (zk BK101.out) hb); replace HB := zM (below_step zb hb); (try clear hb)))
          repeat (go_quiet (first | (go_at_call 23; (with_reducible refine (aumbryref07_Ground.calls k2 _ _ (rd_L3 l0_1 x87_2) false _ ?side1 ?side2 A69.out).mono ?_); (case side1 => exact Kd.C_below HR106_0.out zb); (case side2 => exact HC106_0.out); rintro e w74 ⟨rfl, hb⟩; replace BK101 := zM (blk_below (zk BK101.out) hb); replace HB := zM (below_step zb hb); (try clear hb))); try go_wp2_with (first | (go_at_call 23; (with_reducible refine (aumbryref07_Ground.calls k2 _ _ (rd_L3 l0_1 x87_2) false _ ?side1 ?side2 A69.out).mono ?_); (case side1 => exact Kd.C_below HR106_0.out zb); (case side2 => exact HC106_0.out); rintro e w74 ⟨rfl, hb⟩; replace BK101 := zM (blk_below (zk BK101.out) hb); replace HB := zM (below_step zb hb); (try clear hb))))
          go_ret
          exact ⟨zw, zb⟩
        ·
         rw [if_neg c68] at H
         exact absurd H (by simp)
       ·
        rw [if_neg c67] at H
        exact absurd H (by simp)
      ·
       rw [if_neg c66] at H
       have c66b0 : decide (x87_2 < (l0_1.length : Int)) = false := zR c66
       clear c66
       have H' := zM H
       clear H
       have hcz75_0 : wr.cell? ⟨gb101, 0, none⟩ = some (.slice A0_0 l0_0.length c0_0) := (zX BK101.out 0).trans rfl
       have hcz75_1 : wr.cell? ⟨gb101, 1, none⟩ = some (.slice A0_1 l0_1.length c0_1) := (zX BK101.out 1).trans rfl
       have hcz75_2 : wr.cell? ⟨gb101, 2, none⟩ = some (.int .i64 a0_2) := (zX BK101.out 2).trans rfl
       have hcz75_3 : wr.cell? ⟨gb101, 3, none⟩ = some (.slice A0_3 l0_3.length c0_3) := (zX BK101.out 3).trans rfl
       have hfz75_0 := zY BK101.out 0
       have hfz75_1 := zY BK101.out 1
       have hfz75_2 := zY BK101.out 2
       have hfz75_3 := zY BK101.out 3
       go_wp2
       repeat (go_quiet (fail); try go_wp2)
       go_loopg [101] k2 (fun kq v101 w' => ∃ (x101_3 : Int), v101 = .int .i64 x101_3 ∧ Aside0 (aumbryref07_Right.l2 kq x3_1 (l0_3.length : Int) x101_3 l0_0 l0_1 a0_2 l0_3 = some r) ∧ Aside0 (kq ≤ k2) ∧ Aside0 (w'.heap[gb101]? = some (.cells #[(.slice A0_0 l0_0.length c0_0), (.slice A0_1 l0_1.length c0_1), .int .i64 a0_2, (.slice A0_3 l0_3.length c0_3)] 28 (0, 0))) ∧ Aside0 (Below w.heap.size w w'))
       case atStart => exact ⟨(0), zy, H', ⟨Nat.le_refl _⟩, ⟨by refine zk ?_; exact BK101.out⟩, ⟨zb⟩⟩
       case round =>
        clear H'
        try clear c1
        try clear p1
        try clear q1
        try clear hx1
        try clear c2
        try clear p2
        try clear c3
        try clear c4
        try clear c4b0
        try clear c5
        try clear c5b0
        try clear c6
        try clear c6b0
        try clear p6
        try clear c7
        try clear c7b0
        try clear c7b1
        try clear c8
        try clear c8b0
        try clear c8b1
        try clear c10
        try clear p10
        try clear q10
        try clear hx10
        try clear c11
        try clear c14
        try clear c14b0
        try clear c14b1
        try clear c15
        try clear c15b0
        try clear c18
        try clear c20
        try clear c20b0
        try clear c23
        try clear c25
        try clear c25b0
        try clear c28
        try clear c32
        try clear c36
        try clear c38
        try clear c38b0
        try clear c38b1
        try clear c39
        try clear c39b0
        try clear c39b1
        try clear c40
        try clear c40b0
        try clear c40b1
        try clear c42
        try clear c45
        try clear c50
        try clear c55
        try clear c59
        try clear c63
        try clear p64
        try clear c66
        try clear c66b0
        try clear c67
        try clear c67b0
        try clear c68
        try clear c68b0
        try clear c70
        try clear hcz12_0
        try clear hcz12_1
        try clear hcz12_2
        try clear hcz12_3
        try clear hcz16_0
        try clear hcz16_1
        try clear hcz16_2
        try clear hcz16_3
        try clear hcz19_0
        try clear hcz19_1
        try clear hcz19_2
        try clear hcz19_3
        try clear hcz21_0
        try clear hcz21_1
        try clear hcz21_2
        try clear hcz21_3
        try clear hcz24_0
        try clear hcz24_1
        try clear hcz24_2
        try clear hcz24_3
        try clear hcz26_0
        try clear hcz26_1
        try clear hcz26_2
        try clear hcz26_3
        try clear hcz29_0
        try clear hcz29_1
        try clear hcz29_2
        try clear hcz29_3
        try clear hcz30_0
        try clear hcz30_1
        try clear hcz30_2
        try clear hcz30_3
        try clear hcz33_0
        try clear hcz33_1
        try clear hcz33_2
        try clear hcz33_3
        try clear hcz34_0
        try clear hcz34_1
        try clear hcz34_2
        try clear hcz34_3
        try clear hcz37_0
        try clear hcz37_1
        try clear hcz37_2
        try clear hcz37_3
        try clear hcz3_0
        try clear hcz3_1
        try clear hcz3_2
        try clear hcz3_3
        try clear hcz43_0
        try clear hcz43_1
        try clear hcz43_2
        try clear hcz43_3
        try clear hcz46_0
        try clear hcz46_1
        try clear hcz46_2
        try clear hcz46_3
        try clear hcz48_0
        try clear hcz48_1
        try clear hcz48_2
        try clear hcz48_3
        try clear hcz51_0
        try clear hcz51_1
        try clear hcz51_2
        try clear hcz51_3
        try clear hcz53_0
        try clear hcz53_1
        try clear hcz53_2
        try clear hcz53_3
        try clear hcz56_0
        try clear hcz56_1
        try clear hcz56_2
        try clear hcz56_3
        try clear hcz57_0
        try clear hcz57_1
        try clear hcz57_2
        try clear hcz57_3
        try clear hcz60_0
        try clear hcz60_1
        try clear hcz60_2
        try clear hcz60_3
        try clear hcz61_0
        try clear hcz61_1
        try clear hcz61_2
        try clear hcz61_3
        try clear hcz64_0
        try clear hcz64_1
        try clear hcz64_2
        try clear hcz64_3
        try clear hcz65_0
        try clear hcz65_1
        try clear hcz65_2
        try clear hcz65_3
        try clear hcz71_0
        try clear hcz71_1
        try clear hcz71_2
        try clear hcz71_3
        try clear hcz73_0
        try clear hcz73_1
        try clear hcz73_2
        try clear hcz73_3
        try clear hcz75_0
        try clear hcz75_1
        try clear hcz75_2
        try clear hcz75_3
        try clear hcz9_0
        try clear hcz9_1
        try clear hcz9_2
        try clear hcz9_3
        try clear hfz12_0
        try clear hfz12_1
        try clear hfz12_2
        try clear hfz12_3
        try clear hfz16_0
        try clear hfz16_1
        try clear hfz16_2
        try clear hfz16_3
        try clear hfz19_0
        try clear hfz19_1
        try clear hfz19_2
        try clear hfz19_3
        try clear hfz21_0
        try clear hfz21_1
        try clear hfz21_2
        try clear hfz21_3
        try clear hfz24_0
        try clear hfz24_1
        try clear hfz24_2
        try clear hfz24_3
        try clear hfz26_0
        try clear hfz26_1
        try clear hfz26_2
        try clear hfz26_3
        try clear hfz29_0
        try clear hfz29_1
        try clear hfz29_2
        try clear hfz29_3
        try clear hfz30_0
        try clear hfz30_1
        try clear hfz30_2
        try clear hfz30_3
        try clear hfz33_0
        try clear hfz33_1
        try clear hfz33_2
        try clear hfz33_3
        try clear hfz34_0
        try clear hfz34_1
        try clear hfz34_2
        try clear hfz34_3
        try clear hfz37_0
        try clear hfz37_1
        try clear hfz37_2
        try clear hfz37_3
        try clear hfz3_0
        try clear hfz3_1
        try clear hfz3_2
        try clear hfz3_3
        try clear hfz43_0
        try clear hfz43_1
        try clear hfz43_2
        try clear hfz43_3
        try clear hfz46_0
        try clear hfz46_1
        try clear hfz46_2
        try clear hfz46_3
        try clear hfz48_0
        try clear hfz48_1
        try clear hfz48_2
        try clear hfz48_3
        try clear hfz51_0
        try clear hfz51_1
        try clear hfz51_2
        try clear hfz51_3
        try clear hfz53_0
        try clear hfz53_1
        try clear hfz53_2
        try clear hfz53_3
        try clear hfz56_0
        try clear hfz56_1
        try clear hfz56_2
        try clear hfz56_3
        try clear hfz57_0
        try clear hfz57_1
        try clear hfz57_2
        try clear hfz57_3
        try clear hfz60_0
        try clear hfz60_1
        try clear hfz60_2
        try clear hfz60_3
        try clear hfz61_0
        try clear hfz61_1
        try clear hfz61_2
        try clear hfz61_3
        try clear hfz64_0
        try clear hfz64_1
        try clear hfz64_2
        try clear hfz64_3
        try clear hfz65_0
        try clear hfz65_1
        try clear hfz65_2
        try clear hfz65_3
        try clear hfz71_0
        try clear hfz71_1
        try clear hfz71_2
        try clear hfz71_3
        try clear hfz73_0
        try clear hfz73_1
        try clear hfz73_2
        try clear hfz73_3
        try clear hfz75_0
        try clear hfz75_1
        try clear hfz75_2
        try clear hfz75_3
        try clear hfz9_0
        try clear hfz9_1
        try clear hfz9_2
        try clear hfz9_3
        try clear hx102_0
        try clear hx102_1
        try clear hx102_2
        try clear hx102_3
        try clear hx106_0
        try clear p1
        try clear p10
        try clear p102
        try clear p106
        try clear p2
        try clear p6
        try clear p64
        try clear q1
        try clear q10
        try clear q102
        try clear q106
        obtain ⟨x101_3, rfl, HA, HK3, BK101, HB⟩ := hrel
        cases gk with
        | zero => exact absurd HA.out (by simp [aumbryref07_Right.l2])
        | succ k3 =>
         have H := HA.out
         clear HA
         simp only [aumbryref07_Right.l2] at H
         by_cases c76 : x101_3 < (l0_3.length : Int)
         ·
          rw [if_pos c76] at H
          have c76b0 : decide (x101_3 < (l0_3.length : Int)) = true := zQ c76
          clear c76
          by_cases c77 : 0 ≤ x101_3
          ·
           rw [if_pos c77] at H
           have c77b0 : decide (0 ≤ x101_3) = true := zQ c77
           clear c77
           by_cases c78 : x101_3 < (l0_3.length : Int)
           ·
            rw [if_pos c78] at H
            have c78b0 : decide (x101_3 < (l0_3.length : Int)) = true := zQ c78
            clear c78
            replace H := zB H
            obtain ⟨t109, A790, H⟩ := H
            try dsimp only at H
            have A79 := zM A790
            clear A790
            by_cases c80 : t109 = 1
            ·
             rw [if_pos c80] at H
             have c80b0 : (t109 == 1) = true := zG c80
             have c80b1 : (t109 != 1) = false := zH c80
             clear c80
             by_cases c81 : x101_3 > 0
             ·
              rw [if_pos c81] at H
              have c81b0 : decide (0 < x101_3) = true := zQ c81
              clear c81
              obtain ⟨ji82, hji82⟩ : ∃ j_ : Int, (wrap64 (x101_3 - 1)) = j_ := ⟨_, rfl⟩
              replace H : (if 0 ≤ (ji82) then (if (ji82) < (l0_3.length : Int) then (if ((Op.bytesLess ((rdOf ByteArray.empty l0_3 (ji82)).toList) ((rdOf ByteArray.empty l0_3 x101_3).toList)) = true) then (aumbryref07_Right.l2 k3 x3_1 (l0_3.length : Int) (wrap64 (x101_3 + 1)) l0_0 l0_1 a0_2 l0_3) else (some false)) else (none)) else (none)) = some r := by first | (rw [hji82] at H; exact H) | (simp only [hji82] at H ⊢; exact H)
              (try rw [hji82] at A79)
              have hji82w : (IntKind.i64.wrap (x101_3 - 1)) = ji82 := (i64_w _).trans hji82
              by_cases c83 : 0 ≤ (ji82)
              ·
               rw [if_pos c83] at H
               have c83b0 : decide (0 ≤ (ji82)) = true := zQ c83
               clear c83
               by_cases c84 : (ji82) < (l0_3.length : Int)
               ·
                rw [if_pos c84] at H
                have c84b0 : decide ((ji82) < (l0_3.length : Int)) = true := zQ c84
                clear c84
                by_cases c85 : ((Op.bytesLess ((rdOf ByteArray.empty l0_3 (ji82)).toList) ((rdOf ByteArray.empty l0_3 x101_3).toList)) = true)
                ·
                 rw [if_pos c85] at H
                 have c85b0 : (Op.bytesLess ((rdOf ByteArray.empty l0_3 (ji82)).toList) ((rdOf ByteArray.empty l0_3 x101_3).toList)) = true := c85
                 have c85bg : ∀ W : World, Sem.run Try.prog (binOp BinOp.geq 9 (.string (rdOf ByteArray.empty l0_3 (ji82))) (.string (rdOf ByteArray.empty l0_3 x101_3))) W = Result.ok (Value.bool false) W := run_geS_f c85b0
                 clear c85
                 have H' := zM H
                 clear H
                 have hcz86_0 : wr.cell? ⟨gb101, 0, none⟩ = some (.slice A0_0 l0_0.length c0_0) := (zX BK101.out 0).trans rfl
                 have hcz86_1 : wr.cell? ⟨gb101, 1, none⟩ = some (.slice A0_1 l0_1.length c0_1) := (zX BK101.out 1).trans rfl
                 have hcz86_2 : wr.cell? ⟨gb101, 2, none⟩ = some (.int .i64 a0_2) := (zX BK101.out 2).trans rfl
                 have hcz86_3 : wr.cell? ⟨gb101, 3, none⟩ = some (.slice A0_3 l0_3.length c0_3) := (zX BK101.out 3).trans rfl
                 have hfz86_0 := zY BK101.out 0
                 have hfz86_1 := zY BK101.out 1
                 have hfz86_2 := zY BK101.out 2
                 have hfz86_3 := zY BK101.out 3
                 have p108 : 0 ≤ (x101_3 : Int) := zT zv
                 have q108 : x101_3 < (l0_3.length : Int) := zT zv
                 obtain ⟨ad108, e108, hx108_0⟩ := Kd.at_string HR0_3.out x101_3 p108 q108
                 cases e108
                 replace hx108_0 := (HB.out.cell (World.block_lt_of_cell? w _ hx108_0)).trans hx108_0
                 replace p108 := eq_true p108
                 replace q108 := eq_true q108
                 go_wp2
                 repeat (go_quiet (first | (go_at_call 45; (with_reducible refine (aumbryref03_Kind.calls k3 (rdOf ByteArray.empty l0_3 x101_3) t109 _ A79.out).mono ?_); rintro e w' ⟨rfl, ⟨nd, rfl⟩⟩; (try first | exact ⟨rfl, _, World.drewN_drewN _ _ _⟩ | exact ⟨rfl, _, Eq.trans (World.drewN_drewN _ _ _) (congrArg (World.drewN _) (Nat.add_assoc _ _ _))⟩); have p110 : 0 ≤ ((ji82) : Int) := zT zv; have q110 : (ji82) < (l0_3.length : Int) := zT zv; obtain ⟨ad110, e110, hx110_0⟩ := Kd.at_string HR0_3.out (ji82) p110 q110; obtain rfl : ad108 = ad110 := (by injection e110); replace hx110_0 := (HB.out.cell (World.block_lt_of_cell? w _ hx110_0)).trans hx110_0; replace p110 := eq_true p110; replace q110 := eq_true q110; have p111 : 0 ≤ (x101_3 : Int) := zT zv; have q111 : x101_3 < (l0_3.length : Int) := zT zv; obtain ⟨ad111, e111, hx111_0⟩ := Kd.at_string HR0_3.out x101_3 p111 q111; obtain rfl : ad108 = ad111 := (by injection e111); replace hx111_0 := (HB.out.cell (World.block_lt_of_cell? w _ hx111_0)).trans hx111_0; replace p111 := eq_true p111; replace q111 := eq_true q111)); try go_wp2)
                 go_roundg k3
                 case measure => have := HK1.out; have := HK2.out; have := HK3.out; omega
                 case rel => exact ⟨(wrap64 (x101_3 + 1)), zy, H', ⟨by have := HK1.out; have := HK2.out; have := HK3.out; omega⟩, ⟨by refine zk ?_; exact BK101.out⟩, ⟨zb⟩⟩
                ·
                 rw [if_neg c85] at H
                 have c85b0 : (Op.bytesLess ((rdOf ByteArray.empty l0_3 (ji82)).toList) ((rdOf ByteArray.empty l0_3 x101_3).toList)) = false := by simpa using c85
                 have c85bg : ∀ W : World, Sem.run Try.prog (binOp BinOp.geq 9 (.string (rdOf ByteArray.empty l0_3 (ji82))) (.string (rdOf ByteArray.empty l0_3 x101_3))) W = Result.ok (Value.bool true) W := run_geS_t c85b0
                 clear c85
                 obtain rfl := zS H
                 have hcz87_0 : wr.cell? ⟨gb101, 0, none⟩ = some (.slice A0_0 l0_0.length c0_0) := (zX BK101.out 0).trans rfl
                 have hcz87_1 : wr.cell? ⟨gb101, 1, none⟩ = some (.slice A0_1 l0_1.length c0_1) := (zX BK101.out 1).trans rfl
                 have hcz87_2 : wr.cell? ⟨gb101, 2, none⟩ = some (.int .i64 a0_2) := (zX BK101.out 2).trans rfl
                 have hcz87_3 : wr.cell? ⟨gb101, 3, none⟩ = some (.slice A0_3 l0_3.length c0_3) := (zX BK101.out 3).trans rfl
                 have hfz87_0 := zY BK101.out 0
                 have hfz87_1 := zY BK101.out 1
                 have hfz87_2 := zY BK101.out 2
                 have hfz87_3 := zY BK101.out 3
                 have p108 : 0 ≤ (x101_3 : Int) := zT zv
                 have q108 : x101_3 < (l0_3.length : Int) := zT zv
                 obtain ⟨ad108, e108, hx108_0⟩ := Kd.at_string HR0_3.out x101_3 p108 q108
                 cases e108
                 replace hx108_0 := (HB.out.cell (World.block_lt_of_cell? w _ hx108_0)).trans hx108_0
                 replace p108 := eq_true p108
                 replace q108 := eq_true q108
                 go_wp2
                 repeat (go_quiet (first | (go_at_call 45; (with_reducible refine (aumbryref03_Kind.calls k3 (rdOf ByteArray.empty l0_3 x101_3) t109 _ A79.out).mono ?_); rintro e w' ⟨rfl, ⟨nd, rfl⟩⟩; (try first | exact ⟨rfl, _, World.drewN_drewN _ _ _⟩ | exact ⟨rfl, _, Eq.trans (World.drewN_drewN _ _ _) (congrArg (World.drewN _) (Nat.add_assoc _ _ _))⟩); have p110 : 0 ≤ ((ji82) : Int) := zT zv; have q110 : (ji82) < (l0_3.length : Int) := zT zv; obtain ⟨ad110, e110, hx110_0⟩ := Kd.at_string HR0_3.out (ji82) p110 q110; obtain rfl : ad108 = ad110 := (by injection e110); replace hx110_0 := (HB.out.cell (World.block_lt_of_cell? w _ hx110_0)).trans hx110_0; replace p110 := eq_true p110; replace q110 := eq_true q110; have p111 : 0 ≤ (x101_3 : Int) := zT zv; have q111 : x101_3 < (l0_3.length : Int) := zT zv; obtain ⟨ad111, e111, hx111_0⟩ := Kd.at_string HR0_3.out x101_3 p111 q111; obtain rfl : ad108 = ad111 := (by injection e111); replace hx111_0 := (HB.out.cell (World.block_lt_of_cell? w _ hx111_0)).trans hx111_0; replace p111 := eq_true p111; replace q111 := eq_true q111)); try go_wp2)
                 go_ret
                 exact ⟨by first | rfl | (simp [errW_none, errW_some] <;> rfl) | (simp only [← hji82]; first | rfl | (simp [errW_none, errW_some] <;> rfl)) | (simp [*, errW_none, errW_some] <;> rfl), zb⟩
               ·
                rw [if_neg c84] at H
                exact absurd H (by simp)
              ·
               rw [if_neg c83] at H
               exact absurd H (by simp)
             ·
              rw [if_neg c81] at H
              have c81b0 : decide (0 < x101_3) = false := zR c81
              clear c81
              have H' := zM H
              clear H
              have hcz88_0 : wr.cell? ⟨gb101, 0, none⟩ = some (.slice A0_0 l0_0.length c0_0) := (zX BK101.out 0).trans rfl
              have hcz88_1 : wr.cell? ⟨gb101, 1, none⟩ = some (.slice A0_1 l0_1.length c0_1) := (zX BK101.out 1).trans rfl
              have hcz88_2 : wr.cell? ⟨gb101, 2, none⟩ = some (.int .i64 a0_2) := (zX BK101.out 2).trans rfl
              have hcz88_3 : wr.cell? ⟨gb101, 3, none⟩ = some (.slice A0_3 l0_3.length c0_3) := (zX BK101.out 3).trans rfl
              have hfz88_0 := zY BK101.out 0
              have hfz88_1 := zY BK101.out 1
              have hfz88_2 := zY BK101.out 2
              have hfz88_3 := zY BK101.out 3
              have p108 : 0 ≤ (x101_3 : Int) := zT zv
              have q108 : x101_3 < (l0_3.length : Int) := zT zv
              obtain ⟨ad108, e108, hx108_0⟩ := Kd.at_string HR0_3.out x101_3 p108 q108
              cases e108
              replace hx108_0 := (HB.out.cell (World.block_lt_of_cell? w _ hx108_0)).trans hx108_0
              replace p108 := eq_true p108
              replace q108 := eq_true q108
              go_wp2
              repeat (go_quiet (first | (go_at_call 45; (with_reducible refine (aumbryref03_Kind.calls k3 (rdOf ByteArray.empty l0_3 x101_3) t109 _ A79.out).mono ?_); rintro e w' ⟨rfl, ⟨nd, rfl⟩⟩; (try first | exact ⟨rfl, _, World.drewN_drewN _ _ _⟩ | exact ⟨rfl, _, Eq.trans (World.drewN_drewN _ _ _) (congrArg (World.drewN _) (Nat.add_assoc _ _ _))⟩))); try go_wp2)
              go_roundg k3
              case measure => have := HK1.out; have := HK2.out; have := HK3.out; omega
              case rel => exact ⟨(wrap64 (x101_3 + 1)), zy, H', ⟨by have := HK1.out; have := HK2.out; have := HK3.out; omega⟩, ⟨by refine zk ?_; exact BK101.out⟩, ⟨zb⟩⟩
            ·
             rw [if_neg c80] at H
             have c80b0 : (t109 == 1) = false := zE c80
             have c80b1 : (t109 != 1) = true := zF c80
             obtain rfl := zS H
             have hcz89_0 : wr.cell? ⟨gb101, 0, none⟩ = some (.slice A0_0 l0_0.length c0_0) := (zX BK101.out 0).trans rfl
             have hcz89_1 : wr.cell? ⟨gb101, 1, none⟩ = some (.slice A0_1 l0_1.length c0_1) := (zX BK101.out 1).trans rfl
             have hcz89_2 : wr.cell? ⟨gb101, 2, none⟩ = some (.int .i64 a0_2) := (zX BK101.out 2).trans rfl
             have hcz89_3 : wr.cell? ⟨gb101, 3, none⟩ = some (.slice A0_3 l0_3.length c0_3) := (zX BK101.out 3).trans rfl
             have hfz89_0 := zY BK101.out 0
             have hfz89_1 := zY BK101.out 1
             have hfz89_2 := zY BK101.out 2
             have hfz89_3 := zY BK101.out 3
             have p108 : 0 ≤ (x101_3 : Int) := zT zv
             have q108 : x101_3 < (l0_3.length : Int) := zT zv
             obtain ⟨ad108, e108, hx108_0⟩ := Kd.at_string HR0_3.out x101_3 p108 q108
             cases e108
             replace hx108_0 := (HB.out.cell (World.block_lt_of_cell? w _ hx108_0)).trans hx108_0
             replace p108 := eq_true p108
             replace q108 := eq_true q108
             go_wp2
             repeat (go_quiet (first | (go_at_call 45; (with_reducible refine (aumbryref03_Kind.calls k3 (rdOf ByteArray.empty l0_3 x101_3) t109 _ A79.out).mono ?_); rintro e w' ⟨rfl, ⟨nd, rfl⟩⟩; (try first | exact ⟨rfl, _, World.drewN_drewN _ _ _⟩ | exact ⟨rfl, _, Eq.trans (World.drewN_drewN _ _ _) (congrArg (World.drewN _) (Nat.add_assoc _ _ _))⟩))); try go_wp2)
             go_ret
             exact ⟨zw, zb⟩
           ·
            rw [if_neg c78] at H
            exact absurd H (by simp)
          ·
           rw [if_neg c77] at H
           exact absurd H (by simp)
         ·
          rw [if_neg c76] at H
          have c76b0 : decide (x101_3 < (l0_3.length : Int)) = false := zR c76
          clear c76
          by_cases c90 : x3_1 = 1
          ·
           rw [if_pos c90] at H
           have c90b0 : (x3_1 == 1) = true := zG c90
           have c90b1 : (x3_1 != 1) = false := zH c90
           clear c90
           obtain rfl := zS H
           have hcz91_0 : wr.cell? ⟨gb101, 0, none⟩ = some (.slice A0_0 l0_0.length c0_0) := (zX BK101.out 0).trans rfl
           have hcz91_1 : wr.cell? ⟨gb101, 1, none⟩ = some (.slice A0_1 l0_1.length c0_1) := (zX BK101.out 1).trans rfl
           have hcz91_2 : wr.cell? ⟨gb101, 2, none⟩ = some (.int .i64 a0_2) := (zX BK101.out 2).trans rfl
           have hcz91_3 : wr.cell? ⟨gb101, 3, none⟩ = some (.slice A0_3 l0_3.length c0_3) := (zX BK101.out 3).trans rfl
           have hfz91_0 := zY BK101.out 0
           have hfz91_1 := zY BK101.out 1
           have hfz91_2 := zY BK101.out 2
           have hfz91_3 := zY BK101.out 3
           go_wp2
           repeat (go_quiet (fail); try go_wp2)
           go_ret
           exact ⟨zw, zb⟩
          ·
           rw [if_neg c90] at H
           have c90b0 : (x3_1 == 1) = false := zE c90
           have c90b1 : (x3_1 != 1) = true := zF c90
           obtain rfl := zS H
           go_wp2
           repeat (go_quiet (fail); try go_wp2)
           go_ret
           exact ⟨zw, zb⟩


-- ==== PF3

/-! ### aumbrylaw07_RewriteStarts: function 3 -/
def aumbrylaw07_RewriteStarts.j0 : Nat → Bool → List (S70) → List (List (S54)) → Int → List ByteArray → Option (Bool)
 | 0, _, _, _, _, _ => none
 | k + 1, x30, x102000, x102001, x102002, x102003 => if x30 = true then (some false) else ((aumbryref07_Copy.f k x102000 x102001 x102002 x102003).bind fun bt131 => ((rewrite_Check.f k bt131.1 bt131.2.1 bt131.2.2.1 bt131.2.2.2).bind fun t141 => ((aumbryref07_Right.f k x102000 x102001 x102002 x102003).bind fun t142 => (if ((t141 == 0) == t142) = true then ((aumbryref07_Right.f k x102000 x102001 x102002 x102003).bind fun t143 => (if t143 = true then (some true) else ((aumbryref07_Copy.f k x102000 x102001 x102002 x102003).bind fun bt144 => ((rewrite_Check.f k bt144.1 bt144.2.1 bt144.2.2.1 bt144.2.2.2).bind fun t154 => (some (t154 == 3)))))) else (some false)))))
def aumbrylaw07_RewriteStarts.f (k : Nat) (l0 : List (S54)) (l1_0 : List (S70)) (l1_1 : List (List (S54))) (a1_2 : Int) (l1_3 : List ByteArray) : Option (Bool) := (aumbrylaw07_wakes.f k).bind fun t102 => (if t102 = true then ((aumbryref04_Copy.f l0).bind fun t103 => ((rewrite_Start.f k t103).bind fun bt106 => ((aumbryref07_Start.f k l0).bind fun bt118 => ((aumbryref07_Same.f k bt106.1 bt106.2.1 bt106.2.2.1 bt106.2.2.2.1 bt118.1 bt118.2.1 bt118.2.2.1 bt118.2.2.2.1).bind fun t130 => (if t130 = true then (aumbrylaw07_RewriteStarts.j0 k (bt106.2.2.2.2 != bt118.2.2.2.2) l1_0 l1_1 a1_2 l1_3) else (aumbrylaw07_RewriteStarts.j0 k true l1_0 l1_1 a1_2 l1_3)))))) else (some false))
theorem aumbrylaw07_RewriteStarts.j0_true : ∀ k y1 y2 y3 y4 r, aumbrylaw07_RewriteStarts.j0 k true y1 y2 y3 y4 = some r → r = false := by
 intro k y1 y2 y3 y4 r h
 cases k with
 | zero => simp [aumbrylaw07_RewriteStarts.j0] at h
 | succ k => simp only [aumbrylaw07_RewriteStarts.j0, if_true] at h; exact (zS h).symm
def aumbrylaw07_RewriteStarts.T7 : Bool × List (List Nat × List Nat) := (true, [([], []), ([0], [0]), ([1, 1], [1]), ([2], [2]), ([], []), ([4, 2], [4]), ([3, 5], [3, 5]), ([6, 5], [6]), ([7], [7]), ([8, 7, 7], [7, 8]), ([9, 9, 7], [7, 9]), ([10], [10]), ([11, 10, 10], [10, 11]), ([12, 12, 10], [10, 12]), ([13, 10], [10, 13]), ([10, 14, 7], [7, 10, 14]), ([7, 15], [7, 15]), ([16, 13, 0, 1, 2, 3, 4, 5, 6, 7, 8, 9, 10, 11, 12, 13, 14, 15, 16], [16])])
def aumbrylaw07_RewriteStarts.B7 : List Nat := [0, 1, 3, 7, 0, 23, 63, 127, 255, 511, 1023, 2047, 4095, 8191, 16383, 32767, 65535, 131071]
theorem aumbrylaw07_RewriteStarts.tab7 : rtab .any (opsOf Try.f3 7) = aumbrylaw07_RewriteStarts.T7 := by kernel_rfl
theorem aumbrylaw07_RewriteStarts.bits7 : waitsOk aumbrylaw07_RewriteStarts.T7.2 aumbrylaw07_RewriteStarts.B7 = true := by kernel_rfl
theorem aumbrylaw07_RewriteStarts.calls (k : Nat) (A0 : Option Addr) (c0 : Nat) (l0 : List (S54)) (A1_0 : Option Addr) (c1_0 : Nat) (l1_0 : List (S70)) (A1_1 : Option Addr) (c1_1 : Nat) (l1_1 : List (List (S54))) (a1_2 : Int) (A1_3 : Option Addr) (c1_3 : Nat) (l1_3 : List ByteArray) (r : Bool) (w : World) (hr0 : Kd.C k54 w A0 l0.length l0) (hc0 : l0.length ≤ c0) (hr1_0 : Kd.C k70 w A1_0 l1_0.length l1_0) (hc1_0 : l1_0.length ≤ c1_0) (hr1_1 : Kd.C (Kd.slice 54 k54) w A1_1 l1_1.length l1_1) (hc1_1 : l1_1.length ≤ c1_1) (hr1_3 : Kd.C Kd.string w A1_3 l1_3.length l1_3) (hc1_3 : l1_3.length ≤ c1_3) (h : aumbrylaw07_RewriteStarts.f k l0 l1_0 l1_1 a1_2 l1_3 = some r) (hr : r = true) :
 Calls Try.prog 3 #[.slice A0 l0.length c0, .agg #[.slice A1_0 l1_0.length c1_0, .slice A1_1 l1_1.length c1_1, .int .i64 a1_2, .slice A1_3 l1_3.length c1_3]] w fun e w' => e = .returned (.bool r) ∧ Below w.heap.size w w' := by
 have HRT := zM hr
 clear hr
 have hu28 := Try.underlying28
 have HR0 := zM hr0
 have HC0 := zM hc0
 clear hr0 hc0
 have HR1_0 := zM hr1_0
 have HC1_0 := zM hc1_0
 clear hr1_0 hc1_0
 have HR1_1 := zM hr1_1
 have HC1_1 := zM hc1_1
 clear hr1_1 hc1_1
 have HR1_3 := zM hr1_3
 have HC1_3 := zM hc1_3
 clear hr1_3 hc1_3
 have HB := zM (Below.refl w.heap.size w)
 have H : ((aumbrylaw07_wakes.f k).bind fun t102 => (if t102 = true then ((aumbryref04_Copy.f l0).bind fun t103 => ((rewrite_Start.f k t103).bind fun bt106 => ((aumbryref07_Start.f k l0).bind fun bt118 => ((aumbryref07_Same.f k bt106.1 bt106.2.1 bt106.2.2.1 bt106.2.2.2.1 bt118.1 bt118.2.1 bt118.2.2.1 bt118.2.2.2.1).bind fun t130 => (if t130 = true then (aumbrylaw07_RewriteStarts.j0 k (bt106.2.2.2.2 != bt118.2.2.2.2) l1_0 l1_1 a1_2 l1_3) else (aumbrylaw07_RewriteStarts.j0 k true l1_0 l1_1 a1_2 l1_3)))))) else (some false))) = some r := h
 clear h
 replace H := zB H
 obtain ⟨t102, A30, H⟩ := H
 try dsimp only at H
 have A3 := zM A30
 clear A30
 by_cases c4 : t102 = true
 ·
  subst c4
  rw [if_pos rfl] at H
  replace H := zB H
  obtain ⟨t103, A50, H⟩ := H
  try dsimp only at H
  have A5 := zM A50
  clear A50
  replace H := zB H
  obtain ⟨⟨t106, t109, t112, t113, t116⟩, A60, H⟩ := H
  try dsimp only at H
  have A6 := zM A60
  clear A60
  replace H := zB H
  obtain ⟨⟨t118, t121, t124, t125, t128⟩, A70, H⟩ := H
  try dsimp only at H
  have A7 := zM A70
  clear A70
  have HC8 := zM H
  clear H
  go_enter Try.func3, Try.ntmps3
  go_upto_region 5 with (first | ((with_reducible refine gate_dst (N := 3) rfl ?_); refine box_event ?hg (N := 3) ?hd (cs := #[.slice A1_0 l1_0.length c1_0, .slice A1_1 l1_1.length c1_1, .int .i64 a1_2, .slice A1_3 l1_3.length c1_3]) (t := 28) ?hr ?_; (case hd => rfl); (case hg => rfl); (case hr => first | (go_simp; done) | (go_simp; rfl)); intro gb101 hg w9 hbox hb; have BK101 := zM (hbox); have GW101 := zM (zh hg : w.heap.size ≤ gb101); have GE101 := zM (zh hg : w.heap.size ≤ gb101); replace HB := zM (below_step zb hb); clear hb hbox hg) | ((with_reducible refine gate_callee (f := 11) rfl ?_); refine goesL_ (some 9) rfl rfl Try.func11 (by kernel_rfl) rfl #[] rfl zl ?_; (with_reducible refine (aumbrylaw07_wakes.calls k  true _ A3.out).mono ?_); rintro e w10 ⟨rfl, hb⟩; refine ⟨_, rfl, ?_⟩; replace BK101 := zM (blk_below (zk BK101.out) hb); replace HB := zM (below_step zb hb); (try clear hb)) | ((with_reducible refine gate_callee (f := 13) rfl ?_); refine goesL_ (some 13) rfl rfl Try.func13 (by kernel_rfl) rfl #[.slice A0 l0.length c0] rfl zl ?_; (with_reducible refine (aumbryref04_Copy.calls _ _ l0 t103 _ ?side1 ?side2 A5.out).mono ?_); (case side1 => exact Kd.C_below HR0.out zb); (case side2 => exact HC0.out); rintro e w11 ⟨v104, rfl, ho0, hb⟩; refine ⟨_, rfl, ?_⟩; have HO105 := zM (Kd.R_lower ho0 (below_size zb)); replace BK101 := zM (blk_below (zk BK101.out) hb); replace HB := zM (below_step zb hb); (try clear hb); (try clear ho0); obtain ⟨Ao12, co12, eo12⟩ := Kd.R_slice HO105.out; subst eo12) | ((with_reducible refine gate_callee (f := 12) rfl ?_); refine goesL_ (some 14) rfl rfl Try.func12 (by kernel_rfl) rfl #[.slice Ao12 t103.length co12] rfl zl ?_; (with_reducible refine (rewrite_Start.calls k _ _ t103 t106 t109 t112 t113 t116 _ ?side1 ?side2 A6.out).mono ?_); (case side1 => exact Kd.C_below (Kd.R_reads' HO105.out).2.2 zg); (case side2 => exact (Kd.R_reads' HO105.out).2.1); rintro e w13 ⟨v107, v110, v114, rfl, ho0, ho1, ho2, hb⟩; refine ⟨_, rfl, ?_⟩; have HO108 := zM (Kd.N_lower (Kd.N_mono (ok' := fun k_ => some k_ ≠ (v110 : Value).ownBlock ∧ some k_ ≠ (v114 : Value).ownBlock ∧ some k_ ≠ (.slice Ao12 t103.length co12 : Value).ownBlock ∧ k_ ≠ gb101) ho0 (fun k_ hk_ => ⟨hk_.2.1, hk_.2.2, (Kd.fresh' (Kd.R_lt (zr HO105.out)) k_ hk_.1), (Kd.freshB (g := gb101) (o := .cells #[.slice A1_0 l1_0.length c1_0, .slice A1_1 l1_1.length c1_1, .int .i64 a1_2, .slice A1_3 l1_3.length c1_3] 28 (0, 0)) (zk BK101.out) k_ hk_.1)⟩)) (below_size zb)); have HO111 := zM (Kd.N_lower (Kd.N_mono (ok' := fun k_ => some k_ ≠ (v107 : Value).ownBlock ∧ some k_ ≠ (v114 : Value).ownBlock ∧ some k_ ≠ (.slice Ao12 t103.length co12 : Value).ownBlock ∧ k_ ≠ gb101) ho1 (fun k_ hk_ => ⟨hk_.2.1, hk_.2.2, (Kd.fresh' (Kd.R_lt (zr HO105.out)) k_ hk_.1), (Kd.freshB (g := gb101) (o := .cells #[.slice A1_0 l1_0.length c1_0, .slice A1_1 l1_1.length c1_1, .int .i64 a1_2, .slice A1_3 l1_3.length c1_3] 28 (0, 0)) (zk BK101.out) k_ hk_.1)⟩)) (below_size zb)); replace HO105 := zM (Kd.R_below (zr HO105.out) hb); have HO115 := zM (Kd.R_lower (Kd.R_mono (ok' := fun k_ => True) ho2 (fun _ hk_ => trivial)) (below_size zb)); replace BK101 := zM (blk_below (zk BK101.out) hb); replace HB := zM (below_step zb hb); (try clear hb); (try clear ho0); (try clear ho1); (try clear ho2)) | ((with_reducible refine gate_dst (N := 5) rfl ?_); refine box_event ?hg (N := 5) ?hd (cs := #[.slice none 0 0, .slice none 0 0, .int .i64 0, .slice none 0 0]) (t := 28) ?hr ?_; (case hd => rfl); (case hg => rfl); (case hr => first | (go_simp; done) | (go_simp; rfl)); intro gb117 hg w14 hbox hb; replace HO105 := zM (Kd.R_below (zr HO105.out) hb); replace HO108 := zM (Kd.N_below (Kd.N_elderB (Kd.N_below HO108.out zg) gb117 (Nat.le_of_eq hg.symm)) hb); replace HO111 := zM (Kd.N_below (Kd.N_elderB (Kd.N_below HO111.out zg) gb117 (Nat.le_of_eq hg.symm)) hb); replace HO115 := zM (Kd.R_below (zr HO115.out) hb); have BK117 := zM (hbox); have GW117 := zM (zh hg : w.heap.size ≤ gb117); have GE117 := zM (zh hg : w.heap.size ≤ gb117); replace HB := zM (below_step zb hb); have NB101_117 := zM ((by rw [hg]; exact Nat.ne_of_lt (blk_lt (zk BK101.out)) : gb101 ≠ gb117)); have NB117_101 := zM ((by rw [hg]; exact Nat.ne_of_gt (blk_lt (zk BK101.out)) : gb117 ≠ gb101)); replace BK101 := zM (blk_below (zk BK101.out) hb); clear hb hbox hg; obtain ⟨Ao15, co15, eo15⟩ := Kd.N_slice HO108.out; subst eo15; have hnb16 := NB117_101.out; have hnc16 := NB101_117.out; have hcz17_0 : w14.cell? ⟨gb117, 0, none⟩ = some (.slice none 0 0) := (zX BK117.out 0).trans rfl; have hcz17_1 : w14.cell? ⟨gb117, 1, none⟩ = some (.slice none 0 0) := (zX BK117.out 1).trans rfl; have hcz17_2 : w14.cell? ⟨gb117, 2, none⟩ = some (.int .i64 0) := (zX BK117.out 2).trans rfl; have hcz17_3 : w14.cell? ⟨gb117, 3, none⟩ = some (.slice none 0 0) := (zX BK117.out 3).trans rfl; have hfz17_0 := zY BK117.out 0; have hfz17_1 := zY BK117.out 1; have hfz17_2 := zY BK117.out 2; have hfz17_3 := zY BK117.out 3; obtain ⟨Ao18, co18, eo18⟩ := Kd.N_slice HO111.out; subst eo18; obtain ⟨Ao19, co19, eo19⟩ := Kd.R_slice HO115.out; subst eo19) | ((with_reducible refine gate_callee (f := 14) rfl ?_); refine goesL_ (some 19) rfl rfl Try.func14 (by kernel_rfl) rfl #[.slice A0 l0.length c0] rfl zl ?_; (with_reducible refine (aumbryref07_Start.calls k _ _ l0 t118 t121 t124 t125 t128 _ ?side1 ?side2 A7.out).mono ?_); (case side1 => exact Kd.C_below HR0.out zb); (case side2 => exact HC0.out); rintro e w20 ⟨v119, v122, v126, rfl, ho0, ho1, ho2, hb⟩; refine ⟨_, rfl, ?_⟩; have HO120 := zM (Kd.N_lower (Kd.N_mono (ok' := fun k_ => some k_ ≠ (v122 : Value).ownBlock ∧ some k_ ≠ (v126 : Value).ownBlock ∧ some k_ ≠ (.slice Ao12 t103.length co12 : Value).ownBlock ∧ some k_ ≠ (.slice Ao15 t106.length co15 : Value).ownBlock ∧ some k_ ≠ (.slice Ao18 t109.length co18 : Value).ownBlock ∧ some k_ ≠ (.slice Ao19 t113.length co19 : Value).ownBlock ∧ k_ ≠ gb101 ∧ k_ ≠ gb117) ho0 (fun k_ hk_ => ⟨hk_.2.1, hk_.2.2, (Kd.fresh' (Kd.R_lt (by (with_reducible repeat (first | apply Kd.R_alloc | apply Kd.R_drewN | apply Kd.R_drew)); exact (Kd.R_mono (Kd.R_far (p := ⟨gb117, 3, none⟩) (Kd.R_far (p := ⟨gb117, 2, none⟩) (Kd.R_far (p := ⟨gb117, 1, none⟩) (Kd.R_far (p := ⟨gb117, 0, none⟩) (Kd.R_types HO105.out BK117.out (by decide)) (fun _ hk => hk.2) (.slice Ao15 t106.length co15)) (fun _ hk => hk.2) (.slice Ao18 t109.length co18)) (fun _ hk => hk.2) (.int .i64 t112)) (fun _ hk => hk.2) (.slice Ao19 t113.length co19)) (fun _ h_ => h_.1)))) k_ hk_.1), (Kd.fresh' (Kd.N_lt (by (with_reducible repeat (first | apply Kd.N_alloc | apply Kd.N_drewN | apply Kd.N_drew)); exact (Kd.N_mono (Kd.N_far (p := ⟨gb117, 3, none⟩) (Kd.N_far (p := ⟨gb117, 2, none⟩) (Kd.N_far (p := ⟨gb117, 1, none⟩) (Kd.N_far (p := ⟨gb117, 0, none⟩) (Kd.N_mono HO108.out (fun k_ hk => (⟨hk, hk.2⟩ : _ ∧ k_ ≠ gb117))) (fun _ hk => hk.2) (.slice Ao15 t106.length co15)) (fun _ hk => hk.2) (.slice Ao18 t109.length co18)) (fun _ hk => hk.2) (.int .i64 t112)) (fun _ hk => hk.2) (.slice Ao19 t113.length co19)) (fun _ h_ => h_.1)))) k_ hk_.1), (Kd.fresh' (Kd.N_lt (by (with_reducible repeat (first | apply Kd.N_alloc | apply Kd.N_drewN | apply Kd.N_drew)); exact (Kd.N_mono (Kd.N_far (p := ⟨gb117, 3, none⟩) (Kd.N_far (p := ⟨gb117, 2, none⟩) (Kd.N_far (p := ⟨gb117, 1, none⟩) (Kd.N_far (p := ⟨gb117, 0, none⟩) (Kd.N_mono HO111.out (fun k_ hk => (⟨hk, hk.2⟩ : _ ∧ k_ ≠ gb117))) (fun _ hk => hk.2) (.slice Ao15 t106.length co15)) (fun _ hk => hk.2) (.slice Ao18 t109.length co18)) (fun _ hk => hk.2) (.int .i64 t112)) (fun _ hk => hk.2) (.slice Ao19 t113.length co19)) (fun _ h_ => h_.1)))) k_ hk_.1), (Kd.fresh' (Kd.R_lt (by (with_reducible repeat (first | apply Kd.R_alloc | apply Kd.R_drewN | apply Kd.R_drew)); exact (Kd.R_mono (Kd.R_far (p := ⟨gb117, 3, none⟩) (Kd.R_far (p := ⟨gb117, 2, none⟩) (Kd.R_far (p := ⟨gb117, 1, none⟩) (Kd.R_far (p := ⟨gb117, 0, none⟩) (Kd.R_types HO115.out BK117.out (by decide)) (fun _ hk => hk.2) (.slice Ao15 t106.length co15)) (fun _ hk => hk.2) (.slice Ao18 t109.length co18)) (fun _ hk => hk.2) (.int .i64 t112)) (fun _ hk => hk.2) (.slice Ao19 t113.length co19)) (fun _ h_ => h_.1)))) k_ hk_.1), (Kd.freshB (g := gb101) (o := .cells #[.slice A1_0 l1_0.length c1_0, .slice A1_1 l1_1.length c1_1, .int .i64 a1_2, .slice A1_3 l1_3.length c1_3] 28 (0, 0)) (by refine zk ?_; refine blk_far ?_ NB101_117.out _; refine zk ?_; refine blk_far ?_ NB101_117.out _; refine zk ?_; refine blk_far ?_ NB101_117.out _; refine zk ?_; refine blk_far ?_ NB101_117.out _; refine zk ?_; exact BK101.out) k_ hk_.1), (Kd.freshB (g := gb117) (o := .cells #[.slice Ao15 t106.length co15, .slice Ao18 t109.length co18, .int .i64 t112, .slice Ao19 t113.length co19] 28 (0, 0)) (by refine zk ?_; refine blk_put (cs := #[.slice Ao15 t106.length co15, .slice Ao18 t109.length co18, .int .i64 t112, .slice none 0 0]) ?_ 3 _ rfl; refine zk ?_; refine blk_put (cs := #[.slice Ao15 t106.length co15, .slice Ao18 t109.length co18, .int .i64 0, .slice none 0 0]) ?_ 2 _ rfl; refine zk ?_; refine blk_put (cs := #[.slice Ao15 t106.length co15, .slice none 0 0, .int .i64 0, .slice none 0 0]) ?_ 1 _ rfl; refine zk ?_; refine blk_put (cs := #[.slice none 0 0, .slice none 0 0, .int .i64 0, .slice none 0 0]) ?_ 0 _ rfl; refine zk ?_; exact BK117.out) k_ hk_.1)⟩)) (below_size zb)); have HO123 := zM (Kd.N_lower (Kd.N_mono (ok' := fun k_ => some k_ ≠ (v119 : Value).ownBlock ∧ some k_ ≠ (v126 : Value).ownBlock ∧ some k_ ≠ (.slice Ao12 t103.length co12 : Value).ownBlock ∧ some k_ ≠ (.slice Ao15 t106.length co15 : Value).ownBlock ∧ some k_ ≠ (.slice Ao18 t109.length co18 : Value).ownBlock ∧ some k_ ≠ (.slice Ao19 t113.length co19 : Value).ownBlock ∧ k_ ≠ gb101 ∧ k_ ≠ gb117) ho1 (fun k_ hk_ => ⟨hk_.2.1, hk_.2.2, (Kd.fresh' (Kd.R_lt (by (with_reducible repeat (first | apply Kd.R_alloc | apply Kd.R_drewN | apply Kd.R_drew)); exact (Kd.R_mono (Kd.R_far (p := ⟨gb117, 3, none⟩) (Kd.R_far (p := ⟨gb117, 2, none⟩) (Kd.R_far (p := ⟨gb117, 1, none⟩) (Kd.R_far (p := ⟨gb117, 0, none⟩) (Kd.R_types HO105.out BK117.out (by decide)) (fun _ hk => hk.2) (.slice Ao15 t106.length co15)) (fun _ hk => hk.2) (.slice Ao18 t109.length co18)) (fun _ hk => hk.2) (.int .i64 t112)) (fun _ hk => hk.2) (.slice Ao19 t113.length co19)) (fun _ h_ => h_.1)))) k_ hk_.1), (Kd.fresh' (Kd.N_lt (by (with_reducible repeat (first | apply Kd.N_alloc | apply Kd.N_drewN | apply Kd.N_drew)); exact (Kd.N_mono (Kd.N_far (p := ⟨gb117, 3, none⟩) (Kd.N_far (p := ⟨gb117, 2, none⟩) (Kd.N_far (p := ⟨gb117, 1, none⟩) (Kd.N_far (p := ⟨gb117, 0, none⟩) (Kd.N_mono HO108.out (fun k_ hk => (⟨hk, hk.2⟩ : _ ∧ k_ ≠ gb117))) (fun _ hk => hk.2) (.slice Ao15 t106.length co15)) (fun _ hk => hk.2) (.slice Ao18 t109.length co18)) (fun _ hk => hk.2) (.int .i64 t112)) (fun _ hk => hk.2) (.slice Ao19 t113.length co19)) (fun _ h_ => h_.1)))) k_ hk_.1), (Kd.fresh' (Kd.N_lt (by (with_reducible repeat (first | apply Kd.N_alloc | apply Kd.N_drewN | apply Kd.N_drew)); exact (Kd.N_mono (Kd.N_far (p := ⟨gb117, 3, none⟩) (Kd.N_far (p := ⟨gb117, 2, none⟩) (Kd.N_far (p := ⟨gb117, 1, none⟩) (Kd.N_far (p := ⟨gb117, 0, none⟩) (Kd.N_mono HO111.out (fun k_ hk => (⟨hk, hk.2⟩ : _ ∧ k_ ≠ gb117))) (fun _ hk => hk.2) (.slice Ao15 t106.length co15)) (fun _ hk => hk.2) (.slice Ao18 t109.length co18)) (fun _ hk => hk.2) (.int .i64 t112)) (fun _ hk => hk.2) (.slice Ao19 t113.length co19)) (fun _ h_ => h_.1)))) k_ hk_.1), (Kd.fresh' (Kd.R_lt (by (with_reducible repeat (first | apply Kd.R_alloc | apply Kd.R_drewN | apply Kd.R_drew)); exact (Kd.R_mono (Kd.R_far (p := ⟨gb117, 3, none⟩) (Kd.R_far (p := ⟨gb117, 2, none⟩) (Kd.R_far (p := ⟨gb117, 1, none⟩) (Kd.R_far (p := ⟨gb117, 0, none⟩) (Kd.R_types HO115.out BK117.out (by decide)) (fun _ hk => hk.2) (.slice Ao15 t106.length co15)) (fun _ hk => hk.2) (.slice Ao18 t109.length co18)) (fun _ hk => hk.2) (.int .i64 t112)) (fun _ hk => hk.2) (.slice Ao19 t113.length co19)) (fun _ h_ => h_.1)))) k_ hk_.1), (Kd.freshB (g := gb101) (o := .cells #[.slice A1_0 l1_0.length c1_0, .slice A1_1 l1_1.length c1_1, .int .i64 a1_2, .slice A1_3 l1_3.length c1_3] 28 (0, 0)) (by refine zk ?_; refine blk_far ?_ NB101_117.out _; refine zk ?_; refine blk_far ?_ NB101_117.out _; refine zk ?_; refine blk_far ?_ NB101_117.out _; refine zk ?_; refine blk_far ?_ NB101_117.out _; refine zk ?_; exact BK101.out) k_ hk_.1), (Kd.freshB (g := gb117) (o := .cells #[.slice Ao15 t106.length co15, .slice Ao18 t109.length co18, .int .i64 t112, .slice Ao19 t113.length co19] 28 (0, 0)) (by refine zk ?_; refine blk_put (cs := #[.slice Ao15 t106.length co15, .slice Ao18 t109.length co18, .int .i64 t112, .slice none 0 0]) ?_ 3 _ rfl; refine zk ?_; refine blk_put (cs := #[.slice Ao15 t106.length co15, .slice Ao18 t109.length co18, .int .i64 0, .slice none 0 0]) ?_ 2 _ rfl; refine zk ?_; refine blk_put (cs := #[.slice Ao15 t106.length co15, .slice none 0 0, .int .i64 0, .slice none 0 0]) ?_ 1 _ rfl; refine zk ?_; refine blk_put (cs := #[.slice none 0 0, .slice none 0 0, .int .i64 0, .slice none 0 0]) ?_ 0 _ rfl; refine zk ?_; exact BK117.out) k_ hk_.1)⟩)) (below_size zb)); replace HO105 := zM (Kd.R_below (by (with_reducible repeat (first | apply Kd.R_alloc | apply Kd.R_drewN | apply Kd.R_drew)); exact (Kd.R_mono (Kd.R_far (p := ⟨gb117, 3, none⟩) (Kd.R_far (p := ⟨gb117, 2, none⟩) (Kd.R_far (p := ⟨gb117, 1, none⟩) (Kd.R_far (p := ⟨gb117, 0, none⟩) (Kd.R_types HO105.out BK117.out (by decide)) (fun _ hk => hk.2) (.slice Ao15 t106.length co15)) (fun _ hk => hk.2) (.slice Ao18 t109.length co18)) (fun _ hk => hk.2) (.int .i64 t112)) (fun _ hk => hk.2) (.slice Ao19 t113.length co19)) (fun _ h_ => h_.1))) hb); replace HO108 := zM (Kd.N_mono (Kd.N_told (Kd.N_told (Kd.N_told (Kd.N_old (by (with_reducible repeat (first | apply Kd.N_alloc | apply Kd.N_drewN | apply Kd.N_drew)); exact (Kd.N_mono (Kd.N_far (p := ⟨gb117, 3, none⟩) (Kd.N_far (p := ⟨gb117, 2, none⟩) (Kd.N_far (p := ⟨gb117, 1, none⟩) (Kd.N_far (p := ⟨gb117, 0, none⟩) (Kd.N_mono HO108.out (fun k_ hk => (⟨hk, hk.2⟩ : _ ∧ k_ ≠ gb117))) (fun _ hk => hk.2) (.slice Ao15 t106.length co15)) (fun _ hk => hk.2) (.slice Ao18 t109.length co18)) (fun _ hk => hk.2) (.int .i64 t112)) (fun _ hk => hk.2) (.slice Ao19 t113.length co19)) (fun _ h_ => h_.1))) hb) (by first | exact Kd.N_base ho0 | exact Kd.R_base (Kd.S_R ho0))) (by first | exact Kd.N_base ho1 | exact Kd.R_base (Kd.S_R ho1))) (Kd.R_base ho2)) (fun _ h_ => h_.1)); replace HO111 := zM (Kd.N_mono (Kd.N_told (Kd.N_told (Kd.N_told (Kd.N_old (by (with_reducible repeat (first | apply Kd.N_alloc | apply Kd.N_drewN | apply Kd.N_drew)); exact (Kd.N_mono (Kd.N_far (p := ⟨gb117, 3, none⟩) (Kd.N_far (p := ⟨gb117, 2, none⟩) (Kd.N_far (p := ⟨gb117, 1, none⟩) (Kd.N_far (p := ⟨gb117, 0, none⟩) (Kd.N_mono HO111.out (fun k_ hk => (⟨hk, hk.2⟩ : _ ∧ k_ ≠ gb117))) (fun _ hk => hk.2) (.slice Ao15 t106.length co15)) (fun _ hk => hk.2) (.slice Ao18 t109.length co18)) (fun _ hk => hk.2) (.int .i64 t112)) (fun _ hk => hk.2) (.slice Ao19 t113.length co19)) (fun _ h_ => h_.1))) hb) (by first | exact Kd.N_base ho0 | exact Kd.R_base (Kd.S_R ho0))) (by first | exact Kd.N_base ho1 | exact Kd.R_base (Kd.S_R ho1))) (Kd.R_base ho2)) (fun _ h_ => h_.1)); have HO127 := zM (Kd.R_lower (Kd.R_new' (Kd.R_mono (ok' := fun k_ => True) ho2 (fun _ hk_ => trivial)) (Kd.R_lt (by (with_reducible repeat (first | apply Kd.R_alloc | apply Kd.R_drewN | apply Kd.R_drew)); exact (Kd.R_mono (Kd.R_far (p := ⟨gb117, 3, none⟩) (Kd.R_far (p := ⟨gb117, 2, none⟩) (Kd.R_far (p := ⟨gb117, 1, none⟩) (Kd.R_far (p := ⟨gb117, 0, none⟩) (Kd.R_types HO115.out BK117.out (by decide)) (fun _ hk => hk.2) (.slice Ao15 t106.length co15)) (fun _ hk => hk.2) (.slice Ao18 t109.length co18)) (fun _ hk => hk.2) (.int .i64 t112)) (fun _ hk => hk.2) (.slice Ao19 t113.length co19)) (fun _ h_ => h_.1))))) (below_size zb)); replace HO115 := zM (Kd.R_elder' (by (with_reducible repeat (first | apply Kd.R_alloc | apply Kd.R_drewN | apply Kd.R_drew)); exact (Kd.R_mono (Kd.R_far (p := ⟨gb117, 3, none⟩) (Kd.R_far (p := ⟨gb117, 2, none⟩) (Kd.R_far (p := ⟨gb117, 1, none⟩) (Kd.R_far (p := ⟨gb117, 0, none⟩) (Kd.R_types HO115.out BK117.out (by decide)) (fun _ hk => hk.2) (.slice Ao15 t106.length co15)) (fun _ hk => hk.2) (.slice Ao18 t109.length co18)) (fun _ hk => hk.2) (.int .i64 t112)) (fun _ hk => hk.2) (.slice Ao19 t113.length co19)) (fun _ h_ => h_.1))) (Kd.R_base ho2) hb); replace BK101 := zM (blk_below (g := gb101) (o := .cells #[.slice A1_0 l1_0.length c1_0, .slice A1_1 l1_1.length c1_1, .int .i64 a1_2, .slice A1_3 l1_3.length c1_3] 28 (0, 0)) (by refine zk ?_; refine blk_far ?_ NB101_117.out _; refine zk ?_; refine blk_far ?_ NB101_117.out _; refine zk ?_; refine blk_far ?_ NB101_117.out _; refine zk ?_; refine blk_far ?_ NB101_117.out _; refine zk ?_; exact BK101.out) hb); replace BK117 := zM (blk_below (g := gb117) (o := .cells #[.slice Ao15 t106.length co15, .slice Ao18 t109.length co18, .int .i64 t112, .slice Ao19 t113.length co19] 28 (0, 0)) (by refine zk ?_; refine blk_put (cs := #[.slice Ao15 t106.length co15, .slice Ao18 t109.length co18, .int .i64 t112, .slice none 0 0]) ?_ 3 _ rfl; refine zk ?_; refine blk_put (cs := #[.slice Ao15 t106.length co15, .slice Ao18 t109.length co18, .int .i64 0, .slice none 0 0]) ?_ 2 _ rfl; refine zk ?_; refine blk_put (cs := #[.slice Ao15 t106.length co15, .slice none 0 0, .int .i64 0, .slice none 0 0]) ?_ 1 _ rfl; refine zk ?_; refine blk_put (cs := #[.slice none 0 0, .slice none 0 0, .int .i64 0, .slice none 0 0]) ?_ 0 _ rfl; refine zk ?_; exact BK117.out) hb); replace HB := zM (below_step zb hb); (try clear hb); (try clear ho0); (try clear ho1); (try clear ho2)) | ((with_reducible refine gate_dst (N := 7) rfl ?_); refine box_event ?hg (N := 7) ?hd (cs := #[.slice none 0 0, .slice none 0 0, .int .i64 0, .slice none 0 0]) (t := 28) ?hr ?_; (case hd => rfl); (case hg => rfl); (case hr => first | (go_simp; done) | (go_simp; rfl)); intro gb129 hg w21 hbox hb; replace HO105 := zM (Kd.R_below (zr HO105.out) hb); replace HO108 := zM (Kd.N_below (Kd.N_elderB (Kd.N_below HO108.out zg) gb129 (Nat.le_of_eq hg.symm)) hb); replace HO111 := zM (Kd.N_below (Kd.N_elderB (Kd.N_below HO111.out zg) gb129 (Nat.le_of_eq hg.symm)) hb); replace HO115 := zM (Kd.R_below (zr HO115.out) hb); replace HO120 := zM (Kd.N_below (Kd.N_elderB (Kd.N_below HO120.out zg) gb129 (Nat.le_of_eq hg.symm)) hb); replace HO123 := zM (Kd.N_below (Kd.N_elderB (Kd.N_below HO123.out zg) gb129 (Nat.le_of_eq hg.symm)) hb); replace HO127 := zM (Kd.R_below (zr HO127.out) hb); have BK129 := zM (hbox); have GW129 := zM (zh hg : w.heap.size ≤ gb129); have GE129 := zM (zh hg : w.heap.size ≤ gb129); replace HB := zM (below_step zb hb); have NB101_129 := zM ((by rw [hg]; exact Nat.ne_of_lt (blk_lt (zk BK101.out)) : gb101 ≠ gb129)); have NB129_101 := zM ((by rw [hg]; exact Nat.ne_of_gt (blk_lt (zk BK101.out)) : gb129 ≠ gb101)); replace BK101 := zM (blk_below (zk BK101.out) hb); have NB117_129 := zM ((by rw [hg]; exact Nat.ne_of_lt (blk_lt (zk BK117.out)) : gb117 ≠ gb129)); have NB129_117 := zM ((by rw [hg]; exact Nat.ne_of_gt (blk_lt (zk BK117.out)) : gb129 ≠ gb117)); replace BK117 := zM (blk_below (zk BK117.out) hb); clear hb hbox hg; obtain ⟨Ao22, co22, eo22⟩ := Kd.N_slice HO120.out; subst eo22; have hnb23 := NB129_101.out; have hnc23 := NB101_129.out; have hnb24 := NB129_117.out; have hnc24 := NB117_129.out; have hcz25_0 : w21.cell? ⟨gb129, 0, none⟩ = some (.slice none 0 0) := (zX BK129.out 0).trans rfl; have hcz25_1 : w21.cell? ⟨gb129, 1, none⟩ = some (.slice none 0 0) := (zX BK129.out 1).trans rfl; have hcz25_2 : w21.cell? ⟨gb129, 2, none⟩ = some (.int .i64 0) := (zX BK129.out 2).trans rfl; have hcz25_3 : w21.cell? ⟨gb129, 3, none⟩ = some (.slice none 0 0) := (zX BK129.out 3).trans rfl; have hfz25_0 := zY BK129.out 0; have hfz25_1 := zY BK129.out 1; have hfz25_2 := zY BK129.out 2; have hfz25_3 := zY BK129.out 3; obtain ⟨Ao26, co26, eo26⟩ := Kd.N_slice HO123.out; subst eo26; obtain ⟨Ao27, co27, eo27⟩ := Kd.R_slice HO127.out; subst eo27))
  (try simp only [Act.put, List.setIfInBounds_toArray, List.set_cons_zero, List.set_cons_succ])
  go_cut [30] (fun v30 wc => ∃ (kq : Nat) (x30_7 : Bool), v30 = .bool x30_7 ∧ Aside0 (aumbrylaw07_RewriteStarts.j0 kq x30_7 l1_0 l1_1 a1_2 l1_3 = some r) ∧ Aside0 (kq ≤ k) ∧ Aside0 (Kd.N k70 70 wc w.heap.size (fun k_ => some k_ ≠ ((.slice Ao18 t109.length co18) : Value).ownBlock ∧ some k_ ≠ ((.slice Ao19 t113.length co19) : Value).ownBlock ∧ some k_ ≠ ((.slice Ao22 t118.length co22) : Value).ownBlock ∧ some k_ ≠ ((.slice Ao26 t121.length co26) : Value).ownBlock ∧ some k_ ≠ ((.slice Ao27 t125.length co27) : Value).ownBlock ∧ k_ ≠ gb101 ∧ k_ ≠ gb117 ∧ k_ ≠ gb129) (.slice Ao15 t106.length co15) t106) ∧ Aside0 (Kd.N (Kd.slice 54 k54) 23 wc w.heap.size (fun k_ => some k_ ≠ ((.slice Ao15 t106.length co15) : Value).ownBlock ∧ some k_ ≠ ((.slice Ao19 t113.length co19) : Value).ownBlock ∧ some k_ ≠ ((.slice Ao22 t118.length co22) : Value).ownBlock ∧ some k_ ≠ ((.slice Ao26 t121.length co26) : Value).ownBlock ∧ some k_ ≠ ((.slice Ao27 t125.length co27) : Value).ownBlock ∧ k_ ≠ gb101 ∧ k_ ≠ gb117 ∧ k_ ≠ gb129) (.slice Ao18 t109.length co18) t109) ∧ Aside0 (Kd.R Kd.string 9 wc w.heap.size (fun k_ => some k_ ≠ ((.slice Ao27 t125.length co27) : Value).ownBlock) (.slice Ao19 t113.length co19) t113) ∧ Aside0 (Kd.N k70 70 wc w.heap.size (fun k_ => some k_ ≠ ((.slice Ao15 t106.length co15) : Value).ownBlock ∧ some k_ ≠ ((.slice Ao18 t109.length co18) : Value).ownBlock ∧ some k_ ≠ ((.slice Ao19 t113.length co19) : Value).ownBlock ∧ some k_ ≠ ((.slice Ao26 t121.length co26) : Value).ownBlock ∧ some k_ ≠ ((.slice Ao27 t125.length co27) : Value).ownBlock ∧ k_ ≠ gb101 ∧ k_ ≠ gb117 ∧ k_ ≠ gb129) (.slice Ao22 t118.length co22) t118) ∧ Aside0 (Kd.N (Kd.slice 54 k54) 23 wc w.heap.size (fun k_ => some k_ ≠ ((.slice Ao15 t106.length co15) : Value).ownBlock ∧ some k_ ≠ ((.slice Ao18 t109.length co18) : Value).ownBlock ∧ some k_ ≠ ((.slice Ao19 t113.length co19) : Value).ownBlock ∧ some k_ ≠ ((.slice Ao22 t118.length co22) : Value).ownBlock ∧ some k_ ≠ ((.slice Ao27 t125.length co27) : Value).ownBlock ∧ k_ ≠ gb101 ∧ k_ ≠ gb117 ∧ k_ ≠ gb129) (.slice Ao26 t121.length co26) t121) ∧ Aside0 (Kd.R Kd.string 9 wc w.heap.size (fun k_ => some k_ ≠ ((.slice Ao19 t113.length co19) : Value).ownBlock) (.slice Ao27 t125.length co27) t125) ∧ Aside0 (wc.heap[gb101]? = some (.cells #[(.slice A1_0 l1_0.length c1_0), (.slice A1_1 l1_1.length c1_1), .int .i64 a1_2, (.slice A1_3 l1_3.length c1_3)] 28 (0, 0))) ∧ Aside0 (wc.heap[gb117]? = some (.cells #[(.slice Ao15 t106.length co15), (.slice Ao18 t109.length co18), .int .i64 t112, (.slice Ao19 t113.length co19)] 28 (0, 0))) ∧ Aside0 (wc.heap[gb129]? = some (.cells #[(.slice Ao22 t118.length co22), (.slice Ao26 t121.length co26), .int .i64 t124, (.slice Ao27 t125.length co27)] 28 (0, 0))) ∧ Aside0 (Below w.heap.size w wc))
  case first =>
   have H := HC8.out
   clear HC8
   replace H := zB H
   obtain ⟨t130, A280, H⟩ := H
   try dsimp only at H
   have A28 := zM A280
   clear A280
   by_cases c29 : t130 = true
   ·
    subst c29
    rw [if_pos rfl] at H
    have H' := zM H
    clear H
    have hnb30 := NB117_101.out
    have hnc30 := NB101_117.out
    have hnb31 := NB117_129.out
    have hnc31 := NB129_117.out
    have hcz32_0 : w21.cell? ⟨gb117, 0, none⟩ = some (.slice Ao15 t106.length co15) := (zX BK117.out 0).trans rfl
    have hcz32_1 : w21.cell? ⟨gb117, 1, none⟩ = some (.slice Ao18 t109.length co18) := (zX BK117.out 1).trans rfl
    have hcz32_2 : w21.cell? ⟨gb117, 2, none⟩ = some (.int .i64 t112) := (zX BK117.out 2).trans rfl
    have hcz32_3 : w21.cell? ⟨gb117, 3, none⟩ = some (.slice Ao19 t113.length co19) := (zX BK117.out 3).trans rfl
    have hfz32_0 := zY BK117.out 0
    have hfz32_1 := zY BK117.out 1
    have hfz32_2 := zY BK117.out 2
    have hfz32_3 := zY BK117.out 3
    have hnb33 := NB129_101.out
    have hnc33 := NB101_129.out
    have hcz34_0 : w21.cell? ⟨gb129, 0, none⟩ = some (.slice none 0 0) := (zX BK129.out 0).trans rfl
    have hcz34_1 : w21.cell? ⟨gb129, 1, none⟩ = some (.slice none 0 0) := (zX BK129.out 1).trans rfl
    have hcz34_2 : w21.cell? ⟨gb129, 2, none⟩ = some (.int .i64 0) := (zX BK129.out 2).trans rfl
    have hcz34_3 : w21.cell? ⟨gb129, 3, none⟩ = some (.slice none 0 0) := (zX BK129.out 3).trans rfl
    have hfz34_0 := zY BK129.out 0
    have hfz34_1 := zY BK129.out 1
    have hfz34_2 := zY BK129.out 2
    have hfz34_3 := zY BK129.out 3
    go_wp2_with (first | ((with_reducible refine gate_callee (f := 15) rfl ?_); refine goesL_ (some 24) rfl rfl Try.func15 (by kernel_rfl) rfl #[.agg #[.slice Ao15 t106.length co15, .slice Ao18 t109.length co18, .int .i64 t112, .slice Ao19 t113.length co19], .agg #[.slice Ao22 t118.length co22, .slice Ao26 t121.length co26, .int .i64 t124, .slice Ao27 t125.length co27]] rfl zl ?_; (with_reducible refine (aumbryref07_Same.calls k _ _ t106 _ _ t109 t112 _ _ t113 _ _ t118 _ _ t121 t124 _ _ t125 true _ ?side1 ?side2 ?side3 ?side4 ?side5 ?side6 ?side7 ?side8 ?side9 ?side10 ?side11 ?side12 A28.out rfl).mono ?_); (case side1 => refine (Kd.N_reads' (e := 70) (base := w.heap.size) (ok := fun k_ => ((((((some k_ ≠ (.slice Ao18 t109.length co18 : Value).ownBlock ∧ (some k_ ≠ (.slice Ao19 t113.length co19 : Value).ownBlock ∧ (some k_ ≠ (.slice Ao12 t103.length co12 : Value).ownBlock ∧ k_ ≠ gb101))) ∧ k_ ≠ gb117) ∧ some k_ ≠ (.slice Ao22 t118.length co22 : Value).ownBlock) ∧ some k_ ≠ (.slice Ao26 t121.length co26 : Value).ownBlock) ∧ some k_ ≠ (.slice Ao27 t125.length co27 : Value).ownBlock) ∧ k_ ≠ gb129)) (n := t106.length) (c := co15) ?_).2.2; exact (by (with_reducible repeat (first | apply Kd.N_alloc | apply Kd.N_drewN | apply Kd.N_drew)); exact (Kd.N_mono (Kd.N_far (p := ⟨gb129, 3, none⟩) (Kd.N_far (p := ⟨gb129, 2, none⟩) (Kd.N_far (p := ⟨gb129, 1, none⟩) (Kd.N_far (p := ⟨gb129, 0, none⟩) (Kd.N_mono HO108.out (fun k_ hk => (⟨hk, hk.2⟩ : _ ∧ k_ ≠ gb129))) (fun _ hk => hk.2) (.slice Ao22 t118.length co22)) (fun _ hk => hk.2) (.slice Ao26 t121.length co26)) (fun _ hk => hk.2) (.int .i64 t124)) (fun _ hk => hk.2) (.slice Ao27 t125.length co27)) (fun _ h_ => h_.1)))); (case side2 => exact (Kd.N_reads' HO108.out).2.1); (case side3 => refine (Kd.N_reads' (e := 23) (base := w.heap.size) (ok := fun k_ => ((((((some k_ ≠ (.slice Ao15 t106.length co15 : Value).ownBlock ∧ (some k_ ≠ (.slice Ao19 t113.length co19 : Value).ownBlock ∧ (some k_ ≠ (.slice Ao12 t103.length co12 : Value).ownBlock ∧ k_ ≠ gb101))) ∧ k_ ≠ gb117) ∧ some k_ ≠ (.slice Ao22 t118.length co22 : Value).ownBlock) ∧ some k_ ≠ (.slice Ao26 t121.length co26 : Value).ownBlock) ∧ some k_ ≠ (.slice Ao27 t125.length co27 : Value).ownBlock) ∧ k_ ≠ gb129)) (n := t109.length) (c := co18) ?_).2.2; exact (by (with_reducible repeat (first | apply Kd.N_alloc | apply Kd.N_drewN | apply Kd.N_drew)); exact (Kd.N_mono (Kd.N_far (p := ⟨gb129, 3, none⟩) (Kd.N_far (p := ⟨gb129, 2, none⟩) (Kd.N_far (p := ⟨gb129, 1, none⟩) (Kd.N_far (p := ⟨gb129, 0, none⟩) (Kd.N_mono HO111.out (fun k_ hk => (⟨hk, hk.2⟩ : _ ∧ k_ ≠ gb129))) (fun _ hk => hk.2) (.slice Ao22 t118.length co22)) (fun _ hk => hk.2) (.slice Ao26 t121.length co26)) (fun _ hk => hk.2) (.int .i64 t124)) (fun _ hk => hk.2) (.slice Ao27 t125.length co27)) (fun _ h_ => h_.1)))); (case side4 => exact (Kd.N_reads' HO111.out).2.1); (case side5 => refine (Kd.R_reads' (e := 9) (base := w.heap.size) (ok := fun k_ => (True ∧ some k_ ≠ (.slice Ao27 t125.length co27 : Value).ownBlock)) (n := t113.length) (c := co19) ?_).2.2; exact (by (with_reducible repeat (first | apply Kd.R_alloc | apply Kd.R_drewN | apply Kd.R_drew)); exact (Kd.R_mono (Kd.R_far (p := ⟨gb129, 3, none⟩) (Kd.R_far (p := ⟨gb129, 2, none⟩) (Kd.R_far (p := ⟨gb129, 1, none⟩) (Kd.R_far (p := ⟨gb129, 0, none⟩) (Kd.R_types HO115.out BK129.out (by decide)) (fun _ hk => hk.2) (.slice Ao22 t118.length co22)) (fun _ hk => hk.2) (.slice Ao26 t121.length co26)) (fun _ hk => hk.2) (.int .i64 t124)) (fun _ hk => hk.2) (.slice Ao27 t125.length co27)) (fun _ h_ => h_.1)))); (case side6 => exact (Kd.R_reads' HO115.out).2.1); (case side7 => refine (Kd.N_reads' (e := 70) (base := w.heap.size) (ok := fun k_ => ((some k_ ≠ (.slice Ao26 t121.length co26 : Value).ownBlock ∧ (some k_ ≠ (.slice Ao27 t125.length co27 : Value).ownBlock ∧ (some k_ ≠ (.slice Ao12 t103.length co12 : Value).ownBlock ∧ (some k_ ≠ (.slice Ao15 t106.length co15 : Value).ownBlock ∧ (some k_ ≠ (.slice Ao18 t109.length co18 : Value).ownBlock ∧ (some k_ ≠ (.slice Ao19 t113.length co19 : Value).ownBlock ∧ (k_ ≠ gb101 ∧ k_ ≠ gb117))))))) ∧ k_ ≠ gb129)) (n := t118.length) (c := co22) ?_).2.2; exact (by (with_reducible repeat (first | apply Kd.N_alloc | apply Kd.N_drewN | apply Kd.N_drew)); exact (Kd.N_mono (Kd.N_far (p := ⟨gb129, 3, none⟩) (Kd.N_far (p := ⟨gb129, 2, none⟩) (Kd.N_far (p := ⟨gb129, 1, none⟩) (Kd.N_far (p := ⟨gb129, 0, none⟩) (Kd.N_mono HO120.out (fun k_ hk => (⟨hk, hk.2⟩ : _ ∧ k_ ≠ gb129))) (fun _ hk => hk.2) (.slice Ao22 t118.length co22)) (fun _ hk => hk.2) (.slice Ao26 t121.length co26)) (fun _ hk => hk.2) (.int .i64 t124)) (fun _ hk => hk.2) (.slice Ao27 t125.length co27)) (fun _ h_ => h_.1)))); (case side8 => exact (Kd.N_reads' HO120.out).2.1); (case side9 => refine (Kd.N_reads' (e := 23) (base := w.heap.size) (ok := fun k_ => ((some k_ ≠ (.slice Ao22 t118.length co22 : Value).ownBlock ∧ (some k_ ≠ (.slice Ao27 t125.length co27 : Value).ownBlock ∧ (some k_ ≠ (.slice Ao12 t103.length co12 : Value).ownBlock ∧ (some k_ ≠ (.slice Ao15 t106.length co15 : Value).ownBlock ∧ (some k_ ≠ (.slice Ao18 t109.length co18 : Value).ownBlock ∧ (some k_ ≠ (.slice Ao19 t113.length co19 : Value).ownBlock ∧ (k_ ≠ gb101 ∧ k_ ≠ gb117))))))) ∧ k_ ≠ gb129)) (n := t121.length) (c := co26) ?_).2.2; exact (by (with_reducible repeat (first | apply Kd.N_alloc | apply Kd.N_drewN | apply Kd.N_drew)); exact (Kd.N_mono (Kd.N_far (p := ⟨gb129, 3, none⟩) (Kd.N_far (p := ⟨gb129, 2, none⟩) (Kd.N_far (p := ⟨gb129, 1, none⟩) (Kd.N_far (p := ⟨gb129, 0, none⟩) (Kd.N_mono HO123.out (fun k_ hk => (⟨hk, hk.2⟩ : _ ∧ k_ ≠ gb129))) (fun _ hk => hk.2) (.slice Ao22 t118.length co22)) (fun _ hk => hk.2) (.slice Ao26 t121.length co26)) (fun _ hk => hk.2) (.int .i64 t124)) (fun _ hk => hk.2) (.slice Ao27 t125.length co27)) (fun _ h_ => h_.1)))); (case side10 => exact (Kd.N_reads' HO123.out).2.1); (case side11 => refine (Kd.R_reads' (e := 9) (base := w.heap.size) (ok := fun k_ => (True ∧ some k_ ≠ (.slice Ao19 t113.length co19 : Value).ownBlock)) (n := t125.length) (c := co27) ?_).2.2; exact (by (with_reducible repeat (first | apply Kd.R_alloc | apply Kd.R_drewN | apply Kd.R_drew)); exact (Kd.R_mono (Kd.R_far (p := ⟨gb129, 3, none⟩) (Kd.R_far (p := ⟨gb129, 2, none⟩) (Kd.R_far (p := ⟨gb129, 1, none⟩) (Kd.R_far (p := ⟨gb129, 0, none⟩) (Kd.R_types HO127.out BK129.out (by decide)) (fun _ hk => hk.2) (.slice Ao22 t118.length co22)) (fun _ hk => hk.2) (.slice Ao26 t121.length co26)) (fun _ hk => hk.2) (.int .i64 t124)) (fun _ hk => hk.2) (.slice Ao27 t125.length co27)) (fun _ h_ => h_.1)))); (case side12 => exact (Kd.R_reads' HO127.out).2.1); rintro e w35 ⟨rfl, hb⟩; refine ⟨_, rfl, ?_⟩; replace HO105 := zM (Kd.R_below (by (with_reducible repeat (first | apply Kd.R_alloc | apply Kd.R_drewN | apply Kd.R_drew)); exact (Kd.R_mono (Kd.R_far (p := ⟨gb129, 3, none⟩) (Kd.R_far (p := ⟨gb129, 2, none⟩) (Kd.R_far (p := ⟨gb129, 1, none⟩) (Kd.R_far (p := ⟨gb129, 0, none⟩) (Kd.R_types HO105.out BK129.out (by decide)) (fun _ hk => hk.2) (.slice Ao22 t118.length co22)) (fun _ hk => hk.2) (.slice Ao26 t121.length co26)) (fun _ hk => hk.2) (.int .i64 t124)) (fun _ hk => hk.2) (.slice Ao27 t125.length co27)) (fun _ h_ => h_.1))) hb); replace HO108 := zM (Kd.N_below (by (with_reducible repeat (first | apply Kd.N_alloc | apply Kd.N_drewN | apply Kd.N_drew)); exact (Kd.N_mono (Kd.N_far (p := ⟨gb129, 3, none⟩) (Kd.N_far (p := ⟨gb129, 2, none⟩) (Kd.N_far (p := ⟨gb129, 1, none⟩) (Kd.N_far (p := ⟨gb129, 0, none⟩) (Kd.N_mono HO108.out (fun k_ hk => (⟨hk, hk.2⟩ : _ ∧ k_ ≠ gb129))) (fun _ hk => hk.2) (.slice Ao22 t118.length co22)) (fun _ hk => hk.2) (.slice Ao26 t121.length co26)) (fun _ hk => hk.2) (.int .i64 t124)) (fun _ hk => hk.2) (.slice Ao27 t125.length co27)) (fun _ h_ => h_.1))) hb); replace HO111 := zM (Kd.N_below (by (with_reducible repeat (first | apply Kd.N_alloc | apply Kd.N_drewN | apply Kd.N_drew)); exact (Kd.N_mono (Kd.N_far (p := ⟨gb129, 3, none⟩) (Kd.N_far (p := ⟨gb129, 2, none⟩) (Kd.N_far (p := ⟨gb129, 1, none⟩) (Kd.N_far (p := ⟨gb129, 0, none⟩) (Kd.N_mono HO111.out (fun k_ hk => (⟨hk, hk.2⟩ : _ ∧ k_ ≠ gb129))) (fun _ hk => hk.2) (.slice Ao22 t118.length co22)) (fun _ hk => hk.2) (.slice Ao26 t121.length co26)) (fun _ hk => hk.2) (.int .i64 t124)) (fun _ hk => hk.2) (.slice Ao27 t125.length co27)) (fun _ h_ => h_.1))) hb); replace HO115 := zM (Kd.R_below (by (with_reducible repeat (first | apply Kd.R_alloc | apply Kd.R_drewN | apply Kd.R_drew)); exact (Kd.R_mono (Kd.R_far (p := ⟨gb129, 3, none⟩) (Kd.R_far (p := ⟨gb129, 2, none⟩) (Kd.R_far (p := ⟨gb129, 1, none⟩) (Kd.R_far (p := ⟨gb129, 0, none⟩) (Kd.R_types HO115.out BK129.out (by decide)) (fun _ hk => hk.2) (.slice Ao22 t118.length co22)) (fun _ hk => hk.2) (.slice Ao26 t121.length co26)) (fun _ hk => hk.2) (.int .i64 t124)) (fun _ hk => hk.2) (.slice Ao27 t125.length co27)) (fun _ h_ => h_.1))) hb); replace HO120 := zM (Kd.N_below (by (with_reducible repeat (first | apply Kd.N_alloc | apply Kd.N_drewN | apply Kd.N_drew)); exact (Kd.N_mono (Kd.N_far (p := ⟨gb129, 3, none⟩) (Kd.N_far (p := ⟨gb129, 2, none⟩) (Kd.N_far (p := ⟨gb129, 1, none⟩) (Kd.N_far (p := ⟨gb129, 0, none⟩) (Kd.N_mono HO120.out (fun k_ hk => (⟨hk, hk.2⟩ : _ ∧ k_ ≠ gb129))) (fun _ hk => hk.2) (.slice Ao22 t118.length co22)) (fun _ hk => hk.2) (.slice Ao26 t121.length co26)) (fun _ hk => hk.2) (.int .i64 t124)) (fun _ hk => hk.2) (.slice Ao27 t125.length co27)) (fun _ h_ => h_.1))) hb); replace HO123 := zM (Kd.N_below (by (with_reducible repeat (first | apply Kd.N_alloc | apply Kd.N_drewN | apply Kd.N_drew)); exact (Kd.N_mono (Kd.N_far (p := ⟨gb129, 3, none⟩) (Kd.N_far (p := ⟨gb129, 2, none⟩) (Kd.N_far (p := ⟨gb129, 1, none⟩) (Kd.N_far (p := ⟨gb129, 0, none⟩) (Kd.N_mono HO123.out (fun k_ hk => (⟨hk, hk.2⟩ : _ ∧ k_ ≠ gb129))) (fun _ hk => hk.2) (.slice Ao22 t118.length co22)) (fun _ hk => hk.2) (.slice Ao26 t121.length co26)) (fun _ hk => hk.2) (.int .i64 t124)) (fun _ hk => hk.2) (.slice Ao27 t125.length co27)) (fun _ h_ => h_.1))) hb); replace HO127 := zM (Kd.R_below (by (with_reducible repeat (first | apply Kd.R_alloc | apply Kd.R_drewN | apply Kd.R_drew)); exact (Kd.R_mono (Kd.R_far (p := ⟨gb129, 3, none⟩) (Kd.R_far (p := ⟨gb129, 2, none⟩) (Kd.R_far (p := ⟨gb129, 1, none⟩) (Kd.R_far (p := ⟨gb129, 0, none⟩) (Kd.R_types HO127.out BK129.out (by decide)) (fun _ hk => hk.2) (.slice Ao22 t118.length co22)) (fun _ hk => hk.2) (.slice Ao26 t121.length co26)) (fun _ hk => hk.2) (.int .i64 t124)) (fun _ hk => hk.2) (.slice Ao27 t125.length co27)) (fun _ h_ => h_.1))) hb); replace BK101 := zM (blk_below (g := gb101) (o := .cells #[.slice A1_0 l1_0.length c1_0, .slice A1_1 l1_1.length c1_1, .int .i64 a1_2, .slice A1_3 l1_3.length c1_3] 28 (0, 0)) (by refine zk ?_; refine blk_far ?_ NB101_129.out _; refine zk ?_; refine blk_far ?_ NB101_129.out _; refine zk ?_; refine blk_far ?_ NB101_129.out _; refine zk ?_; refine blk_far ?_ NB101_129.out _; refine zk ?_; exact BK101.out) hb); replace BK117 := zM (blk_below (g := gb117) (o := .cells #[.slice Ao15 t106.length co15, .slice Ao18 t109.length co18, .int .i64 t112, .slice Ao19 t113.length co19] 28 (0, 0)) (by refine zk ?_; refine blk_far ?_ NB117_129.out _; refine zk ?_; refine blk_far ?_ NB117_129.out _; refine zk ?_; refine blk_far ?_ NB117_129.out _; refine zk ?_; refine blk_far ?_ NB117_129.out _; refine zk ?_; exact BK117.out) hb); replace BK129 := zM (blk_below (g := gb129) (o := .cells #[.slice Ao22 t118.length co22, .slice Ao26 t121.length co26, .int .i64 t124, .slice Ao27 t125.length co27] 28 (0, 0)) (by refine zk ?_; refine blk_put (cs := #[.slice Ao22 t118.length co22, .slice Ao26 t121.length co26, .int .i64 t124, .slice none 0 0]) ?_ 3 _ rfl; refine zk ?_; refine blk_put (cs := #[.slice Ao22 t118.length co22, .slice Ao26 t121.length co26, .int .i64 0, .slice none 0 0]) ?_ 2 _ rfl; refine zk ?_; refine blk_put (cs := #[.slice Ao22 t118.length co22, .slice none 0 0, .int .i64 0, .slice none 0 0]) ?_ 1 _ rfl; refine zk ?_; refine blk_put (cs := #[.slice none 0 0, .slice none 0 0, .int .i64 0, .slice none 0 0]) ?_ 0 _ rfl; refine zk ?_; exact BK129.out) hb); replace HB := zM (below_step zb hb); (try clear hb)))
    go_meet
    case rel => exact ⟨_, ((t116 != t128)), zy, H', ⟨by first | omega | exact Nat.le_refl _⟩, ⟨by (with_reducible repeat (first | apply Kd.N_alloc | apply Kd.N_drewN | apply Kd.N_drew)); exact Kd.N_mono HO108.out (fun _ hk => ⟨hk.1.1.1.1.1.1, ⟨hk.1.1.1.1.1.2.1, ⟨hk.1.1.1.2, ⟨hk.1.1.2, ⟨hk.1.2, ⟨hk.1.1.1.1.1.2.2.2, ⟨hk.1.1.1.1.2, hk.2⟩⟩⟩⟩⟩⟩⟩)⟩, ⟨by (with_reducible repeat (first | apply Kd.N_alloc | apply Kd.N_drewN | apply Kd.N_drew)); exact Kd.N_mono HO111.out (fun _ hk => ⟨hk.1.1.1.1.1.1, ⟨hk.1.1.1.1.1.2.1, ⟨hk.1.1.1.2, ⟨hk.1.1.2, ⟨hk.1.2, ⟨hk.1.1.1.1.1.2.2.2, ⟨hk.1.1.1.1.2, hk.2⟩⟩⟩⟩⟩⟩⟩)⟩, ⟨by (with_reducible repeat (first | apply Kd.R_alloc | apply Kd.R_drewN | apply Kd.R_drew)); exact Kd.R_mono HO115.out (fun _ hk => hk.2)⟩, ⟨by (with_reducible repeat (first | apply Kd.N_alloc | apply Kd.N_drewN | apply Kd.N_drew)); exact Kd.N_mono HO120.out (fun _ hk => ⟨hk.1.2.2.2.1, ⟨hk.1.2.2.2.2.1, ⟨hk.1.2.2.2.2.2.1, ⟨hk.1.1, ⟨hk.1.2.1, ⟨hk.1.2.2.2.2.2.2.1, ⟨hk.1.2.2.2.2.2.2.2, hk.2⟩⟩⟩⟩⟩⟩⟩)⟩, ⟨by (with_reducible repeat (first | apply Kd.N_alloc | apply Kd.N_drewN | apply Kd.N_drew)); exact Kd.N_mono HO123.out (fun _ hk => ⟨hk.1.2.2.2.1, ⟨hk.1.2.2.2.2.1, ⟨hk.1.2.2.2.2.2.1, ⟨hk.1.1, ⟨hk.1.2.1, ⟨hk.1.2.2.2.2.2.2.1, ⟨hk.1.2.2.2.2.2.2.2, hk.2⟩⟩⟩⟩⟩⟩⟩)⟩, ⟨by (with_reducible repeat (first | apply Kd.R_alloc | apply Kd.R_drewN | apply Kd.R_drew)); exact Kd.R_mono HO127.out (fun _ hk => hk.2)⟩, ⟨by refine zk ?_; exact BK101.out⟩, ⟨by refine zk ?_; exact BK117.out⟩, ⟨by refine zk ?_; exact BK129.out⟩, ⟨zb⟩⟩
   ·
    replace c29 := zI c29
    subst c29
    have H1 : (aumbrylaw07_RewriteStarts.j0 k true l1_0 l1_1 a1_2 l1_3) = some r := by rw [if_neg (show ¬ (false = true) by decide)] at H; exact H
    exact absurd ((aumbrylaw07_RewriteStarts.j0_true _ _ _ _ _ _ H1).symm.trans HRT.out) (by decide)
  case rest =>
   clear HC8
   try clear c1
   try clear c2
   try clear p2
   try clear c3
   try clear c4
   try clear c11
   try clear c12
   try clear c13
   try clear c14
   try clear c15
   try clear c16
   try clear c23
   try clear c24
   try clear c29
   try clear c30
   try clear c31
   try clear c33
   try clear c36
   try clear c37
   try clear c39
   try clear hcz17_0
   try clear hcz17_1
   try clear hcz17_2
   try clear hcz17_3
   try clear hcz25_0
   try clear hcz25_1
   try clear hcz25_2
   try clear hcz25_3
   try clear hcz32_0
   try clear hcz32_1
   try clear hcz32_2
   try clear hcz32_3
   try clear hcz34_0
   try clear hcz34_1
   try clear hcz34_2
   try clear hcz34_3
   try clear hcz38_0
   try clear hcz38_1
   try clear hcz38_2
   try clear hcz38_3
   try clear hcz40_0
   try clear hcz40_1
   try clear hcz40_2
   try clear hcz40_3
   try clear hfz17_0
   try clear hfz17_1
   try clear hfz17_2
   try clear hfz17_3
   try clear hfz25_0
   try clear hfz25_1
   try clear hfz25_2
   try clear hfz25_3
   try clear hfz32_0
   try clear hfz32_1
   try clear hfz32_2
   try clear hfz32_3
   try clear hfz34_0
   try clear hfz34_1
   try clear hfz34_2
   try clear hfz34_3
   try clear hfz38_0
   try clear hfz38_1
   try clear hfz38_2
   try clear hfz38_3
   try clear hfz40_0
   try clear hfz40_1
   try clear hfz40_2
   try clear hfz40_3
   obtain ⟨kq, x30_7, rfl, HA, HJ7, HO_118000, HO_118001, HO_118003, HO_130000, HO_130001, HO_130003, BK101, BK117, BK129, HB⟩ := hcut
   cases kq with
   | zero => exact absurd HA.out (by simp [aumbrylaw07_RewriteStarts.j0])
   | succ kj7 =>
    have H := HA.out
    clear HA
    simp only [aumbrylaw07_RewriteStarts.j0] at H
    by_cases c42 : x30_7 = true
    ·
     subst c42
     have H1 : (some false) = some r := by rw [if_pos rfl] at H; exact H
     exact absurd ((zS H1).trans HRT.out) (by decide)
    ·
     replace c42 := zI c42
     subst c42
     rw [if_neg (show ¬ (false = true) by decide)] at H
     replace H := zB H
     obtain ⟨⟨t131, t134, t137, t138⟩, A430, H⟩ := H
     try dsimp only at H
     have A43 := zM A430
     clear A430
     replace H := zB H
     obtain ⟨t141, A440, H⟩ := H
     try dsimp only at H
     have A44 := zM A440
     clear A440
     replace H := zB H
     obtain ⟨t142, A450, H⟩ := H
     try dsimp only at H
     have A45 := zM A450
     clear A450
     by_cases c46 : ((t141 == 0) == t142) = true
     ·
      rw [if_pos c46] at H
      have c46b0 : ((t141 == 0) == t142) = true := c46
      (try (have c46b1 : decide ((t141 == 0) = t142) = true := by simpa using c46))
      (try (have c46b2 : ((t141 == 0) == t142) = true := by simpa using c46))
      clear c46
      replace H := zB H
      obtain ⟨t143, A470, H⟩ := H
      try dsimp only at H
      have A47 := zM A470
      clear A470
      by_cases c48 : t143 = true
      ·
       subst c48
       rw [if_pos rfl] at H
       obtain rfl := zS H
       try go_wp2
       have n0_ := zM (Kd.N_drew HO_118000.out)
       have n1_ := zM (Kd.N_drew HO_118001.out)
       have n2_ := zM (Kd.R_drew HO_118003.out)
       have n3_ := zM (Kd.N_drew HO_130000.out)
       have n4_ := zM (Kd.N_drew HO_130001.out)
       have n5_ := zM (Kd.R_drew HO_130003.out)
       have n6_ := zM (blk_drew BK101.out)
       have n7_ := zM (blk_drew BK117.out)
       have n8_ := zM (blk_drew BK129.out)
       have n9_ := zM (zD HB.out)
       clear HO_118000
       clear HO_118001
       clear HO_118003
       clear HO_130000
       clear HO_130001
       clear HO_130003
       clear BK101
       clear BK117
       clear BK129
       clear HB
       have HO_118000 := n0_
       have HO_118001 := n1_
       have HO_118003 := n2_
       have HO_130000 := n3_
       have HO_130001 := n4_
       have HO_130003 := n5_
       have BK101 := n6_
       have BK117 := n7_
       have BK129 := n8_
       have HB := n9_
       clear n0_ n1_ n2_ n3_ n4_ n5_ n6_ n7_ n8_ n9_
       refine start_ (n := 18) (S := fun w' => w'.cell? ⟨gb101, 0, none⟩ = some (.slice A1_0 l1_0.length c1_0) ∧ w'.cell? ⟨gb101, 1, none⟩ = some (.slice A1_1 l1_1.length c1_1) ∧ w'.cell? ⟨gb101, 2, none⟩ = some (.int .i64 a1_2) ∧ w'.cell? ⟨gb101, 3, none⟩ = some (.slice A1_3 l1_3.length c1_3)) (ds := []) #[false, false, false, false, false, false, false, false, false, false, false, false, false, false, false, false, false, false] (by kernel_rfl) rfl rfl ⟨(zX BK101.out 0).trans rfl, (zX BK101.out 1).trans rfl, (zX BK101.out 2).trans rfl, (zX BK101.out 3).trans rfl⟩ (fun hHeld => ?_); refine with_tabW aumbrylaw07_RewriteStarts.tab7 aumbrylaw07_RewriteStarts.bits7 (fun HT_ HW_ => ?_)
       generalize wc.drew = w49 at HO_118000 HO_118001 HO_118003 HO_130000 HO_130001 HO_130003 BK101 BK117 BK129 HB hHeld ⊢
       refine take_ (i := 0) (N := some 31) (v := ?_) (a' := ?_) #[true, false, false, false, false, false, false, false, false, false, false, false, false, false, false, false, false, false] rfl rfl (take_ofW HT_.out HW_.out (by kernel_rfl)) (fun _ _ _ h => h) (Or.inl ⟨by rfl, ?_⟩) hHeld ?_ ?_
       rotate_left
       ·
        rintro w' ⟨s0, s1, s2, s3⟩
        go_simp
        with_reducible rfl
       rotate_left
       ·
        simp only [Act.put, List.setIfInBounds_toArray, List.set_cons_zero, List.set_cons_succ, i64_w, i32_w]
        rfl
       refine take_ (i := 4) (N := some 35) (v := ?_) (a' := ?_) #[true, false, false, false, true, false, false, false, false, false, false, false, false, false, false, false, false, false] rfl rfl (take_ofW HT_.out HW_.out (by kernel_rfl)) (fun _ _ _ h => h) (Or.inl ⟨by rfl, ?_⟩) hHeld ?_ ?_
       rotate_left
       ·
        rintro w' ⟨s0, s1, s2, s3⟩
        go_simp
        with_reducible rfl
       rotate_left
       ·
        simp only [Act.put, List.setIfInBounds_toArray, List.set_cons_zero, List.set_cons_succ, i64_w, i32_w]
        rfl
       refine one_ (i := 1) (N := some 32) #[true, true, false, false, true, false, false, false, false, false, false, false, false, false, false, false, false, false] rfl rfl (one_of HT_.out (by kernel_rfl)) (by decide) (fun K hK => ?_)
       refine goes_ Try.func17 (by kernel_rfl) rfl #[.agg #[.slice A1_0 l1_0.length c1_0, .slice A1_1 l1_1.length c1_1, .int .i64 a1_2, .slice A1_3 l1_3.length c1_3]] (by rfl) rfl rfl zl ?_
       with_reducible refine (aumbryref07_Copy.calls kj7 _ _ l1_0 _ _ l1_1 a1_2 _ _ l1_3 t131 t134 t137 t138 _ ?side1 ?side2 ?side3 ?side4 ?side5 ?side6 A43.out).mono ?_
       (case side1 => exact Kd.C_below HR1_0.out zb)
       (case side2 => exact HC1_0.out)
       (case side3 => exact Kd.C_below HR1_1.out zb)
       (case side4 => exact HC1_1.out)
       (case side5 => exact Kd.C_below HR1_3.out zb)
       (case side6 => exact HC1_3.out)
       rintro e w50 ⟨v132, v135, v139, rfl, ho0, ho1, ho2, hb⟩
       refine ⟨_, rfl, ?_⟩
       have n0_ := zM (Kd.N_mono (Kd.N_told (Kd.N_told (Kd.N_told (Kd.N_old (Kd.N_below HO_118000.out zg) hb) (by first | exact Kd.N_base ho0 | exact Kd.R_base (Kd.S_R ho0))) (by first | exact Kd.N_base ho1 | exact Kd.R_base (Kd.S_R ho1))) (Kd.R_base ho2)) (fun _ h_ => h_.1))
       have n1_ := zM (Kd.N_mono (Kd.N_told (Kd.N_told (Kd.N_told (Kd.N_old (Kd.N_below HO_118001.out zg) hb) (by first | exact Kd.N_base ho0 | exact Kd.R_base (Kd.S_R ho0))) (by first | exact Kd.N_base ho1 | exact Kd.R_base (Kd.S_R ho1))) (Kd.R_base ho2)) (fun _ h_ => h_.1))
       have n2_ := zM (Kd.R_elder' (zr HO_118003.out) (Kd.R_base ho2) hb)
       have n3_ := zM (Kd.N_mono (Kd.N_told (Kd.N_told (Kd.N_told (Kd.N_old (Kd.N_below HO_130000.out zg) hb) (by first | exact Kd.N_base ho0 | exact Kd.R_base (Kd.S_R ho0))) (by first | exact Kd.N_base ho1 | exact Kd.R_base (Kd.S_R ho1))) (Kd.R_base ho2)) (fun _ h_ => h_.1))
       have n4_ := zM (Kd.N_mono (Kd.N_told (Kd.N_told (Kd.N_told (Kd.N_old (Kd.N_below HO_130001.out zg) hb) (by first | exact Kd.N_base ho0 | exact Kd.R_base (Kd.S_R ho0))) (by first | exact Kd.N_base ho1 | exact Kd.R_base (Kd.S_R ho1))) (Kd.R_base ho2)) (fun _ h_ => h_.1))
       have n5_ := zM (Kd.R_elder' (zr HO_130003.out) (Kd.R_base ho2) hb)
       have n6_ := zM (Kd.N_lower (Kd.N_mono (ok' := fun k_ => some k_ ≠ (v135 : Value).ownBlock ∧ some k_ ≠ (v139 : Value).ownBlock ∧ some k_ ≠ (.slice Ao15 t106.length co15 : Value).ownBlock ∧ some k_ ≠ (.slice Ao18 t109.length co18 : Value).ownBlock ∧ some k_ ≠ (.slice Ao19 t113.length co19 : Value).ownBlock ∧ some k_ ≠ (.slice Ao22 t118.length co22 : Value).ownBlock ∧ some k_ ≠ (.slice Ao26 t121.length co26 : Value).ownBlock ∧ some k_ ≠ (.slice Ao27 t125.length co27 : Value).ownBlock ∧ k_ ≠ gb101 ∧ k_ ≠ gb117 ∧ k_ ≠ gb129) (Kd.S_N (Kd.S_bound (Kd.S_apart' (Kd.S_apart' ho0 (Kd.S_typed ho1) (by decide)) (Kd.R_typed ho2) (by decide)))) (fun k_ hk_ => ⟨hk_.1.1.2, hk_.1.2, (Kd.fresh' (Kd.N_lt (Kd.N_below HO_118000.out zg)) k_ hk_.2.1), (Kd.fresh' (Kd.N_lt (Kd.N_below HO_118001.out zg)) k_ hk_.2.1), (Kd.fresh' (Kd.R_lt (zr HO_118003.out)) k_ hk_.2.1), (Kd.fresh' (Kd.N_lt (Kd.N_below HO_130000.out zg)) k_ hk_.2.1), (Kd.fresh' (Kd.N_lt (Kd.N_below HO_130001.out zg)) k_ hk_.2.1), (Kd.fresh' (Kd.R_lt (zr HO_130003.out)) k_ hk_.2.1), (Kd.freshB (g := gb101) (o := .cells #[.slice A1_0 l1_0.length c1_0, .slice A1_1 l1_1.length c1_1, .int .i64 a1_2, .slice A1_3 l1_3.length c1_3] 28 (0, 0)) (zk BK101.out) k_ hk_.2.1), (Kd.freshB (g := gb117) (o := .cells #[.slice Ao15 t106.length co15, .slice Ao18 t109.length co18, .int .i64 t112, .slice Ao19 t113.length co19] 28 (0, 0)) (zk BK117.out) k_ hk_.2.1), (Kd.freshB (g := gb129) (o := .cells #[.slice Ao22 t118.length co22, .slice Ao26 t121.length co26, .int .i64 t124, .slice Ao27 t125.length co27] 28 (0, 0)) (zk BK129.out) k_ hk_.2.1)⟩)) (below_size zb))
       have n7_ := zM (Kd.N_lower (Kd.N_mono (ok' := fun k_ => some k_ ≠ (v132 : Value).ownBlock ∧ some k_ ≠ (v139 : Value).ownBlock ∧ some k_ ≠ (.slice Ao15 t106.length co15 : Value).ownBlock ∧ some k_ ≠ (.slice Ao18 t109.length co18 : Value).ownBlock ∧ some k_ ≠ (.slice Ao19 t113.length co19 : Value).ownBlock ∧ some k_ ≠ (.slice Ao22 t118.length co22 : Value).ownBlock ∧ some k_ ≠ (.slice Ao26 t121.length co26 : Value).ownBlock ∧ some k_ ≠ (.slice Ao27 t125.length co27 : Value).ownBlock ∧ k_ ≠ gb101 ∧ k_ ≠ gb117 ∧ k_ ≠ gb129) (Kd.S_N (Kd.S_bound (Kd.S_apart' (Kd.S_apart' ho1 (Kd.S_typed ho0) (by decide)) (Kd.R_typed ho2) (by decide)))) (fun k_ hk_ => ⟨hk_.1.1.2, hk_.1.2, (Kd.fresh' (Kd.N_lt (Kd.N_below HO_118000.out zg)) k_ hk_.2.1), (Kd.fresh' (Kd.N_lt (Kd.N_below HO_118001.out zg)) k_ hk_.2.1), (Kd.fresh' (Kd.R_lt (zr HO_118003.out)) k_ hk_.2.1), (Kd.fresh' (Kd.N_lt (Kd.N_below HO_130000.out zg)) k_ hk_.2.1), (Kd.fresh' (Kd.N_lt (Kd.N_below HO_130001.out zg)) k_ hk_.2.1), (Kd.fresh' (Kd.R_lt (zr HO_130003.out)) k_ hk_.2.1), (Kd.freshB (g := gb101) (o := .cells #[.slice A1_0 l1_0.length c1_0, .slice A1_1 l1_1.length c1_1, .int .i64 a1_2, .slice A1_3 l1_3.length c1_3] 28 (0, 0)) (zk BK101.out) k_ hk_.2.1), (Kd.freshB (g := gb117) (o := .cells #[.slice Ao15 t106.length co15, .slice Ao18 t109.length co18, .int .i64 t112, .slice Ao19 t113.length co19] 28 (0, 0)) (zk BK117.out) k_ hk_.2.1), (Kd.freshB (g := gb129) (o := .cells #[.slice Ao22 t118.length co22, .slice Ao26 t121.length co26, .int .i64 t124, .slice Ao27 t125.length co27] 28 (0, 0)) (zk BK129.out) k_ hk_.2.1)⟩)) (below_size zb))
       have n8_ := zM (Kd.R_lower (Kd.R_new' (Kd.R_new' ho2 (Kd.R_lt (zr HO_118003.out))) (Kd.R_lt (zr HO_130003.out))) (below_size zb))
       have n9_ := zM (blk_below (zk BK101.out) hb)
       have n10_ := zM (blk_below (zk BK117.out) hb)
       have n11_ := zM (blk_below (zk BK129.out) hb)
       have n12_ := zM (below_step zb hb)
       clear HO_118000
       clear HO_118001
       clear HO_118003
       clear HO_130000
       clear HO_130001
       clear HO_130003
       clear BK101
       clear BK117
       clear BK129
       clear HB
       have HO_118000 := n0_
       have HO_118001 := n1_
       have HO_118003 := n2_
       have HO_130000 := n3_
       have HO_130001 := n4_
       have HO_130003 := n5_
       have HO133 := n6_
       have HO136 := n7_
       have HO140 := n8_
       have BK101 := n9_
       have BK117 := n10_
       have BK129 := n11_
       have HB := n12_
       clear n0_ n1_ n2_ n3_ n4_ n5_ n6_ n7_ n8_ n9_ n10_ n11_ n12_
       (try clear hb)
       (try clear hb2)
       (try clear hk)
       (try clear hi)
       (try clear ho0)
       (try clear ho1)
       (try clear ho2)
       obtain ⟨Ao51, co51, eo51⟩ := Kd.N_slice HO133.out
       (first | subst eo51 | (injection eo51 with f1_ f2_ f3_; have f4_ := f1_.symm; have f5_ := f3_.symm; clear f1_ f2_ f3_; subst f4_; subst f5_))
       obtain ⟨Ao52, co52, eo52⟩ := Kd.N_slice HO136.out
       (first | subst eo52 | (injection eo52 with f1_ f2_ f3_; have f4_ := f1_.symm; have f5_ := f3_.symm; clear f1_ f2_ f3_; subst f4_; subst f5_))
       obtain ⟨Ao53, co53, eo53⟩ := Kd.R_slice HO140.out
       (first | subst eo53 | (injection eo53 with f1_ f2_ f3_; have f4_ := f1_.symm; have f5_ := f3_.symm; clear f1_ f2_ f3_; subst f4_; subst f5_))
       refine hK.out _ _ ⟨(zX BK101.out 0).trans rfl, (zX BK101.out 1).trans rfl, (zX BK101.out 2).trans rfl, (zX BK101.out 3).trans rfl⟩ (fun hHeld => ?_)
       clear hK K
       refine norm_ (a' := ?_) ?_ ?_
       rotate_left
       ·
        show Act.put _ (some 32) _ = _
        simp only [Act.put, List.setIfInBounds_toArray, List.set_cons_zero, List.set_cons_succ, i64_w, i32_w]
        rfl
       refine one_ (i := 2) (N := some 33) #[true, true, true, false, true, false, false, false, false, false, false, false, false, false, false, false, false, false] rfl rfl (one_of HT_.out (by kernel_rfl)) (by decide) (fun K hK => ?_)
       refine goes_ Try.func16 (by kernel_rfl) rfl #[.agg #[.slice Ao51 t131.length co51, .slice Ao52 t134.length co52, .int .i64 t137, .slice Ao53 t138.length co53]] (by rfl) rfl rfl zl ?_
       with_reducible refine (rewrite_Check.calls kj7 _ _ t131 _ _ t134 t137 _ _ t138 t141 _ ?side1 ?side2 ?side3 ?side4 ?side5 ?side6 A44.out).mono ?_
       (case side1 => exact Kd.C_below (Kd.N_reads' HO133.out).2.2 zg)
       (case side2 => exact (Kd.N_reads' HO133.out).2.1)
       (case side3 => exact Kd.C_below (Kd.N_reads' HO136.out).2.2 zg)
       (case side4 => exact (Kd.N_reads' HO136.out).2.1)
       (case side5 => exact Kd.C_below (Kd.R_reads' HO140.out).2.2 zg)
       (case side6 => exact (Kd.R_reads' HO140.out).2.1)
       rintro e w54 ⟨rfl, hb⟩
       refine ⟨_, rfl, ?_⟩
       have n0_ := zM (Kd.N_below (Kd.N_below HO_118000.out zg) hb)
       have n1_ := zM (Kd.N_below (Kd.N_below HO_118001.out zg) hb)
       have n2_ := zM (Kd.R_below (zr HO_118003.out) hb)
       have n3_ := zM (Kd.N_below (Kd.N_below HO_130000.out zg) hb)
       have n4_ := zM (Kd.N_below (Kd.N_below HO_130001.out zg) hb)
       have n5_ := zM (Kd.R_below (zr HO_130003.out) hb)
       have n6_ := zM (Kd.N_below (Kd.N_below HO133.out zg) hb)
       have n7_ := zM (Kd.N_below (Kd.N_below HO136.out zg) hb)
       have n8_ := zM (Kd.R_below (zr HO140.out) hb)
       have n9_ := zM (blk_below (zk BK101.out) hb)
       have n10_ := zM (blk_below (zk BK117.out) hb)
       have n11_ := zM (blk_below (zk BK129.out) hb)
       have n12_ := zM (below_step zb hb)
       clear HO_118000
       clear HO_118001
       clear HO_118003
       clear HO_130000
       clear HO_130001
       clear HO_130003
       clear HO133
       clear HO136
       clear HO140
       clear BK101
       clear BK117
       clear BK129
       clear HB
       have HO_118000 := n0_
       have HO_118001 := n1_
       have HO_118003 := n2_
       have HO_130000 := n3_
       have HO_130001 := n4_
       have HO_130003 := n5_
       have HO133 := n6_
       have HO136 := n7_
       have HO140 := n8_
       have BK101 := n9_
       have BK117 := n10_
       have BK129 := n11_
       have HB := n12_
       clear n0_ n1_ n2_ n3_ n4_ n5_ n6_ n7_ n8_ n9_ n10_ n11_ n12_
       (try clear hb)
       (try clear hb2)
       (try clear hk)
       (try clear hi)
       refine hK.out _ _ ⟨(zX BK101.out 0).trans rfl, (zX BK101.out 1).trans rfl, (zX BK101.out 2).trans rfl, (zX BK101.out 3).trans rfl⟩ (fun hHeld => ?_)
       clear hK K
       refine norm_ (a' := ?_) ?_ ?_
       rotate_left
       ·
        show Act.put _ (some 33) _ = _
        simp only [Act.put, List.setIfInBounds_toArray, List.set_cons_zero, List.set_cons_succ, i64_w, i32_w]
        rfl
       refine pure_ (i := 3) (N := some 34) (v := ?_) (a' := ?_) #[true, true, true, true, true, false, false, false, false, false, false, false, false, false, false, false, false, false] rfl rfl (any_of HT_.out (by kernel_rfl)) (fun _ _ _ h => h) (Or.inl ⟨by rfl, ?_⟩) ?_ ?_
       rotate_left
       ·
        intro w'
        go_simp
        with_reducible rfl
       rotate_left
       ·
        simp only [Act.put, List.setIfInBounds_toArray, List.set_cons_zero, List.set_cons_succ, i64_w, i32_w]
        rfl
       refine one_ (i := 5) (N := some 36) #[true, true, true, true, true, true, false, false, false, false, false, false, false, false, false, false, false, false] rfl rfl (one_of HT_.out (by kernel_rfl)) (by decide) (fun K hK => ?_)
       refine goes_ Try.func18 (by kernel_rfl) rfl #[.agg #[.slice A1_0 l1_0.length c1_0, .slice A1_1 l1_1.length c1_1, .int .i64 a1_2, .slice A1_3 l1_3.length c1_3]] (by rfl) rfl rfl zl ?_
       with_reducible refine (aumbryref07_Right.calls kj7 _ _ l1_0 _ _ l1_1 a1_2 _ _ l1_3 t142 _ ?side1 ?side2 ?side3 ?side4 ?side5 ?side6 A45.out).mono ?_
       (case side1 => exact Kd.C_below HR1_0.out zb)
       (case side2 => exact HC1_0.out)
       (case side3 => exact Kd.C_below HR1_1.out zb)
       (case side4 => exact HC1_1.out)
       (case side5 => exact Kd.C_below HR1_3.out zb)
       (case side6 => exact HC1_3.out)
       rintro e w55 ⟨rfl, hb⟩
       refine ⟨_, rfl, ?_⟩
       have n0_ := zM (Kd.N_below (Kd.N_below HO_118000.out zg) hb)
       have n1_ := zM (Kd.N_below (Kd.N_below HO_118001.out zg) hb)
       have n2_ := zM (Kd.R_below (zr HO_118003.out) hb)
       have n3_ := zM (Kd.N_below (Kd.N_below HO_130000.out zg) hb)
       have n4_ := zM (Kd.N_below (Kd.N_below HO_130001.out zg) hb)
       have n5_ := zM (Kd.R_below (zr HO_130003.out) hb)
       have n6_ := zM (Kd.N_below (Kd.N_below HO133.out zg) hb)
       have n7_ := zM (Kd.N_below (Kd.N_below HO136.out zg) hb)
       have n8_ := zM (Kd.R_below (zr HO140.out) hb)
       have n9_ := zM (blk_below (zk BK101.out) hb)
       have n10_ := zM (blk_below (zk BK117.out) hb)
       have n11_ := zM (blk_below (zk BK129.out) hb)
       have n12_ := zM (below_step zb hb)
       clear HO_118000
       clear HO_118001
       clear HO_118003
       clear HO_130000
       clear HO_130001
       clear HO_130003
       clear HO133
       clear HO136
       clear HO140
       clear BK101
       clear BK117
       clear BK129
       clear HB
       have HO_118000 := n0_
       have HO_118001 := n1_
       have HO_118003 := n2_
       have HO_130000 := n3_
       have HO_130001 := n4_
       have HO_130003 := n5_
       have HO133 := n6_
       have HO136 := n7_
       have HO140 := n8_
       have BK101 := n9_
       have BK117 := n10_
       have BK129 := n11_
       have HB := n12_
       clear n0_ n1_ n2_ n3_ n4_ n5_ n6_ n7_ n8_ n9_ n10_ n11_ n12_
       (try clear hb)
       (try clear hb2)
       (try clear hk)
       (try clear hi)
       refine hK.out _ _ ⟨(zX BK101.out 0).trans rfl, (zX BK101.out 1).trans rfl, (zX BK101.out 2).trans rfl, (zX BK101.out 3).trans rfl⟩ (fun hHeld => ?_)
       clear hK K
       refine norm_ (a' := ?_) ?_ ?_
       rotate_left
       ·
        show Act.put _ (some 36) _ = _
        simp only [Act.put, List.setIfInBounds_toArray, List.set_cons_zero, List.set_cons_succ, i64_w, i32_w]
        rfl
       refine pure_ (i := 6) (N := some 37) (v := ?_) (a' := ?_) #[true, true, true, true, true, true, true, false, false, false, false, false, false, false, false, false, false, false] rfl rfl (any_of HT_.out (by kernel_rfl)) (fun _ _ _ h => h) (Or.inl ⟨by rfl, ?_⟩) ?_ ?_
       rotate_left
       ·
        intro w'
        go_simp
        with_reducible rfl
       rotate_left
       ·
        simp only [Act.put, List.setIfInBounds_toArray, List.set_cons_zero, List.set_cons_succ, i64_w, i32_w]
        rfl
       refine pure_ (i := 7) (N := some 38) (v := ?_) (a' := ?_) #[true, true, true, true, true, true, true, true, false, false, false, false, false, false, false, false, false, false] rfl rfl (any_of HT_.out (by kernel_rfl)) (fun _ _ _ h => h) (Or.inl ⟨by rfl, ?_⟩) ?_ ?_
       rotate_left
       ·
        intro w'
        go_simp
        with_reducible rfl
       rotate_left
       ·
        simp only [Act.put, List.setIfInBounds_toArray, List.set_cons_zero, List.set_cons_succ, i64_w, i32_w]
        rfl
       refine take_ (i := 8) (N := some 39) (v := ?_) (a' := ?_) #[true, true, true, true, true, true, true, true, true, false, false, false, false, false, false, false, false, false] rfl rfl (take_ofW HT_.out HW_.out (by kernel_rfl)) (fun _ _ _ h => h) (Or.inl ⟨by rfl, ?_⟩) hHeld ?_ ?_
       rotate_left
       ·
        rintro w' ⟨s0, s1, s2, s3⟩
        go_simp
        with_reducible rfl
       rotate_left
       ·
        simp only [Act.put, List.setIfInBounds_toArray, List.set_cons_zero, List.set_cons_succ, i64_w, i32_w]
        rfl
       refine one_ (i := 9) (N := some 40) #[true, true, true, true, true, true, true, true, true, true, false, false, false, false, false, false, false, false] rfl rfl (one_of HT_.out (by kernel_rfl)) (by decide) (fun K hK => ?_)
       refine goes_ Try.func18 (by kernel_rfl) rfl #[.agg #[.slice A1_0 l1_0.length c1_0, .slice A1_1 l1_1.length c1_1, .int .i64 a1_2, .slice A1_3 l1_3.length c1_3]] (by rfl) rfl rfl zl ?_
       with_reducible refine (aumbryref07_Right.calls kj7 _ _ l1_0 _ _ l1_1 a1_2 _ _ l1_3 true _ ?side1 ?side2 ?side3 ?side4 ?side5 ?side6 A47.out).mono ?_
       (case side1 => exact Kd.C_below HR1_0.out zb)
       (case side2 => exact HC1_0.out)
       (case side3 => exact Kd.C_below HR1_1.out zb)
       (case side4 => exact HC1_1.out)
       (case side5 => exact Kd.C_below HR1_3.out zb)
       (case side6 => exact HC1_3.out)
       rintro e w56 ⟨rfl, hb⟩
       refine ⟨_, rfl, ?_⟩
       have n0_ := zM (Kd.N_below (Kd.N_below HO_118000.out zg) hb)
       have n1_ := zM (Kd.N_below (Kd.N_below HO_118001.out zg) hb)
       have n2_ := zM (Kd.R_below (zr HO_118003.out) hb)
       have n3_ := zM (Kd.N_below (Kd.N_below HO_130000.out zg) hb)
       have n4_ := zM (Kd.N_below (Kd.N_below HO_130001.out zg) hb)
       have n5_ := zM (Kd.R_below (zr HO_130003.out) hb)
       have n6_ := zM (Kd.N_below (Kd.N_below HO133.out zg) hb)
       have n7_ := zM (Kd.N_below (Kd.N_below HO136.out zg) hb)
       have n8_ := zM (Kd.R_below (zr HO140.out) hb)
       have n9_ := zM (blk_below (zk BK101.out) hb)
       have n10_ := zM (blk_below (zk BK117.out) hb)
       have n11_ := zM (blk_below (zk BK129.out) hb)
       have n12_ := zM (below_step zb hb)
       clear HO_118000
       clear HO_118001
       clear HO_118003
       clear HO_130000
       clear HO_130001
       clear HO_130003
       clear HO133
       clear HO136
       clear HO140
       clear BK101
       clear BK117
       clear BK129
       clear HB
       have HO_118000 := n0_
       have HO_118001 := n1_
       have HO_118003 := n2_
       have HO_130000 := n3_
       have HO_130001 := n4_
       have HO_130003 := n5_
       have HO133 := n6_
       have HO136 := n7_
       have HO140 := n8_
       have BK101 := n9_
       have BK117 := n10_
       have BK129 := n11_
       have HB := n12_
       clear n0_ n1_ n2_ n3_ n4_ n5_ n6_ n7_ n8_ n9_ n10_ n11_ n12_
       (try clear hb)
       (try clear hb2)
       (try clear hk)
       (try clear hi)
       refine hK.out _ _ ⟨(zX BK101.out 0).trans rfl, (zX BK101.out 1).trans rfl, (zX BK101.out 2).trans rfl, (zX BK101.out 3).trans rfl⟩ (fun hHeld => ?_)
       clear hK K
       refine norm_ (a' := ?_) ?_ ?_
       rotate_left
       ·
        show Act.put _ (some 40) _ = _
        simp only [Act.put, List.setIfInBounds_toArray, List.set_cons_zero, List.set_cons_succ, i64_w, i32_w]
        rfl
       refine pure_ (i := 10) (N := some 41) (v := ?_) (a' := ?_) #[true, true, true, true, true, true, true, true, true, true, true, false, false, false, false, false, false, false] rfl rfl (any_of HT_.out (by kernel_rfl)) (fun _ _ _ h => h) (Or.inl ⟨by rfl, ?_⟩) ?_ ?_
       rotate_left
       ·
        intro w'
        go_simp
        with_reducible rfl
       rotate_left
       ·
        simp only [Act.put, List.setIfInBounds_toArray, List.set_cons_zero, List.set_cons_succ, i64_w, i32_w]
        rfl
       refine pure_ (i := 11) (N := some 42) (v := undef) (a' := ?_) #[true, true, true, true, true, true, true, true, true, true, true, true, false, false, false, false, false, false] rfl rfl (any_of HT_.out (by kernel_rfl)) (fun _ _ _ h => h) (Or.inr ⟨by rfl, rfl⟩) ?_ ?_
       rotate_left
       ·
        simp only [Act.put, List.setIfInBounds_toArray, List.set_cons_zero, List.set_cons_succ, i64_w, i32_w]
        rfl
       refine pure_ (i := 12) (N := some 43) (v := undef) (a' := ?_) #[true, true, true, true, true, true, true, true, true, true, true, true, true, false, false, false, false, false] rfl rfl (any_of HT_.out (by kernel_rfl)) (fun _ _ _ h => h) (Or.inr ⟨by rfl, rfl⟩) ?_ ?_
       rotate_left
       ·
        simp only [Act.put, List.setIfInBounds_toArray, List.set_cons_zero, List.set_cons_succ, i64_w, i32_w]
        rfl
       refine pure_ (i := 13) (N := some 44) (v := undef) (a' := ?_) #[true, true, true, true, true, true, true, true, true, true, true, true, true, true, false, false, false, false] rfl rfl (any_of HT_.out (by kernel_rfl)) (fun _ _ _ h => h) (Or.inr ⟨by rfl, rfl⟩) ?_ ?_
       rotate_left
       ·
        simp only [Act.put, List.setIfInBounds_toArray, List.set_cons_zero, List.set_cons_succ, i64_w, i32_w]
        rfl
       refine pure_ (i := 14) (N := some 45) (v := undef) (a' := ?_) #[true, true, true, true, true, true, true, true, true, true, true, true, true, true, true, false, false, false] rfl rfl (any_of HT_.out (by kernel_rfl)) (fun _ _ _ h => h) (Or.inr ⟨by rfl, rfl⟩) ?_ ?_
       rotate_left
       ·
        simp only [Act.put, List.setIfInBounds_toArray, List.set_cons_zero, List.set_cons_succ, i64_w, i32_w]
        rfl
       refine pure_ (i := 15) (N := some 46) (v := ?_) (a' := ?_) #[true, true, true, true, true, true, true, true, true, true, true, true, true, true, true, true, false, false] rfl rfl (any_of HT_.out (by kernel_rfl)) (fun _ _ _ h => h) (Or.inl ⟨by rfl, ?_⟩) ?_ ?_
       rotate_left
       ·
        intro w'
        go_simp
        with_reducible rfl
       rotate_left
       ·
        simp only [Act.put, List.setIfInBounds_toArray, List.set_cons_zero, List.set_cons_succ, i64_w, i32_w]
        rfl
       refine pure_ (i := 16) (N := some 47) (v := ?_) (a' := ?_) #[true, true, true, true, true, true, true, true, true, true, true, true, true, true, true, true, true, false] rfl rfl (any_of HT_.out (by kernel_rfl)) (fun _ _ _ h => h) (Or.inl ⟨by rfl, ?_⟩) ?_ ?_
       rotate_left
       ·
        intro w'
        go_simp
        with_reducible rfl
       rotate_left
       ·
        simp only [Act.put, List.setIfInBounds_toArray, List.set_cons_zero, List.set_cons_succ, i64_w, i32_w]
        rfl
       refine pure_ (i := 17) (N := some 4) (v := ?_) (a' := ?_) #[true, true, true, true, true, true, true, true, true, true, true, true, true, true, true, true, true, true] rfl rfl (any_of HT_.out (by kernel_rfl)) (fun _ _ _ h => h) (Or.inl ⟨by rfl, ?_⟩) ?_ ?_
       rotate_left
       ·
        intro w'
        go_simp
        with_reducible rfl
       rotate_left
       ·
        simp only [Act.put, List.setIfInBounds_toArray, List.set_cons_zero, List.set_cons_succ, i64_w, i32_w]
        rfl
       refine done_ (done_of HT_.out (by kernel_rfl)) ?_
       try go_wp2
       go_ret
       exact ⟨zw, zb⟩
      ·
       replace c48 := zI c48
       subst c48
       rw [if_neg (show ¬ (false = true) by decide)] at H
       replace H := zB H
       obtain ⟨⟨t144, t147, t150, t151⟩, A570, H⟩ := H
       try dsimp only at H
       have A57 := zM A570
       clear A570
       replace H := zB H
       obtain ⟨t154, A580, H⟩ := H
       try dsimp only at H
       have A58 := zM A580
       clear A580
       obtain rfl := zS H
       try go_wp2
       have n0_ := zM (Kd.N_drew HO_118000.out)
       have n1_ := zM (Kd.N_drew HO_118001.out)
       have n2_ := zM (Kd.R_drew HO_118003.out)
       have n3_ := zM (Kd.N_drew HO_130000.out)
       have n4_ := zM (Kd.N_drew HO_130001.out)
       have n5_ := zM (Kd.R_drew HO_130003.out)
       have n6_ := zM (blk_drew BK101.out)
       have n7_ := zM (blk_drew BK117.out)
       have n8_ := zM (blk_drew BK129.out)
       have n9_ := zM (zD HB.out)
       clear HO_118000
       clear HO_118001
       clear HO_118003
       clear HO_130000
       clear HO_130001
       clear HO_130003
       clear BK101
       clear BK117
       clear BK129
       clear HB
       have HO_118000 := n0_
       have HO_118001 := n1_
       have HO_118003 := n2_
       have HO_130000 := n3_
       have HO_130001 := n4_
       have HO_130003 := n5_
       have BK101 := n6_
       have BK117 := n7_
       have BK129 := n8_
       have HB := n9_
       clear n0_ n1_ n2_ n3_ n4_ n5_ n6_ n7_ n8_ n9_
       refine start_ (n := 18) (S := fun w' => w'.cell? ⟨gb101, 0, none⟩ = some (.slice A1_0 l1_0.length c1_0) ∧ w'.cell? ⟨gb101, 1, none⟩ = some (.slice A1_1 l1_1.length c1_1) ∧ w'.cell? ⟨gb101, 2, none⟩ = some (.int .i64 a1_2) ∧ w'.cell? ⟨gb101, 3, none⟩ = some (.slice A1_3 l1_3.length c1_3)) (ds := []) #[false, false, false, false, false, false, false, false, false, false, false, false, false, false, false, false, false, false] (by kernel_rfl) rfl rfl ⟨(zX BK101.out 0).trans rfl, (zX BK101.out 1).trans rfl, (zX BK101.out 2).trans rfl, (zX BK101.out 3).trans rfl⟩ (fun hHeld => ?_); refine with_tabW aumbrylaw07_RewriteStarts.tab7 aumbrylaw07_RewriteStarts.bits7 (fun HT_ HW_ => ?_)
       generalize wc.drew = w59 at HO_118000 HO_118001 HO_118003 HO_130000 HO_130001 HO_130003 BK101 BK117 BK129 HB hHeld ⊢
       refine take_ (i := 0) (N := some 31) (v := ?_) (a' := ?_) #[true, false, false, false, false, false, false, false, false, false, false, false, false, false, false, false, false, false] rfl rfl (take_ofW HT_.out HW_.out (by kernel_rfl)) (fun _ _ _ h => h) (Or.inl ⟨by rfl, ?_⟩) hHeld ?_ ?_
       rotate_left
       ·
        rintro w' ⟨s0, s1, s2, s3⟩
        go_simp
        with_reducible rfl
       rotate_left
       ·
        simp only [Act.put, List.setIfInBounds_toArray, List.set_cons_zero, List.set_cons_succ, i64_w, i32_w]
        rfl
       refine take_ (i := 4) (N := some 35) (v := ?_) (a' := ?_) #[true, false, false, false, true, false, false, false, false, false, false, false, false, false, false, false, false, false] rfl rfl (take_ofW HT_.out HW_.out (by kernel_rfl)) (fun _ _ _ h => h) (Or.inl ⟨by rfl, ?_⟩) hHeld ?_ ?_
       rotate_left
       ·
        rintro w' ⟨s0, s1, s2, s3⟩
        go_simp
        with_reducible rfl
       rotate_left
       ·
        simp only [Act.put, List.setIfInBounds_toArray, List.set_cons_zero, List.set_cons_succ, i64_w, i32_w]
        rfl
       refine one_ (i := 1) (N := some 32) #[true, true, false, false, true, false, false, false, false, false, false, false, false, false, false, false, false, false] rfl rfl (one_of HT_.out (by kernel_rfl)) (by decide) (fun K hK => ?_)
       refine goes_ Try.func17 (by kernel_rfl) rfl #[.agg #[.slice A1_0 l1_0.length c1_0, .slice A1_1 l1_1.length c1_1, .int .i64 a1_2, .slice A1_3 l1_3.length c1_3]] (by rfl) rfl rfl zl ?_
       with_reducible refine (aumbryref07_Copy.calls kj7 _ _ l1_0 _ _ l1_1 a1_2 _ _ l1_3 t131 t134 t137 t138 _ ?side1 ?side2 ?side3 ?side4 ?side5 ?side6 A43.out).mono ?_
       (case side1 => exact Kd.C_below HR1_0.out zb)
       (case side2 => exact HC1_0.out)
       (case side3 => exact Kd.C_below HR1_1.out zb)
       (case side4 => exact HC1_1.out)
       (case side5 => exact Kd.C_below HR1_3.out zb)
       (case side6 => exact HC1_3.out)
       rintro e w60 ⟨v132, v135, v139, rfl, ho0, ho1, ho2, hb⟩
       refine ⟨_, rfl, ?_⟩
       have n0_ := zM (Kd.N_mono (Kd.N_told (Kd.N_told (Kd.N_told (Kd.N_old (Kd.N_below HO_118000.out zg) hb) (by first | exact Kd.N_base ho0 | exact Kd.R_base (Kd.S_R ho0))) (by first | exact Kd.N_base ho1 | exact Kd.R_base (Kd.S_R ho1))) (Kd.R_base ho2)) (fun _ h_ => h_.1))
       have n1_ := zM (Kd.N_mono (Kd.N_told (Kd.N_told (Kd.N_told (Kd.N_old (Kd.N_below HO_118001.out zg) hb) (by first | exact Kd.N_base ho0 | exact Kd.R_base (Kd.S_R ho0))) (by first | exact Kd.N_base ho1 | exact Kd.R_base (Kd.S_R ho1))) (Kd.R_base ho2)) (fun _ h_ => h_.1))
       have n2_ := zM (Kd.R_elder' (zr HO_118003.out) (Kd.R_base ho2) hb)
       have n3_ := zM (Kd.N_mono (Kd.N_told (Kd.N_told (Kd.N_told (Kd.N_old (Kd.N_below HO_130000.out zg) hb) (by first | exact Kd.N_base ho0 | exact Kd.R_base (Kd.S_R ho0))) (by first | exact Kd.N_base ho1 | exact Kd.R_base (Kd.S_R ho1))) (Kd.R_base ho2)) (fun _ h_ => h_.1))
       have n4_ := zM (Kd.N_mono (Kd.N_told (Kd.N_told (Kd.N_told (Kd.N_old (Kd.N_below HO_130001.out zg) hb) (by first | exact Kd.N_base ho0 | exact Kd.R_base (Kd.S_R ho0))) (by first | exact Kd.N_base ho1 | exact Kd.R_base (Kd.S_R ho1))) (Kd.R_base ho2)) (fun _ h_ => h_.1))
       have n5_ := zM (Kd.R_elder' (zr HO_130003.out) (Kd.R_base ho2) hb)
       have n6_ := zM (Kd.N_lower (Kd.N_mono (ok' := fun k_ => some k_ ≠ (v135 : Value).ownBlock ∧ some k_ ≠ (v139 : Value).ownBlock ∧ some k_ ≠ (.slice Ao15 t106.length co15 : Value).ownBlock ∧ some k_ ≠ (.slice Ao18 t109.length co18 : Value).ownBlock ∧ some k_ ≠ (.slice Ao19 t113.length co19 : Value).ownBlock ∧ some k_ ≠ (.slice Ao22 t118.length co22 : Value).ownBlock ∧ some k_ ≠ (.slice Ao26 t121.length co26 : Value).ownBlock ∧ some k_ ≠ (.slice Ao27 t125.length co27 : Value).ownBlock ∧ k_ ≠ gb101 ∧ k_ ≠ gb117 ∧ k_ ≠ gb129) (Kd.S_N (Kd.S_bound (Kd.S_apart' (Kd.S_apart' ho0 (Kd.S_typed ho1) (by decide)) (Kd.R_typed ho2) (by decide)))) (fun k_ hk_ => ⟨hk_.1.1.2, hk_.1.2, (Kd.fresh' (Kd.N_lt (Kd.N_below HO_118000.out zg)) k_ hk_.2.1), (Kd.fresh' (Kd.N_lt (Kd.N_below HO_118001.out zg)) k_ hk_.2.1), (Kd.fresh' (Kd.R_lt (zr HO_118003.out)) k_ hk_.2.1), (Kd.fresh' (Kd.N_lt (Kd.N_below HO_130000.out zg)) k_ hk_.2.1), (Kd.fresh' (Kd.N_lt (Kd.N_below HO_130001.out zg)) k_ hk_.2.1), (Kd.fresh' (Kd.R_lt (zr HO_130003.out)) k_ hk_.2.1), (Kd.freshB (g := gb101) (o := .cells #[.slice A1_0 l1_0.length c1_0, .slice A1_1 l1_1.length c1_1, .int .i64 a1_2, .slice A1_3 l1_3.length c1_3] 28 (0, 0)) (zk BK101.out) k_ hk_.2.1), (Kd.freshB (g := gb117) (o := .cells #[.slice Ao15 t106.length co15, .slice Ao18 t109.length co18, .int .i64 t112, .slice Ao19 t113.length co19] 28 (0, 0)) (zk BK117.out) k_ hk_.2.1), (Kd.freshB (g := gb129) (o := .cells #[.slice Ao22 t118.length co22, .slice Ao26 t121.length co26, .int .i64 t124, .slice Ao27 t125.length co27] 28 (0, 0)) (zk BK129.out) k_ hk_.2.1)⟩)) (below_size zb))
       have n7_ := zM (Kd.N_lower (Kd.N_mono (ok' := fun k_ => some k_ ≠ (v132 : Value).ownBlock ∧ some k_ ≠ (v139 : Value).ownBlock ∧ some k_ ≠ (.slice Ao15 t106.length co15 : Value).ownBlock ∧ some k_ ≠ (.slice Ao18 t109.length co18 : Value).ownBlock ∧ some k_ ≠ (.slice Ao19 t113.length co19 : Value).ownBlock ∧ some k_ ≠ (.slice Ao22 t118.length co22 : Value).ownBlock ∧ some k_ ≠ (.slice Ao26 t121.length co26 : Value).ownBlock ∧ some k_ ≠ (.slice Ao27 t125.length co27 : Value).ownBlock ∧ k_ ≠ gb101 ∧ k_ ≠ gb117 ∧ k_ ≠ gb129) (Kd.S_N (Kd.S_bound (Kd.S_apart' (Kd.S_apart' ho1 (Kd.S_typed ho0) (by decide)) (Kd.R_typed ho2) (by decide)))) (fun k_ hk_ => ⟨hk_.1.1.2, hk_.1.2, (Kd.fresh' (Kd.N_lt (Kd.N_below HO_118000.out zg)) k_ hk_.2.1), (Kd.fresh' (Kd.N_lt (Kd.N_below HO_118001.out zg)) k_ hk_.2.1), (Kd.fresh' (Kd.R_lt (zr HO_118003.out)) k_ hk_.2.1), (Kd.fresh' (Kd.N_lt (Kd.N_below HO_130000.out zg)) k_ hk_.2.1), (Kd.fresh' (Kd.N_lt (Kd.N_below HO_130001.out zg)) k_ hk_.2.1), (Kd.fresh' (Kd.R_lt (zr HO_130003.out)) k_ hk_.2.1), (Kd.freshB (g := gb101) (o := .cells #[.slice A1_0 l1_0.length c1_0, .slice A1_1 l1_1.length c1_1, .int .i64 a1_2, .slice A1_3 l1_3.length c1_3] 28 (0, 0)) (zk BK101.out) k_ hk_.2.1), (Kd.freshB (g := gb117) (o := .cells #[.slice Ao15 t106.length co15, .slice Ao18 t109.length co18, .int .i64 t112, .slice Ao19 t113.length co19] 28 (0, 0)) (zk BK117.out) k_ hk_.2.1), (Kd.freshB (g := gb129) (o := .cells #[.slice Ao22 t118.length co22, .slice Ao26 t121.length co26, .int .i64 t124, .slice Ao27 t125.length co27] 28 (0, 0)) (zk BK129.out) k_ hk_.2.1)⟩)) (below_size zb))
       have n8_ := zM (Kd.R_lower (Kd.R_new' (Kd.R_new' ho2 (Kd.R_lt (zr HO_118003.out))) (Kd.R_lt (zr HO_130003.out))) (below_size zb))
       have n9_ := zM (blk_below (zk BK101.out) hb)
       have n10_ := zM (blk_below (zk BK117.out) hb)
       have n11_ := zM (blk_below (zk BK129.out) hb)
       have n12_ := zM (below_step zb hb)
       clear HO_118000
       clear HO_118001
       clear HO_118003
       clear HO_130000
       clear HO_130001
       clear HO_130003
       clear BK101
       clear BK117
       clear BK129
       clear HB
       have HO_118000 := n0_
       have HO_118001 := n1_
       have HO_118003 := n2_
       have HO_130000 := n3_
       have HO_130001 := n4_
       have HO_130003 := n5_
       have HO133 := n6_
       have HO136 := n7_
       have HO140 := n8_
       have BK101 := n9_
       have BK117 := n10_
       have BK129 := n11_
       have HB := n12_
       clear n0_ n1_ n2_ n3_ n4_ n5_ n6_ n7_ n8_ n9_ n10_ n11_ n12_
       (try clear hb)
       (try clear hb2)
       (try clear hk)
       (try clear hi)
       (try clear ho0)
       (try clear ho1)
       (try clear ho2)
       obtain ⟨Ao61, co61, eo61⟩ := Kd.N_slice HO133.out
       (first | subst eo61 | (injection eo61 with f1_ f2_ f3_; have f4_ := f1_.symm; have f5_ := f3_.symm; clear f1_ f2_ f3_; subst f4_; subst f5_))
       obtain ⟨Ao62, co62, eo62⟩ := Kd.N_slice HO136.out
       (first | subst eo62 | (injection eo62 with f1_ f2_ f3_; have f4_ := f1_.symm; have f5_ := f3_.symm; clear f1_ f2_ f3_; subst f4_; subst f5_))
       obtain ⟨Ao63, co63, eo63⟩ := Kd.R_slice HO140.out
       (first | subst eo63 | (injection eo63 with f1_ f2_ f3_; have f4_ := f1_.symm; have f5_ := f3_.symm; clear f1_ f2_ f3_; subst f4_; subst f5_))
       refine hK.out _ _ ⟨(zX BK101.out 0).trans rfl, (zX BK101.out 1).trans rfl, (zX BK101.out 2).trans rfl, (zX BK101.out 3).trans rfl⟩ (fun hHeld => ?_)
       clear hK K
       refine norm_ (a' := ?_) ?_ ?_
       rotate_left
       ·
        show Act.put _ (some 32) _ = _
        simp only [Act.put, List.setIfInBounds_toArray, List.set_cons_zero, List.set_cons_succ, i64_w, i32_w]
        rfl
       refine one_ (i := 2) (N := some 33) #[true, true, true, false, true, false, false, false, false, false, false, false, false, false, false, false, false, false] rfl rfl (one_of HT_.out (by kernel_rfl)) (by decide) (fun K hK => ?_)
       refine goes_ Try.func16 (by kernel_rfl) rfl #[.agg #[.slice Ao61 t131.length co61, .slice Ao62 t134.length co62, .int .i64 t137, .slice Ao63 t138.length co63]] (by rfl) rfl rfl zl ?_
       with_reducible refine (rewrite_Check.calls kj7 _ _ t131 _ _ t134 t137 _ _ t138 t141 _ ?side1 ?side2 ?side3 ?side4 ?side5 ?side6 A44.out).mono ?_
       (case side1 => exact Kd.C_below (Kd.N_reads' HO133.out).2.2 zg)
       (case side2 => exact (Kd.N_reads' HO133.out).2.1)
       (case side3 => exact Kd.C_below (Kd.N_reads' HO136.out).2.2 zg)
       (case side4 => exact (Kd.N_reads' HO136.out).2.1)
       (case side5 => exact Kd.C_below (Kd.R_reads' HO140.out).2.2 zg)
       (case side6 => exact (Kd.R_reads' HO140.out).2.1)
       rintro e w64 ⟨rfl, hb⟩
       refine ⟨_, rfl, ?_⟩
       have n0_ := zM (Kd.N_below (Kd.N_below HO_118000.out zg) hb)
       have n1_ := zM (Kd.N_below (Kd.N_below HO_118001.out zg) hb)
       have n2_ := zM (Kd.R_below (zr HO_118003.out) hb)
       have n3_ := zM (Kd.N_below (Kd.N_below HO_130000.out zg) hb)
       have n4_ := zM (Kd.N_below (Kd.N_below HO_130001.out zg) hb)
       have n5_ := zM (Kd.R_below (zr HO_130003.out) hb)
       have n6_ := zM (Kd.N_below (Kd.N_below HO133.out zg) hb)
       have n7_ := zM (Kd.N_below (Kd.N_below HO136.out zg) hb)
       have n8_ := zM (Kd.R_below (zr HO140.out) hb)
       have n9_ := zM (blk_below (zk BK101.out) hb)
       have n10_ := zM (blk_below (zk BK117.out) hb)
       have n11_ := zM (blk_below (zk BK129.out) hb)
       have n12_ := zM (below_step zb hb)
       clear HO_118000
       clear HO_118001
       clear HO_118003
       clear HO_130000
       clear HO_130001
       clear HO_130003
       clear HO133
       clear HO136
       clear HO140
       clear BK101
       clear BK117
       clear BK129
       clear HB
       have HO_118000 := n0_
       have HO_118001 := n1_
       have HO_118003 := n2_
       have HO_130000 := n3_
       have HO_130001 := n4_
       have HO_130003 := n5_
       have HO133 := n6_
       have HO136 := n7_
       have HO140 := n8_
       have BK101 := n9_
       have BK117 := n10_
       have BK129 := n11_
       have HB := n12_
       clear n0_ n1_ n2_ n3_ n4_ n5_ n6_ n7_ n8_ n9_ n10_ n11_ n12_
       (try clear hb)
       (try clear hb2)
       (try clear hk)
       (try clear hi)
       refine hK.out _ _ ⟨(zX BK101.out 0).trans rfl, (zX BK101.out 1).trans rfl, (zX BK101.out 2).trans rfl, (zX BK101.out 3).trans rfl⟩ (fun hHeld => ?_)
       clear hK K
       refine norm_ (a' := ?_) ?_ ?_
       rotate_left
       ·
        show Act.put _ (some 33) _ = _
        simp only [Act.put, List.setIfInBounds_toArray, List.set_cons_zero, List.set_cons_succ, i64_w, i32_w]
        rfl
       refine pure_ (i := 3) (N := some 34) (v := ?_) (a' := ?_) #[true, true, true, true, true, false, false, false, false, false, false, false, false, false, false, false, false, false] rfl rfl (any_of HT_.out (by kernel_rfl)) (fun _ _ _ h => h) (Or.inl ⟨by rfl, ?_⟩) ?_ ?_
       rotate_left
       ·
        intro w'
        go_simp
        with_reducible rfl
       rotate_left
       ·
        simp only [Act.put, List.setIfInBounds_toArray, List.set_cons_zero, List.set_cons_succ, i64_w, i32_w]
        rfl
       refine one_ (i := 5) (N := some 36) #[true, true, true, true, true, true, false, false, false, false, false, false, false, false, false, false, false, false] rfl rfl (one_of HT_.out (by kernel_rfl)) (by decide) (fun K hK => ?_)
       refine goes_ Try.func18 (by kernel_rfl) rfl #[.agg #[.slice A1_0 l1_0.length c1_0, .slice A1_1 l1_1.length c1_1, .int .i64 a1_2, .slice A1_3 l1_3.length c1_3]] (by rfl) rfl rfl zl ?_
       with_reducible refine (aumbryref07_Right.calls kj7 _ _ l1_0 _ _ l1_1 a1_2 _ _ l1_3 t142 _ ?side1 ?side2 ?side3 ?side4 ?side5 ?side6 A45.out).mono ?_
       (case side1 => exact Kd.C_below HR1_0.out zb)
       (case side2 => exact HC1_0.out)
       (case side3 => exact Kd.C_below HR1_1.out zb)
       (case side4 => exact HC1_1.out)
       (case side5 => exact Kd.C_below HR1_3.out zb)
       (case side6 => exact HC1_3.out)
       rintro e w65 ⟨rfl, hb⟩
       refine ⟨_, rfl, ?_⟩
       have n0_ := zM (Kd.N_below (Kd.N_below HO_118000.out zg) hb)
       have n1_ := zM (Kd.N_below (Kd.N_below HO_118001.out zg) hb)
       have n2_ := zM (Kd.R_below (zr HO_118003.out) hb)
       have n3_ := zM (Kd.N_below (Kd.N_below HO_130000.out zg) hb)
       have n4_ := zM (Kd.N_below (Kd.N_below HO_130001.out zg) hb)
       have n5_ := zM (Kd.R_below (zr HO_130003.out) hb)
       have n6_ := zM (Kd.N_below (Kd.N_below HO133.out zg) hb)
       have n7_ := zM (Kd.N_below (Kd.N_below HO136.out zg) hb)
       have n8_ := zM (Kd.R_below (zr HO140.out) hb)
       have n9_ := zM (blk_below (zk BK101.out) hb)
       have n10_ := zM (blk_below (zk BK117.out) hb)
       have n11_ := zM (blk_below (zk BK129.out) hb)
       have n12_ := zM (below_step zb hb)
       clear HO_118000
       clear HO_118001
       clear HO_118003
       clear HO_130000
       clear HO_130001
       clear HO_130003
       clear HO133
       clear HO136
       clear HO140
       clear BK101
       clear BK117
       clear BK129
       clear HB
       have HO_118000 := n0_
       have HO_118001 := n1_
       have HO_118003 := n2_
       have HO_130000 := n3_
       have HO_130001 := n4_
       have HO_130003 := n5_
       have HO133 := n6_
       have HO136 := n7_
       have HO140 := n8_
       have BK101 := n9_
       have BK117 := n10_
       have BK129 := n11_
       have HB := n12_
       clear n0_ n1_ n2_ n3_ n4_ n5_ n6_ n7_ n8_ n9_ n10_ n11_ n12_
       (try clear hb)
       (try clear hb2)
       (try clear hk)
       (try clear hi)
       refine hK.out _ _ ⟨(zX BK101.out 0).trans rfl, (zX BK101.out 1).trans rfl, (zX BK101.out 2).trans rfl, (zX BK101.out 3).trans rfl⟩ (fun hHeld => ?_)
       clear hK K
       refine norm_ (a' := ?_) ?_ ?_
       rotate_left
       ·
        show Act.put _ (some 36) _ = _
        simp only [Act.put, List.setIfInBounds_toArray, List.set_cons_zero, List.set_cons_succ, i64_w, i32_w]
        rfl
       refine pure_ (i := 6) (N := some 37) (v := ?_) (a' := ?_) #[true, true, true, true, true, true, true, false, false, false, false, false, false, false, false, false, false, false] rfl rfl (any_of HT_.out (by kernel_rfl)) (fun _ _ _ h => h) (Or.inl ⟨by rfl, ?_⟩) ?_ ?_
       rotate_left
       ·
        intro w'
        go_simp
        with_reducible rfl
       rotate_left
       ·
        simp only [Act.put, List.setIfInBounds_toArray, List.set_cons_zero, List.set_cons_succ, i64_w, i32_w]
        rfl
       refine pure_ (i := 7) (N := some 38) (v := ?_) (a' := ?_) #[true, true, true, true, true, true, true, true, false, false, false, false, false, false, false, false, false, false] rfl rfl (any_of HT_.out (by kernel_rfl)) (fun _ _ _ h => h) (Or.inl ⟨by rfl, ?_⟩) ?_ ?_
       rotate_left
       ·
        intro w'
        go_simp
        with_reducible rfl
       rotate_left
       ·
        simp only [Act.put, List.setIfInBounds_toArray, List.set_cons_zero, List.set_cons_succ, i64_w, i32_w]
        rfl
       refine take_ (i := 8) (N := some 39) (v := ?_) (a' := ?_) #[true, true, true, true, true, true, true, true, true, false, false, false, false, false, false, false, false, false] rfl rfl (take_ofW HT_.out HW_.out (by kernel_rfl)) (fun _ _ _ h => h) (Or.inl ⟨by rfl, ?_⟩) hHeld ?_ ?_
       rotate_left
       ·
        rintro w' ⟨s0, s1, s2, s3⟩
        go_simp
        with_reducible rfl
       rotate_left
       ·
        simp only [Act.put, List.setIfInBounds_toArray, List.set_cons_zero, List.set_cons_succ, i64_w, i32_w]
        rfl
       refine one_ (i := 9) (N := some 40) #[true, true, true, true, true, true, true, true, true, true, false, false, false, false, false, false, false, false] rfl rfl (one_of HT_.out (by kernel_rfl)) (by decide) (fun K hK => ?_)
       refine goes_ Try.func18 (by kernel_rfl) rfl #[.agg #[.slice A1_0 l1_0.length c1_0, .slice A1_1 l1_1.length c1_1, .int .i64 a1_2, .slice A1_3 l1_3.length c1_3]] (by rfl) rfl rfl zl ?_
       with_reducible refine (aumbryref07_Right.calls kj7 _ _ l1_0 _ _ l1_1 a1_2 _ _ l1_3 false _ ?side1 ?side2 ?side3 ?side4 ?side5 ?side6 A47.out).mono ?_
       (case side1 => exact Kd.C_below HR1_0.out zb)
       (case side2 => exact HC1_0.out)
       (case side3 => exact Kd.C_below HR1_1.out zb)
       (case side4 => exact HC1_1.out)
       (case side5 => exact Kd.C_below HR1_3.out zb)
       (case side6 => exact HC1_3.out)
       rintro e w66 ⟨rfl, hb⟩
       refine ⟨_, rfl, ?_⟩
       have n0_ := zM (Kd.N_below (Kd.N_below HO_118000.out zg) hb)
       have n1_ := zM (Kd.N_below (Kd.N_below HO_118001.out zg) hb)
       have n2_ := zM (Kd.R_below (zr HO_118003.out) hb)
       have n3_ := zM (Kd.N_below (Kd.N_below HO_130000.out zg) hb)
       have n4_ := zM (Kd.N_below (Kd.N_below HO_130001.out zg) hb)
       have n5_ := zM (Kd.R_below (zr HO_130003.out) hb)
       have n6_ := zM (Kd.N_below (Kd.N_below HO133.out zg) hb)
       have n7_ := zM (Kd.N_below (Kd.N_below HO136.out zg) hb)
       have n8_ := zM (Kd.R_below (zr HO140.out) hb)
       have n9_ := zM (blk_below (zk BK101.out) hb)
       have n10_ := zM (blk_below (zk BK117.out) hb)
       have n11_ := zM (blk_below (zk BK129.out) hb)
       have n12_ := zM (below_step zb hb)
       clear HO_118000
       clear HO_118001
       clear HO_118003
       clear HO_130000
       clear HO_130001
       clear HO_130003
       clear HO133
       clear HO136
       clear HO140
       clear BK101
       clear BK117
       clear BK129
       clear HB
       have HO_118000 := n0_
       have HO_118001 := n1_
       have HO_118003 := n2_
       have HO_130000 := n3_
       have HO_130001 := n4_
       have HO_130003 := n5_
       have HO133 := n6_
       have HO136 := n7_
       have HO140 := n8_
       have BK101 := n9_
       have BK117 := n10_
       have BK129 := n11_
       have HB := n12_
       clear n0_ n1_ n2_ n3_ n4_ n5_ n6_ n7_ n8_ n9_ n10_ n11_ n12_
       (try clear hb)
       (try clear hb2)
       (try clear hk)
       (try clear hi)
       refine hK.out _ _ ⟨(zX BK101.out 0).trans rfl, (zX BK101.out 1).trans rfl, (zX BK101.out 2).trans rfl, (zX BK101.out 3).trans rfl⟩ (fun hHeld => ?_)
       clear hK K
       refine norm_ (a' := ?_) ?_ ?_
       rotate_left
       ·
        show Act.put _ (some 40) _ = _
        simp only [Act.put, List.setIfInBounds_toArray, List.set_cons_zero, List.set_cons_succ, i64_w, i32_w]
        rfl
       refine pure_ (i := 10) (N := some 41) (v := ?_) (a' := ?_) #[true, true, true, true, true, true, true, true, true, true, true, false, false, false, false, false, false, false] rfl rfl (any_of HT_.out (by kernel_rfl)) (fun _ _ _ h => h) (Or.inl ⟨by rfl, ?_⟩) ?_ ?_
       rotate_left
       ·
        intro w'
        go_simp
        with_reducible rfl
       rotate_left
       ·
        simp only [Act.put, List.setIfInBounds_toArray, List.set_cons_zero, List.set_cons_succ, i64_w, i32_w]
        rfl
       refine take_ (i := 11) (N := some 42) (v := ?_) (a' := ?_) #[true, true, true, true, true, true, true, true, true, true, true, true, false, false, false, false, false, false] rfl rfl (take_ofW HT_.out HW_.out (by kernel_rfl)) (fun _ _ _ h => h) (Or.inl ⟨by rfl, ?_⟩) hHeld ?_ ?_
       rotate_left
       ·
        rintro w' ⟨s0, s1, s2, s3⟩
        go_simp
        with_reducible rfl
       rotate_left
       ·
        simp only [Act.put, List.setIfInBounds_toArray, List.set_cons_zero, List.set_cons_succ, i64_w, i32_w]
        rfl
       refine one_ (i := 12) (N := some 43) #[true, true, true, true, true, true, true, true, true, true, true, true, true, false, false, false, false, false] rfl rfl (one_of HT_.out (by kernel_rfl)) (by decide) (fun K hK => ?_)
       refine goes_ Try.func17 (by kernel_rfl) rfl #[.agg #[.slice A1_0 l1_0.length c1_0, .slice A1_1 l1_1.length c1_1, .int .i64 a1_2, .slice A1_3 l1_3.length c1_3]] (by rfl) rfl rfl zl ?_
       with_reducible refine (aumbryref07_Copy.calls kj7 _ _ l1_0 _ _ l1_1 a1_2 _ _ l1_3 t144 t147 t150 t151 _ ?side1 ?side2 ?side3 ?side4 ?side5 ?side6 A57.out).mono ?_
       (case side1 => exact Kd.C_below HR1_0.out zb)
       (case side2 => exact HC1_0.out)
       (case side3 => exact Kd.C_below HR1_1.out zb)
       (case side4 => exact HC1_1.out)
       (case side5 => exact Kd.C_below HR1_3.out zb)
       (case side6 => exact HC1_3.out)
       rintro e w67 ⟨v145, v148, v152, rfl, ho0, ho1, ho2, hb⟩
       refine ⟨_, rfl, ?_⟩
       have n0_ := zM (Kd.N_mono (Kd.N_told (Kd.N_told (Kd.N_told (Kd.N_old (Kd.N_below HO_118000.out zg) hb) (by first | exact Kd.N_base ho0 | exact Kd.R_base (Kd.S_R ho0))) (by first | exact Kd.N_base ho1 | exact Kd.R_base (Kd.S_R ho1))) (Kd.R_base ho2)) (fun _ h_ => h_.1))
       have n1_ := zM (Kd.N_mono (Kd.N_told (Kd.N_told (Kd.N_told (Kd.N_old (Kd.N_below HO_118001.out zg) hb) (by first | exact Kd.N_base ho0 | exact Kd.R_base (Kd.S_R ho0))) (by first | exact Kd.N_base ho1 | exact Kd.R_base (Kd.S_R ho1))) (Kd.R_base ho2)) (fun _ h_ => h_.1))
       have n2_ := zM (Kd.R_elder' (zr HO_118003.out) (Kd.R_base ho2) hb)
       have n3_ := zM (Kd.N_mono (Kd.N_told (Kd.N_told (Kd.N_told (Kd.N_old (Kd.N_below HO_130000.out zg) hb) (by first | exact Kd.N_base ho0 | exact Kd.R_base (Kd.S_R ho0))) (by first | exact Kd.N_base ho1 | exact Kd.R_base (Kd.S_R ho1))) (Kd.R_base ho2)) (fun _ h_ => h_.1))
       have n4_ := zM (Kd.N_mono (Kd.N_told (Kd.N_told (Kd.N_told (Kd.N_old (Kd.N_below HO_130001.out zg) hb) (by first | exact Kd.N_base ho0 | exact Kd.R_base (Kd.S_R ho0))) (by first | exact Kd.N_base ho1 | exact Kd.R_base (Kd.S_R ho1))) (Kd.R_base ho2)) (fun _ h_ => h_.1))
       have n5_ := zM (Kd.R_elder' (zr HO_130003.out) (Kd.R_base ho2) hb)
       have n6_ := zM (Kd.N_mono (Kd.N_told (Kd.N_told (Kd.N_told (Kd.N_old (Kd.N_below HO133.out zg) hb) (by first | exact Kd.N_base ho0 | exact Kd.R_base (Kd.S_R ho0))) (by first | exact Kd.N_base ho1 | exact Kd.R_base (Kd.S_R ho1))) (Kd.R_base ho2)) (fun _ h_ => h_.1))
       have n7_ := zM (Kd.N_mono (Kd.N_told (Kd.N_told (Kd.N_told (Kd.N_old (Kd.N_below HO136.out zg) hb) (by first | exact Kd.N_base ho0 | exact Kd.R_base (Kd.S_R ho0))) (by first | exact Kd.N_base ho1 | exact Kd.R_base (Kd.S_R ho1))) (Kd.R_base ho2)) (fun _ h_ => h_.1))
       have n8_ := zM (Kd.R_elder' (zr HO140.out) (Kd.R_base ho2) hb)
       have n9_ := zM (Kd.N_lower (Kd.N_mono (ok' := fun k_ => some k_ ≠ (v148 : Value).ownBlock ∧ some k_ ≠ (v152 : Value).ownBlock ∧ some k_ ≠ (.slice Ao15 t106.length co15 : Value).ownBlock ∧ some k_ ≠ (.slice Ao18 t109.length co18 : Value).ownBlock ∧ some k_ ≠ (.slice Ao19 t113.length co19 : Value).ownBlock ∧ some k_ ≠ (.slice Ao22 t118.length co22 : Value).ownBlock ∧ some k_ ≠ (.slice Ao26 t121.length co26 : Value).ownBlock ∧ some k_ ≠ (.slice Ao27 t125.length co27 : Value).ownBlock ∧ some k_ ≠ (.slice Ao61 t131.length co61 : Value).ownBlock ∧ some k_ ≠ (.slice Ao62 t134.length co62 : Value).ownBlock ∧ some k_ ≠ (.slice Ao63 t138.length co63 : Value).ownBlock ∧ k_ ≠ gb101 ∧ k_ ≠ gb117 ∧ k_ ≠ gb129) (Kd.S_N (Kd.S_bound (Kd.S_apart' (Kd.S_apart' ho0 (Kd.S_typed ho1) (by decide)) (Kd.R_typed ho2) (by decide)))) (fun k_ hk_ => ⟨hk_.1.1.2, hk_.1.2, (Kd.fresh' (Kd.N_lt (Kd.N_below HO_118000.out zg)) k_ hk_.2.1), (Kd.fresh' (Kd.N_lt (Kd.N_below HO_118001.out zg)) k_ hk_.2.1), (Kd.fresh' (Kd.R_lt (zr HO_118003.out)) k_ hk_.2.1), (Kd.fresh' (Kd.N_lt (Kd.N_below HO_130000.out zg)) k_ hk_.2.1), (Kd.fresh' (Kd.N_lt (Kd.N_below HO_130001.out zg)) k_ hk_.2.1), (Kd.fresh' (Kd.R_lt (zr HO_130003.out)) k_ hk_.2.1), (Kd.fresh' (Kd.N_lt (Kd.N_below HO133.out zg)) k_ hk_.2.1), (Kd.fresh' (Kd.N_lt (Kd.N_below HO136.out zg)) k_ hk_.2.1), (Kd.fresh' (Kd.R_lt (zr HO140.out)) k_ hk_.2.1), (Kd.freshB (g := gb101) (o := .cells #[.slice A1_0 l1_0.length c1_0, .slice A1_1 l1_1.length c1_1, .int .i64 a1_2, .slice A1_3 l1_3.length c1_3] 28 (0, 0)) (zk BK101.out) k_ hk_.2.1), (Kd.freshB (g := gb117) (o := .cells #[.slice Ao15 t106.length co15, .slice Ao18 t109.length co18, .int .i64 t112, .slice Ao19 t113.length co19] 28 (0, 0)) (zk BK117.out) k_ hk_.2.1), (Kd.freshB (g := gb129) (o := .cells #[.slice Ao22 t118.length co22, .slice Ao26 t121.length co26, .int .i64 t124, .slice Ao27 t125.length co27] 28 (0, 0)) (zk BK129.out) k_ hk_.2.1)⟩)) (below_size zb))
       have n10_ := zM (Kd.N_lower (Kd.N_mono (ok' := fun k_ => some k_ ≠ (v145 : Value).ownBlock ∧ some k_ ≠ (v152 : Value).ownBlock ∧ some k_ ≠ (.slice Ao15 t106.length co15 : Value).ownBlock ∧ some k_ ≠ (.slice Ao18 t109.length co18 : Value).ownBlock ∧ some k_ ≠ (.slice Ao19 t113.length co19 : Value).ownBlock ∧ some k_ ≠ (.slice Ao22 t118.length co22 : Value).ownBlock ∧ some k_ ≠ (.slice Ao26 t121.length co26 : Value).ownBlock ∧ some k_ ≠ (.slice Ao27 t125.length co27 : Value).ownBlock ∧ some k_ ≠ (.slice Ao61 t131.length co61 : Value).ownBlock ∧ some k_ ≠ (.slice Ao62 t134.length co62 : Value).ownBlock ∧ some k_ ≠ (.slice Ao63 t138.length co63 : Value).ownBlock ∧ k_ ≠ gb101 ∧ k_ ≠ gb117 ∧ k_ ≠ gb129) (Kd.S_N (Kd.S_bound (Kd.S_apart' (Kd.S_apart' ho1 (Kd.S_typed ho0) (by decide)) (Kd.R_typed ho2) (by decide)))) (fun k_ hk_ => ⟨hk_.1.1.2, hk_.1.2, (Kd.fresh' (Kd.N_lt (Kd.N_below HO_118000.out zg)) k_ hk_.2.1), (Kd.fresh' (Kd.N_lt (Kd.N_below HO_118001.out zg)) k_ hk_.2.1), (Kd.fresh' (Kd.R_lt (zr HO_118003.out)) k_ hk_.2.1), (Kd.fresh' (Kd.N_lt (Kd.N_below HO_130000.out zg)) k_ hk_.2.1), (Kd.fresh' (Kd.N_lt (Kd.N_below HO_130001.out zg)) k_ hk_.2.1), (Kd.fresh' (Kd.R_lt (zr HO_130003.out)) k_ hk_.2.1), (Kd.fresh' (Kd.N_lt (Kd.N_below HO133.out zg)) k_ hk_.2.1), (Kd.fresh' (Kd.N_lt (Kd.N_below HO136.out zg)) k_ hk_.2.1), (Kd.fresh' (Kd.R_lt (zr HO140.out)) k_ hk_.2.1), (Kd.freshB (g := gb101) (o := .cells #[.slice A1_0 l1_0.length c1_0, .slice A1_1 l1_1.length c1_1, .int .i64 a1_2, .slice A1_3 l1_3.length c1_3] 28 (0, 0)) (zk BK101.out) k_ hk_.2.1), (Kd.freshB (g := gb117) (o := .cells #[.slice Ao15 t106.length co15, .slice Ao18 t109.length co18, .int .i64 t112, .slice Ao19 t113.length co19] 28 (0, 0)) (zk BK117.out) k_ hk_.2.1), (Kd.freshB (g := gb129) (o := .cells #[.slice Ao22 t118.length co22, .slice Ao26 t121.length co26, .int .i64 t124, .slice Ao27 t125.length co27] 28 (0, 0)) (zk BK129.out) k_ hk_.2.1)⟩)) (below_size zb))
       have n11_ := zM (Kd.R_lower (Kd.R_new' (Kd.R_new' (Kd.R_new' ho2 (Kd.R_lt (zr HO_118003.out))) (Kd.R_lt (zr HO_130003.out))) (Kd.R_lt (zr HO140.out))) (below_size zb))
       have n12_ := zM (blk_below (zk BK101.out) hb)
       have n13_ := zM (blk_below (zk BK117.out) hb)
       have n14_ := zM (blk_below (zk BK129.out) hb)
       have n15_ := zM (below_step zb hb)
       clear HO_118000
       clear HO_118001
       clear HO_118003
       clear HO_130000
       clear HO_130001
       clear HO_130003
       clear HO133
       clear HO136
       clear HO140
       clear BK101
       clear BK117
       clear BK129
       clear HB
       have HO_118000 := n0_
       have HO_118001 := n1_
       have HO_118003 := n2_
       have HO_130000 := n3_
       have HO_130001 := n4_
       have HO_130003 := n5_
       have HO133 := n6_
       have HO136 := n7_
       have HO140 := n8_
       have HO146 := n9_
       have HO149 := n10_
       have HO153 := n11_
       have BK101 := n12_
       have BK117 := n13_
       have BK129 := n14_
       have HB := n15_
       clear n0_ n1_ n2_ n3_ n4_ n5_ n6_ n7_ n8_ n9_ n10_ n11_ n12_ n13_ n14_ n15_
       (try clear hb)
       (try clear hb2)
       (try clear hk)
       (try clear hi)
       (try clear ho0)
       (try clear ho1)
       (try clear ho2)
       obtain ⟨Ao68, co68, eo68⟩ := Kd.N_slice HO146.out
       (first | subst eo68 | (injection eo68 with f1_ f2_ f3_; have f4_ := f1_.symm; have f5_ := f3_.symm; clear f1_ f2_ f3_; subst f4_; subst f5_))
       obtain ⟨Ao69, co69, eo69⟩ := Kd.N_slice HO149.out
       (first | subst eo69 | (injection eo69 with f1_ f2_ f3_; have f4_ := f1_.symm; have f5_ := f3_.symm; clear f1_ f2_ f3_; subst f4_; subst f5_))
       obtain ⟨Ao70, co70, eo70⟩ := Kd.R_slice HO153.out
       (first | subst eo70 | (injection eo70 with f1_ f2_ f3_; have f4_ := f1_.symm; have f5_ := f3_.symm; clear f1_ f2_ f3_; subst f4_; subst f5_))
       refine hK.out _ _ ⟨(zX BK101.out 0).trans rfl, (zX BK101.out 1).trans rfl, (zX BK101.out 2).trans rfl, (zX BK101.out 3).trans rfl⟩ (fun hHeld => ?_)
       clear hK K
       refine norm_ (a' := ?_) ?_ ?_
       rotate_left
       ·
        show Act.put _ (some 43) _ = _
        simp only [Act.put, List.setIfInBounds_toArray, List.set_cons_zero, List.set_cons_succ, i64_w, i32_w]
        rfl
       refine one_ (i := 13) (N := some 44) #[true, true, true, true, true, true, true, true, true, true, true, true, true, true, false, false, false, false] rfl rfl (one_of HT_.out (by kernel_rfl)) (by decide) (fun K hK => ?_)
       refine goes_ Try.func16 (by kernel_rfl) rfl #[.agg #[.slice Ao68 t144.length co68, .slice Ao69 t147.length co69, .int .i64 t150, .slice Ao70 t151.length co70]] (by rfl) rfl rfl zl ?_
       with_reducible refine (rewrite_Check.calls kj7 _ _ t144 _ _ t147 t150 _ _ t151 t154 _ ?side1 ?side2 ?side3 ?side4 ?side5 ?side6 A58.out).mono ?_
       (case side1 => exact Kd.C_below (Kd.N_reads' HO146.out).2.2 zg)
       (case side2 => exact (Kd.N_reads' HO146.out).2.1)
       (case side3 => exact Kd.C_below (Kd.N_reads' HO149.out).2.2 zg)
       (case side4 => exact (Kd.N_reads' HO149.out).2.1)
       (case side5 => exact Kd.C_below (Kd.R_reads' HO153.out).2.2 zg)
       (case side6 => exact (Kd.R_reads' HO153.out).2.1)
       rintro e w71 ⟨rfl, hb⟩
       refine ⟨_, rfl, ?_⟩
       have n0_ := zM (Kd.N_below (Kd.N_below HO_118000.out zg) hb)
       have n1_ := zM (Kd.N_below (Kd.N_below HO_118001.out zg) hb)
       have n2_ := zM (Kd.R_below (zr HO_118003.out) hb)
       have n3_ := zM (Kd.N_below (Kd.N_below HO_130000.out zg) hb)
       have n4_ := zM (Kd.N_below (Kd.N_below HO_130001.out zg) hb)
       have n5_ := zM (Kd.R_below (zr HO_130003.out) hb)
       have n6_ := zM (Kd.N_below (Kd.N_below HO133.out zg) hb)
       have n7_ := zM (Kd.N_below (Kd.N_below HO136.out zg) hb)
       have n8_ := zM (Kd.R_below (zr HO140.out) hb)
       have n9_ := zM (Kd.N_below (Kd.N_below HO146.out zg) hb)
       have n10_ := zM (Kd.N_below (Kd.N_below HO149.out zg) hb)
       have n11_ := zM (Kd.R_below (zr HO153.out) hb)
       have n12_ := zM (blk_below (zk BK101.out) hb)
       have n13_ := zM (blk_below (zk BK117.out) hb)
       have n14_ := zM (blk_below (zk BK129.out) hb)
       have n15_ := zM (below_step zb hb)
       clear HO_118000
       clear HO_118001
       clear HO_118003
       clear HO_130000
       clear HO_130001
       clear HO_130003
       clear HO133
       clear HO136
       clear HO140
       clear HO146
       clear HO149
       clear HO153
       clear BK101
       clear BK117
       clear BK129
       clear HB
       have HO_118000 := n0_
       have HO_118001 := n1_
       have HO_118003 := n2_
       have HO_130000 := n3_
       have HO_130001 := n4_
       have HO_130003 := n5_
       have HO133 := n6_
       have HO136 := n7_
       have HO140 := n8_
       have HO146 := n9_
       have HO149 := n10_
       have HO153 := n11_
       have BK101 := n12_
       have BK117 := n13_
       have BK129 := n14_
       have HB := n15_
       clear n0_ n1_ n2_ n3_ n4_ n5_ n6_ n7_ n8_ n9_ n10_ n11_ n12_ n13_ n14_ n15_
       (try clear hb)
       (try clear hb2)
       (try clear hk)
       (try clear hi)
       refine hK.out _ _ ⟨(zX BK101.out 0).trans rfl, (zX BK101.out 1).trans rfl, (zX BK101.out 2).trans rfl, (zX BK101.out 3).trans rfl⟩ (fun hHeld => ?_)
       clear hK K
       refine norm_ (a' := ?_) ?_ ?_
       rotate_left
       ·
        show Act.put _ (some 44) _ = _
        simp only [Act.put, List.setIfInBounds_toArray, List.set_cons_zero, List.set_cons_succ, i64_w, i32_w]
        rfl
       refine pure_ (i := 14) (N := some 45) (v := ?_) (a' := ?_) #[true, true, true, true, true, true, true, true, true, true, true, true, true, true, true, false, false, false] rfl rfl (any_of HT_.out (by kernel_rfl)) (fun _ _ _ h => h) (Or.inl ⟨by rfl, ?_⟩) ?_ ?_
       rotate_left
       ·
        intro w'
        go_simp
        with_reducible rfl
       rotate_left
       ·
        simp only [Act.put, List.setIfInBounds_toArray, List.set_cons_zero, List.set_cons_succ, i64_w, i32_w]
        rfl
       refine pure_ (i := 15) (N := some 46) (v := ?_) (a' := ?_) #[true, true, true, true, true, true, true, true, true, true, true, true, true, true, true, true, false, false] rfl rfl (any_of HT_.out (by kernel_rfl)) (fun _ _ _ h => h) (Or.inl ⟨by rfl, ?_⟩) ?_ ?_
       rotate_left
       ·
        intro w'
        go_simp
        with_reducible rfl
       rotate_left
       ·
        simp only [Act.put, List.setIfInBounds_toArray, List.set_cons_zero, List.set_cons_succ, i64_w, i32_w]
        rfl
       refine pure_ (i := 16) (N := some 47) (v := ?_) (a' := ?_) #[true, true, true, true, true, true, true, true, true, true, true, true, true, true, true, true, true, false] rfl rfl (any_of HT_.out (by kernel_rfl)) (fun _ _ _ h => h) (Or.inl ⟨by rfl, ?_⟩) ?_ ?_
       rotate_left
       ·
        intro w'
        go_simp
        with_reducible rfl
       rotate_left
       ·
        simp only [Act.put, List.setIfInBounds_toArray, List.set_cons_zero, List.set_cons_succ, i64_w, i32_w]
        rfl
       refine pure_ (i := 17) (N := some 4) (v := ?_) (a' := ?_) #[true, true, true, true, true, true, true, true, true, true, true, true, true, true, true, true, true, true] rfl rfl (any_of HT_.out (by kernel_rfl)) (fun _ _ _ h => h) (Or.inl ⟨by rfl, ?_⟩) ?_ ?_
       rotate_left
       ·
        intro w'
        go_simp
        with_reducible rfl
       rotate_left
       ·
        simp only [Act.put, List.setIfInBounds_toArray, List.set_cons_zero, List.set_cons_succ, i64_w, i32_w]
        rfl
       refine done_ (done_of HT_.out (by kernel_rfl)) ?_
       try go_wp2
       go_ret
       exact ⟨zw, zb⟩
     ·
      rw [if_neg c46] at H
      have c46b0 : ((t141 == 0) == t142) = false := by simpa using c46
      (try (have c46b1 : decide ((t141 == 0) = t142) = false := by simpa using c46))
      (try (have c46b2 : ((t141 == 0) == t142) = false := by simpa using c46))
      (try (have c46b3 : ¬ ((t141 == 0) = t142) := by simpa using c46))
      clear c46
      exact absurd ((zS H).trans HRT.out) (by decide)
 ·
  replace c4 := zI c4
  subst c4
  have H1 : (some false) = some r := by rw [if_neg (show ¬ (false = true) by decide)] at H; exact H
  exact absurd ((zS H1).trans HRT.out) (by decide)

end Go.Proofs.Ytdlkhpfgkghhmaa.P

-- ==== Open
/- What came in and can be read as data, read as the print's kinds: for each kind one fact, put together by the types' shapes. -/
set_option linter.unusedVariables false
namespace Go.Proofs.Ytdlkhpfgkghhmaa.Open
open Go.RowKit Go.Proofs.YtdlkhpfgkghhmaaW.PrintWords Go.Proofs.Ytdlkhpfgkghhmaa.Rows

structure Opens {α : Type} (P : Program) (t : TypeId) (d : Kd α) (Sz : α → Prop) (Bk : α → Nat) : Prop where
 cells : P.cellsOf t = d.sz
 go : ∀ {H : Type} {enc : TypeId × Value → H} {w : World} {base : Nat} {spare : Nat → Bool} {held : Bool} {n : Nat} {cs : List Value} {x : DataW H × List MemPlace},
  DataW.trod enc P w base spare held n t cs = some x → (∀ m ∈ x.1.weights P t, m ≤ reachBytes) → ∃ v : α, d.K w v cs ∧ Sz v ∧ Bk v ≤ uptoBulk x.1

theorem opens_int {P : Program} {t : TypeId} {k : IntKind} (ht : P.underlying t = some (.int k)) (hc : P.cellsOf t = 1) : Opens P t (Kd.int k) (fun a => (Lit.int k a).wf = true) (fun _ => 1) := by
 refine ⟨hc, fun h _ => ?_⟩
 obtain ⟨a, rfl, rfl, hw⟩ := DataW.trod_int ht h
 exact ⟨a, rfl, hw, by simp [uptoBulk]⟩

theorem opens_string {P : Program} {t : TypeId} (ht : P.underlying t = some .string) (hc : P.cellsOf t = 1) : Opens P t Kd.string (fun s => s.size ≤ 140737488351232) (fun s => s.size + 1) := by
 refine ⟨hc, fun h hw => ?_⟩
 obtain ⟨a, rfl, rfl, hs⟩ := DataW.trod_string ht h
 have hl : a.data.toList.length = a.size := data_length a
 refine ⟨a, rfl, ?_, ?_⟩
 ·
  have := hw a.data.toList.length (by simp [DataW.weights])
  rw [hl] at this
  exact this
 ·
  simp only [uptoBulk]
  omega

theorem mem_weightsAll {H : Type} {P : Program} {e : TypeId} {d : DataW H} : ∀ {l : List (DataW H)}, d ∈ l → ∀ {m : Nat}, m ∈ d.weights P e → m ∈ DataW.weightsAll P e l
 | a :: l, h, m, hm => by
  simp only [DataW.weightsAll, List.mem_append]
  rcases List.mem_cons.1 h with rfl | h
  ·
   exact .inl hm
  ·
   exact .inr (mem_weightsAll h hm)
 | [], h, _, _ => by cases h

def bulkAll {α : Type} (Bk : α → Nat) (l : List α) : Nat := (l.map Bk).sum

theorem bulk_all_le {H α : Type} (Bk : α → Nat) : ∀ (xs : List α) (ds : List (DataW H)), xs.length = ds.length → (∀ (i : Nat) x d, xs[i]? = some x → ds[i]? = some d → Bk x ≤ uptoBulk d) → bulkAll Bk xs ≤ uptoBulkAll ds
 | [], [], _, _ => by simp [bulkAll, uptoBulkAll]
 | x :: xs, d :: ds, hl, h => by
  have h0 := h 0 x d rfl rfl
  have h1 := bulk_all_le Bk xs ds (by simpa using hl) (fun i x' d' hx hd => h (i + 1) x' d' (by simpa using hx) (by simpa using hd))
  simp only [bulkAll, uptoBulkAll, List.map_cons, List.sum_cons] at h1 ⊢
  omega
 | [], _ :: _, hl, _ => by simp at hl
 | _ :: _, [], hl, _ => by simp at hl

theorem opens_slice {α : Type} {P : Program} {t e : TypeId} {d : Kd α} {Sz : α → Prop} {Bk : α → Nat} {b : Nat} (ht : P.underlying t = some (.slice e)) (hc : P.cellsOf t = 1) (hb : P.bytesOf e = b) (ho : Opens P e d Sz Bk) :
 Opens P t (Kd.slice e d) (fun l => l.length * b ≤ 140737488351232 ∧ ∀ x ∈ l, Sz x) (fun l => bulkAll Bk l + 1) := by
 refine ⟨hc, ?_⟩
 intro H enc w base spare held n cs x h hw
 rcases Go.Deep.open_slice ht h with ⟨rfl, rfl⟩ | ⟨a, len, cap, m, n', D, Pl, rfl, _, hl, hm, hmm, rfl, hx⟩
 ·
  exact ⟨[], ⟨none, 0, rfl, Nat.le_refl _, Kd.C_nil d w⟩, ⟨by simp, by simp⟩, by simp [bulkAll, uptoBulk]⟩
 ·
  have hlm : len ≤ m := by rw [hmm]; split <;> omega
  have hel : ∀ i, i < len → ∃ v : α, (∃ cs', w.cells? base (a.add (i * P.cellsOf e)) (P.cellsOf e) = some cs' ∧ d.K w v cs') ∧ Sz v ∧ Bk v ≤ uptoBulk (D i) := by
   intro i hi
   obtain ⟨cs', h1, h2⟩ := hx i (by omega)
   obtain ⟨v, hv, hs, hbk⟩ := ho.go h2 (fun m' hm' => hw m' (by
    simp only [DataW.weights, ht, List.mem_cons, List.mem_append]
    exact .inr (.inl (mem_weightsAll (List.mem_map.2 ⟨i, List.mem_range.2 hi, rfl⟩) hm'))))
   exact ⟨v, ⟨cs', h1, hv⟩, hs, hbk⟩
  have hex : ∃ l : List α, l.length = len ∧ ∀ (i : Nat) v, l[i]? = some v → (∃ cs', w.cells? base (a.add (i * P.cellsOf e)) (P.cellsOf e) = some cs' ∧ d.K w v cs') ∧ Sz v ∧ Bk v ≤ uptoBulk (D i) := by
   clear hx hw h hmm hlm hl hm
   induction len with
   | zero => exact ⟨[], rfl, fun i v hv => by simp at hv⟩
   | succ k ih =>
    obtain ⟨l, h1, h2⟩ := ih (fun i hi => hel i (by omega))
    obtain ⟨v, hv⟩ := hel k (by omega)
    refine ⟨l ++ [v], by simp [h1], fun i u hu => ?_⟩
    by_cases hi : i < l.length
    ·
     rw [List.getElem?_append_left hi] at hu
     exact h2 i u hu
    ·
     have hik : i = l.length := by
      have := (List.getElem?_eq_some_iff.1 hu).1
      simp at this
      omega
     subst hik
     simp at hu
     subst hu
     rw [h1]
     exact hv
  obtain ⟨l, hll, hlv⟩ := hex
  subst hll
  refine ⟨l, ⟨some a, cap, rfl, hl, rfl, ?_, fun hp => ⟨a, rfl, fun j v hj => ?_⟩⟩, ⟨?_, ?_⟩, ?_⟩
  ·
   have : maxLen ≤ 9223372036854775807 := by decide
   omega
  ·
   obtain ⟨⟨cs', h1, h2⟩, _, _⟩ := hlv j v hj
   refine ⟨cs', d.K_len h2, h2, fun i u hu => ?_⟩
   obtain ⟨_, hlen, hcell⟩ := World.cells?_some h1
   have hi : i < cs'.length := (List.getElem?_eq_some_iff.1 hu).1
   have hsz := d.K_len h2
   rw [ho.cells] at hcell hlen
   have := hcell i (by omega)
   rw [hu] at this
   rw [← this, add_add]
  ·
   have := hw ((((List.range l.length).map D).length + ((List.range (m - l.length)).map fun j => D (l.length + j)).length) * P.bytesOf e) (by simp [DataW.weights, ht])
   simp only [List.length_map, List.length_range] at this
   rw [hb] at this
   have h3 : reachBytes = 140737488351232 := by decide
   rw [h3] at this
   have h4 : l.length * b ≤ (l.length + (m - l.length)) * b := Nat.mul_le_mul_right _ (by omega)
   omega
  ·
   intro v hv
   obtain ⟨i, hi, rfl⟩ := List.mem_iff_getElem.1 hv
   exact (hlv i _ (List.getElem?_eq_getElem hi)).2.1
  ·
   have := bulk_all_le Bk l ((List.range l.length).map D) (by simp) (fun i v dd hv hd => by
    have hi : i < l.length := (List.getElem?_eq_some_iff.1 hv).1
    simp [hi] at hd
    rw [← hd]
    exact (hlv i v hv).2.2)
   simp only [uptoBulk]
   omega

/-! Structs: the fields, one behind the other. -/
def offs (P : Program) : List TypeId → Nat → Nat
 | [], _ => 0
 | _, 0 => 0
 | t :: ts, i + 1 => P.cellsOf t + offs P ts i

structure OpensF {α : Type} (P : Program) (ts : List TypeId) (d : Kd α) (Sz : α → Prop) (Bk : α → Nat) : Prop where
 cells : (ts.map P.cellsOf).sum = d.sz
 go : ∀ {H : Type} {enc : TypeId × Value → H} {w : World} {base : Nat} {spare : Nat → Bool} {held : Bool} {n : Nat} {cs : List Value} {xs : List (DataW H × List MemPlace)},
  cs.length = d.sz → xs.length = ts.length → (∀ (i : Nat) t, ts[i]? = some t → DataW.trod enc P w base spare held n t ((cs.drop (offs P ts i)).take (P.cellsOf t)) = xs[i]?) →
  (∀ m ∈ DataW.weightsEach P ts (xs.map (·.1)), m ≤ reachBytes) → ∃ v : α, d.K w v cs ∧ Sz v ∧ Bk v ≤ uptoBulkAll (xs.map (·.1))

theorem opensF_one {α : Type} {P : Program} {t : TypeId} {d : Kd α} {Sz : α → Prop} {Bk : α → Nat} (ho : Opens P t d Sz Bk) : OpensF P [t] d Sz Bk := by
 refine ⟨by simp [ho.cells], fun {H enc w base spare held n cs xs} hl hx h hw => ?_⟩
 match xs, hx with
 | [y], _ =>
  have h0 := h 0 t rfl
  rw [show offs P [t] 0 = 0 from rfl, List.drop_zero, List.take_of_length_le (by rw [ho.cells]; omega)] at h0
  obtain ⟨v, h1, h2, h3⟩ := ho.go h0 (fun m hm => hw m (by simp [DataW.weightsEach, hm]))
  exact ⟨v, h1, h2, by simpa [uptoBulkAll] using h3⟩

theorem opensF_cons {α β : Type} {P : Program} {t : TypeId} {ts : List TypeId} {d : Kd α} {ds : Kd β} {Sz : α → Prop} {Bk : α → Nat} {Szs : β → Prop} {Bks : β → Nat} (ho : Opens P t d Sz Bk) (hs : OpensF P ts ds Szs Bks) :
 OpensF P (t :: ts) (Kd.pair d ds) (fun x => Sz x.1 ∧ Szs x.2) (fun x => Bk x.1 + Bks x.2) := by
 refine ⟨by simp [ho.cells, hs.cells, Kd.pair], fun {H enc w base spare held n cs xs} hl hx h hw => ?_⟩
 match xs, hx with
 | y :: ys, hx =>
  have hl' : cs.length = d.sz + ds.sz := hl
  have h0 := h 0 t rfl
  rw [show offs P (t :: ts) 0 = 0 from rfl, List.drop_zero, ho.cells] at h0
  obtain ⟨v, h1, h2, h3⟩ := ho.go h0 (fun m hm => hw m (by simp [DataW.weightsEach, hm]))
  obtain ⟨u, g1, g2, g3⟩ := hs.go (cs := cs.drop d.sz) (xs := ys) (enc := enc) (w := w) (base := base) (spare := spare) (held := held) (n := n) (by rw [List.length_drop]; omega) (by simpa using hx) (fun i t' ht' => by
   have := h (i + 1) t' (by simpa using ht')
   rw [show offs P (t :: ts) (i + 1) = P.cellsOf t + offs P ts i from rfl, ho.cells] at this
   rw [List.drop_drop]
   simpa using this) (fun m hm => hw m (by simp only [List.map_cons, DataW.weightsEach, List.mem_append]; exact .inr hm))
  refine ⟨(v, u), ⟨cs.take d.sz, cs.drop d.sz, (List.take_append_drop _ _).symm, h1, g1⟩, ⟨h2, g2⟩, ?_⟩
  simp only [List.map_cons, uptoBulkAll]
  omega

theorem opens_struct {α β : Type} {P : Program} {t : TypeId} {fs : Array Field} {ts : List TypeId} {d : Kd α} {f : β → α} {Sz : α → Prop} {Bk : α → Nat} (ht : P.underlying t = some (.struct fs)) (hts : fs.toList.map (·.type) = ts)
 (hoff : ∀ (i : Nat) fl, fs[i]? = some fl → fl.offset = offs P ts i) (hc : P.cellsOf t = d.sz) (ho : OpensF P ts d Sz Bk) (g : α → β) (hg : ∀ v, f (g v) = v) :
 Opens P t (Kd.iso d f) (fun x => Sz (f x)) (fun x => Bk (f x) + 1) := by
 refine ⟨hc, fun {H enc w base spare held n cs x} h hw => ?_⟩
 obtain ⟨xs, n', _, rfl, hl, hlen, hf⟩ := DataW.trod_struct ht h
 have hlt : ts.length = fs.size := by rw [← hts]; simp
 obtain ⟨v, h1, h2, h3⟩ := ho.go (cs := cs) (xs := xs) (enc := enc) (w := w) (base := base) (spare := spare) (held := held) (n := n') (by rw [hl, hc]) (by omega) (fun i t' ht' => by
  have hi : i < fs.size := by rw [← hlt]; exact (List.getElem?_eq_some_iff.1 ht').1
  have hfi : fs[i]? = some fs[i] := Array.getElem?_eq_getElem hi
  have := hf i fs[i] hfi
  rw [hoff i _ hfi] at this
  have he : fs[i].type = t' := by
   rw [← hts, List.getElem?_map, Array.getElem?_toList, hfi] at ht'
   simpa using ht'
  rw [he] at this
  exact this) (fun m hm => hw m (by simp only [DataW.weights, ht, hts]; exact hm))
 exact ⟨g v, by show d.K w (f (g v)) cs; rw [hg]; exact h1, by rw [hg]; exact h2, by rw [hg]; simp only [uptoBulk]; omega⟩

end Go.Proofs.Ytdlkhpfgkghhmaa.Open

-- ==== PO
set_option linter.unusedVariables false
namespace Go.Proofs.Ytdlkhpfgkghhmaa.P
open Go.RowKit Go.Proofs.YtdlkhpfgkghhmaaW.PrintWords Go.Proofs.Ytdlkhpfgkghhmaa.Open
def sz9 (s : ByteArray) : Prop := s.size ≤ 140737488351232
def bk9 (s : ByteArray) : Nat := s.size + 1
theorem op9 : Opens Try.prog 9 Kd.string sz9 bk9 := opens_string Try.underlying9 (by kernel_rfl)
def sz3 (a : Int) : Prop := (Lit.int .i64 a).wf = true
def bk3 (_ : Int) : Nat := 1
theorem op3 : Opens Try.prog 3 (Kd.int .i64) sz3 bk3 := opens_int Try.underlying3 (by kernel_rfl)
def sz54 (x : S54) : Prop := sz9 x.f0 ∧ sz3 x.f1
def bk54 (x : S54) : Nat := (bk9 x.f0 + bk3 x.f1) + 1
theorem op54 : Opens Try.prog 54 k54 sz54 bk54 := opens_struct (P := Try.prog) (ts := [9, 3]) (f := fun x : S54 => (x.f0, x.f1)) Try.underlying54 (by kernel_rfl) (fun i fl h => by
 match i, h with
 | 0, h => obtain rfl := Option.some.inj h; show (0 : Nat) = offs Try.prog [9, 3] 0; kernel_rfl
 | 1, h => obtain rfl := Option.some.inj h; show (1 : Nat) = offs Try.prog [9, 3] 1; kernel_rfl
 | i + 2, h => simp at h) (by kernel_rfl) (opensF_cons op9 (opensF_one op3)) (fun x => ⟨x.1, x.2⟩) (fun _ => rfl)
def sz23 (l : List (S54)) : Prop := l.length * 24 ≤ 140737488351232 ∧ ∀ x ∈ l, sz54 x
def bk23 (l : List (S54)) : Nat := bulkAll bk54 l + 1
theorem op23 : Opens Try.prog 23 (Kd.slice 54 k54) sz23 bk23 := opens_slice Try.underlying23 (by kernel_rfl) (by kernel_rfl) op54
def sz70 (x : S70) : Prop := sz3 x.f0 ∧ sz54 x.f1 ∧ sz23 x.f2
def bk70 (x : S70) : Nat := (bk3 x.f0 + (bk54 x.f1 + bk23 x.f2)) + 1
theorem op70 : Opens Try.prog 70 k70 sz70 bk70 := opens_struct (P := Try.prog) (ts := [3, 54, 23]) (f := fun x : S70 => (x.f0, x.f1, x.f2)) Try.underlying70 (by kernel_rfl) (fun i fl h => by
 match i, h with
 | 0, h => obtain rfl := Option.some.inj h; show (0 : Nat) = offs Try.prog [3, 54, 23] 0; kernel_rfl
 | 1, h => obtain rfl := Option.some.inj h; show (1 : Nat) = offs Try.prog [3, 54, 23] 1; kernel_rfl
 | 2, h => obtain rfl := Option.some.inj h; show (3 : Nat) = offs Try.prog [3, 54, 23] 2; kernel_rfl
 | i + 3, h => simp at h) (by kernel_rfl) (opensF_cons op3 (opensF_cons op54 (opensF_one op23))) (fun x => ⟨x.1, x.2.1, x.2.2⟩) (fun _ => rfl)
def sz24 (l : List (S70)) : Prop := l.length * 56 ≤ 140737488351232 ∧ ∀ x ∈ l, sz70 x
def bk24 (l : List (S70)) : Nat := bulkAll bk70 l + 1
theorem op24 : Opens Try.prog 24 (Kd.slice 70 k70) sz24 bk24 := opens_slice Try.underlying24 (by kernel_rfl) (by kernel_rfl) op70
def sz25 (l : List (List (S54))) : Prop := l.length * 24 ≤ 140737488351232 ∧ ∀ x ∈ l, sz23 x
def bk25 (l : List (List (S54))) : Nat := bulkAll bk23 l + 1
theorem op25 : Opens Try.prog 25 (Kd.slice 23 (Kd.slice 54 k54)) sz25 bk25 := opens_slice Try.underlying25 (by kernel_rfl) (by kernel_rfl) op23
def sz26 (l : List ByteArray) : Prop := l.length * 16 ≤ 140737488351232 ∧ ∀ x ∈ l, sz9 x
def bk26 (l : List ByteArray) : Nat := bulkAll bk9 l + 1
theorem op26 : Opens Try.prog 26 (Kd.slice 9 Kd.string) sz26 bk26 := opens_slice Try.underlying26 (by kernel_rfl) (by kernel_rfl) op9
def sz28 (x : S28) : Prop := sz24 x.f0 ∧ sz25 x.f1 ∧ sz3 x.f2 ∧ sz26 x.f3
def bk28 (x : S28) : Nat := (bk24 x.f0 + (bk25 x.f1 + (bk3 x.f2 + bk26 x.f3))) + 1
theorem op28 : Opens Try.prog 28 k28 sz28 bk28 := opens_struct (P := Try.prog) (ts := [24, 25, 3, 26]) (f := fun x : S28 => (x.f0, x.f1, x.f2, x.f3)) Try.underlying28 (by kernel_rfl) (fun i fl h => by
 match i, h with
 | 0, h => obtain rfl := Option.some.inj h; show (0 : Nat) = offs Try.prog [24, 25, 3, 26] 0; kernel_rfl
 | 1, h => obtain rfl := Option.some.inj h; show (1 : Nat) = offs Try.prog [24, 25, 3, 26] 1; kernel_rfl
 | 2, h => obtain rfl := Option.some.inj h; show (2 : Nat) = offs Try.prog [24, 25, 3, 26] 2; kernel_rfl
 | 3, h => obtain rfl := Option.some.inj h; show (3 : Nat) = offs Try.prog [24, 25, 3, 26] 3; kernel_rfl
 | i + 4, h => simp at h) (by kernel_rfl) (opensF_cons op24 (opensF_cons op25 (opensF_cons op3 (opensF_one op26)))) (fun x => ⟨x.1, x.2.1, x.2.2.1, x.2.2.2⟩) (fun _ => rfl)
end Go.Proofs.Ytdlkhpfgkghhmaa.P

-- ==== PS3
namespace Go.Proofs.Ytdlkhpfgkghhmaa.P
open Go.RowKit Go.Proofs.YtdlkhpfgkghhmaaW.PrintWords
def aumbrylaw07_RewriteStarts.Pure : Prop := ∀ (l0 : List (S54)) (x1 : S28), sz23 l0 → sz28 x1 → ∃ k, aumbrylaw07_RewriteStarts.f k l0 (x1).f0 (x1).f1 (x1).f2 (x1).f3 = some true
end Go.Proofs.Ytdlkhpfgkghhmaa.P

-- ==== PLa
/- Plain laws, part a: what kind a text is: the program's way and the document's way come to one function. -/
namespace Go.Proofs.Ytdlkhpfgkghhmaa.P
open Go.RowKit Go.Proofs.YtdlkhpfgkghhmaaW.PrintWords
set_option linter.unusedVariables false
set_option linter.unusedSimpArgs false

theorem wrap_up {i : Int} (h0 : 0 ≤ i) (h : i < 9223372036854775807) : wrap64 (i + 1) = i + 1 := by
 unfold wrap64
 omega
theorem wrap_id {i : Int} (h0 : -9223372036854775808 ≤ i) (h : i ≤ 9223372036854775807) : wrap64 i = i := by
 unfold wrap64
 omega

theorem evIfp {α : Type} {c : Prop} [Decidable c] {f g : Nat → Option α} {r : α} (h : c) (hf : Ev f r) : Ev (fun k => if c then f k else g k) r :=
 Ev.congr (fun _ => if_pos h) hf
theorem evIfn {α : Type} {c : Prop} [Decidable c] {f g : Nat → Option α} {r : α} (h : ¬ c) (hf : Ev g r) : Ev (fun k => if c then f k else g k) r :=
 Ev.congr (fun _ => if_neg h) hf
theorem evIs {α : Type} {x : Option α} {a : α} (h : x = some a) : Ev (fun _ => x) a := ⟨0, fun _ _ => h⟩

def lowB (s : ByteArray) (i : Int) : Bool := (decide (97 ≤ bt s i) && decide (bt s i ≤ 122)) || (decide (48 ≤ bt s i) && decide (bt s i ≤ 57) && decide (0 < i))
def upB (s : ByteArray) (i : Int) : Bool := (decide (65 ≤ bt s i) && decide (bt s i ≤ 90)) || (decide (48 ≤ bt s i) && decide (bt s i ≤ 57) && decide (0 < i))
/-- p holds at i, i + 1, .. (d places). -/
def allN (p : Int → Bool) : Nat → Int → Bool
 | 0, _ => true
 | d + 1, i => p i && allN p d (i + 1)
theorem allN_congr {p q : Int → Bool} : ∀ (d : Nat) (i : Int), (∀ j, i ≤ j → j < i + d → p j = q j) → allN p d i = allN q d i
 | 0, _, _ => rfl
 | d + 1, i, h => by
  simp only [allN]
  rw [h i (Int.le_refl _) (by omega), allN_congr d (i + 1) (fun j h1 h2 => h j (by omega) (by omega))]
def kindS (s : ByteArray) : Int :=
 if s.size < 1 ∨ 8 < s.size then 0 else if allN (lowB s) s.size 0 = true then 1 else if allN (upB s) s.size 0 = true then 2 else 0

theorem kindS_bad {s : ByteArray} (h : s.size < 1 ∨ 8 < s.size) : kindS s = 0 := by
 unfold kindS
 exact if_pos h
theorem kindS_good {s : ByteArray} (h1 : 1 ≤ s.size) (h8 : s.size ≤ 8) : kindS s = (if allN (lowB s) s.size 0 = true then 1 else if allN (upB s) s.size 0 = true then 2 else 0) := by
 unfold kindS
 exact if_neg (by omega)
/-! ### the document's -/
theorem refKind_step (k : Nat) (s : ByteArray) (a b : Bool) (i : Int) (h0 : 0 ≤ i) (h1 : i < (s.size : Int)) :
 aumbryref03_Kind.l0 (k + 1) s a b i = aumbryref03_Kind.l0 k s (a && lowB s i) (b && upB s i) (wrap64 (i + 1)) := by
 simp only [aumbryref03_Kind.l0]
 rw [if_pos h1, if_pos h0]
 unfold lowB upB
 generalize bt s i = c
 by_cases c1 : c ≥ 48 <;> by_cases c2 : c ≤ 57 <;> by_cases c3 : c ≥ 97 <;> by_cases c4 : c ≤ 122 <;> by_cases c5 : c ≥ 65 <;> by_cases c6 : c ≤ 90 <;> first | (exfalso; omega) | (cases a <;> cases b <;> simp [c1, c2, c3, c4, c5, c6])
theorem refKind_end (k : Nat) (s : ByteArray) (a b : Bool) (i : Int) (h1 : ¬ i < (s.size : Int)) :
 aumbryref03_Kind.l0 (k + 1) s a b i = some (if a = true then 1 else if b = true then 2 else 0) := by
 simp only [aumbryref03_Kind.l0]
 rw [if_neg h1]
 cases a <;> cases b <;> rfl
theorem refKind_loop (s : ByteArray) (hs : s.size ≤ 8) : ∀ (d : Nat) (k : Nat) (a b : Bool) (i : Int), 0 ≤ i → (s.size : Int) - i = d → d < k →
 aumbryref03_Kind.l0 k s a b i = some (if (a && allN (lowB s) d i) = true then 1 else if (b && allN (upB s) d i) = true then 2 else 0)
 | 0, k, a, b, i, h0, hd, hk => by
  obtain ⟨k, rfl⟩ : ∃ m, k = m + 1 := ⟨k - 1, by omega⟩
  rw [refKind_end k s a b i (by omega)]
  simp [allN]
 | d + 1, k, a, b, i, h0, hd, hk => by
  obtain ⟨k, rfl⟩ : ∃ m, k = m + 1 := ⟨k - 1, by omega⟩
  rw [refKind_step k s a b i h0 (by omega), wrap_up h0 (by omega), refKind_loop s hs d k _ _ (i + 1) (by omega) (by omega) (by omega)]
  simp [allN, Bool.and_assoc]
theorem ev_refKind (s : ByteArray) : Ev (fun k => aumbryref03_Kind.f k s) (kindS s) := by
 refine ⟨12, fun k hk => ?_⟩
 show aumbryref03_Kind.f k s = _
 unfold aumbryref03_Kind.f
 obtain ⟨k, rfl⟩ : ∃ m, k = m + 1 := ⟨k - 1, by omega⟩
 by_cases h1 : (s.size : Int) < 1
 ·
  rw [if_pos h1]
  simp [aumbryref03_Kind.j0, kindS_bad (s := s) (.inl (by omega))]
 ·
  rw [if_neg h1]
  simp only [aumbryref03_Kind.j0]
  by_cases h2 : (s.size : Int) > 8
  ·
   rw [if_pos (by simpa using h2), kindS_bad (s := s) (.inr (by omega))]
  ·
   rw [kindS_good (s := s) (by omega) (by omega), if_neg (by simpa using h2), refKind_loop s (by omega) s.size k true true 0 (by omega) (by omega) (by omega)]
   simp

/-! ### the program's -/
def signS (c : Int) : Int × Int := if 97 ≤ c ∧ c ≤ 122 then (1, 1) else if 65 ≤ c ∧ c ≤ 90 then (2, 2) else if 48 ≤ c ∧ c ≤ 57 then (0, 3) else (0, 0)
theorem sign_at (c : Int) (k : Nat) (hk : 2 ≤ k) : name_sign.f k c = some (signS c) := by
 obtain ⟨k, rfl⟩ : ∃ m, k = m + 2 := ⟨k - 2, by omega⟩
 unfold name_sign.f signS
 by_cases c1 : c ≥ 48 <;> by_cases c2 : c ≤ 57 <;> by_cases c3 : c ≥ 97 <;> by_cases c4 : c ≤ 122 <;> by_cases c5 : c ≥ 65 <;> by_cases c6 : c ≤ 90 <;> first | (exfalso; omega) | (simp [name_sign.j0, name_sign.j1, c1, c2, c3, c4, c5, c6])
theorem bits_and_ (a b : Int) (ha : a = 0 ∨ a = 1 ∨ a = 2 ∨ a = 3) (hb : b = 0 ∨ b = 1 ∨ b = 2) : (Go.bits .and .i64 a b = 0) ↔ (b = 0 ∨ (b = 1 ∧ (a = 0 ∨ a = 2)) ∨ (b = 2 ∧ (a = 0 ∨ a = 1))) := by
 rcases ha with rfl | rfl | rfl | rfl <;> rcases hb with rfl | rfl | rfl <;> decide
def goesB (s : ByteArray) (b : Int) (i : Int) : Bool := decide (¬ (Go.bits .and .i64 (signS (bt s i)).2 b = 0))
theorem kind_loop (s : ByteArray) (b : Int) (hs : s.size ≤ 8) : ∀ (d : Nat) (k : Nat) (i : Int), 0 ≤ i → (s.size : Int) - i = d → d + 2 < k →
 name_Kind.l0 k s b (s.size : Int) i = some (if allN (goesB s b) d i = true then b else 0)
 | 0, k, i, h0, hd, hk => by
  obtain ⟨k, rfl⟩ : ∃ m, k = m + 1 := ⟨k - 1, by omega⟩
  simp only [name_Kind.l0]
  rw [if_neg (by omega)]
  simp [allN]
 | d + 1, k, i, h0, hd, hk => by
  obtain ⟨k, rfl⟩ : ∃ m, k = m + 1 := ⟨k - 1, by omega⟩
  simp only [name_Kind.l0]
  rw [if_pos (by omega), if_pos h0, if_pos (by omega), sign_at _ _ (by omega)]
  simp only [Option.bind_some]
  by_cases hg : Go.bits .and .i64 (signS (bt s i)).2 b = 0
  ·
   rw [if_pos hg]
   simp [allN, goesB, hg]
  ·
   rw [if_neg hg, wrap_up h0 (by omega), kind_loop s b hs d k (i + 1) (by omega) (by omega) (by omega)]
   simp [allN, goesB, hg]
theorem signS_two (c : Int) : (signS c).2 = 0 ∨ (signS c).2 = 1 ∨ (signS c).2 = 2 ∨ (signS c).2 = 3 := by
 unfold signS
 repeat' split
 all_goals simp
theorem goes_one (s : ByteArray) (i : Int) (hi : 0 < i) : goesB s 1 i = lowB s i := by
 have h := bits_and_ (signS (bt s i)).2 1 (signS_two _) (by simp)
 unfold goesB lowB
 rw [Bool.eq_iff_iff]
 simp only [decide_eq_true_eq, h, Bool.or_eq_true, Bool.and_eq_true]
 unfold signS
 repeat' split
 all_goals simp
 all_goals omega
theorem goes_two (s : ByteArray) (i : Int) (hi : 0 < i) : goesB s 2 i = upB s i := by
 have h := bits_and_ (signS (bt s i)).2 2 (signS_two _) (by simp)
 unfold goesB upB
 rw [Bool.eq_iff_iff]
 simp only [decide_eq_true_eq, h, Bool.or_eq_true, Bool.and_eq_true]
 unfold signS
 repeat' split
 all_goals simp
 all_goals omega
theorem kind_eq (s : ByteArray) (h1 : 1 ≤ s.size) (h8 : s.size ≤ 8) : (if allN (goesB s (signS (bt s 0)).1) s.size 0 = true then (signS (bt s 0)).1 else 0) = kindS s := by
 rw [kindS_good h1 h8]
 obtain ⟨n, hn⟩ : ∃ n, s.size = n + 1 := ⟨s.size - 1, by omega⟩
 have e1 : allN (goesB s 1) n (0 + 1) = allN (lowB s) n (0 + 1) := allN_congr _ _ (fun j h1 _ => goes_one s j (by omega))
 have e2 : allN (goesB s 2) n (0 + 1) = allN (upB s) n (0 + 1) := allN_congr _ _ (fun j h1 _ => goes_two s j (by omega))
 by_cases hl : 97 ≤ bt s 0 ∧ bt s 0 ≤ 122
 ·
  have hs : signS (bt s 0) = (1, 1) := by unfold signS; rw [if_pos hl]
  have g0 : goesB s 1 0 = true := by unfold goesB; rw [hs]; decide
  have l0 : lowB s 0 = true := by unfold lowB; simp [hl]
  have u0 : upB s 0 = false := by unfold upB; simp; omega
  simp only [hn, hs, allN, e1, g0, l0, u0, Bool.true_and, Bool.false_and]
  split <;> simp
 ·
  by_cases hu : 65 ≤ bt s 0 ∧ bt s 0 ≤ 90
  ·
   have hs : signS (bt s 0) = (2, 2) := by unfold signS; rw [if_neg hl, if_pos hu]
   have g0 : goesB s 2 0 = true := by unfold goesB; rw [hs]; decide
   have l0 : lowB s 0 = false := by unfold lowB; simp; omega
   have u0 : upB s 0 = true := by unfold upB; simp [hu]
   simp only [hn, hs, allN, e2, g0, l0, u0, Bool.true_and, Bool.false_and]
   simp
  ·
   have hs : (signS (bt s 0)).1 = 0 := by unfold signS; rw [if_neg hl, if_neg hu]; split <;> rfl
   have l0 : lowB s 0 = false := by unfold lowB; simp; omega
   have u0 : upB s 0 = false := by unfold upB; simp; omega
   simp only [hn, hs, allN, l0, u0, Bool.true_and, Bool.false_and]
   simp
theorem toList_nil (s : ByteArray) : s.toList = ([] : List UInt8) ↔ s.size = 0 := by
 rw [ByteArray.toList_eq]
 constructor
 ·
  intro h
  have := congrArg List.length h
  simpa [data_length] using this
 ·
  intro h
  apply List.eq_nil_of_length_eq_zero
  rw [data_length]
  exact h
theorem ev_kind (s : ByteArray) : Ev (fun k => name_Kind.f k s) (kindS s) := by
 refine ⟨16, fun k hk => ?_⟩
 show name_Kind.f k s = _
 unfold name_Kind.f
 obtain ⟨k, rfl⟩ : ∃ m, k = m + 1 := ⟨k - 1, by omega⟩
 by_cases h1 : s.toList = ([] : List UInt8)
 ·
  rw [if_pos h1]
  have := (toList_nil s).1 h1
  simp [name_Kind.j0, kindS_bad (s := s) (.inl (by omega))]
 ·
  have h1' : s.size ≠ 0 := fun h => h1 ((toList_nil s).2 h)
  rw [if_neg h1]
  simp only [name_Kind.j0]
  by_cases h2 : (s.size : Int) > 8
  ·
   rw [if_pos (by simpa using h2), kindS_bad (s := s) (.inr (by omega))]
  ·
   rw [if_neg (by simpa using h2), if_pos (by omega), sign_at _ _ (by omega)]
   simp only [Option.bind_some]
   rw [kind_loop s _ (by omega) s.size k 0 (by omega) (by omega) (by omega), kind_eq s (by omega) (by omega)]
end Go.Proofs.Ytdlkhpfgkghhmaa.P

-- ==== PLb
/- Plain laws, part b: a list of cells as terms one behind the other; whether it is a term (both ways come to one function). -/
namespace Go.Proofs.Ytdlkhpfgkghhmaa.P
open Go.RowKit Go.Proofs.YtdlkhpfgkghhmaaW.PrintWords
set_option linter.unusedVariables false
set_option linter.unusedSimpArgs false

abbrev Cel := S54
instance celEq : DecidableEq Cel := fun a b =>
 if h : a.f0 = b.f0 ∧ a.f1 = b.f1 then isTrue (by cases a; cases b; simp only at h; rw [h.1, h.2]) else isFalse (fun e => h (by rw [e]; exact ⟨rfl, rfl⟩))
theorem drop_cons {α : Type} {t : List α} {n : Nat} {c : α} {s : List α} (h : t.drop n = c :: s) : n < t.length ∧ (∀ d, t.getD n d = c) ∧ t.drop (n + 1) = s := by
 have h1 : n < t.length := by
  rcases Nat.lt_or_ge n t.length with h1 | h1
  ·
   exact h1
  ·
   rw [List.drop_eq_nil_of_le h1] at h
   cases h
 rw [List.drop_eq_getElem_cons h1] at h
 injection h with h2 h3
 exact ⟨h1, fun d => by rw [List.getD_eq_getElem?_getD, List.getElem?_eq_getElem h1]; exact h2, h3⟩
theorem drop_nil_len {α : Type} {t : List α} {n : Nat} (hn : n ≤ t.length) (h : t.drop n = []) : n = t.length := by
 have := congrArg List.length h
 simp at this
 omega
theorem rd_cel {t : List Cel} {n : Nat} {c : Cel} {s : List Cel} (h : t.drop n = c :: s) : rd_T54 t (n : Int) = c := by
 unfold rd_T54
 exact (drop_cons h).2.1 _

def ar (c : Cel) : Nat := c.f1.toNat
def cellErr (c : Cel) : Int := if kindS c.f0 = 0 then 4 else if c.f1 < 0 then 5 else if c.f1 > 4 then 5 else if kindS c.f0 = 2 then (if c.f1 > 0 then 5 else 0) else 0
def errs : List Cel → Int
 | [] => 0
 | c :: l => if cellErr c = 0 then errs l else cellErr c
/-- What is left behind the first n terms. -/
def segN : List Cel → Nat → Option (List Cel)
 | l, 0 => some l
 | [], _ + 1 => none
 | c :: l, n + 1 => segN l (n + ar c)
def checkS (t : List Cel) : Int := if t.length > 64 then 6 else if errs t = 0 then (if segN t 1 = some [] then 0 else 3) else errs t

theorem segN_zero (l : List Cel) : segN l 0 = some l := by cases l <;> rfl
theorem segN_add : ∀ (l : List Cel) (a b : Nat), segN l (a + b) = (segN l a).bind fun r => segN r b
 | l, 0, b => by rw [segN_zero]; simp
 | [], a + 1, b => by rw [show a + 1 + b = (a + b) + 1 by omega]; rfl
 | c :: l, a + 1, b => by
  rw [show a + 1 + b = (a + b) + 1 by omega]
  show segN l (a + b + ar c) = (segN l (a + ar c)).bind _
  rw [show a + b + ar c = (a + ar c) + b by omega]
  exact segN_add l (a + ar c) b
theorem segN_len : ∀ {l r : List Cel} {n : Nat}, segN l n = some r → r.length ≤ l.length ∧ (0 < n → r.length < l.length)
 | l, r, 0, h => by
  rw [segN_zero] at h
  injection h with h
  subst h
  exact ⟨Nat.le_refl _, fun h => absurd h (by omega)⟩
 | [], r, n + 1, h => by cases h
 | c :: l, r, n + 1, h => by
  have := (segN_len (l := l) (r := r) (n := n + ar c) h).1
  simp only [List.length_cons]
  exact ⟨by omega, fun _ => by omega⟩
theorem segN_suffix : ∀ {l r : List Cel} {n : Nat}, segN l n = some r → ∃ m, m ≤ l.length ∧ l.drop m = r
 | l, r, 0, h => by
  rw [segN_zero] at h
  injection h with h
  exact ⟨0, by omega, h⟩
 | [], r, n + 1, h => by cases h
 | c :: l, r, n + 1, h => by
  obtain ⟨m, h1, h2⟩ := segN_suffix (l := l) (r := r) (n := n + ar c) h
  exact ⟨m + 1, by simp; omega, h2⟩

/-- What the cells of a term that is right are. -/
structure Okc (c : Cel) : Prop where
 kind : kindS c.f0 ≠ 0
 lo : 0 ≤ c.f1
 hi : c.f1 ≤ 4
 var : kindS c.f0 = 2 → c.f1 = 0
theorem okc_of {c : Cel} (h : cellErr c = 0) : Okc c := by
 unfold cellErr at h
 by_cases h1 : kindS c.f0 = 0
 ·
  rw [if_pos h1] at h; cases h
 ·
  rw [if_neg h1] at h
  by_cases h2 : c.f1 < 0
  ·
   rw [if_pos h2] at h; cases h
  ·
   rw [if_neg h2] at h
   by_cases h3 : c.f1 > 4
   ·
    rw [if_pos h3] at h; cases h
   ·
    rw [if_neg h3] at h
    refine ⟨h1, by omega, by omega, fun hk => ?_⟩
    rw [if_pos hk] at h
    by_cases h4 : c.f1 > 0
    ·
     rw [if_pos h4] at h; cases h
    ·
     omega
theorem errs_ok : ∀ {l : List Cel}, errs l = 0 → ∀ c ∈ l, Okc c
 | [], _, _, h => by cases h
 | a :: l, h, c, hc => by
  unfold errs at h
  by_cases h1 : cellErr a = 0
  ·
   rw [if_pos h1] at h
   rcases List.mem_cons.1 hc with rfl | hc
   ·
    exact okc_of h1
   ·
    exact errs_ok h c hc
  ·
   rw [if_neg h1] at h
   exact absurd h h1
/-! ### the program's: behind, Check -/
theorem ev_cell (c : Cel) : Ev (fun k => term_cell.f k c.f0 c.f1) (cellErr c) := by
 unfold term_cell.f
 refine Ev.bind (ev_kind c.f0) ?_
 refine Ev.congr (f := fun _ => some (cellErr c)) (fun k => ?_) (Ev.now _)
 unfold cellErr
 simp only [apply_ite some]
/-- The place behind n terms that begin at 'at'; -1: they have no end. -/
def behS (t : List Cel) (a n : Nat) : Int := match segN (t.drop a) n with
 | none => -1
 | some r => ((t.length - r.length : Nat) : Int)
theorem ev_behind_loop (t : List Cel) (ht : t.length ≤ 64) (hok : ∀ c ∈ t, Okc c) : ∀ (s : List Cel) (a n : Nat), a ≤ t.length → t.drop a = s → n ≤ 1 + 4 * a →
 Ev (fun k => term_behind.l0 k t (a : Int) (n : Int)) (behS t a n)
 | s, a, 0, ha, hs, hn => by
  refine Ev.step (f := fun _ => some (a : Int)) (fun k => by simp only [term_behind.l0]; rw [if_neg (by omega)]) ?_
  have : behS t a 0 = (a : Int) := by
   unfold behS
   rw [segN_zero]
   simp only [List.length_drop]
   omega
  rw [this]
  exact Ev.now _
 | [], a, n + 1, ha, hs, hn => by
  have hl := drop_nil_len ha hs
  refine Ev.step (f := fun _ => some (-1 : Int)) (fun k => by simp only [term_behind.l0]; rw [if_pos (by omega), if_pos (by omega)]) ?_
  have : behS t a (n + 1) = -1 := by
   unfold behS
   rw [hs]
   rfl
  rw [this]
  exact Ev.now _
 | c :: s, a, n + 1, ha, hs, hn => by
  obtain ⟨h1, h2, h3⟩ := drop_cons hs
  have hc : Okc c := hok c (List.mem_of_mem_drop (hs ▸ List.mem_cons_self ..))
  have har : (ar c : Int) = c.f1 := by unfold ar; have := hc.lo; omega
  have hh := hc.hi
  have hl0 := hc.lo
  refine Ev.step (f := fun k => term_behind.l0 k t ((a + 1 : Nat) : Int) ((n + ar c : Nat) : Int)) (fun k => ?_) ?_
  ·
   simp only [term_behind.l0]
   rw [if_pos (by omega), if_neg (by omega), if_pos (by omega), if_pos (by omega), rd_cel hs, wrap_up (by omega) (by omega)]
   have e : wrap64 (((n + 1 : Nat) : Int) + wrap64 (c.f1 - 1)) = ((n + ar c : Nat) : Int) := by
    rw [wrap_id (i := c.f1 - 1) (by omega) (by omega), wrap_id (by omega) (by omega)]
    omega
   rw [e]
   rfl
  ·
   have : behS t a (n + 1) = behS t (a + 1) (n + ar c) := by
    unfold behS
    rw [hs, h3]
    rfl
   rw [this]
   exact ev_behind_loop t ht hok s (a + 1) (n + ar c) (by omega) h3 (by omega)
theorem ev_behind (t : List Cel) (ht : t.length ≤ 64) (hok : ∀ c ∈ t, Okc c) (a : Nat) (ha : a ≤ t.length) : Ev (fun k => term_behind.f k t (a : Int)) (behS t a 1) := by
 unfold term_behind.f
 exact ev_behind_loop t ht hok _ a 1 ha rfl (by omega)
theorem behS_whole (t : List Cel) : (behS t 0 1 = (t.length : Int)) ↔ segN t 1 = some [] := by
 unfold behS
 rw [List.drop_zero]
 cases h : segN t 1 with
 | none => simp
 | some r =>
  have := segN_len h
  simp only [Option.some.injEq]
  constructor
  ·
   intro h1
   apply List.eq_nil_of_length_eq_zero
   omega
  ·
   rintro rfl
   simp
theorem ev_check_loop (t : List Cel) (ht : t.length ≤ 64) : ∀ (s : List Cel) (a : Nat), a ≤ t.length → t.drop a = s → (∀ c ∈ t.take a, Okc c) →
 Ev (fun k => term_Check.l0 k t t (t.length : Int) (a : Int)) (if errs s = 0 then (if segN t 1 = some [] then 0 else 3) else errs s)
 | [], a, ha, hs, hok => by
  have hl := drop_nil_len ha hs
  rw [hl, List.take_length] at hok
  refine Ev.step (f := fun k => (term_behind.f k t 0).bind fun r => (if r = (t.length : Int) then (some 0) else (some 3))) (fun k => by simp only [term_Check.l0]; rw [if_neg (by omega)]) ?_
  refine Ev.bind (ev_behind t ht hok 0 (by omega)) ?_
  refine Ev.congr (f := fun _ => some (if segN t 1 = some [] then 0 else 3)) (fun k => ?_) (Ev.now _)
  by_cases h : segN t 1 = some []
  ·
   rw [if_pos ((behS_whole t).2 h), if_pos h]
  ·
   rw [if_neg (fun h' => h ((behS_whole t).1 h')), if_neg h]
 | c :: s, a, ha, hs, hok => by
  obtain ⟨h1, h2, h3⟩ := drop_cons hs
  refine Ev.step (f := fun k => (term_cell.f k c.f0 c.f1).bind fun e => (if e = 0 then (term_Check.l0 k t t (t.length : Int) ((a + 1 : Nat) : Int)) else (some e))) (fun k => ?_) ?_
  ·
   simp only [term_Check.l0]
   rw [if_pos (by omega), if_pos (by omega), if_pos (by omega), rd_cel hs, wrap_up (by omega) (by omega)]
   rfl
  ·
   refine Ev.bind (ev_cell c) ?_
   by_cases he : cellErr c = 0
   ·
    refine Ev.congr (f := fun k => term_Check.l0 k t t (t.length : Int) ((a + 1 : Nat) : Int)) (fun k => by rw [if_pos he]) ?_
    have : errs (c :: s) = errs s := by simp only [errs]; rw [if_pos he]
    rw [this]
    refine ev_check_loop t ht s (a + 1) (by omega) h3 (fun x hx => ?_)
    rw [List.take_succ_eq_append_getElem h1] at hx
    rcases List.mem_append.1 hx with hx | hx
    ·
     exact hok x hx
    ·
     have hce : t[a] = c := by have := h2 c; rw [List.getD_eq_getElem?_getD, List.getElem?_eq_getElem h1] at this; exact this
     rw [List.mem_singleton.1 hx, hce]
     exact okc_of he
   ·
    refine Ev.congr (f := fun _ => some (cellErr c)) (fun k => by rw [if_neg he]) ?_
    have : errs (c :: s) = cellErr c := by simp only [errs]; rw [if_neg he]
    rw [this, if_neg he]
    exact Ev.now _
theorem ev_check (t : List Cel) : Ev (fun k => term_Check.f k t) (checkS t) := by
 unfold term_Check.f checkS
 by_cases h : t.length > 64
 ·
  rw [if_pos h]
  exact Ev.congr (f := fun _ => some 6) (fun k => if_pos (by omega)) (Ev.now _)
 ·
  rw [if_neg h]
  exact Ev.congr (f := fun k => term_Check.l0 k t t (t.length : Int) ((0 : Nat) : Int)) (fun k => if_neg (by omega)) (ev_check_loop t (by omega) t 0 (by omega) rfl (by simp))

/-! ### the document's: Behind, Check -/
theorem ev_refBehind_at : ∀ (d : Nat) (t : List Cel) (ht : t.length ≤ 64) (hok : ∀ c ∈ t, Okc c) (a : Nat), t.length - a = d → a ≤ t.length → Ev (fun k => aumbryref04_Behind.f k t (a : Int)) (behS t a 1) := by
 intro d
 induction d using Nat.strongRecOn with
 | _ d ih =>
 intro t ht hok a hd ha
 rcases hs : t.drop a with _ | ⟨c, s⟩
 ·
  have hl := drop_nil_len ha hs
  refine Ev.step (f := fun k => aumbryref04_Behind.j0 k t (a : Int) true) (fun k => by simp only [aumbryref04_Behind.f]; rw [if_neg (by omega)]; congr 1; simp; omega) ?_
  refine Ev.step (f := fun k => some (-1)) (fun k => by simp only [aumbryref04_Behind.j0]; rfl) ?_
  have : behS t a 1 = -1 := by
   unfold behS
   rw [hs]
   rfl
  rw [this]
  exact Ev.now _
 ·
  obtain ⟨h1, h2, h3⟩ := drop_cons hs
  have hc : Okc c := hok c (List.mem_of_mem_drop (hs ▸ List.mem_cons_self ..))
  have har : (ar c : Int) = c.f1 := by unfold ar; have := hc.lo; omega
  have hh := hc.hi
  have hl0 := hc.lo
  refine Ev.step (f := fun k => aumbryref04_Behind.j0 k t (a : Int) false) (fun k => by simp only [aumbryref04_Behind.f]; rw [if_neg (by omega)]; congr 1; simp; omega) ?_
  refine Ev.step (f := fun k => aumbryref04_Behind.l0 k t ((a + 1 : Nat) : Int) (ar c : Int) 0) (fun k => by
   simp only [aumbryref04_Behind.j0]
   rw [if_neg (by simp), if_pos (by omega), if_pos (by omega), rd_cel hs, wrap_up (by omega) (by omega), har]
   rfl) ?_
  have loop : ∀ (m : Nat) (b i : Nat), t.length - b < d → b ≤ t.length → i + m = ar c → Ev (fun k => aumbryref04_Behind.l0 k t (b : Int) (ar c : Int) (i : Int)) (behS t b m) := by
   intro m
   induction m with
   | zero =>
    intro b i hb hbl hi
    refine Ev.step (f := fun _ => some (b : Int)) (fun k => by simp only [aumbryref04_Behind.l0]; rw [if_neg (by omega)]) ?_
    have : behS t b 0 = (b : Int) := by
     unfold behS
     rw [segN_zero]
     simp only [List.length_drop]
     omega
    rw [this]
    exact Ev.now _
   | succ m ihm =>
    intro b i hb hbl hi
    refine Ev.step (f := fun k => (aumbryref04_Behind.f k t (b : Int)).bind fun r => aumbryref04_Behind.l0 k t r (ar c : Int) ((i + 1 : Nat) : Int)) (fun k => by
     simp only [aumbryref04_Behind.l0]
     rw [if_pos (by omega), if_pos (by omega), wrap_up (by omega) (by omega)]
     rfl) ?_
    refine Ev.bind (ih _ hb t ht hok b rfl hbl) ?_
    have hadd : segN (t.drop b) (m + 1) = (segN (t.drop b) 1).bind fun r => segN r m := by rw [show m + 1 = 1 + m by omega]; exact segN_add _ _ _
    cases hr : segN (t.drop b) 1 with
    | none =>
     have e1 : behS t b 1 = -1 := by unfold behS; rw [hr]
     have e2 : behS t b (m + 1) = -1 := by unfold behS; rw [hadd, hr]; rfl
     rw [e1, e2]
     refine Ev.step (f := fun _ => some (-1 : Int)) (fun k => ?_) (Ev.now _)
     simp only [aumbryref04_Behind.l0]
     split <;> simp
    | some r =>
     obtain ⟨q, hq1, hq2⟩ := segN_suffix hr
     rw [List.drop_drop] at hq2
     have hlen := segN_len hr
     simp only [List.length_drop] at hlen hq1
     have hrl : r.length = t.length - (b + q) := by rw [← hq2, List.length_drop]
     have e1 : behS t b 1 = ((b + q : Nat) : Int) := by unfold behS; rw [hr]; simp only; omega
     have e2 : behS t b (m + 1) = behS t (b + q) m := by unfold behS; rw [hadd, hr, hq2]; rfl
     rw [e1, e2]
     exact ihm (b + q) (i + 1) (by omega) (by omega) (by omega)
  have : behS t a 1 = behS t (a + 1) (ar c) := by
   unfold behS
   rw [hs, h3]
   show (match segN s (0 + ar c) with | none => (-1 : Int) | some r => _) = _
   rw [Nat.zero_add]
  rw [this]
  exact loop (ar c) (a + 1) 0 (by omega) (by omega) (by omega)
theorem ev_refBehind (t : List Cel) (ht : t.length ≤ 64) (hok : ∀ c ∈ t, Okc c) (a : Nat) (ha : a ≤ t.length) : Ev (fun k => aumbryref04_Behind.f k t (a : Int)) (behS t a 1) := ev_refBehind_at _ t ht hok a rfl ha
theorem ev_refCheck_loop (t : List Cel) (ht : t.length ≤ 64) : ∀ (s : List Cel) (a : Nat), a ≤ t.length → t.drop a = s → (∀ c ∈ t.take a, Okc c) →
 Ev (fun k => aumbryref04_Check.l0 k t (t.length : Int) (a : Int)) (if errs s = 0 then (if segN t 1 = some [] then 0 else 3) else errs s)
 | [], a, ha, hs, hok => by
  have hl := drop_nil_len ha hs
  rw [hl, List.take_length] at hok
  refine Ev.step (f := fun k => (aumbryref04_Behind.f k t 0).bind fun r => (if r = (t.length : Int) then (some 0) else (some 3))) (fun k => by simp only [aumbryref04_Check.l0]; rw [if_neg (by omega)]) ?_
  refine Ev.bind (ev_refBehind t ht hok 0 (by omega)) ?_
  refine Ev.congr (f := fun _ => some (if segN t 1 = some [] then 0 else 3)) (fun k => ?_) (Ev.now _)
  by_cases h : segN t 1 = some []
  ·
   rw [if_pos ((behS_whole t).2 h), if_pos h]
  ·
   rw [if_neg (fun h' => h ((behS_whole t).1 h')), if_neg h]
 | c :: s, a, ha, hs, hok => by
  obtain ⟨h1, h2, h3⟩ := drop_cons hs
  refine Ev.step (f := fun k => (aumbryref03_Kind.f k c.f0).bind fun e => (if e = 0 then (some 4) else (if c.f1 < 0 then (some 5) else (if c.f1 > 4 then (some 5) else (if e = 2 then (if c.f1 = 0 then (aumbryref04_Check.l0 k t (t.length : Int) ((a + 1 : Nat) : Int)) else (some 5)) else (aumbryref04_Check.l0 k t (t.length : Int) ((a + 1 : Nat) : Int))))))) (fun k => ?_) ?_
  ·
   simp only [aumbryref04_Check.l0]
   rw [if_pos (by omega), if_pos (by omega), if_pos (by omega), rd_cel hs, wrap_up (by omega) (by omega)]
   rfl
  ·
   refine Ev.bind (ev_refKind c.f0) ?_
   by_cases he : cellErr c = 0
   ·
    have ho := okc_of he
    have h4 := ho.hi
    have h0 := ho.lo
    refine Ev.congr (f := fun k => aumbryref04_Check.l0 k t (t.length : Int) ((a + 1 : Nat) : Int)) (fun k => ?_) ?_
    ·
     rw [if_neg ho.kind, if_neg (by omega), if_neg (by omega)]
     by_cases hv : kindS c.f0 = 2
     ·
      rw [if_pos hv, if_pos (ho.var hv)]
     ·
      rw [if_neg hv]
    have : errs (c :: s) = errs s := by simp only [errs]; rw [if_pos he]
    rw [this]
    refine ev_refCheck_loop t ht s (a + 1) (by omega) h3 (fun x hx => ?_)
    rw [List.take_succ_eq_append_getElem h1] at hx
    rcases List.mem_append.1 hx with hx | hx
    ·
     exact hok x hx
    ·
     have hce : t[a] = c := by have := h2 c; rw [List.getD_eq_getElem?_getD, List.getElem?_eq_getElem h1] at this; exact this
     rw [List.mem_singleton.1 hx, hce]
     exact ho
   ·
    refine Ev.congr (f := fun _ => some (cellErr c)) (fun k => ?_) ?_
    ·
     unfold cellErr at he ⊢
     by_cases e1 : kindS c.f0 = 0
     ·
      rw [if_pos e1, if_pos e1]
     ·
      rw [if_neg e1] at he
      rw [if_neg e1, if_neg e1]
      by_cases e2 : c.f1 < 0
      ·
       rw [if_pos e2, if_pos e2]
      ·
       rw [if_neg e2] at he
       rw [if_neg e2, if_neg e2]
       by_cases e3 : c.f1 > 4
       ·
        rw [if_pos e3, if_pos e3]
       ·
        rw [if_neg e3] at he
        rw [if_neg e3, if_neg e3]
        by_cases e4 : kindS c.f0 = 2
        ·
         rw [if_pos e4] at he
         rw [if_pos e4, if_pos e4]
         by_cases e5 : c.f1 > 0
         ·
          rw [if_pos e5, if_neg (by omega)]
         ·
          rw [if_neg e5] at he
          exact absurd rfl he
        ·
         rw [if_neg e4] at he
         exact absurd rfl he
    ·
     have : errs (c :: s) = cellErr c := by simp only [errs]; rw [if_neg he]
     rw [this, if_neg he]
     exact Ev.now _
theorem ev_refCheck (t : List Cel) : Ev (fun k => aumbryref04_Check.f k t) (checkS t) := by
 unfold aumbryref04_Check.f checkS
 by_cases h : t.length > 64
 ·
  rw [if_pos h]
  exact Ev.congr (f := fun _ => some 6) (fun k => if_pos (by omega)) (Ev.now _)
 ·
  rw [if_neg h]
  exact Ev.congr (f := fun k => aumbryref04_Check.l0 k t (t.length : Int) ((0 : Nat) : Int)) (fun k => if_neg (by omega)) (ev_refCheck_loop t (by omega) t 0 (by omega) rfl (by simp))
end Go.Proofs.Ytdlkhpfgkghhmaa.P

-- ==== PLs
/- Plain laws: lists of cells as terms, taken apart (for chapters without match). -/
namespace Go.Proofs.Ytdlkhpfgkghhmaa.P
open Go.RowKit Go.Proofs.YtdlkhpfgkghhmaaW.PrintWords
set_option linter.unusedVariables false
set_option linter.unusedSimpArgs false

/-- The first term of a list. -/
def fstT (t r : List Cel) : List Cel := t.take (t.length - r.length)
theorem segN_append : ∀ {l r : List Cel} {n : Nat} (q : List Cel), segN l n = some r → segN (l ++ q) n = some (r ++ q)
 | l, r, 0, q, h => by
  rw [segN_zero] at h ⊢
  injection h with h
  rw [h]
 | [], r, n + 1, q, h => by cases h
 | c :: l, r, n + 1, q, h => segN_append (l := l) (r := r) (n := n + ar c) q h
theorem segN_split {t : List Cel} {n : Nat} (h : segN t (n + 1) = some []) : ∃ r, segN t 1 = some r ∧ segN r n = some [] := by
 rw [show n + 1 = 1 + n by omega, segN_add] at h
 cases hr : segN t 1 with
 | none => rw [hr] at h; cases h
 | some r => rw [hr] at h; exact ⟨r, rfl, h⟩
theorem segN_fst {t r : List Cel} {n : Nat} (h : segN t n = some r) : t = fstT t r ++ r ∧ segN (fstT t r) n = some [] := by
 obtain ⟨m, hm, hd⟩ := segN_suffix h
 have hl : r.length = t.length - m := by rw [← hd, List.length_drop]
 have he : fstT t r = t.take m := by unfold fstT; rw [show t.length - r.length = m by omega]
 rw [he]
 refine ⟨by rw [← hd]; exact (List.take_append_drop m t).symm, ?_⟩
 have : ∀ (l : List Cel) (n m : Nat), m ≤ l.length → segN l n = some (l.drop m) → segN (l.take m) n = some [] := by
  intro l
  induction l with
  | nil =>
   intro n m hm h
   have hm0 : m = 0 := by simpa using hm
   subst hm0
   simpa using h
  | cons c l ih =>
   intro n m hm h
   cases n with
   | zero =>
    rw [segN_zero] at h ⊢
    injection h with h
    have := congrArg List.length h
    simp only [List.length_cons, List.length_drop] at this
    have hm0 : m = 0 := by simp at hm; omega
    rw [hm0]
    rfl
   | succ n =>
    cases m with
    | zero =>
     have := segN_len h
     simp at this
    | succ m =>
     simp only [List.drop_succ_cons] at h
     exact ih (n + ar c) m (by simpa using hm) h
 rw [← hd] at h
 exact this t n m hm h

theorem bytes_eq (a b : ByteArray) : a.toList = b.toList ↔ a = b := by
 rw [ByteArray.toList_eq, ByteArray.toList_eq]
 constructor
 ·
  intro h
  cases a; cases b
  simp only [ByteArray.mk.injEq]
  exact Array.toList_inj.1 h
 ·
  intro h
  rw [h]
theorem cel_ne (c d : Cel) : ((!((c.f0.toList) == (d.f0.toList)) || (!(c.f1 == d.f1))) = true) ↔ c ≠ d := by
 cases c with | mk a b => cases d with | mk a' b' =>
 simp only [Bool.or_eq_true, Bool.not_eq_true', beq_eq_false_iff_ne, ne_eq, bytes_eq, S54.mk.injEq]
 by_cases h : a = a' <;> simp [h]
theorem ev_cels_loop (F : Nat → List Cel → List Cel → Int → Int → Option Bool)
 (hF : ∀ k x y n i, F (k + 1) x y n i = if i < n then (if 0 ≤ i then (if i < (x.length : Int) then (if i < (y.length : Int) then (if (!((((rd_T54 x i).f0).toList) == (((rd_T54 y i).f0).toList)) || (!(((rd_T54 x i).f1) == ((rd_T54 y i).f1)))) = true then (some false) else (F k x y n (wrap64 (i + 1)))) else (none)) else (none)) else (none)) else (some true))
 (x y : List Cel) (hl : x.length = y.length) (hb : x.length ≤ 9223372036854775806) : ∀ (s u : List Cel) (a : Nat), a ≤ x.length → x.drop a = s → y.drop a = u → Ev (fun k => F k x y (x.length : Int) (a : Int)) (decide (s = u))
 | [], u, a, ha, hs, hu => by
  have h1 := drop_nil_len ha hs
  have h2 : u = [] := by rw [← hu]; exact List.drop_eq_nil_of_le (by omega)
  refine Ev.step (f := fun _ => some true) (fun k => by rw [hF, if_neg (by omega)]) ?_
  rw [h2]
  exact Ev.now _
 | c :: s, u, a, ha, hs, hu => by
  obtain ⟨h1, _, h3⟩ := drop_cons hs
  rcases u with _ | ⟨d, u⟩
  ·
   have := drop_nil_len (by omega) hu
   omega
  obtain ⟨_, _, h4⟩ := drop_cons hu
  by_cases hcd : c = d
  ·
   refine Ev.step (f := fun k => F k x y (x.length : Int) ((a + 1 : Nat) : Int)) (fun k => by
    rw [hF, if_pos (by omega), if_pos (by omega), if_pos (by omega), if_pos (by omega), rd_cel hs, rd_cel hu, if_neg (fun h => (cel_ne c d).1 h hcd), wrap_up (by omega) (by omega)]
    rfl) ?_
   have : decide (c :: s = d :: u) = decide (s = u) := by subst hcd; simp
   rw [this]
   exact ev_cels_loop F hF x y hl hb s u (a + 1) (by omega) h3 h4
  ·
   refine Ev.step (f := fun _ => some false) (fun k => by
    rw [hF, if_pos (by omega), if_pos (by omega), if_pos (by omega), if_pos (by omega), rd_cel hs, rd_cel hu, if_pos ((cel_ne c d).2 hcd)]) ?_
   have : decide (c :: s = d :: u) = false := by simp [hcd]
   rw [this]
   exact Ev.now _
theorem ev_refSame4 (x y : List Cel) (hb : x.length ≤ 9223372036854775806 ∨ y.length ≤ 9223372036854775806) : Ev (fun k => aumbryref04_Same.f k x y) (decide (x = y)) := by
 unfold aumbryref04_Same.f
 by_cases h : (x.length : Int) = (y.length : Int)
 ·
  exact Ev.congr (f := fun k => aumbryref04_Same.l0 k x y (x.length : Int) ((0 : Nat) : Int)) (fun k => by rw [if_pos h]; rfl) (ev_cels_loop _ (fun k x y n i => rfl) x y (by omega) (by omega) x y 0 (by omega) rfl rfl)
 ·
  refine Ev.congr (f := fun _ => some (decide (x = y))) (fun k => ?_) (Ev.now _)
  rw [if_neg h]
  congr 1
  rw [Eq.comm, decide_eq_false_iff_not]
  rintro rfl
  exact h rfl
theorem copy_at (x : List Cel) (h : x.length < 5864062014805) : aumbryref04_Copy.f x = some x := by
 unfold aumbryref04_Copy.f
 rw [if_pos (by simpa using h)]
 rfl

theorem checkS_ok {t : List Cel} (h : checkS t = 0) : t.length ≤ 64 ∧ (∀ c ∈ t, Okc c) ∧ segN t 1 = some [] := by
 unfold checkS at h
 by_cases h1 : t.length > 64
 ·
  rw [if_pos h1] at h
  cases h
 ·
  rw [if_neg h1] at h
  by_cases h2 : errs t = 0
  ·
   rw [if_pos h2] at h
   by_cases h3 : segN t 1 = some []
   ·
    exact ⟨by omega, errs_ok h2, h3⟩
   ·
    rw [if_neg h3] at h
    cases h
  ·
   rw [if_neg h2] at h
   exact absurd h h2
/-- n terms, each for itself. -/
def splitT : Nat → List Cel → List (List Cel)
 | 0, _ => []
 | n + 1, l => match segN l 1 with
  | none => []
  | some r => fstT l r :: splitT n r
theorem splitT_spec : ∀ (n : Nat) (l : List Cel), segN l n = some [] → (splitT n l).flatten = l ∧ (splitT n l).length = n ∧ ∀ a ∈ splitT n l, segN a 1 = some []
 | 0, l, h => by
  rw [segN_zero] at h
  injection h with h
  subst h
  exact ⟨rfl, rfl, fun a ha => by cases ha⟩
 | n + 1, l, h => by
  obtain ⟨r, h1, h2⟩ := segN_split h
  obtain ⟨g1, g2, g3⟩ := splitT_spec n r h2
  have hf := segN_fst h1
  simp only [splitT, h1, List.flatten_cons, List.length_cons, List.mem_cons]
  refine ⟨by rw [g1]; exact hf.1.symm, by omega, fun a ha => ?_⟩
  rcases ha with rfl | ha
  ·
   exact hf.2
  ·
   exact g3 a ha
theorem mem_fstT {t r : List Cel} {c : Cel} (h : c ∈ fstT t r) : c ∈ t := List.mem_of_mem_take h
end Go.Proofs.Ytdlkhpfgkghhmaa.P

-- ==== PLz
/- Plain laws: places in lists, sizes that came in. -/
namespace Go.Proofs.Ytdlkhpfgkghhmaa.P
open Go.RowKit Go.Proofs.YtdlkhpfgkghhmaaW.PrintWords
set_option linter.unusedVariables false
set_option linter.unusedSimpArgs false
theorem sz_len {l : List Cel} (h : sz23 l) : l.length < 5864062014805 := by
 have := h.1
 omega
theorem rd_trm {t : List (List Cel)} {n : Nat} {c : List Cel} {s : List (List Cel)} (h : t.drop n = c :: s) : rd_L3 t (n : Int) = c := by
 unfold rd_L3
 exact (drop_cons h).2.1 _
theorem up_cast (a : Nat) (h : a < 9223372036854775807) : wrap64 ((a : Int) + 1) = ((a + 1 : Nat) : Int) := by rw [wrap_up (by omega) (by omega)]; rfl
theorem checkS_len {t : List Cel} (h : checkS t = 0) : t.length ≤ 64 := (checkS_ok h).1
end Go.Proofs.Ytdlkhpfgkghhmaa.P

-- ==== PL7v
/- Plain laws: a term's variables and its arguments: the program's answers and the document's (for chapters without texts of terms). -/
namespace Go.Proofs.Ytdlkhpfgkghhmaa.P
open Go.RowKit Go.Proofs.YtdlkhpfgkghhmaaW.PrintWords
set_option linter.unusedVariables false
set_option linter.unusedSimpArgs false
/-! ### lists of texts -/
instance txtMem (a : ByteArray) (l : List ByteArray) : Decidable (a ∈ l) :=
 if h : l.any (fun b => decide (a = b)) = true then isTrue (by obtain ⟨b, h1, h2⟩ := List.any_eq_true.1 h; rw [of_decide_eq_true h2]; exact h1) else isFalse (fun h1 => h (List.any_eq_true.2 ⟨a, h1, decide_eq_true rfl⟩))
theorem rd_txt {t : List ByteArray} {n : Nat} {c : ByteArray} {s : List ByteArray} (h : t.drop n = c :: s) : rdOf ByteArray.empty t (n : Int) = c := by
 unfold rdOf
 exact (drop_cons h).2.1 _
theorem ev_index_loop (l : List ByteArray) (a : ByteArray) (hl : l.length ≤ 9223372036854775806) : ∀ (u : List ByteArray) (i : Nat), i ≤ l.length → l.drop i = u →
 ∃ r, Ev (fun k => slices_Index_string_string.l0 k l a (l.length : Int) (i : Int)) r ∧ decide (r ≥ 0) = decide (a ∈ u)
 | [], i, hi, hu => by
  have h1 := drop_nil_len hi hu
  refine ⟨-1, Ev.step (fun k => (show slices_Index_string_string.l0 (k + 1) l a (l.length : Int) (i : Int) = _ from by rw [slices_Index_string_string.l0])) ?_, by simp⟩
  exact evIfn (by omega) (Ev.now _)
 | b :: u, i, hi, hu => by
  obtain ⟨h1, _, h3⟩ := drop_cons hu
  by_cases hab : a.toList = b.toList
  ·
   refine ⟨(i : Int), Ev.step (fun k => (show slices_Index_string_string.l0 (k + 1) l a (l.length : Int) (i : Int) = _ from by rw [slices_Index_string_string.l0])) ?_, ?_⟩
   ·
    refine evIfp (by omega) (evIfp (by omega) (evIfp (by omega) ?_))
    rw [rd_txt hu]
    exact evIfp hab (Ev.now _)
   ·
    rw [(bytes_eq a b).1 hab]
    simp
  ·
   obtain ⟨r, hr, he⟩ := ev_index_loop l a hl u (i + 1) (by omega) h3
   refine ⟨r, Ev.step (fun k => (show slices_Index_string_string.l0 (k + 1) l a (l.length : Int) (i : Int) = _ from by rw [slices_Index_string_string.l0])) ?_, ?_⟩
   ·
    refine evIfp (by omega) (evIfp (by omega) (evIfp (by omega) ?_))
    rw [rd_txt hu]
    refine evIfn hab ?_
    rw [up_cast i (by omega)]
    exact hr
   ·
    rw [he]
    have : a ≠ b := fun h => hab (by rw [h])
    simp [this]
theorem ev_contains (l : List ByteArray) (a : ByteArray) (hl : l.length ≤ 9223372036854775806) : Ev (fun k => slices_Contains_string_string.f k l a) (decide (a ∈ l)) := by
 unfold slices_Contains_string_string.f slices_Index_string_string.f
 obtain ⟨r, hr, he⟩ := ev_index_loop l a hl l 0 (by omega) rfl
 refine Ev.bind hr ?_
 rw [he]
 exact Ev.now _
theorem ev_has_loop (l : List ByteArray) (a : ByteArray) (hl : l.length ≤ 9223372036854775806) : ∀ (u : List ByteArray) (i : Nat), i ≤ l.length → l.drop i = u →
 Ev (fun k => aumbryref03_Has.l0 k l a (l.length : Int) (i : Int)) (decide (a ∈ u))
 | [], i, hi, hu => by
  have h1 := drop_nil_len hi hu
  refine Ev.step (fun k => (show aumbryref03_Has.l0 (k + 1) l a (l.length : Int) (i : Int) = _ from by rw [aumbryref03_Has.l0])) ?_
  exact evIfn (by omega) (Ev.now _)
 | b :: u, i, hi, hu => by
  obtain ⟨h1, _, h3⟩ := drop_cons hu
  refine Ev.step (fun k => (show aumbryref03_Has.l0 (k + 1) l a (l.length : Int) (i : Int) = _ from by rw [aumbryref03_Has.l0])) ?_
  refine evIfp (by omega) (evIfp (by omega) (evIfp (by omega) ?_))
  rw [rd_txt hu]
  by_cases hab : b.toList = a.toList
  ·
   have : decide (a ∈ b :: u) = true := by rw [(bytes_eq b a).1 hab]; simp
   rw [this]
   exact evIfp hab (Ev.now _)
  ·
   have : decide (a ∈ b :: u) = decide (a ∈ u) := by
    have : a ≠ b := fun h => hab (by rw [h])
    simp [this]
   rw [this]
   refine evIfn hab ?_
   rw [up_cast i (by omega)]
   exact ev_has_loop l a hl u (i + 1) (by omega) h3
theorem ev_has (l : List ByteArray) (a : ByteArray) (hl : l.length ≤ 9223372036854775806) : Ev (fun k => aumbryref03_Has.f k l a) (decide (a ∈ l)) := by
 unfold aumbryref03_Has.f
 exact ev_has_loop l a hl l 0 (by omega) rfl
/-! ### variables -/
def varsS : List ByteArray → List Cel → List ByteArray
 | out, [] => out
 | out, c :: l => if kindS c.f0 = 2 then (if c.f0 ∈ out then varsS out l else varsS (out ++ [c.f0]) l) else varsS out l
theorem ev_vars_loop (t : List Cel) (ht : t.length ≤ 1000) : ∀ (u : List Cel) (i : Nat) (out : List ByteArray), i ≤ t.length → t.drop i = u → out.length ≤ i →
 Ev (fun k => term_Vars.l0 k out t (t.length : Int) (i : Int)) (varsS out u, 0)
 | [], i, out, hi, hu, ho => by
  have h1 := drop_nil_len hi hu
  refine Ev.step (fun k => (show term_Vars.l0 (k + 1) out t (t.length : Int) (i : Int) = _ from by rw [term_Vars.l0])) ?_
  exact evIfn (by omega) (Ev.now _)
 | c :: u, i, out, hi, hu, ho => by
  obtain ⟨h1, _, h3⟩ := drop_cons hu
  refine Ev.step (fun k => (show term_Vars.l0 (k + 1) out t (t.length : Int) (i : Int) = _ from by rw [term_Vars.l0])) ?_
  refine evIfp (by omega) (evIfp (by omega) (evIfp (by omega) ?_))
  simp only [rd_cel hu, up_cast i (by omega)]
  refine Ev.bind (ev_kind c.f0) ?_
  have hv : varsS out (c :: u) = if kindS c.f0 = 2 then (if c.f0 ∈ out then varsS out u else varsS (out ++ [c.f0]) u) else varsS out u := rfl
  by_cases hk : kindS c.f0 = 2
  ·
   refine evIfp hk ?_
   rw [hv, if_pos hk]
   refine Ev.bind (ev_contains out c.f0 (by omega)) ?_
   by_cases hm : c.f0 ∈ out
   ·
    rw [if_pos hm]
    exact evIfp (decide_eq_true hm) (ev_vars_loop t ht u (i + 1) out (by omega) h3 (by omega))
   ·
    rw [if_neg hm]
    exact evIfn (by simpa using hm) (evIfp (by omega) (ev_vars_loop t ht u (i + 1) (out ++ [c.f0]) (by omega) h3 (by simp; omega)))
  ·
   refine evIfn hk ?_
   rw [hv, if_neg hk]
   exact ev_vars_loop t ht u (i + 1) out (by omega) h3 (by omega)
theorem ev_rvars_loop (t : List Cel) (ht : t.length ≤ 1000) : ∀ (u : List Cel) (i : Nat) (out : List ByteArray), i ≤ t.length → t.drop i = u → out.length ≤ i →
 Ev (fun k => aumbryref04_Vars.l0 k t out (t.length : Int) (i : Int)) (varsS out u)
 | [], i, out, hi, hu, ho => by
  have h1 := drop_nil_len hi hu
  refine Ev.step (fun k => (show aumbryref04_Vars.l0 (k + 1) t out (t.length : Int) (i : Int) = _ from by rw [aumbryref04_Vars.l0])) ?_
  exact evIfn (by omega) (Ev.now _)
 | c :: u, i, out, hi, hu, ho => by
  obtain ⟨h1, _, h3⟩ := drop_cons hu
  refine Ev.step (fun k => (show aumbryref04_Vars.l0 (k + 1) t out (t.length : Int) (i : Int) = _ from by rw [aumbryref04_Vars.l0])) ?_
  refine evIfp (by omega) (evIfp (by omega) (evIfp (by omega) ?_))
  simp only [rd_cel hu, up_cast i (by omega)]
  refine Ev.bind (ev_refKind c.f0) ?_
  have hv : varsS out (c :: u) = if kindS c.f0 = 2 then (if c.f0 ∈ out then varsS out u else varsS (out ++ [c.f0]) u) else varsS out u := rfl
  by_cases hk : kindS c.f0 = 2
  ·
   refine evIfp hk ?_
   rw [hv, if_pos hk]
   refine Ev.bind (ev_has out c.f0 (by omega)) ?_
   by_cases hm : c.f0 ∈ out
   ·
    rw [if_pos hm]
    exact evIfp (decide_eq_true hm) (ev_rvars_loop t ht u (i + 1) out (by omega) h3 (by omega))
   ·
    rw [if_neg hm]
    exact evIfn (by simpa using hm) (evIfp (by omega) (ev_rvars_loop t ht u (i + 1) (out ++ [c.f0]) (by omega) h3 (by simp; omega)))
  ·
   refine evIfn hk ?_
   rw [hv, if_neg hk]
   exact ev_rvars_loop t ht u (i + 1) out (by omega) h3 (by omega)
theorem ev_vars {t : List Cel} (h : checkS t = 0) : Ev (fun k => term_Vars.f k t) (varsS [] t, 0) := by
 have := checkS_len h
 unfold term_Vars.f
 refine Ev.bind (ev_check t) (evIfp h ?_)
 exact ev_vars_loop t (by omega) t 0 [] (by omega) rfl (by simp)
theorem ev_vars_no {t : List Cel} (h : ¬ checkS t = 0) : Ev (fun k => term_Vars.f k t) ([], checkS t) := by
 unfold term_Vars.f
 exact Ev.bind (ev_check t) (evIfn h (Ev.now _))
theorem ev_rvars {t : List Cel} (h : t.length ≤ 1000) : Ev (fun k => aumbryref04_Vars.f k t) (varsS [] t) := by
 unfold aumbryref04_Vars.f
 exact ev_rvars_loop t h t 0 [] (by omega) rfl (by simp)
/-! ### the document's arguments -/
theorem ev_rkids_loop (t : List Cel) (ht : t.length ≤ 64) (hok : ∀ c ∈ t, Okc c) : ∀ (n a : Nat) (out : List (List Cel)), a ≤ t.length → segN (t.drop a) n = some [] → out.length ≤ a →
 Ev (fun k => aumbryref04_Kids.l0 k t out (a : Int)) (out ++ splitT n (t.drop a))
 | 0, a, out, ha, hn, ho => by
  rw [segN_zero] at hn
  injection hn with hn
  have := drop_nil_len ha hn
  refine Ev.step (fun k => (show aumbryref04_Kids.l0 (k + 1) t out (a : Int) = _ from by rw [aumbryref04_Kids.l0])) ?_
  refine evIfn (by omega) ?_
  simp only [splitT, List.append_nil]
  exact Ev.now _
 | n + 1, a, out, ha, hn, ho => by
  obtain ⟨r, hr1, hr2⟩ := segN_split hn
  have hlt := (segN_len hr1).2 (by omega)
  rw [List.length_drop] at hlt
  obtain ⟨q, hq, hqr⟩ := segN_suffix hr1
  rw [List.drop_drop] at hqr
  rw [List.length_drop] at hq
  have hrl : r.length = t.length - (a + q) := by rw [← hqr, List.length_drop]
  have hb : behS t a 1 = ((a + q : Nat) : Int) := by
   unfold behS
   rw [hr1]
   simp only
   omega
  have hq0 : 0 < q := by omega
  have hpart : ((t.take (((a + q : Nat) : Int)).toNat).drop ((a : Int)).toNat : List Cel) = fstT (t.drop a) r := by
   unfold fstT
   rw [List.length_drop]
   simp only [Int.toNat_natCast]
   rw [List.drop_take]
   congr 1
   omega
  have hbh := ev_refBehind t ht hok a ha
  rw [hb] at hbh
  refine Ev.step (fun k => (show aumbryref04_Kids.l0 (k + 1) t out (a : Int) = _ from by rw [aumbryref04_Kids.l0])) ?_
  refine evIfp (by omega) ?_
  refine Ev.bind hbh ?_
  refine evIfp (by omega) (evIfp (by omega) (evIfp (by omega) ?_))
  have hfl : (fstT (t.drop a) r).length = q := by unfold fstT; rw [List.length_take, List.length_drop]; omega
  simp only [hpart]
  refine Ev.bind (evIs (copy_at _ (by omega))) ?_
  refine evIfp (by omega) ?_
  refine Ev.bind hbh ?_
  have := ev_rkids_loop t ht hok n (a + q) (out ++ [fstT (t.drop a) r]) (by omega) (by rw [hqr]; exact hr2) (by simp; omega)
  have e : out ++ splitT (n + 1) (t.drop a) = out ++ [fstT (t.drop a) r] ++ splitT n (t.drop (a + q)) := by
   simp only [splitT, hr1, hqr, List.append_assoc, List.singleton_append]
  rw [e]
  exact this
theorem ev_rkids {c : Cel} {l : List Cel} (h1 : (c :: l).length ≤ 64) (h2 : ∀ x ∈ c :: l, Okc x) (h3 : segN l (ar c) = some []) : Ev (fun k => aumbryref04_Kids.f k (c :: l)) (splitT (ar c) l) := by
 unfold aumbryref04_Kids.f
 exact ev_rkids_loop (c :: l) h1 h2 (ar c) 1 [] (by simp) h3 (by simp)
end Go.Proofs.Ytdlkhpfgkghhmaa.P
