/- RewriteInner: the law answers true at every input that the given row speaks of. Conditions: those of the given row, none besides. (Part 2 of 6; written by programs of this session, which drive the kit's print, and by hand.) -/
import Derived.WalkSpells
import Derived.RangeFuncNested
import Derived.RangeFuncBound
import Derived.RangeFuncCalls
import Derived.RangeFuncLeaves
import Derived.RangeFuncBox
import Derived.RangeFuncFrom
import Derived.RangeFuncWrites
import Derived.Shelf.Abstract
import Derived.WalkKit
import Derived.OwnWalkIn
import Derived.TacticsInMore
import Derived.LoopNIn
import Derived.LoopIn
import Derived.Lib.LaidTab
import Derived.Test.YtdlkhpfgkghhmaaZRewriteInner0
set_option maxHeartbeats 8000000
set_option maxRecDepth 100000
set_option linter.unusedVariables false
set_option linter.unusedSimpArgs false
-- ==== PF92
namespace Go.Proofs.Ytdlkhpfgkghhmaa.P
open Go.RowKit Go.Proofs.YtdlkhpfgkghhmaaW.PrintWords Go.Proofs.YtdlkhpfgkghhmaaW.PrintLast Go.Proofs.YtdlkhpfgkghhmaaW.PrintMore
attribute [local go_sem] max2_int min2_int max_two min_two max_three min_three max_four min_four

attribute [local go_sem high] eqA54
/-! ### match_Match: function 92 -/
def match_Match.l0 : Nat → List (S54) → List (S104) → List (S54) → Int → List (S54) → Int → Int → Option ((List (S104)) × Bool × Int)
 | 0, _, _, _, _, _, _, _ => none
 | k + 1, x1, x10, x11, x12, x33, x34, x35 => if x35 < x34 then (if 0 ≤ x35 then (if x35 < (x33.length : Int) then ((match_variable.f k ((rd_T54 x33 x35).f0) ((rd_T54 x33 x35).f1)).bind fun t106 => (if t106 = true then ((match_end.f k x1 x12).bind fun t108 => (if 0 ≤ x12 then (if x12 ≤ t108 then (if t108 ≤ (x1.length : Int) then ((some ((x1.take (t108 : Int).toNat).drop (x12 : Int).toNat : List (S54))).bind fun y109 => (if ((rd_T54 x33 x35).f0).size ≤ 9223372036854775807 then (if (mapHas x11 ((rd_T54 x33 x35).f0) = true) then (if 0 ≤ (mapAt x11 ((rd_T54 x33 x35).f0)) then (if (mapAt x11 ((rd_T54 x33 x35).f0)) < (x10.length : Int) then ((api_Cell_104.f k ((rd_T104 x10 (mapAt x11 ((rd_T54 x33 x35).f0))).f1) y109).bind fun t114 => (if t114 = true then (match_Match.l0 k x1 x10 x11 (wrap64 (x12 + (y109.length : Int))) x33 x34 (wrap64 (x35 + 1))) else (some (([] : List (S104)), false, 0)))) else (none)) else (none)) else (if x11.length < 9223372036854775807 ∧ ((rd_T54 x33 x35).f0).size ≤ 9223372036854775807 ∧ 0 ≤ (x10.length : Int) ∧ (x10.length : Int) ≤ 9223372036854775807 then ((api_Cell_71.f y109).bind fun t118 => (if x10.length < 3518437208883 then (match_Match.l0 k x1 (x10 ++ [(⟨(rd_T54 x33 x35).f0, t118⟩ : S104)]) (mapPut x11 ((rd_T54 x33 x35).f0) (x10.length : Int)) (wrap64 (x12 + (y109.length : Int))) x33 x34 (wrap64 (x35 + 1))) else (none))) else (none))) else (none))) else (none)) else (none)) else (none))) else (if 0 ≤ x12 then (if x12 < (x1.length : Int) then (if (!((((rd_T54 x1 x12).f0).toList) == (((rd_T54 x33 x35).f0).toList)) || (!(((rd_T54 x1 x12).f1) == ((rd_T54 x33 x35).f1)))) = true then (some (([] : List (S104)), false, 0)) else (match_Match.l0 k x1 x10 x11 (wrap64 (x12 + 1)) x33 x34 (wrap64 (x35 + 1)))) else (none)) else (none)))) else (none)) else (none)) else (some (x10, true, 0))
def match_Match.g (k : Nat) (l0 : List (S54)) (l1 : List (S54)) : Option ((List (S104)) × Bool × Int) := match_Match.l0 k l1 ([] : List (S104)) (([] : List (S54))) 0 l0 (l0.length : Int) 0
def match_Match.f (k : Nat) (l0 : List (S54)) (l1 : List (S54)) : Option ((List (S104)) × Bool × Int) := (term_Check.f k l0).bind fun ta => (if ta = 0 then ((term_Check.f k l1).bind fun tb => (if tb = 0 then (match_Match.g k l0 l1) else (some (([] : List (S104)), false, tb)))) else (some (([] : List (S104)), false, ta)))
theorem match_Match.mono_l : ∀ k, (∀ y0 y1 y2 y3 y4 y5 y6, LeO (match_Match.l0 k y0 y1 y2 y3 y4 y5 y6) (match_Match.l0 (k + 1) y0 y1 y2 y3 y4 y5 y6))
 | 0 => fun _ _ _ _ _ _ _ r h => by simp [match_Match.l0] at h
 | k + 1 => by
  have ih0 := match_Match.mono_l k
  ·
   intro y0 y1 y2 y3 y4 y5 y6
   unfold match_Match.l0
   repeat' first
   | (with_reducible exact ih0 _ _ _ _ _ _ _)
   | (with_reducible exact api_Cell_104.mono _ _ _)
   | (with_reducible exact match_end.mono _ _ _)
   | (with_reducible exact match_variable.mono _ _ _)
   | (with_reducible exact LeO.refl _)
   | (with_reducible exact LeO.none _)
   | (with_reducible refine LeO.ite ?_ ?_)
   | (with_reducible refine LeO.bind ?_ (fun _ => ?_))
theorem match_Match.mono_g : ∀ a0 a1 k, LeO (match_Match.g k a0 a1) (match_Match.g (k + 1) a0 a1) := by
 intro a0 a1 k
 have ih0 := match_Match.mono_l k
 unfold match_Match.g
 repeat' first
  | (with_reducible exact ih0 _ _ _ _ _ _ _)
  | (with_reducible exact api_Cell_104.mono _ _ _)
  | (with_reducible exact match_end.mono _ _ _)
  | (with_reducible exact match_variable.mono _ _ _)
  | (with_reducible exact LeO.refl _)
  | (with_reducible exact LeO.none _)
  | (with_reducible refine LeO.ite ?_ ?_)
  | (with_reducible refine LeO.bind ?_ (fun _ => ?_))
theorem match_Match.mono : ∀ a0 a1 k, LeO (match_Match.f k a0 a1) (match_Match.f (k + 1) a0 a1) := by
 intro a0 a1 k
 unfold match_Match.f
 refine LeO.bind (term_Check.mono _ _) (fun _ => LeO.ite (LeO.bind (term_Check.mono _ _) (fun _ => LeO.ite (match_Match.mono_g _ _ _) (LeO.refl _))) (LeO.refl _))
def match_Match.T23 : Bool × List (List Nat × List Nat) := (true, [([], []), ([], []), ([1], [1]), ([], []), ([3], [3]), ([2, 4], [2, 4]), ([5], [5]), ([0, 6, 4], [0, 6]), ([7, 7, 0, 1, 2, 3, 4, 5, 6, 7], [0, 7])])
def match_Match.B23 : List Nat := [0, 0, 2, 0, 8, 30, 62, 127, 255]
theorem match_Match.tab23 : rtab .any (opsOf Try.f92 23) = match_Match.T23 := by kernel_rfl
theorem match_Match.bits23 : waitsOk match_Match.T23.2 match_Match.B23 = true := by kernel_rfl
theorem match_Match.calls (k : Nat) (A0 : Option Addr) (c0 : Nat) (l0 : List (S54)) (A1 : Option Addr) (c1 : Nat) (l1 : List (S54)) (r1 : List (S104)) (r2 : Bool) (r3 : Int) (w : World) (hr0 : Kd.C k54 w A0 l0.length l0) (hc0 : l0.length ≤ c0) (hr1 : Kd.C k54 w A1 l1.length l1) (hc1 : l1.length ≤ c1) (h : match_Match.f k l0 l1 = some (r1, r2, r3)) :
 Calls Try.prog 92 #[.slice A0 l0.length c0, .slice A1 l1.length c1] w fun e w' => ∃ v0_ : Value, e = .returned (.tuple #[v0_, .bool r2, .int .i64 r3]) ∧ Kd.S k104 104 w' w.heap.size (fun _ => True) v0_ r1 ∧ Below w.heap.size w w' := by
 have hu54 := Try.underlying54
 have hu104 := Try.underlying104
 have HR0 := zM hr0
 have HC0 := zM hc0
 clear hr0 hc0
 have HR1 := zM hr1
 have HC1 := zM hc1
 clear hr1 hc1
 have HB := zM (Below.refl w.heap.size w)
 have h0 : ((term_Check.f k l0).bind fun ta => (if ta = 0 then ((term_Check.f k l1).bind fun tb => (if tb = 0 then (match_Match.g k l0 l1) else (some (([] : List (S104)), false, tb)))) else (some (([] : List (S104)), false, ta)))) = some (r1, r2, r3) := h
 clear h
 replace h0 := zB h0
 obtain ⟨ta, Aa0, h0⟩ := h0
 have Aa := zM Aa0
 clear Aa0
 by_cases cta : ta = 0
 case neg =>
  have h1 : (some (([] : List (S104)), false, ta)) = some (r1, r2, r3) := by first | (rw [if_neg cta] at h0; exact h0) | exact (if_neg cta).symm.trans h0
  clear h0
  simp only [Option.some.injEq, Prod.mk.injEq] at h1
  obtain ⟨rfl, rfl, rfl⟩ := h1
  have ctab0 : (ta == 0) = false := zE cta
  have ctab1 : (ta != 0) = true := zF cta
  clear cta
  go_enter Try.func92, Try.ntmps92
  go_wp2
  refine wp_loop_rounds 1 ?_
  rw [rounds_succ]
  go_wp2_with (first | ((with_reducible refine gate_callee (f := 30) rfl ?_); refine goesL_ (some 27) rfl rfl Try.func30 (by kernel_rfl) rfl #[.slice A0 l0.length c0] rfl zl ?_; (with_reducible refine (term_Check.calls k _ _ l0 ta _ ?side1 ?side2 Aa.out).mono ?_); (case side1 => exact Kd.C_below HR0.out zg); (case side2 => exact HC0.out); rintro e w5 ⟨rfl, hb⟩; have hz1 : w5.cell? ⟨w.heap.size, 1, none⟩ = some (.slice A1 l1.length c1) := (hb.cell (p := ⟨w.heap.size, 1, none⟩) (by simp)).trans ((cell_of_row _ _ 1 _ _ (0, 0) (heap_alloc_new w _)).trans rfl); replace HB := zM (below_step (zA HB.out _) hb); refine ⟨_, rfl, ?_⟩))
  go_ret3
  exact ⟨_, zw, Kd.S_nil _ _ _ _ _, zb⟩
 case pos =>
 replace h0 : ((term_Check.f k l1).bind fun tb => (if tb = 0 then (match_Match.g k l0 l1) else (some (([] : List (S104)), false, tb)))) = some (r1, r2, r3) := (if_pos cta).symm.trans h0
 replace h0 := zB h0
 obtain ⟨tb, Ab0, h0⟩ := h0
 have Ab := zM Ab0
 clear Ab0
 have ctab0 : (ta == 0) = true := zG cta
 have ctab1 : (ta != 0) = false := zH cta
 clear cta
 by_cases ctb : tb = 0
 case neg =>
  have h1 : (some (([] : List (S104)), false, tb)) = some (r1, r2, r3) := by first | (rw [if_neg ctb] at h0; exact h0) | exact (if_neg ctb).symm.trans h0
  clear h0
  simp only [Option.some.injEq, Prod.mk.injEq] at h1
  obtain ⟨rfl, rfl, rfl⟩ := h1
  have ctbb0 : (tb == 0) = false := zE ctb
  have ctbb1 : (tb != 0) = true := zF ctb
  clear ctb
  go_enter Try.func92, Try.ntmps92
  go_wp2
  refine wp_loop_rounds 2 ?_
  rw [rounds_succ]
  go_wp2_with (first | ((with_reducible refine gate_callee (f := 30) rfl ?_); refine goesL_ (some 27) rfl rfl Try.func30 (by kernel_rfl) rfl #[.slice A0 l0.length c0] rfl zl ?_; (with_reducible refine (term_Check.calls k _ _ l0 ta _ ?side1 ?side2 Aa.out).mono ?_); (case side1 => exact Kd.C_below HR0.out zg); (case side2 => exact HC0.out); rintro e w5 ⟨rfl, hb⟩; have hz1 : w5.cell? ⟨w.heap.size, 1, none⟩ = some (.slice A1 l1.length c1) := (hb.cell (p := ⟨w.heap.size, 1, none⟩) (by simp)).trans ((cell_of_row _ _ 1 _ _ (0, 0) (heap_alloc_new w _)).trans rfl); replace HB := zM (below_step (zA HB.out _) hb); refine ⟨_, rfl, ?_⟩))
  rw [rounds_succ]
  go_wp2_with (first | ((with_reducible refine gate_callee (f := 30) rfl ?_); refine goesL_ (some 27) rfl rfl Try.func30 (by kernel_rfl) rfl #[.slice A1 l1.length c1] rfl zl ?_; (with_reducible refine (term_Check.calls k _ _ l1 tb _ ?side1 ?side2 Ab.out).mono ?_); (case side1 => exact Kd.C_below HR1.out HB.out); (case side2 => exact HC1.out); rintro e w6 ⟨rfl, hb⟩; replace HB := zM (below_step HB.out hb); refine ⟨_, rfl, ?_⟩))
  go_ret3
  exact ⟨_, zw, Kd.S_nil _ _ _ _ _, zb⟩
 case pos =>
 have h : match_Match.g k l0 l1 = some (r1, r2, r3) := (if_pos ctb).symm.trans h0
 clear h0
 have ctbb0 : (tb == 0) = true := zG ctb
 have ctbb1 : (tb != 0) = false := zH ctb
 clear ctb
 have H : (match_Match.l0 k l1 ([] : List (S104)) (([] : List (S54))) 0 l0 (l0.length : Int) 0) = some (r1, r2, r3) := h
 clear h
 obtain ⟨y101, hy101⟩ : ∃ y_ : List (S54), y_ = (([] : List (S54))) := ⟨_, rfl⟩
 replace H : (match_Match.l0 k l1 ([] : List (S104)) y101 0 l0 (l0.length : Int) 0) = some (r1, r2, r3) := by first | (rw [hy101]; with_reducible exact H) | (have H2_ := (Option.bind_some _ _).symm.trans H; rw [hy101]; with_reducible exact H2_) | (have H2_ := (Option.bind_some _ _).symm.trans H; with_reducible exact H2_) | with_reducible exact H | (rw [hy101]; exact H) | exact H
 have Ny101 := zM hy101
 clear hy101
 have H' := zM H
 clear H
 go_enter Try.func92, Try.ntmps92
 go_wp2
 refine wp_loop_rounds 3 ?_
 rw [rounds_succ]
 go_wp2_with (first | ((with_reducible refine gate_callee (f := 30) rfl ?_); refine goesL_ (some 27) rfl rfl Try.func30 (by kernel_rfl) rfl #[.slice A0 l0.length c0] rfl zl ?_; (with_reducible refine (term_Check.calls k _ _ l0 ta _ ?side1 ?side2 Aa.out).mono ?_); (case side1 => exact Kd.C_below HR0.out zg); (case side2 => exact HC0.out); rintro e w5 ⟨rfl, hb⟩; have hz1 : w5.cell? ⟨w.heap.size, 1, none⟩ = some (.slice A1 l1.length c1) := (hb.cell (p := ⟨w.heap.size, 1, none⟩) (by simp)).trans ((cell_of_row _ _ 1 _ _ (0, 0) (heap_alloc_new w _)).trans rfl); replace HB := zM (below_step (zA HB.out _) hb); refine ⟨_, rfl, ?_⟩))
 rw [rounds_succ]
 go_wp2_with (first | ((with_reducible refine gate_callee (f := 30) rfl ?_); refine goesL_ (some 27) rfl rfl Try.func30 (by kernel_rfl) rfl #[.slice A1 l1.length c1] rfl zl ?_; (with_reducible refine (term_Check.calls k _ _ l1 tb _ ?side1 ?side2 Ab.out).mono ?_); (case side1 => exact Kd.C_below HR1.out HB.out); (case side2 => exact HC1.out); rintro e w6 ⟨rfl, hb⟩; replace HB := zM (below_step HB.out hb); refine ⟨_, rfl, ?_⟩))
 rw [rounds_succ]
 go_wp2_with (first | ((with_reducible refine gate_dst (N := 32) rfl ?_); refine Kd.P_make k54 (N := 32) rfl rfl rfl ?_; intro v102 w3 ho4 hb; rw [← Ny101.out] at ho4; have HO103 := zM (Kd.P_lower ho4 (below_size zb)); replace HB := zM (below_step zb hb); clear hb ho4))
 go_loopg [10, 12, 35] k (fun kq v10 v12 v35 w' => ∃ (x10_1 : List (S104)) (x11_1 : List (S54)) (x12_1 : Int) (x35_1 : Int), v12 = .int .i64 x12_1 ∧ v35 = .int .i64 x35_1 ∧ Aside0 (match_Match.l0 kq l1 x10_1 x11_1 x12_1 l0 (l0.length : Int) x35_1 = some (r1, r2, r3)) ∧ Aside0 (kq ≤ k) ∧ Aside0 (Kd.S k104 104 w' w.heap.size (fun _ => True) v10 x10_1) ∧ Aside0 (Kd.P k54 150 w' w.heap.size (fun _ => True) v102 x11_1) ∧ Aside0 (Below w.heap.size w w'))
 case atStart => exact ⟨(([] : List (S104))), (y101), (0), (0), zy, zy, H', ⟨Nat.le_refl _⟩, ⟨by first | exact Kd.S_nil _ _ _ _ _ | exact Kd.N_nil _ _ _ _ _ | exact Kd.V_nil _ _ _ _ _ | exact Kd.Q_nil _ _ _ _ _ | exact Kd.R_nil _ _ _ _ _⟩, ⟨Kd.P_below HO103.out zg⟩, ⟨zb⟩⟩
 case round =>
  clear H'
  try clear c1
  try clear p2
  obtain ⟨x10_1, x11_1, x12_1, x35_1, rfl, rfl, HA, HK1, HO_10, HO_11, HB⟩ := hrel
  cases gk with
  | zero => exact absurd HA.out (by simp [match_Match.l0])
  | succ k1 =>
   have H := HA.out
   clear HA
   simp only [match_Match.l0] at H
   by_cases c5 : x35_1 < (l0.length : Int)
   ·
    rw [if_pos c5] at H
    have c5b0 : decide (x35_1 < (l0.length : Int)) = true := zQ c5
    clear c5
    by_cases c6 : 0 ≤ x35_1
    ·
     rw [if_pos c6] at H
     have c6b0 : decide (0 ≤ x35_1) = true := zQ c6
     clear c6
     by_cases c7 : x35_1 < (l0.length : Int)
     ·
      rw [if_pos c7] at H
      have c7b0 : decide (x35_1 < (l0.length : Int)) = true := zQ c7
      clear c7
      replace H := zB H
      obtain ⟨t106, A80, H⟩ := H
      try dsimp only at H
      have A8 := zM A80
      clear A80
      by_cases c9 : t106 = true
      ·
       subst c9
       rw [if_pos rfl] at H
       replace H := zB H
       obtain ⟨t108, A100, H⟩ := H
       try dsimp only at H
       have A10 := zM A100
       clear A100
       by_cases c11 : 0 ≤ x12_1
       ·
        rw [if_pos c11] at H
        have c11b0 := eq_true c11
        have c11b1 : decide (0 ≤ x12_1) = true := zQ c11
        clear c11
        by_cases c12 : x12_1 ≤ t108
        ·
         rw [if_pos c12] at H
         have c12b0 := eq_true c12
         have c12b1 : decide (x12_1 ≤ t108) = true := zQ c12
         clear c12
         by_cases c13 : t108 ≤ (l1.length : Int)
         ·
          rw [if_pos c13] at H
          have c13b0 := eq_true c13
          have c13b1 : decide (t108 ≤ (l1.length : Int)) = true := zQ c13
          clear c13
          obtain ⟨y109, hy109⟩ : ∃ y_ : List (S54), y_ = ((l1.take (t108 : Int).toNat).drop (x12_1 : Int).toNat) := ⟨_, rfl⟩
          replace H : (if ((rd_T54 l0 x35_1).f0).size ≤ 9223372036854775807 then (if (mapHas x11_1 ((rd_T54 l0 x35_1).f0) = true) then (if 0 ≤ (mapAt x11_1 ((rd_T54 l0 x35_1).f0)) then (if (mapAt x11_1 ((rd_T54 l0 x35_1).f0)) < (x10_1.length : Int) then ((api_Cell_104.f k1 ((rd_T104 x10_1 (mapAt x11_1 ((rd_T54 l0 x35_1).f0))).f1) y109).bind fun t114 => (if t114 = true then (match_Match.l0 k1 l1 x10_1 x11_1 (wrap64 (x12_1 + (y109.length : Int))) l0 (l0.length : Int) (wrap64 (x35_1 + 1))) else (some (([] : List (S104)), false, 0)))) else (none)) else (none)) else (if x11_1.length < 9223372036854775807 ∧ ((rd_T54 l0 x35_1).f0).size ≤ 9223372036854775807 ∧ 0 ≤ (x10_1.length : Int) ∧ (x10_1.length : Int) ≤ 9223372036854775807 then ((api_Cell_71.f y109).bind fun t118 => (if x10_1.length < 3518437208883 then (match_Match.l0 k1 l1 (x10_1 ++ [(⟨(rd_T54 l0 x35_1).f0, t118⟩ : S104)]) (mapPut x11_1 ((rd_T54 l0 x35_1).f0) (x10_1.length : Int)) (wrap64 (x12_1 + (y109.length : Int))) l0 (l0.length : Int) (wrap64 (x35_1 + 1))) else (none))) else (none))) else (none)) = some (r1, r2, r3) := by first | (rw [hy109]; with_reducible exact H) | (have H2_ := (Option.bind_some _ _).symm.trans H; rw [hy109]; with_reducible exact H2_) | (have H2_ := (Option.bind_some _ _).symm.trans H; with_reducible exact H2_) | with_reducible exact H | (rw [hy109]; exact H) | exact H
          have Ny109 := zM hy109
          clear hy109
          by_cases c14 : ((rd_T54 l0 x35_1).f0).size ≤ 9223372036854775807
          ·
           rw [if_pos c14] at H
           have LMc14 := zM c14
           clear c14
           by_cases c15 : (mapHas x11_1 ((rd_T54 l0 x35_1).f0) = true)
           ·
            rw [if_pos c15] at H
            have c15b0 : mapHas x11_1 ((rd_T54 l0 x35_1).f0) = true := c15
            clear c15
            by_cases c16 : 0 ≤ (mapAt x11_1 ((rd_T54 l0 x35_1).f0))
            ·
             rw [if_pos c16] at H
             have c16b0 : decide (0 ≤ (mapAt x11_1 ((rd_T54 l0 x35_1).f0))) = true := zQ c16
             clear c16
             by_cases c17 : (mapAt x11_1 ((rd_T54 l0 x35_1).f0)) < (x10_1.length : Int)
             ·
              rw [if_pos c17] at H
              have c17b0 : decide ((mapAt x11_1 ((rd_T54 l0 x35_1).f0)) < (x10_1.length : Int)) = true := zQ c17
              clear c17
              replace H := zB H
              obtain ⟨t114, A180, H⟩ := H
              try dsimp only at H
              have A18 := zM A180
              clear A180
              by_cases c19 : t114 = true
              ·
               subst c19
               rw [if_pos rfl] at H
               have H' := zM H
               clear H
               have p104 : 0 ≤ (x35_1 : Int) := zT zv
               have q104 : x35_1 < (l0.length : Int) := zT zv
               obtain ⟨ad104, e104, hx104_0, hx104_1⟩ := at_T54 HR0.out x35_1 p104 q104
               cases e104
               replace hx104_0 := (HB.out.cell (World.block_lt_of_cell? w _ hx104_0)).trans hx104_0
               replace hx104_1 := (HB.out.cell (World.block_lt_of_cell? w _ hx104_1)).trans hx104_1
               replace p104 := eq_true p104
               replace q104 := eq_true q104
               go_wp2_with (first | ((with_reducible refine gate_dst (N := 14) rfl ?_); refine box_event ?hg (N := 14) ?hd (cs := #[.string (⟨#[]⟩ : ByteArray), .int .i64 0]) (t := 54) ?hr ?_; (case hd => rfl); (case hg => rfl); (case hr => first | (go_simp; done) | (go_simp; rfl)); intro gb105 hg w20 hbox hb; replace HO_10 := zM (Kd.S_below (Kd.S_elderB (Kd.S_below HO_10.out zg) gb105 (Nat.le_of_eq hg.symm)) hb); replace HO_11 := zM (Kd.P_below (Kd.P_below HO_11.out zg) hb); have BK105 := zM (hbox); have GW105 := zM (zh hg : w.heap.size ≤ gb105); have GE105 := zM (zh hg : w.heap.size ≤ gb105); replace HB := zM (below_step zb hb); clear hb hbox hg; have hcz21_0 : w20.cell? ⟨gb105, 0, none⟩ = some (.string (⟨#[]⟩ : ByteArray)) := (zX BK105.out 0).trans rfl; have hcz21_1 : w20.cell? ⟨gb105, 1, none⟩ = some (.int .i64 0) := (zX BK105.out 1).trans rfl; have hfz21_0 := zY BK105.out 0; have hfz21_1 := zY BK105.out 1) | ((with_reducible refine gate_callee (f := 102) rfl ?_); refine goesL_ (some 40) rfl rfl Try.func102 (by kernel_rfl) rfl #[.agg #[.string ((rd_T54 l0 x35_1).f0), .int .i64 ((rd_T54 l0 x35_1).f1)]] rfl zl ?_; (with_reducible refine (match_variable.calls k1 ((rd_T54 l0 x35_1).f0) ((rd_T54 l0 x35_1).f1) true _ A8.out).mono ?_); rintro e w22 ⟨rfl, hb⟩; refine ⟨_, rfl, ?_⟩; replace HO_10 := zM (Kd.S_below (by (with_reducible repeat (first | apply Kd.S_alloc | apply Kd.S_drewN | apply Kd.S_drew)); exact (Kd.S_mono (Kd.S_far (p := ⟨gb105, 1, none⟩) (Kd.S_far (p := ⟨gb105, 0, none⟩) (Kd.S_mono HO_10.out (fun k_ hk => (⟨hk, hk.2⟩ : _ ∧ k_ ≠ gb105))) (fun _ hk => hk.2) (.string ((rd_T54 l0 x35_1).f0))) (fun _ hk => hk.2) (.int .i64 ((rd_T54 l0 x35_1).f1))) (fun _ h_ => h_.1))) hb); replace HO_11 := zM (Kd.P_below (by (with_reducible repeat (first | apply Kd.P_alloc | apply Kd.P_drewN | apply Kd.P_drew)); exact (Kd.P_mono (Kd.P_far (p := ⟨gb105, 1, none⟩) (Kd.P_far (p := ⟨gb105, 0, none⟩) (Kd.P_types HO_11.out BK105.out (by decide)) (fun _ hk => hk.2) (.string ((rd_T54 l0 x35_1).f0))) (fun _ hk => hk.2) (.int .i64 ((rd_T54 l0 x35_1).f1))) (fun _ h_ => h_.1))) hb); replace BK105 := zM (blk_below (g := gb105) (o := .cells #[.string ((rd_T54 l0 x35_1).f0), .int .i64 ((rd_T54 l0 x35_1).f1)] 54 (0, 0)) (by refine zk ?_; refine blk_put (cs := #[.string ((rd_T54 l0 x35_1).f0), .int .i64 0]) ?_ 1 _ rfl; refine zk ?_; refine blk_put (cs := #[.string (⟨#[]⟩ : ByteArray), .int .i64 0]) ?_ 0 _ rfl; refine zk ?_; exact BK105.out) hb); replace HB := zM (below_step zb hb); (try clear hb)) | ((with_reducible refine gate_callee (f := 103) rfl ?_); refine goesL_ (some 54) rfl rfl Try.func103 (by kernel_rfl) rfl #[.slice A1 l1.length c1, .int .i64 x12_1] rfl zl ?_; (with_reducible refine (match_end.calls k1 _ _ l1 x12_1 t108 _ ?side1 ?side2 A10.out).mono ?_); (case side1 => exact Kd.C_below HR1.out zb); (case side2 => exact HC1.out); rintro e w' ⟨rfl, ⟨nd, rfl⟩⟩; refine ⟨_, rfl, ?_⟩; have q23 : (t108 : Int) ≤ ((l1.length : Int) : Int) := zT zv; obtain ⟨i023, hi023, _, hsz23, _⟩ := info_parts info54; have hroom23 : l1.length ≤ c1 := HC1.out; have hC23 : Kd.C k54 _ A1 l1.length l1 := HR1.out; have ql23 : (x12_1 : Int) ≤ (t108 : Int) := zT zv; have q023 : (0 : Int) ≤ (x12_1 : Int) := zT zv; have hcut23 := cut_mid (P := Try.prog) 23 54 .i64 .i64 Try.underlying23 hi023 2 hsz23 A1 l1.length c1 x12_1 t108 q023 ql23 q23 hroom23; have hr23 := Kd.C_mid (lo := (x12_1 : Int).toNat) (hi := (t108 : Int).toNat) (c := c1) hC23 (by omega) (by omega) hroom23; obtain ⟨A23, hA23⟩ : ∃ Aq_, Aq_ = (if c1 = (x12_1 : Int).toNat then A1 else (A1 : Option Addr).map (·.add ((x12_1 : Int).toNat * 2))) := ⟨_, rfl⟩; obtain ⟨c23, hc23⟩ : ∃ cq_, cq_ = c1 - (x12_1 : Int).toNat := ⟨_, rfl⟩; have hy23 : y109.length = (t108 : Int).toNat - (x12_1 : Int).toNat := (by rw [Ny109.out, List.length_drop, List.length_take] <;> omega); rw [show ((l1).take (t108 : Int).toNat).drop (x12_1 : Int).toNat = y109 from Ny109.out.symm] at hr23; replace hr23 : Kd.C k54 _ A23 y109.length y109 := (by rw [hA23]; exact hr23); rw [← hy23, ← hA23, ← hc23] at hcut23; have HR112 := zM hr23; have HC112 := zM (show y109.length ≤ c23 from by rw [hy23, hc23]; exact Nat.sub_le_sub_right (Nat.le_trans (by omega) hroom23) _); clear hr23 hC23 hroom23 hi023 hsz23 hc23; have KY23 := zM hy23; have KA23 := zM hA23; clear hy23 hA23; replace q23 := eq_true q23; have hcz24_0 : w22.cell? ⟨gb105, 0, none⟩ = some (.string ((rd_T54 l0 x35_1).f0)) := (zX BK105.out 0).trans rfl; have hcz24_1 : w22.cell? ⟨gb105, 1, none⟩ = some (.int .i64 ((rd_T54 l0 x35_1).f1)) := (zX BK105.out 1).trans rfl; have hfz24_0 := zY BK105.out 0; have hfz24_1 := zY BK105.out 1; obtain ⟨Ao25, co25, eo25⟩ := Kd.S_slice HO_10.out; subst eo25; have p113 : 0 ≤ ((mapAt x11_1 ((rd_T54 l0 x35_1).f0)) : Int) := zT zv; have q113 : (mapAt x11_1 ((rd_T54 l0 x35_1).f0)) < (x10_1.length : Int) := zT zv; obtain ⟨ad113, A113_1, c113_1, e113, hx113_0, hx113_1, hl113_1, hi113_1⟩ := at_T104 (Kd.S_reads' HO_10.out).2.2 (mapAt x11_1 ((rd_T54 l0 x35_1).f0)) p113 q113; cases e113; obtain ⟨ce113, hce113, hMe113, hcc113⟩ := Kd.S_get HO_10.out z104 (mapAt x11_1 ((rd_T54 l0 x35_1).f0)) p113 (by first | exact q113 | exact zT zv | (have e_ := (Kd.S_reads' HO_10.out).1; omega)); obtain ⟨ve113_1, rfl, ge113_1⟩ := k104_openM hMe113; have hv113_1 := hcc113 1 _ rfl; rw [add_field _ _ 1 (by omega)] at hv113_1; replace hv113_1 := zS (hv113_1.symm.trans hx113_1); rw [hv113_1] at ge113_1; have HL113_1 := zM (show Kd.R k54 54 _ _ _ _ ((rd_T104 x10_1 (mapAt x11_1 ((rd_T54 l0 x35_1).f0))).f1) from ge113_1); clear hv113_1 ge113_1; clear hcc113 hce113; have HR113_1 := zM hi113_1; have HC113_1 := zM hl113_1; clear hi113_1 hl113_1; replace p113 := eq_true p113; replace q113 := eq_true q113) | ((with_reducible refine gate_dst (N := 64) rfl ?_); refine Kd.P_look (v := v102) (m := x11_1) (s := ((rd_T54 l0 x35_1).f0)) rfl rfl rfl rfl LMc14.out (Kd.P_below HO_11.out zg) ?_) | ((with_reducible refine gate_callee (f := 104) rfl ?_); refine goesL_ (some 90) rfl rfl Try.func104 (by kernel_rfl) rfl #[.slice A113_1 ((rd_T104 x10_1 (mapAt x11_1 ((rd_T54 l0 x35_1).f0))).f1).length c113_1, .slice A23 y109.length c23] rfl zl ?_; (with_reducible refine (api_Cell_104.calls k1 _ _ ((rd_T104 x10_1 (mapAt x11_1 ((rd_T54 l0 x35_1).f0))).f1) _ _ y109 true _ ?side1 ?side2 ?side3 ?side4 A18.out).mono ?_); (case side1 => repeat (first | exact (by repeat (first | (with_reducible exact HR113_1.out) | (with_reducible first | refine Kd.C_alloc ?_ _ | refine Kd.C_drewN ?_ _ | refine Kd.C_drew ?_) | exact HR113_1.out)) | (with_reducible first | refine Kd.C_alloc ?_ _ | refine Kd.C_drewN ?_ _ | refine Kd.C_drew ?_))); (case side2 => exact HC113_1.out); (case side3 => exact Kd.C_below (Kd.C_below HR112.out zb) zg); (case side4 => exact HC112.out); rintro e w' ⟨rfl, ⟨nd, rfl⟩⟩; refine ⟨_, rfl, ?_⟩))
               go_roundg k1
               case measure => have := HK1.out; omega
               case rel => exact ⟨(x10_1), (x11_1), (wrap64 (x12_1 + (y109.length : Int))), (wrap64 (x35_1 + 1)), zy, zy, H', ⟨by have := HK1.out; omega⟩, ⟨by (with_reducible repeat (first | apply Kd.S_alloc | apply Kd.S_drewN | apply Kd.S_drew)); exact Kd.S_mono HO_10.out (fun _ hk => trivial)⟩, ⟨Kd.P_below HO_11.out zg⟩, ⟨zb⟩⟩
              ·
               replace c19 := zI c19
               subst c19
               rw [if_neg (show ¬ (false = true) by decide)] at H
               simp only [Option.some.injEq, Prod.mk.injEq] at H
               obtain ⟨rfl, rfl, rfl⟩ := H
               have p104 : 0 ≤ (x35_1 : Int) := zT zv
               have q104 : x35_1 < (l0.length : Int) := zT zv
               obtain ⟨ad104, e104, hx104_0, hx104_1⟩ := at_T54 HR0.out x35_1 p104 q104
               cases e104
               replace hx104_0 := (HB.out.cell (World.block_lt_of_cell? w _ hx104_0)).trans hx104_0
               replace hx104_1 := (HB.out.cell (World.block_lt_of_cell? w _ hx104_1)).trans hx104_1
               replace p104 := eq_true p104
               replace q104 := eq_true q104
               go_wp2_with (first | ((with_reducible refine gate_dst (N := 14) rfl ?_); refine box_event ?hg (N := 14) ?hd (cs := #[.string (⟨#[]⟩ : ByteArray), .int .i64 0]) (t := 54) ?hr ?_; (case hd => rfl); (case hg => rfl); (case hr => first | (go_simp; done) | (go_simp; rfl)); intro gb105 hg w26 hbox hb; replace HO_10 := zM (Kd.S_below (Kd.S_elderB (Kd.S_below HO_10.out zg) gb105 (Nat.le_of_eq hg.symm)) hb); replace HO_11 := zM (Kd.P_below (Kd.P_below HO_11.out zg) hb); have BK105 := zM (hbox); have GW105 := zM (zh hg : w.heap.size ≤ gb105); have GE105 := zM (zh hg : w.heap.size ≤ gb105); replace HB := zM (below_step zb hb); clear hb hbox hg; have hcz27_0 : w26.cell? ⟨gb105, 0, none⟩ = some (.string (⟨#[]⟩ : ByteArray)) := (zX BK105.out 0).trans rfl; have hcz27_1 : w26.cell? ⟨gb105, 1, none⟩ = some (.int .i64 0) := (zX BK105.out 1).trans rfl; have hfz27_0 := zY BK105.out 0; have hfz27_1 := zY BK105.out 1) | ((with_reducible refine gate_callee (f := 102) rfl ?_); refine goesL_ (some 40) rfl rfl Try.func102 (by kernel_rfl) rfl #[.agg #[.string ((rd_T54 l0 x35_1).f0), .int .i64 ((rd_T54 l0 x35_1).f1)]] rfl zl ?_; (with_reducible refine (match_variable.calls k1 ((rd_T54 l0 x35_1).f0) ((rd_T54 l0 x35_1).f1) true _ A8.out).mono ?_); rintro e w28 ⟨rfl, hb⟩; refine ⟨_, rfl, ?_⟩; replace HO_10 := zM (Kd.S_below (by (with_reducible repeat (first | apply Kd.S_alloc | apply Kd.S_drewN | apply Kd.S_drew)); exact (Kd.S_mono (Kd.S_far (p := ⟨gb105, 1, none⟩) (Kd.S_far (p := ⟨gb105, 0, none⟩) (Kd.S_mono HO_10.out (fun k_ hk => (⟨hk, hk.2⟩ : _ ∧ k_ ≠ gb105))) (fun _ hk => hk.2) (.string ((rd_T54 l0 x35_1).f0))) (fun _ hk => hk.2) (.int .i64 ((rd_T54 l0 x35_1).f1))) (fun _ h_ => h_.1))) hb); replace HO_11 := zM (Kd.P_below (by (with_reducible repeat (first | apply Kd.P_alloc | apply Kd.P_drewN | apply Kd.P_drew)); exact (Kd.P_mono (Kd.P_far (p := ⟨gb105, 1, none⟩) (Kd.P_far (p := ⟨gb105, 0, none⟩) (Kd.P_types HO_11.out BK105.out (by decide)) (fun _ hk => hk.2) (.string ((rd_T54 l0 x35_1).f0))) (fun _ hk => hk.2) (.int .i64 ((rd_T54 l0 x35_1).f1))) (fun _ h_ => h_.1))) hb); replace BK105 := zM (blk_below (g := gb105) (o := .cells #[.string ((rd_T54 l0 x35_1).f0), .int .i64 ((rd_T54 l0 x35_1).f1)] 54 (0, 0)) (by refine zk ?_; refine blk_put (cs := #[.string ((rd_T54 l0 x35_1).f0), .int .i64 0]) ?_ 1 _ rfl; refine zk ?_; refine blk_put (cs := #[.string (⟨#[]⟩ : ByteArray), .int .i64 0]) ?_ 0 _ rfl; refine zk ?_; exact BK105.out) hb); replace HB := zM (below_step zb hb); (try clear hb)) | ((with_reducible refine gate_callee (f := 103) rfl ?_); refine goesL_ (some 54) rfl rfl Try.func103 (by kernel_rfl) rfl #[.slice A1 l1.length c1, .int .i64 x12_1] rfl zl ?_; (with_reducible refine (match_end.calls k1 _ _ l1 x12_1 t108 _ ?side1 ?side2 A10.out).mono ?_); (case side1 => exact Kd.C_below HR1.out zb); (case side2 => exact HC1.out); rintro e w' ⟨rfl, ⟨nd, rfl⟩⟩; refine ⟨_, rfl, ?_⟩; have q29 : (t108 : Int) ≤ ((l1.length : Int) : Int) := zT zv; obtain ⟨i029, hi029, _, hsz29, _⟩ := info_parts info54; have hroom29 : l1.length ≤ c1 := HC1.out; have hC29 : Kd.C k54 _ A1 l1.length l1 := HR1.out; have ql29 : (x12_1 : Int) ≤ (t108 : Int) := zT zv; have q029 : (0 : Int) ≤ (x12_1 : Int) := zT zv; have hcut29 := cut_mid (P := Try.prog) 23 54 .i64 .i64 Try.underlying23 hi029 2 hsz29 A1 l1.length c1 x12_1 t108 q029 ql29 q29 hroom29; have hr29 := Kd.C_mid (lo := (x12_1 : Int).toNat) (hi := (t108 : Int).toNat) (c := c1) hC29 (by omega) (by omega) hroom29; obtain ⟨A29, hA29⟩ : ∃ Aq_, Aq_ = (if c1 = (x12_1 : Int).toNat then A1 else (A1 : Option Addr).map (·.add ((x12_1 : Int).toNat * 2))) := ⟨_, rfl⟩; obtain ⟨c29, hc29⟩ : ∃ cq_, cq_ = c1 - (x12_1 : Int).toNat := ⟨_, rfl⟩; have hy29 : y109.length = (t108 : Int).toNat - (x12_1 : Int).toNat := (by rw [Ny109.out, List.length_drop, List.length_take] <;> omega); rw [show ((l1).take (t108 : Int).toNat).drop (x12_1 : Int).toNat = y109 from Ny109.out.symm] at hr29; replace hr29 : Kd.C k54 _ A29 y109.length y109 := (by rw [hA29]; exact hr29); rw [← hy29, ← hA29, ← hc29] at hcut29; have HR112 := zM hr29; have HC112 := zM (show y109.length ≤ c29 from by rw [hy29, hc29]; exact Nat.sub_le_sub_right (Nat.le_trans (by omega) hroom29) _); clear hr29 hC29 hroom29 hi029 hsz29 hc29; have KY29 := zM hy29; have KA29 := zM hA29; clear hy29 hA29; replace q29 := eq_true q29; have hcz30_0 : w28.cell? ⟨gb105, 0, none⟩ = some (.string ((rd_T54 l0 x35_1).f0)) := (zX BK105.out 0).trans rfl; have hcz30_1 : w28.cell? ⟨gb105, 1, none⟩ = some (.int .i64 ((rd_T54 l0 x35_1).f1)) := (zX BK105.out 1).trans rfl; have hfz30_0 := zY BK105.out 0; have hfz30_1 := zY BK105.out 1; obtain ⟨Ao31, co31, eo31⟩ := Kd.S_slice HO_10.out; subst eo31; have p113 : 0 ≤ ((mapAt x11_1 ((rd_T54 l0 x35_1).f0)) : Int) := zT zv; have q113 : (mapAt x11_1 ((rd_T54 l0 x35_1).f0)) < (x10_1.length : Int) := zT zv; obtain ⟨ad113, A113_1, c113_1, e113, hx113_0, hx113_1, hl113_1, hi113_1⟩ := at_T104 (Kd.S_reads' HO_10.out).2.2 (mapAt x11_1 ((rd_T54 l0 x35_1).f0)) p113 q113; cases e113; obtain ⟨ce113, hce113, hMe113, hcc113⟩ := Kd.S_get HO_10.out z104 (mapAt x11_1 ((rd_T54 l0 x35_1).f0)) p113 (by first | exact q113 | exact zT zv | (have e_ := (Kd.S_reads' HO_10.out).1; omega)); obtain ⟨ve113_1, rfl, ge113_1⟩ := k104_openM hMe113; have hv113_1 := hcc113 1 _ rfl; rw [add_field _ _ 1 (by omega)] at hv113_1; replace hv113_1 := zS (hv113_1.symm.trans hx113_1); rw [hv113_1] at ge113_1; have HL113_1 := zM (show Kd.R k54 54 _ _ _ _ ((rd_T104 x10_1 (mapAt x11_1 ((rd_T54 l0 x35_1).f0))).f1) from ge113_1); clear hv113_1 ge113_1; clear hcc113 hce113; have HR113_1 := zM hi113_1; have HC113_1 := zM hl113_1; clear hi113_1 hl113_1; replace p113 := eq_true p113; replace q113 := eq_true q113) | ((with_reducible refine gate_dst (N := 64) rfl ?_); refine Kd.P_look (v := v102) (m := x11_1) (s := ((rd_T54 l0 x35_1).f0)) rfl rfl rfl rfl LMc14.out (Kd.P_below HO_11.out zg) ?_) | ((with_reducible refine gate_callee (f := 104) rfl ?_); refine goesL_ (some 90) rfl rfl Try.func104 (by kernel_rfl) rfl #[.slice A113_1 ((rd_T104 x10_1 (mapAt x11_1 ((rd_T54 l0 x35_1).f0))).f1).length c113_1, .slice A29 y109.length c29] rfl zl ?_; (with_reducible refine (api_Cell_104.calls k1 _ _ ((rd_T104 x10_1 (mapAt x11_1 ((rd_T54 l0 x35_1).f0))).f1) _ _ y109 false _ ?side1 ?side2 ?side3 ?side4 A18.out).mono ?_); (case side1 => repeat (first | exact (by repeat (first | (with_reducible exact HR113_1.out) | (with_reducible first | refine Kd.C_alloc ?_ _ | refine Kd.C_drewN ?_ _ | refine Kd.C_drew ?_) | exact HR113_1.out)) | (with_reducible first | refine Kd.C_alloc ?_ _ | refine Kd.C_drewN ?_ _ | refine Kd.C_drew ?_))); (case side2 => exact HC113_1.out); (case side3 => exact Kd.C_below (Kd.C_below HR112.out zb) zg); (case side4 => exact HC112.out); rintro e w' ⟨rfl, ⟨nd, rfl⟩⟩; refine ⟨_, rfl, ?_⟩))
               go_ret3
               exact ⟨_, zw, by first | exact Kd.S_nil _ _ _ _ _ | exact Kd.N_nil _ _ _ _ _ | exact Kd.V_nil _ _ _ _ _ | exact Kd.Q_nil _ _ _ _ _ | exact Kd.R_nil _ _ _ _ _, zb⟩
             ·
              rw [if_neg c17] at H
              exact absurd H (by simp)
            ·
             rw [if_neg c16] at H
             exact absurd H (by simp)
           ·
            rw [if_neg c15] at H
            have c15b0 : mapHas x11_1 ((rd_T54 l0 x35_1).f0) = false := by simpa using c15
            clear c15
            by_cases c32 : x11_1.length < 9223372036854775807 ∧ ((rd_T54 l0 x35_1).f0).size ≤ 9223372036854775807 ∧ 0 ≤ (x10_1.length : Int) ∧ (x10_1.length : Int) ≤ 9223372036854775807
            ·
             rw [if_pos c32] at H
             have LMc32 := zM c32
             clear c32
             obtain ⟨y115, hy115⟩ : ∃ y_ : List (S54), y_ = (mapPut x11_1 ((rd_T54 l0 x35_1).f0) (x10_1.length : Int)) := ⟨_, rfl⟩
             replace H : ((api_Cell_71.f y109).bind fun t118 => (if x10_1.length < 3518437208883 then (match_Match.l0 k1 l1 (x10_1 ++ [(⟨(rd_T54 l0 x35_1).f0, t118⟩ : S104)]) y115 (wrap64 (x12_1 + (y109.length : Int))) l0 (l0.length : Int) (wrap64 (x35_1 + 1))) else (none))) = some (r1, r2, r3) := by first | (rw [hy115]; with_reducible exact H) | (have H2_ := (Option.bind_some _ _).symm.trans H; rw [hy115]; with_reducible exact H2_) | (have H2_ := (Option.bind_some _ _).symm.trans H; with_reducible exact H2_) | with_reducible exact H | (rw [hy115]; exact H) | exact H
             have Ny115 := zM hy115
             clear hy115
             replace H := zB H
             obtain ⟨t118, A330, H⟩ := H
             try dsimp only at H
             have A33 := zM A330
             clear A330
             by_cases c34 : x10_1.length < 3518437208883
             ·
              rw [if_pos c34] at H
              have LMc34 := zM c34
              clear c34
              obtain ⟨y121, hy121⟩ : ∃ y_ : List (S104), y_ = (x10_1 ++ [(⟨(rd_T54 l0 x35_1).f0, t118⟩ : S104)]) := ⟨_, rfl⟩
              replace H : (match_Match.l0 k1 l1 y121 y115 (wrap64 (x12_1 + (y109.length : Int))) l0 (l0.length : Int) (wrap64 (x35_1 + 1))) = some (r1, r2, r3) := by first | (rw [hy121]; with_reducible exact H) | (have H2_ := (Option.bind_some _ _).symm.trans H; rw [hy121]; with_reducible exact H2_) | (have H2_ := (Option.bind_some _ _).symm.trans H; with_reducible exact H2_) | with_reducible exact H | (rw [hy121]; exact H) | exact H
              have Ny121 := zM hy121
              clear hy121
              have H' := zM H
              clear H
              have p104 : 0 ≤ (x35_1 : Int) := zT zv
              have q104 : x35_1 < (l0.length : Int) := zT zv
              obtain ⟨ad104, e104, hx104_0, hx104_1⟩ := at_T54 HR0.out x35_1 p104 q104
              cases e104
              replace hx104_0 := (HB.out.cell (World.block_lt_of_cell? w _ hx104_0)).trans hx104_0
              replace hx104_1 := (HB.out.cell (World.block_lt_of_cell? w _ hx104_1)).trans hx104_1
              replace p104 := eq_true p104
              replace q104 := eq_true q104
              try go_wp2_with (first | ((with_reducible refine gate_dst (N := 14) rfl ?_); refine box_event ?hg (N := 14) ?hd (cs := #[.string (⟨#[]⟩ : ByteArray), .int .i64 0]) (t := 54) ?hr ?_; (case hd => rfl); (case hg => rfl); (case hr => first | (go_simp; done) | (go_simp; rfl)); intro gb105 hg w35 hbox hb; replace HO_10 := zM (Kd.S_below (Kd.S_elderB (Kd.S_below HO_10.out zg) gb105 (Nat.le_of_eq hg.symm)) hb); replace HO_11 := zM (Kd.P_below (Kd.P_below HO_11.out zg) hb); have BK105 := zM (hbox); have GW105 := zM (zh hg : w.heap.size ≤ gb105); have GE105 := zM (zh hg : w.heap.size ≤ gb105); replace HB := zM (below_step zb hb); clear hb hbox hg; have hcz36_0 : w35.cell? ⟨gb105, 0, none⟩ = some (.string (⟨#[]⟩ : ByteArray)) := (zX BK105.out 0).trans rfl; have hcz36_1 : w35.cell? ⟨gb105, 1, none⟩ = some (.int .i64 0) := (zX BK105.out 1).trans rfl; have hfz36_0 := zY BK105.out 0; have hfz36_1 := zY BK105.out 1) | ((with_reducible refine gate_callee (f := 102) rfl ?_); refine goesL_ (some 40) rfl rfl Try.func102 (by kernel_rfl) rfl #[.agg #[.string ((rd_T54 l0 x35_1).f0), .int .i64 ((rd_T54 l0 x35_1).f1)]] rfl zl ?_; (with_reducible refine (match_variable.calls k1 ((rd_T54 l0 x35_1).f0) ((rd_T54 l0 x35_1).f1) true _ A8.out).mono ?_); rintro e w37 ⟨rfl, hb⟩; refine ⟨_, rfl, ?_⟩; replace HO_10 := zM (Kd.S_below (by (with_reducible repeat (first | apply Kd.S_alloc | apply Kd.S_drewN | apply Kd.S_drew)); exact (Kd.S_mono (Kd.S_far (p := ⟨gb105, 1, none⟩) (Kd.S_far (p := ⟨gb105, 0, none⟩) (Kd.S_mono HO_10.out (fun k_ hk => (⟨hk, hk.2⟩ : _ ∧ k_ ≠ gb105))) (fun _ hk => hk.2) (.string ((rd_T54 l0 x35_1).f0))) (fun _ hk => hk.2) (.int .i64 ((rd_T54 l0 x35_1).f1))) (fun _ h_ => h_.1))) hb); replace HO_11 := zM (Kd.P_below (by (with_reducible repeat (first | apply Kd.P_alloc | apply Kd.P_drewN | apply Kd.P_drew)); exact (Kd.P_mono (Kd.P_far (p := ⟨gb105, 1, none⟩) (Kd.P_far (p := ⟨gb105, 0, none⟩) (Kd.P_types HO_11.out BK105.out (by decide)) (fun _ hk => hk.2) (.string ((rd_T54 l0 x35_1).f0))) (fun _ hk => hk.2) (.int .i64 ((rd_T54 l0 x35_1).f1))) (fun _ h_ => h_.1))) hb); replace BK105 := zM (blk_below (g := gb105) (o := .cells #[.string ((rd_T54 l0 x35_1).f0), .int .i64 ((rd_T54 l0 x35_1).f1)] 54 (0, 0)) (by refine zk ?_; refine blk_put (cs := #[.string ((rd_T54 l0 x35_1).f0), .int .i64 0]) ?_ 1 _ rfl; refine zk ?_; refine blk_put (cs := #[.string (⟨#[]⟩ : ByteArray), .int .i64 0]) ?_ 0 _ rfl; refine zk ?_; exact BK105.out) hb); replace HB := zM (below_step zb hb); (try clear hb)) | ((with_reducible refine gate_callee (f := 103) rfl ?_); refine goesL_ (some 54) rfl rfl Try.func103 (by kernel_rfl) rfl #[.slice A1 l1.length c1, .int .i64 x12_1] rfl zl ?_; (with_reducible refine (match_end.calls k1 _ _ l1 x12_1 t108 _ ?side1 ?side2 A10.out).mono ?_); (case side1 => exact Kd.C_below HR1.out zb); (case side2 => exact HC1.out); rintro e w' ⟨rfl, ⟨nd, rfl⟩⟩; refine ⟨_, rfl, ?_⟩; have q38 : (t108 : Int) ≤ ((l1.length : Int) : Int) := zT zv; obtain ⟨i038, hi038, _, hsz38, _⟩ := info_parts info54; have hroom38 : l1.length ≤ c1 := HC1.out; have hC38 : Kd.C k54 _ A1 l1.length l1 := HR1.out; have ql38 : (x12_1 : Int) ≤ (t108 : Int) := zT zv; have q038 : (0 : Int) ≤ (x12_1 : Int) := zT zv; have hcut38 := cut_mid (P := Try.prog) 23 54 .i64 .i64 Try.underlying23 hi038 2 hsz38 A1 l1.length c1 x12_1 t108 q038 ql38 q38 hroom38; have hr38 := Kd.C_mid (lo := (x12_1 : Int).toNat) (hi := (t108 : Int).toNat) (c := c1) hC38 (by omega) (by omega) hroom38; obtain ⟨A38, hA38⟩ : ∃ Aq_, Aq_ = (if c1 = (x12_1 : Int).toNat then A1 else (A1 : Option Addr).map (·.add ((x12_1 : Int).toNat * 2))) := ⟨_, rfl⟩; obtain ⟨c38, hc38⟩ : ∃ cq_, cq_ = c1 - (x12_1 : Int).toNat := ⟨_, rfl⟩; have hy38 : y109.length = (t108 : Int).toNat - (x12_1 : Int).toNat := (by rw [Ny109.out, List.length_drop, List.length_take] <;> omega); rw [show ((l1).take (t108 : Int).toNat).drop (x12_1 : Int).toNat = y109 from Ny109.out.symm] at hr38; replace hr38 : Kd.C k54 _ A38 y109.length y109 := (by rw [hA38]; exact hr38); rw [← hy38, ← hA38, ← hc38] at hcut38; have HR112 := zM hr38; have HC112 := zM (show y109.length ≤ c38 from by rw [hy38, hc38]; exact Nat.sub_le_sub_right (Nat.le_trans (by omega) hroom38) _); clear hr38 hC38 hroom38 hi038 hsz38 hc38; have KY38 := zM hy38; have KA38 := zM hA38; clear hy38 hA38; replace q38 := eq_true q38; have hcz39_0 : w37.cell? ⟨gb105, 0, none⟩ = some (.string ((rd_T54 l0 x35_1).f0)) := (zX BK105.out 0).trans rfl; have hcz39_1 : w37.cell? ⟨gb105, 1, none⟩ = some (.int .i64 ((rd_T54 l0 x35_1).f1)) := (zX BK105.out 1).trans rfl; have hfz39_0 := zY BK105.out 0; have hfz39_1 := zY BK105.out 1; obtain ⟨Ao40, co40, eo40⟩ := Kd.S_slice HO_10.out; subst eo40) | ((with_reducible refine gate_dst (N := 64) rfl ?_); refine Kd.P_look (v := v102) (m := x11_1) (s := ((rd_T54 l0 x35_1).f0)) rfl rfl rfl rfl LMc14.out (Kd.P_below HO_11.out zg) ?_) | (at_mapUpdate; refine Kd.P_put (v := v102) (m := x11_1) (s := ((rd_T54 l0 x35_1).f0)) (n := (x10_1.length : Int)) rfl rfl rfl rfl rfl LMc32.out (Kd.P_below HO_11.out zg) ?_; intro w41 ho hm; rw [← Ny115.out] at ho; replace HO_10 := zM (Kd.S_mapped (Kd.S_below HO_10.out zg) hm); replace BK105 := zM (blk_mapped (g := gb105) (o := .cells #[.string ((rd_T54 l0 x35_1).f0), .int .i64 ((rd_T54 l0 x35_1).f1)] 54 (0, 0)) (zk BK105.out) hm); replace HB := zM (below_mapped zb hm); replace HO_11 := zM (ho); clear ho hm))
              have n0_ := zM (Kd.S_drew HO_10.out)
              have n1_ := zM (Kd.P_drew HO_11.out)
              have n2_ := zM (blk_drew BK105.out)
              have n3_ := zM (zD HB.out)
              clear HO_10
              clear HO_11
              clear BK105
              clear HB
              have HO_10 := n0_
              have HO_11 := n1_
              have BK105 := n2_
              have HB := n3_
              clear n0_ n1_ n2_ n3_
              refine start_ (n := 9) (S := fun w' => w'.cell? ⟨gb105, 0, none⟩ = some (.string ((rd_T54 l0 x35_1).f0)) ∧ w'.cell? ⟨gb105, 1, none⟩ = some (.int .i64 ((rd_T54 l0 x35_1).f1))) (ds := []) #[false, false, false, false, false, false, false, false, false] (by kernel_rfl) rfl rfl ⟨(zX BK105.out 0).trans rfl, (zX BK105.out 1).trans rfl⟩ (fun hHeld => ?_); refine with_tabW match_Match.tab23 match_Match.bits23 (fun HT_ HW_ => ?_)
              generalize w41.drew = w42 at HO_10 HO_11 BK105 HB hHeld ⊢
              refine pure_ (i := 0) (N := some 75) (v := ?_) (a' := ?_) #[true, false, false, false, false, false, false, false, false] rfl rfl (any_of HT_.out (by kernel_rfl)) (fun _ _ _ h => h) (Or.inl ⟨by rfl, ?_⟩) ?_ ?_
              rotate_left
              ·
               intro w'
               go_simp
               with_reducible rfl
              rotate_left
              ·
               simp only [Act.put, zp1, zp2, zp3, i64_w, i32_w]
               rfl
              refine pure_ (i := 1) (N := some 76) (v := ?_) (a' := ?_) #[true, true, false, false, false, false, false, false, false] rfl rfl (any_of HT_.out (by kernel_rfl)) (fun _ _ _ h => h) (Or.inl ⟨by rfl, ?_⟩) ?_ ?_
              rotate_left
              ·
               intro w'
               go_simp
               with_reducible rfl
              rotate_left
              ·
               simp only [Act.put, zp1, zp2, zp3, i64_w, i32_w]
               rfl
              refine pure_ (i := 3) (N := some 78) (v := ?_) (a' := ?_) #[true, true, false, true, false, false, false, false, false] rfl rfl (any_of HT_.out (by kernel_rfl)) (fun _ _ _ h => h) (Or.inl ⟨by rfl, ?_⟩) ?_ ?_
              rotate_left
              ·
               intro w'
               go_simp
               with_reducible rfl
              rotate_left
              ·
               simp only [Act.put, zp1, zp2, zp3, i64_w, i32_w]
               rfl
              refine take_ (i := 2) (N := some 77) (v := ?_) (a' := ?_) #[true, true, true, true, false, false, false, false, false] rfl rfl (take_ofW HT_.out HW_.out (by kernel_rfl)) (fun _ _ _ h => h) (Or.inl ⟨by rfl, ?_⟩) hHeld ?_ ?_
              rotate_left
              ·
               rintro w' ⟨s0, s1⟩
               go_simp
               with_reducible rfl
              rotate_left
              ·
               simp only [Act.put, zp1, zp2, zp3, i64_w, i32_w]
               rfl
              refine one_ (i := 4) (N := some 79) #[true, true, true, true, true, false, false, false, false] rfl rfl (one_of HT_.out (by kernel_rfl)) (by decide) (fun K hK => ?_)
              refine goes_ Try.func71 (by kernel_rfl) rfl #[.slice A38 y109.length c38] (by rfl) rfl rfl zl ?_
              with_reducible refine (api_Cell_71.calls _ _ y109 t118 _ ?side1 ?side2 A33.out).mono ?_
              (case side1 => exact Kd.C_below HR112.out zb)
              (case side2 => exact HC112.out)
              rintro e w43 ⟨v119, rfl, ho0, hb⟩
              refine ⟨_, rfl, ?_⟩
              have n0_ := zM (Kd.S_elder' (Kd.S_below HO_10.out zg) (Kd.R_base ho0) hb)
              have n1_ := zM (Kd.P_below (Kd.P_below HO_11.out zg) hb)
              have n2_ := zM (Kd.R_lower (Kd.R_newB ho0 (g := gb105) (o := .cells #[.string ((rd_T54 l0 x35_1).f0), .int .i64 ((rd_T54 l0 x35_1).f1)] 54 (0, 0)) (zk BK105.out)) (below_size zb))
              have n3_ := zM (blk_below (g := gb105) (o := .cells #[.string ((rd_T54 l0 x35_1).f0), .int .i64 ((rd_T54 l0 x35_1).f1)] 54 (0, 0)) (zk BK105.out) hb)
              have n4_ := zM (below_step zb hb)
              clear HO_10
              clear HO_11
              clear BK105
              clear HB
              have HO_10 := n0_
              have HO_11 := n1_
              have HO120 := n2_
              have BK105 := n3_
              have HB := n4_
              clear n0_ n1_ n2_ n3_ n4_
              (try clear hb)
              (try clear hb2)
              (try clear hk)
              (try clear hi)
              (try clear ho0)
              obtain ⟨Ao44, co44, eo44⟩ := Kd.R_slice HO120.out
              (first | subst eo44 | (injection eo44 with f1_ f2_ f3_; have f4_ := f1_.symm; have f5_ := f3_.symm; clear f1_ f2_ f3_; subst f4_; subst f5_))
              refine hK.out _ _ ⟨(zX BK105.out 0).trans rfl, (zX BK105.out 1).trans rfl⟩ (fun hHeld => ?_)
              clear hK K
              refine norm_ (a' := ?_) ?_ ?_
              rotate_left
              ·
               show Act.put _ (some 79) _ = _
               simp only [Act.put, zp1, zp2, zp3, i64_w, i32_w]
               rfl
              refine pure_ (i := 5) (N := some 80) (v := ?_) (a' := ?_) #[true, true, true, true, true, true, false, false, false] rfl rfl (any_of HT_.out (by kernel_rfl)) (fun _ _ _ h => h) (Or.inl ⟨by rfl, ?_⟩) ?_ ?_
              rotate_left
              ·
               intro w'
               go_simp
               with_reducible rfl
              rotate_left
              ·
               simp only [Act.put, zp1, zp2, zp3, i64_w, i32_w]
               rfl
              refine one_ (i := 6) (N := some 81) #[true, true, true, true, true, true, true, false, false] rfl rfl (one_of HT_.out (by kernel_rfl)) (by decide) (fun K hK => ?_)
              refine value_ (w1 := ?_) (v := ?_) (by rfl) rfl ?_ ?_
              rotate_left 2
              ·
               go_simp
               constructor
               ·
                rfl
               ·
                rfl
              refine hK.out _ _ ⟨(zX (blk_alloc BK105.out _) 0).trans rfl, (zX (blk_alloc BK105.out _) 1).trans rfl⟩ (fun hHeld => ?_)
              clear hK K
              refine norm_ (a' := ?_) ?_ ?_
              rotate_left
              ·
               show Act.put _ (some 81) _ = _
               simp only [Act.put, zp1, zp2, zp3, i64_w, i32_w]
               rfl
              refine one_ (i := 7) (N := some 82) #[true, true, true, true, true, true, true, true, false] rfl rfl (one_of HT_.out (by kernel_rfl)) (by decide) (fun K hK => ?_)
              refine Kd.S_append_step k104 (w0 := w) w.heap.size (by rfl) (.tmp 75) (.tmp 81) 100 104 (.agg #[(.string ⟨#[]⟩), (.slice none 0 0)]) 40 rfl Try.underlying100 info104 rfl (by decide) (by omega) (.slice Ao40 x10_1.length co40) x10_1 (⟨(rd_T54 l0 x35_1).f0, t118⟩ : S104) [.string ((rd_T54 l0 x35_1).f0), .slice Ao44 t118.length co44] (fun k_ => k_ ≠ gb105) (fun k_ => some k_ = (.slice Ao44 t118.length co44 : Value).ownBlock) rfl rfl ?aP (fun k_ hk_ => ((Kd.R_mono (ok' := fun k_ => ((fun k_ => k_ ≠ gb105)) k_ ∧ some k_ ≠ (.slice Ao40 x10_1.length co40 : Value).ownBlock) (Kd.R_apart' (HO120.out) (Kd.S_typed HO_10.out) (by decide)) (fun k_ hk => ⟨hk.1.2, hk.2⟩))).1 k_ hk_.symm) ?aF ?aO ?aB ?aS ?aL ?_
              (case aP => exact k104_mkM _ _ _ (⟨(rd_T54 l0 x35_1).f0, t118⟩ : S104) (Kd.R_mono (Kd.R_tight rfl (Kd.R_mono (ok' := fun k_ => ((fun k_ => k_ ≠ gb105)) k_ ∧ some k_ ≠ (.slice Ao40 x10_1.length co40 : Value).ownBlock) (Kd.R_apart' (HO120.out) (Kd.S_typed HO_10.out) (by decide)) (fun k_ hk => ⟨hk.1.2, hk.2⟩))) (fun _ h_ => h_)))
              (case aB => exact zb)
              (case aF => exact (fun k_ hk => Kd.freshB (g := gb105) (o := .cells #[.string ((rd_T54 l0 x35_1).f0), .int .i64 ((rd_T54 l0 x35_1).f1)] 54 (0, 0)) (zk BK105.out) k_ hk))
              (case aO => exact (by (with_reducible repeat (first | apply Kd.S_alloc | apply Kd.S_drewN | apply Kd.S_drew)); exact Kd.S_mono HO_10.out (fun k_ hk => ⟨hk.1.2, fun e_ => hk.2 e_⟩)))
              (case aS => exact (below_size zb))
              (case aL => have := LMc34.out; omega)
              intro v122 w45 ho hb hg hat
              rw [← Ny121.out] at ho
              have n0_ := zM (blk_grown (g := gb105) (o := .cells #[.string ((rd_T54 l0 x35_1).f0), .int .i64 ((rd_T54 l0 x35_1).f1)] 54 (0, 0)) (zk BK105.out) hg (Kd.S_ne HO_10.out BK105.out (by decide)))
              have n1_ := zM (Kd.P_over' (Kd.P_below HO_11.out zg) (Kd.S_typed (Kd.S_below HO_10.out zg)) (by decide) hg)
              have n2_ := zM (hb)
              have n3_ := zM (ho)
              clear BK105
              clear HO_11
              clear HB
              clear HO_10
              clear HO120
              have BK105 := n0_
              have HO_11 := n1_
              have HB := n2_
              have HO123 := n3_
              clear n0_ n1_ n2_ n3_
              clear ho hb hg hat
              refine hK.out _ _ ⟨(zX BK105.out 0).trans rfl, (zX BK105.out 1).trans rfl⟩ (fun hHeld => ?_)
              clear hK K
              refine norm_ (a' := ?_) ?_ ?_
              rotate_left
              ·
               show Act.put _ (some 82) _ = _
               simp only [Act.put, zp1, zp2, zp3, i64_w, i32_w]
               rfl
              refine pure_ (i := 8) (N := some 10) (v := ?_) (a' := ?_) #[true, true, true, true, true, true, true, true, true] rfl rfl (any_of HT_.out (by kernel_rfl)) (fun _ _ _ h => h) (Or.inl ⟨by rfl, ?_⟩) ?_ ?_
              rotate_left
              ·
               intro w'
               go_simp
               with_reducible rfl
              rotate_left
              ·
               simp only [Act.put, zp1, zp2, zp3, i64_w, i32_w]
               rfl
              refine done_ (done_of HT_.out (by kernel_rfl)) ?_
              try go_wp2
              go_roundg k1
              case measure => have := HK1.out; omega
              case rel => exact ⟨(y121), (y115), (wrap64 (x12_1 + (y109.length : Int))), (wrap64 (x35_1 + 1)), zy, zy, H', ⟨by have := HK1.out; omega⟩, ⟨by (with_reducible repeat (first | apply Kd.S_alloc | apply Kd.S_drewN | apply Kd.S_drew)); exact Kd.S_mono HO123.out (fun _ hk => trivial)⟩, ⟨Kd.P_below HO_11.out zg⟩, ⟨zb⟩⟩
             ·
              rw [if_neg c34] at H
              exact absurd H (by simp)
            ·
             rw [if_neg c32] at H
             exact absurd H (by simp)
          ·
           rw [if_neg c14] at H
           exact absurd H (by simp)
         ·
          rw [if_neg c13] at H
          exact absurd H (by simp)
        ·
         rw [if_neg c12] at H
         exact absurd H (by simp)
       ·
        rw [if_neg c11] at H
        exact absurd H (by simp)
      ·
       replace c9 := zI c9
       subst c9
       rw [if_neg (show ¬ (false = true) by decide)] at H
       by_cases c46 : 0 ≤ x12_1
       ·
        rw [if_pos c46] at H
        have c46b0 : decide (0 ≤ x12_1) = true := zQ c46
        clear c46
        by_cases c47 : x12_1 < (l1.length : Int)
        ·
         rw [if_pos c47] at H
         have c47b0 : decide (x12_1 < (l1.length : Int)) = true := zQ c47
         clear c47
         by_cases c48 : (!((((rd_T54 l1 x12_1).f0).toList) == (((rd_T54 l0 x35_1).f0).toList)) || (!(((rd_T54 l1 x12_1).f1) == ((rd_T54 l0 x35_1).f1)))) = true
         ·
          rw [if_pos c48] at H
          have c48b0 : (!((((rd_T54 l1 x12_1).f0).toList) == (((rd_T54 l0 x35_1).f0).toList)) || (!(((rd_T54 l1 x12_1).f1) == ((rd_T54 l0 x35_1).f1)))) = true := c48
          clear c48
          simp only [Option.some.injEq, Prod.mk.injEq] at H
          obtain ⟨rfl, rfl, rfl⟩ := H
          have p104 : 0 ≤ (x35_1 : Int) := zT zv
          have q104 : x35_1 < (l0.length : Int) := zT zv
          obtain ⟨ad104, e104, hx104_0, hx104_1⟩ := at_T54 HR0.out x35_1 p104 q104
          cases e104
          replace hx104_0 := (HB.out.cell (World.block_lt_of_cell? w _ hx104_0)).trans hx104_0
          replace hx104_1 := (HB.out.cell (World.block_lt_of_cell? w _ hx104_1)).trans hx104_1
          replace p104 := eq_true p104
          replace q104 := eq_true q104
          try go_wp2_with (first | ((with_reducible refine gate_dst (N := 14) rfl ?_); refine box_event ?hg (N := 14) ?hd (cs := #[.string (⟨#[]⟩ : ByteArray), .int .i64 0]) (t := 54) ?hr ?_; (case hd => rfl); (case hg => rfl); (case hr => first | (go_simp; done) | (go_simp; rfl)); intro gb105 hg w49 hbox hb; replace HO_10 := zM (Kd.S_below (Kd.S_elderB (Kd.S_below HO_10.out zg) gb105 (Nat.le_of_eq hg.symm)) hb); replace HO_11 := zM (Kd.P_below (Kd.P_below HO_11.out zg) hb); have BK105 := zM (hbox); have GW105 := zM (zh hg : w.heap.size ≤ gb105); have GE105 := zM (zh hg : w.heap.size ≤ gb105); replace HB := zM (below_step zb hb); clear hb hbox hg; have hcz50_0 : w49.cell? ⟨gb105, 0, none⟩ = some (.string (⟨#[]⟩ : ByteArray)) := (zX BK105.out 0).trans rfl; have hcz50_1 : w49.cell? ⟨gb105, 1, none⟩ = some (.int .i64 0) := (zX BK105.out 1).trans rfl; have hfz50_0 := zY BK105.out 0; have hfz50_1 := zY BK105.out 1) | ((with_reducible refine gate_callee (f := 102) rfl ?_); refine goesL_ (some 40) rfl rfl Try.func102 (by kernel_rfl) rfl #[.agg #[.string ((rd_T54 l0 x35_1).f0), .int .i64 ((rd_T54 l0 x35_1).f1)]] rfl zl ?_; (with_reducible refine (match_variable.calls k1 ((rd_T54 l0 x35_1).f0) ((rd_T54 l0 x35_1).f1) false _ A8.out).mono ?_); rintro e w51 ⟨rfl, hb⟩; refine ⟨_, rfl, ?_⟩; replace HO_10 := zM (Kd.S_below (by (with_reducible repeat (first | apply Kd.S_alloc | apply Kd.S_drewN | apply Kd.S_drew)); exact (Kd.S_mono (Kd.S_far (p := ⟨gb105, 1, none⟩) (Kd.S_far (p := ⟨gb105, 0, none⟩) (Kd.S_mono HO_10.out (fun k_ hk => (⟨hk, hk.2⟩ : _ ∧ k_ ≠ gb105))) (fun _ hk => hk.2) (.string ((rd_T54 l0 x35_1).f0))) (fun _ hk => hk.2) (.int .i64 ((rd_T54 l0 x35_1).f1))) (fun _ h_ => h_.1))) hb); replace HO_11 := zM (Kd.P_below (by (with_reducible repeat (first | apply Kd.P_alloc | apply Kd.P_drewN | apply Kd.P_drew)); exact (Kd.P_mono (Kd.P_far (p := ⟨gb105, 1, none⟩) (Kd.P_far (p := ⟨gb105, 0, none⟩) (Kd.P_types HO_11.out BK105.out (by decide)) (fun _ hk => hk.2) (.string ((rd_T54 l0 x35_1).f0))) (fun _ hk => hk.2) (.int .i64 ((rd_T54 l0 x35_1).f1))) (fun _ h_ => h_.1))) hb); replace BK105 := zM (blk_below (g := gb105) (o := .cells #[.string ((rd_T54 l0 x35_1).f0), .int .i64 ((rd_T54 l0 x35_1).f1)] 54 (0, 0)) (by refine zk ?_; refine blk_put (cs := #[.string ((rd_T54 l0 x35_1).f0), .int .i64 0]) ?_ 1 _ rfl; refine zk ?_; refine blk_put (cs := #[.string (⟨#[]⟩ : ByteArray), .int .i64 0]) ?_ 0 _ rfl; refine zk ?_; exact BK105.out) hb); replace HB := zM (below_step zb hb); (try clear hb)))
          have n0_ := zM (Kd.S_drew HO_10.out)
          have n1_ := zM (Kd.P_drew HO_11.out)
          have n2_ := zM (blk_drew BK105.out)
          have n3_ := zM (zD HB.out)
          clear HO_10
          clear HO_11
          clear BK105
          clear HB
          have HO_10 := n0_
          have HO_11 := n1_
          have BK105 := n2_
          have HB := n3_
          clear n0_ n1_ n2_ n3_
          have p107 : 0 ≤ (x12_1 : Int) := zT zv
          have q107 : x12_1 < (l1.length : Int) := zT zv
          obtain ⟨ad107, e107, hx107_0, hx107_1⟩ := at_T54 HR1.out x12_1 p107 q107
          have hw107_1 := hx107_1
          have hw107_0 := hx107_0
          cases e107
          replace hx107_0 := (HB.out.cell (World.block_lt_of_cell? w _ hx107_0)).trans hx107_0
          replace hx107_1 := (HB.out.cell (World.block_lt_of_cell? w _ hx107_1)).trans hx107_1
          replace p107 := eq_true p107
          replace q107 := eq_true q107
          refine start_ (n := 6) (S := fun w' => w'.cell? ⟨gb105, 0, none⟩ = some (.string ((rd_T54 l0 x35_1).f0)) ∧ w'.cell? ⟨gb105, 1, none⟩ = some (.int .i64 ((rd_T54 l0 x35_1).f1)) ∧ w'.cell? (ad107.add ((x12_1).toNat * 2)) = some (.string ((rd_T54 l1 x12_1).f0)) ∧ w'.cell? ⟨(ad107.add ((x12_1).toNat * 2)).block, (ad107.add ((x12_1).toNat * 2)).off + 1, none⟩ = some (.int .i64 ((rd_T54 l1 x12_1).f1))) (ds := []) #[false, false, false, false, false, false] (by kernel_rfl) rfl rfl ⟨(zX BK105.out 0).trans rfl, (zX BK105.out 1).trans rfl, ((HB.out.cell (World.block_lt_of_cell? w _ hw107_0)).trans hw107_0), ((HB.out.cell (World.block_lt_of_cell? w _ hw107_1)).trans hw107_1)⟩ (fun hHeld => ?_)
          generalize w51.drew = w52 at HO_10 HO_11 BK105 HB hx107_0 hx107_1 hHeld ⊢
          refine pure_ (i := 0) (N := some 42) (v := ?_) (a' := ?_) #[true, false, false, false, false, false] rfl rfl (by kernel_rfl) (fun _ _ _ h => h) (Or.inl ⟨by rfl, ?_⟩) ?_ ?_
          rotate_left
          ·
           intro w'
           go_simp
           with_reducible rfl
          rotate_left
          ·
           simp only [Act.put, zp1, zp2, zp3, i64_w, i32_w]
           rfl
          refine pure_ (i := 1) (N := some 43) (v := ?_) (a' := ?_) #[true, true, false, false, false, false] rfl rfl (by kernel_rfl) (fun _ _ _ h => h) (Or.inl ⟨by rfl, ?_⟩) ?_ ?_
          rotate_left
          ·
           intro w'
           go_simp
           with_reducible rfl
          rotate_left
          ·
           simp only [Act.put, zp1, zp2, zp3, i64_w, i32_w]
           rfl
          refine pure_ (i := 2) (N := some 44) (v := ?_) (a' := ?_) #[true, true, true, false, false, false] rfl rfl (by kernel_rfl) (fun _ _ _ h => h) (Or.inl ⟨by rfl, ?_⟩) ?_ ?_
          rotate_left
          ·
           intro w'
           go_simp
           with_reducible rfl
          rotate_left
          ·
           simp only [Act.put, zp1, zp2, zp3, i64_w, i32_w]
           rfl
          refine take_ (i := 3) (N := some 45) (v := ?_) (a' := ?_) #[true, true, true, true, false, false] rfl rfl (by kernel_rfl) (fun _ _ _ h => h) (Or.inl ⟨by rfl, ?_⟩) hHeld ?_ ?_
          rotate_left
          ·
           rintro w' ⟨s0, s1, s2, s3⟩
           go_simp
           with_reducible rfl
          rotate_left
          ·
           simp only [Act.put, zp1, zp2, zp3, i64_w, i32_w]
           rfl
          refine take_ (i := 4) (N := some 46) (v := ?_) (a' := ?_) #[true, true, true, true, true, false] rfl rfl (by kernel_rfl) (fun _ _ _ h => h) (Or.inl ⟨by rfl, ?_⟩) hHeld ?_ ?_
          rotate_left
          ·
           rintro w' ⟨s0, s1, s2, s3⟩
           go_simp
           with_reducible rfl
          rotate_left
          ·
           simp only [Act.put, zp1, zp2, zp3, i64_w, i32_w]
           rfl
          refine pure_ (i := 5) (N := some 47) (v := ?_) (a' := ?_) #[true, true, true, true, true, true] rfl rfl (by kernel_rfl) (fun _ _ _ h => h) (Or.inl ⟨by rfl, ?_⟩) ?_ ?_
          rotate_left
          ·
           intro w'
           go_simp
           with_reducible rfl
          rotate_left
          ·
           simp only [Act.put, zp1, zp2, zp3, i64_w, i32_w]
           rfl
          refine done_ (by kernel_rfl) ?_
          try go_wp2
          go_ret3
          exact ⟨_, zw, by first | exact Kd.S_nil _ _ _ _ _ | exact Kd.N_nil _ _ _ _ _ | exact Kd.V_nil _ _ _ _ _ | exact Kd.Q_nil _ _ _ _ _ | exact Kd.R_nil _ _ _ _ _, zb⟩
         ·
          rw [if_neg c48] at H
          have c48b0 : (!((((rd_T54 l1 x12_1).f0).toList) == (((rd_T54 l0 x35_1).f0).toList)) || (!(((rd_T54 l1 x12_1).f1) == ((rd_T54 l0 x35_1).f1)))) = false := by simpa using c48
          clear c48
          have H' := zM H
          clear H
          have p104 : 0 ≤ (x35_1 : Int) := zT zv
          have q104 : x35_1 < (l0.length : Int) := zT zv
          obtain ⟨ad104, e104, hx104_0, hx104_1⟩ := at_T54 HR0.out x35_1 p104 q104
          cases e104
          replace hx104_0 := (HB.out.cell (World.block_lt_of_cell? w _ hx104_0)).trans hx104_0
          replace hx104_1 := (HB.out.cell (World.block_lt_of_cell? w _ hx104_1)).trans hx104_1
          replace p104 := eq_true p104
          replace q104 := eq_true q104
          try go_wp2_with (first | ((with_reducible refine gate_dst (N := 14) rfl ?_); refine box_event ?hg (N := 14) ?hd (cs := #[.string (⟨#[]⟩ : ByteArray), .int .i64 0]) (t := 54) ?hr ?_; (case hd => rfl); (case hg => rfl); (case hr => first | (go_simp; done) | (go_simp; rfl)); intro gb105 hg w53 hbox hb; replace HO_10 := zM (Kd.S_below (Kd.S_elderB (Kd.S_below HO_10.out zg) gb105 (Nat.le_of_eq hg.symm)) hb); replace HO_11 := zM (Kd.P_below (Kd.P_below HO_11.out zg) hb); have BK105 := zM (hbox); have GW105 := zM (zh hg : w.heap.size ≤ gb105); have GE105 := zM (zh hg : w.heap.size ≤ gb105); replace HB := zM (below_step zb hb); clear hb hbox hg; have hcz54_0 : w53.cell? ⟨gb105, 0, none⟩ = some (.string (⟨#[]⟩ : ByteArray)) := (zX BK105.out 0).trans rfl; have hcz54_1 : w53.cell? ⟨gb105, 1, none⟩ = some (.int .i64 0) := (zX BK105.out 1).trans rfl; have hfz54_0 := zY BK105.out 0; have hfz54_1 := zY BK105.out 1) | ((with_reducible refine gate_callee (f := 102) rfl ?_); refine goesL_ (some 40) rfl rfl Try.func102 (by kernel_rfl) rfl #[.agg #[.string ((rd_T54 l0 x35_1).f0), .int .i64 ((rd_T54 l0 x35_1).f1)]] rfl zl ?_; (with_reducible refine (match_variable.calls k1 ((rd_T54 l0 x35_1).f0) ((rd_T54 l0 x35_1).f1) false _ A8.out).mono ?_); rintro e w55 ⟨rfl, hb⟩; refine ⟨_, rfl, ?_⟩; replace HO_10 := zM (Kd.S_below (by (with_reducible repeat (first | apply Kd.S_alloc | apply Kd.S_drewN | apply Kd.S_drew)); exact (Kd.S_mono (Kd.S_far (p := ⟨gb105, 1, none⟩) (Kd.S_far (p := ⟨gb105, 0, none⟩) (Kd.S_mono HO_10.out (fun k_ hk => (⟨hk, hk.2⟩ : _ ∧ k_ ≠ gb105))) (fun _ hk => hk.2) (.string ((rd_T54 l0 x35_1).f0))) (fun _ hk => hk.2) (.int .i64 ((rd_T54 l0 x35_1).f1))) (fun _ h_ => h_.1))) hb); replace HO_11 := zM (Kd.P_below (by (with_reducible repeat (first | apply Kd.P_alloc | apply Kd.P_drewN | apply Kd.P_drew)); exact (Kd.P_mono (Kd.P_far (p := ⟨gb105, 1, none⟩) (Kd.P_far (p := ⟨gb105, 0, none⟩) (Kd.P_types HO_11.out BK105.out (by decide)) (fun _ hk => hk.2) (.string ((rd_T54 l0 x35_1).f0))) (fun _ hk => hk.2) (.int .i64 ((rd_T54 l0 x35_1).f1))) (fun _ h_ => h_.1))) hb); replace BK105 := zM (blk_below (g := gb105) (o := .cells #[.string ((rd_T54 l0 x35_1).f0), .int .i64 ((rd_T54 l0 x35_1).f1)] 54 (0, 0)) (by refine zk ?_; refine blk_put (cs := #[.string ((rd_T54 l0 x35_1).f0), .int .i64 0]) ?_ 1 _ rfl; refine zk ?_; refine blk_put (cs := #[.string (⟨#[]⟩ : ByteArray), .int .i64 0]) ?_ 0 _ rfl; refine zk ?_; exact BK105.out) hb); replace HB := zM (below_step zb hb); (try clear hb)))
          have n0_ := zM (Kd.S_drew HO_10.out)
          have n1_ := zM (Kd.P_drew HO_11.out)
          have n2_ := zM (blk_drew BK105.out)
          have n3_ := zM (zD HB.out)
          clear HO_10
          clear HO_11
          clear BK105
          clear HB
          have HO_10 := n0_
          have HO_11 := n1_
          have BK105 := n2_
          have HB := n3_
          clear n0_ n1_ n2_ n3_
          have p107 : 0 ≤ (x12_1 : Int) := zT zv
          have q107 : x12_1 < (l1.length : Int) := zT zv
          obtain ⟨ad107, e107, hx107_0, hx107_1⟩ := at_T54 HR1.out x12_1 p107 q107
          have hw107_1 := hx107_1
          have hw107_0 := hx107_0
          cases e107
          replace hx107_0 := (HB.out.cell (World.block_lt_of_cell? w _ hx107_0)).trans hx107_0
          replace hx107_1 := (HB.out.cell (World.block_lt_of_cell? w _ hx107_1)).trans hx107_1
          replace p107 := eq_true p107
          replace q107 := eq_true q107
          refine start_ (n := 6) (S := fun w' => w'.cell? ⟨gb105, 0, none⟩ = some (.string ((rd_T54 l0 x35_1).f0)) ∧ w'.cell? ⟨gb105, 1, none⟩ = some (.int .i64 ((rd_T54 l0 x35_1).f1)) ∧ w'.cell? (ad107.add ((x12_1).toNat * 2)) = some (.string ((rd_T54 l1 x12_1).f0)) ∧ w'.cell? ⟨(ad107.add ((x12_1).toNat * 2)).block, (ad107.add ((x12_1).toNat * 2)).off + 1, none⟩ = some (.int .i64 ((rd_T54 l1 x12_1).f1))) (ds := []) #[false, false, false, false, false, false] (by kernel_rfl) rfl rfl ⟨(zX BK105.out 0).trans rfl, (zX BK105.out 1).trans rfl, ((HB.out.cell (World.block_lt_of_cell? w _ hw107_0)).trans hw107_0), ((HB.out.cell (World.block_lt_of_cell? w _ hw107_1)).trans hw107_1)⟩ (fun hHeld => ?_)
          generalize w55.drew = w56 at HO_10 HO_11 BK105 HB hx107_0 hx107_1 hHeld ⊢
          refine pure_ (i := 0) (N := some 42) (v := ?_) (a' := ?_) #[true, false, false, false, false, false] rfl rfl (by kernel_rfl) (fun _ _ _ h => h) (Or.inl ⟨by rfl, ?_⟩) ?_ ?_
          rotate_left
          ·
           intro w'
           go_simp
           with_reducible rfl
          rotate_left
          ·
           simp only [Act.put, zp1, zp2, zp3, i64_w, i32_w]
           rfl
          refine pure_ (i := 1) (N := some 43) (v := ?_) (a' := ?_) #[true, true, false, false, false, false] rfl rfl (by kernel_rfl) (fun _ _ _ h => h) (Or.inl ⟨by rfl, ?_⟩) ?_ ?_
          rotate_left
          ·
           intro w'
           go_simp
           with_reducible rfl
          rotate_left
          ·
           simp only [Act.put, zp1, zp2, zp3, i64_w, i32_w]
           rfl
          refine pure_ (i := 2) (N := some 44) (v := ?_) (a' := ?_) #[true, true, true, false, false, false] rfl rfl (by kernel_rfl) (fun _ _ _ h => h) (Or.inl ⟨by rfl, ?_⟩) ?_ ?_
          rotate_left
          ·
           intro w'
           go_simp
           with_reducible rfl
          rotate_left
          ·
           simp only [Act.put, zp1, zp2, zp3, i64_w, i32_w]
           rfl
          refine take_ (i := 3) (N := some 45) (v := ?_) (a' := ?_) #[true, true, true, true, false, false] rfl rfl (by kernel_rfl) (fun _ _ _ h => h) (Or.inl ⟨by rfl, ?_⟩) hHeld ?_ ?_
          rotate_left
          ·
           rintro w' ⟨s0, s1, s2, s3⟩
           go_simp
           with_reducible rfl
          rotate_left
          ·
           simp only [Act.put, zp1, zp2, zp3, i64_w, i32_w]
           rfl
          refine take_ (i := 4) (N := some 46) (v := ?_) (a' := ?_) #[true, true, true, true, true, false] rfl rfl (by kernel_rfl) (fun _ _ _ h => h) (Or.inl ⟨by rfl, ?_⟩) hHeld ?_ ?_
          rotate_left
          ·
           rintro w' ⟨s0, s1, s2, s3⟩
           go_simp
           with_reducible rfl
          rotate_left
          ·
           simp only [Act.put, zp1, zp2, zp3, i64_w, i32_w]
           rfl
          refine pure_ (i := 5) (N := some 47) (v := ?_) (a' := ?_) #[true, true, true, true, true, true] rfl rfl (by kernel_rfl) (fun _ _ _ h => h) (Or.inl ⟨by rfl, ?_⟩) ?_ ?_
          rotate_left
          ·
           intro w'
           go_simp
           with_reducible rfl
          rotate_left
          ·
           simp only [Act.put, zp1, zp2, zp3, i64_w, i32_w]
           rfl
          refine done_ (by kernel_rfl) ?_
          try go_wp2
          go_roundg k1
          case measure => have := HK1.out; omega
          case rel => exact ⟨(x10_1), (x11_1), (wrap64 (x12_1 + 1)), (wrap64 (x35_1 + 1)), zy, zy, H', ⟨by have := HK1.out; omega⟩, ⟨by (with_reducible repeat (first | apply Kd.S_alloc | apply Kd.S_drewN | apply Kd.S_drew)); exact Kd.S_mono HO_10.out (fun _ hk => trivial)⟩, ⟨Kd.P_below HO_11.out zg⟩, ⟨zb⟩⟩
        ·
         rw [if_neg c47] at H
         exact absurd H (by simp)
       ·
        rw [if_neg c46] at H
        exact absurd H (by simp)
     ·
      rw [if_neg c7] at H
      exact absurd H (by simp)
    ·
     rw [if_neg c6] at H
     exact absurd H (by simp)
   ·
    rw [if_neg c5] at H
    have c5b0 : decide (x35_1 < (l0.length : Int)) = false := zR c5
    clear c5
    simp only [Option.some.injEq, Prod.mk.injEq] at H
    obtain ⟨rfl, rfl, rfl⟩ := H
    go_wp2
    go_ret3
    exact ⟨_, zw, Kd.S_below HO_10.out zg, zb⟩

end Go.Proofs.Ytdlkhpfgkghhmaa.P

-- ==== Rw9
namespace Go.Proofs.Ytdlkhpfgkghhmaa.P
open Go.RowKit Go.Proofs.YtdlkhpfgkghhmaaW.PrintWords Go.Proofs.YtdlkhpfgkghhmaaW.PrintLast Go.Proofs.YtdlkhpfgkghhmaaW.PrintMore
attribute [local go_sem high] eqA54
def sameCell (a b : S54) : Bool := a.f0.toList == b.f0.toList && (a.f1 == b.f1)
def fitsF (k : Nat) (node : List S54) : List S73 → Option (Option (S73 × List S104))
 | [] => some none
 | r :: u => if 0 < r.f1.length then (if sameCell (rd_T54 r.f1 0) (rd_T54 node 0) = true then ((match_Match.f k r.f1 node).bind fun m => if m.2.1 = true ∧ m.2.2 = 0 then some (some (r, m.1)) else fitsF k node u) else fitsF k node u) else none
def FitEnd (res : Option (S73 × List S104)) (w0 w : World) (e : Ending) (w' : World) : Prop :=
 match res with
 | none => e = .returned (.tuple #[.agg #[.int .i64 0, .slice none 0 0, .slice none 0 0], .slice none 0 0, .bool false])
 | some x => ∃ (A1 A2 : Option Addr) (c1 c2 : Nat) (vb : Value), e = .returned (.tuple #[.agg #[.int .i64 x.1.f0, .slice A1 x.1.f1.length c1, .slice A2 x.1.f2.length c2], vb, .bool true]) ∧ x.1.f2.length ≤ c2 ∧ Kd.C k54 w0 A2 x.1.f2.length x.1.f2 ∧ Kd.R k104 104 w' w.heap.size (fun _ => True) vb x.2
theorem set3_blk {W : World} {b t : Nat} {a1 a2 a3 : Value} (h : W.heap[b]? = some (.cells #[a1, a2, a3] t (0, 0))) (b1 b2 b3 : Value) :
 (((W.setCell ⟨b, 0, none⟩ b1).setCell ⟨b, 1, none⟩ b2).setCell ⟨b, 2, none⟩ b3).heap[b]? = some (.cells #[b1, b2, b3] t (0, 0)) := by
 refine blk_put (cs := #[b1, b2, a3]) ?_ 2 _ rfl
 refine blk_put (cs := #[b1, a2, a3]) ?_ 1 _ rfl
 exact blk_put (cs := #[a1, a2, a3]) h 0 _ rfl
theorem set3_below {B b : Nat} {w W : World} (h : Below B w W) (hb : B ≤ b) (b1 b2 b3 : Value) : Below B w (((W.setCell ⟨b, 0, none⟩ b1).setCell ⟨b, 1, none⟩ b2).setCell ⟨b, 2, none⟩ b3) :=
 ((h.setCell (p := ⟨b, 0, none⟩) hb _).setCell (p := ⟨b, 1, none⟩) hb _).setCell (p := ⟨b, 2, none⟩) hb _
theorem set3_R {α : Type} {d : Kd α} {e B b t : Nat} {ok : Nat → Prop} {W : World} {v : Value} {xs : List α} {cs : Array Value} (h : d.R e W B ok v xs) (hb : W.heap[b]? = some (.cells cs t (0, 0))) (ht : ∀ q, q ∈ e :: d.E → q ≠ t) (b1 b2 b3 : Value) :
 d.R e (((W.setCell ⟨b, 0, none⟩ b1).setCell ⟨b, 1, none⟩ b2).setCell ⟨b, 2, none⟩ b3) B ok v xs :=
 Kd.R_mono (Kd.R_far (p := ⟨b, 2, none⟩) (Kd.R_far (p := ⟨b, 1, none⟩) (Kd.R_far (p := ⟨b, 0, none⟩) (Kd.R_types h hb ht) (fun _ hk => hk.2) _) (fun _ hk => hk.2) _) (fun _ hk => hk.2) _) (fun _ hk => hk.1)
set_option maxHeartbeats 8000000 in
set_option maxRecDepth 100000 in
theorem fits_calls {g k cr cn : Nat} {w0 w : World} {vo vv vh tv : Value} {st fu : Int} {Ar An : Option Addr} {rules : List S73} {node : List S54} {res : Option (S73 × List S104)}
 (hb : w.heap[g]? = some (.cells #[vo, vv, .int .i64 st, vh, .slice Ar rules.length cr, tv, .int .i64 fu] 94 (0, 0))) (hr : Kd.C k73 w0 Ar rules.length rules) (hb0 : Below w0.heap.size w0 w) (hn : Kd.C k54 w An node.length node) (hn' : node.length ≤ cn) (hp : 0 < node.length) (hf : fitsF k node rules = some res) :
 Calls Try.prog 74 #[.pointer (some ⟨g, 0, none⟩), .slice An node.length cn] w fun e w' => FitEnd res w0 w e w' ∧ Below w.heap.size w w' := by
 have HR := Aside0.mk hr
 have HB0 := Aside0.mk hb0
 have HN := Aside0.mk hn
 have HF := Aside0.mk hf
 have HM := Aside0.mk (show (rules.length : Int) ≤ 9223372036854775807 by have := hr.2.1; omega)
 have hz1 := below_alloc (Below.refl w.heap.size w) (.cells #[.int .i64 0, .slice none 0 0, .slice none 0 0] 73)
 have hzb := heap_alloc_new w (.cells #[.int .i64 0, .slice none 0 0, .slice none 0 0] 73)
 have hm4 : (w.alloc (.cells #[.int .i64 0, .slice none 0 0, .slice none 0 0] 73)).cell? ⟨g, 4, none⟩ = some (.slice Ar rules.length cr) := pw_cell_below hz1 ((blk_cell hb 4).trans rfl)
 have HB := Aside0.mk hz1
 have HZ := Aside0.mk hzb
 clear hr hn hf hz1 hzb hb hb0
 go_enter Try.func74, Try.ntmps74
 go_wp2
 clear hm4
 go_loopg [17] rules.length (fun kq v17 w' => ∃ x : Int, v17 = .int .i64 x ∧ Aside0 (0 ≤ x ∧ x + kq = (rules.length : Int)) ∧ Aside0 (fitsF k node (rules.drop x.toNat) = some res) ∧ Aside0 (w'.heap[w.heap.size]? = some (.cells #[.int .i64 0, .slice none 0 0, .slice none 0 0] 73 (0, 0))) ∧ Aside0 (Below w.heap.size w w'))
 case atStart => exact ⟨0, rfl, ⟨by omega⟩, HF, HZ, HB⟩
 case round =>
  clear HF HZ HB
  obtain ⟨x, rfl, HX, HF, HZ, HB⟩ := hrel
  cases gk with
  | succ k1 =>
   have hi : 0 ≤ x ∧ x < (rules.length : Int) := by have := HX.out; omega
   obtain ⟨ad, A1, c1, A2, c2, rfl, hx0, hx1, hx2, l1, g1, l2, g2⟩ := at_T73 (Kd.C_below HR.out (below_step HB0.out HB.out)) x hi.1 hi.2
   have g2w : Kd.C k54 w0 A2 (rd_T73 rules x).f2.length (rd_T73 rules x).f2 := by
    obtain ⟨ad', A1', c1', A2', c2', he, y0, y1, y2, _, _, _, g2'⟩ := at_T73 HR.out x hi.1 hi.2
    injection he with he
    subst he
    have := pw_cell_below (below_step HB0.out HB.out) y2
    rw [hx2] at this
    injection this with this
    injection this with this _ _
    rw [this]
    exact g2'
   have hdr : rules.drop x.toNat = rd_T73 rules x :: rules.drop (x.toNat + 1) := by
    rw [List.drop_eq_getElem_cons (show x.toNat < rules.length by omega)]
    congr 1
    simp [rd_T73, List.getD_eq_getElem?_getD, show x.toNat < rules.length by omega]
   have hf := HF.out
   rw [hdr, fitsF] at hf
   generalize rd_T73 rules x = r at hx0 hx1 hx2 l1 g1 l2 g2 g2w hf
   by_cases h0 : 0 < r.f1.length
   case neg => rw [if_neg h0] at hf; cases hf
   rw [if_pos h0] at hf
   have hb0 : decide (x < (rules.length : Int)) = true := decide_eq_true hi.2
   have hpp := eq_true hi.1
   have hqq := eq_true hi.2
   have HXI := Aside0.mk hi
   obtain ⟨al, rfl, hl0, hl1⟩ := at_T54 g1 0 (by omega) (by omega)
   obtain ⟨an, rfl, hn0, hn1⟩ := at_T54 (Kd.C_below HN.out HB.out) 0 (by omega) (by omega)
   rw [show ((0 : Int)).toNat * 2 = 0 from rfl, Addr.add_zero'] at hl0 hl1 hn0 hn1
   have HG1 := Aside0.mk (And.intro l1 g1)
   have HG2 := Aside0.mk (And.intro l2 g2w)
   have HHF := Aside0.mk hf
   have HN2 := Aside0.mk (show Kd.C k54 wr (some an) node.length node from Kd.C_below HN.out HB.out)
   have hp0 := eq_true h0
   have hp1 := eq_true hp
   have hp2 : (0 < (r.f1.length : Int)) = True := eq_true (by omega)
   have hp3 : (0 < (node.length : Int)) = True := eq_true (by omega)
   have hbw := below_alloc (Below.refl wr.heap.size wr) (.cells #[.int .i64 r.f0, .slice (some al) r.f1.length c1, .slice A2 r.f2.length c2] 73)
   have hlw := pw_cell_below hbw hl0
   have hlw1 := pw_cell_below hbw hl1
   have hnw := pw_cell_below hbw hn0
   have hnw1 := pw_cell_below hbw hn1
   have hk := heap_alloc_new wr (.cells #[.int .i64 r.f0, .slice (some al) r.f1.length c1, .slice A2 r.f2.length c2] 73)
   have hr1 := (blk_cell hk 1).trans rfl
   have HBW := Aside0.mk (Below.refl wr.heap.size wr)
   clear hdr hf hi h0 l1 g1 l2 g2 g2w hl0 hl1 hn0 hn1 hbw hk
   by_cases hs : sameCell (rd_T54 r.f1 0) (rd_T54 node 0) = true
   ·
    have hs2 : ((rd_T54 r.f1 0).f0.toList == (rd_T54 node 0).f0.toList && (rd_T54 r.f1 0).f1 == (rd_T54 node 0).f1) = true := hs
    generalize rd_T54 r.f1 0 = ca at hlw hlw1 hs hs2 HHF
    generalize rd_T54 node 0 = cb at hnw hnw1 hs hs2 HHF
    have hf := HHF.out
    rw [if_pos hs] at hf
    obtain ⟨⟨m1, m2, m3⟩, hmm, hf⟩ := Option.bind_eq_some_iff.mp hf
    simp only at hf
    have M1 := fun (W : World) (hW : Below wr.heap.size wr W) => match_Match.calls k (some al) c1 r.f1 (some an) cn node m1 m2 m3 W (Kd.C_below HG1.out.2 hW) HG1.out.1 (Kd.C_below HN2.out hW) hn' hmm
    clear hmm hs
    by_cases hm : m2 = true ∧ m3 = 0
    ·
     rw [if_pos hm] at hf
     obtain ⟨rfl, rfl⟩ := hm
     obtain rfl := Option.some.inj hf
     clear hf HHF HF
     go_upto_region 4 with fail
     go_region
     go_wp2_with (first | (go_at_call 92; (with_reducible refine (M1 _ ?side1).mono ?_); (case side1 => exact (zq HBW.out)); rintro e w2 ⟨vb, rfl, hS, hb⟩; obtain ⟨Ab, cb_, rfl⟩ := Kd.S_slice hS; have HS := Aside0.mk (Kd.S_R hS); have HBW2 := Aside0.mk (below_step (zq HBW.out) hb); have hq := (hb.block wr.heap.size (by simp)).trans (heap_alloc_new wr (.cells #[.int .i64 r.f0, .slice (some al) r.f1.length c1, .slice A2 r.f2.length c2] 73)); have q0 := (blk_cell hq 0).trans rfl; have q1 := (blk_cell hq 1).trans rfl; have q2 := (blk_cell hq 2).trans rfl; have hz := (HBW2.out.block w.heap.size (blk_lt HZ.out)).trans HZ.out; have HZ2 := Aside0.mk hz; have z0 := (blk_cell hz 0).trans rfl; have z1 := (blk_cell hz 1).trans rfl; have z2 := (blk_cell hz 2).trans rfl; have y0 := blk_frozen hz 0; have y1 := blk_frozen hz 1; have y2 := blk_frozen hz 2; clear hS hb hq hz))
     refine bodyPost_ret (results_ctt rfl _ _ w.heap.size 73 _ (0, 0) _ rfl (set3_blk HZ2.out _ _ _) Try.underlying73 rfl (by kernel_rfl)) rfl ?_
     exact ⟨⟨_, _, _, _, _, rfl, HG2.out.1, HG2.out.2, set3_R (Kd.R_lower HS.out (Nat.le_trans HB.out.size (Below.size (zq HBW.out)))) HZ2.out (by decide) _ _ _⟩, set3_below (below_step HB.out HBW2.out) (Nat.le_refl _) _ _ _⟩
    ·
     rw [if_neg hm] at hf
     have HF2 := Aside0.mk hf
     clear hf HHF HF
     have hmb : m2 = true → (m3 == 0) = false := fun h1 => beq_eq_false_iff_ne.mpr (fun h2 => hm ⟨h1, h2⟩)
     cases m2 with
     | true =>
      have hm3 := hmb rfl
      clear hmb hm
      go_upto_region 4 with fail
      go_region
      go_wp2_with (first | (go_at_call 92; (with_reducible refine (M1 _ ?side2).mono ?_); (case side2 => exact (zq HBW.out)); rintro e w2 ⟨vb, rfl, hS, hb⟩; obtain ⟨Ab, cb_, rfl⟩ := Kd.S_slice hS; have HS := Aside0.mk (Kd.S_R hS); have HBW2 := Aside0.mk (below_step (zq HBW.out) hb); have hq := (hb.block wr.heap.size (by simp)).trans (heap_alloc_new wr (.cells #[.int .i64 r.f0, .slice (some al) r.f1.length c1, .slice A2 r.f2.length c2] 73)); have q0 := (blk_cell hq 0).trans rfl; have q1 := (blk_cell hq 1).trans rfl; have q2 := (blk_cell hq 2).trans rfl; have hz := (HBW2.out.block w.heap.size (blk_lt HZ.out)).trans HZ.out; have HZ2 := Aside0.mk hz; have z0 := (blk_cell hz 0).trans rfl; have z1 := (blk_cell hz 1).trans rfl; have z2 := (blk_cell hz 2).trans rfl; have y0 := blk_frozen hz 0; have y1 := blk_frozen hz 1; have y2 := blk_frozen hz 2; clear hS hb hq hz))
      go_roundg k1
      case measure => have := HX.out; omega
      case rel => exact ⟨x + 1, by have e_ : wrap64 (x + 1) = x + 1 := (by have := HXI.out; have := HM.out; unfold wrap64; omega); first | rfl | rw [e_] | (simp [e_]; done), ⟨by have := HX.out; omega⟩, ⟨by rw [show (x + 1).toNat = x.toNat + 1 by have := HXI.out; omega]; exact HF2.out⟩, HZ2, ⟨below_step HB.out HBW2.out⟩⟩
     | false =>
      clear hmb hm
      go_upto_region 4 with fail
      go_region
      go_wp2_with (first | (go_at_call 92; (with_reducible refine (M1 _ ?side3).mono ?_); (case side3 => exact (zq HBW.out)); rintro e w2 ⟨vb, rfl, hS, hb⟩; obtain ⟨Ab, cb_, rfl⟩ := Kd.S_slice hS; have HS := Aside0.mk (Kd.S_R hS); have HBW2 := Aside0.mk (below_step (zq HBW.out) hb); have hq := (hb.block wr.heap.size (by simp)).trans (heap_alloc_new wr (.cells #[.int .i64 r.f0, .slice (some al) r.f1.length c1, .slice A2 r.f2.length c2] 73)); have q0 := (blk_cell hq 0).trans rfl; have q1 := (blk_cell hq 1).trans rfl; have q2 := (blk_cell hq 2).trans rfl; have hz := (HBW2.out.block w.heap.size (blk_lt HZ.out)).trans HZ.out; have HZ2 := Aside0.mk hz; have z0 := (blk_cell hz 0).trans rfl; have z1 := (blk_cell hz 1).trans rfl; have z2 := (blk_cell hz 2).trans rfl; have y0 := blk_frozen hz 0; have y1 := blk_frozen hz 1; have y2 := blk_frozen hz 2; clear hS hb hq hz))
      go_roundg k1
      case measure => have := HX.out; omega
      case rel => exact ⟨x + 1, by have e_ : wrap64 (x + 1) = x + 1 := (by have := HXI.out; have := HM.out; unfold wrap64; omega); first | rfl | rw [e_] | (simp [e_]; done), ⟨by have := HX.out; omega⟩, ⟨by rw [show (x + 1).toNat = x.toNat + 1 by have := HXI.out; omega]; exact HF2.out⟩, HZ2, ⟨below_step HB.out HBW2.out⟩⟩
   ·
    have hs2 : ((rd_T54 r.f1 0).f0.toList == (rd_T54 node 0).f0.toList && (rd_T54 r.f1 0).f1 == (rd_T54 node 0).f1) = false := by simpa [sameCell] using hs
    generalize rd_T54 r.f1 0 = ca at hlw hlw1 hs hs2 HHF
    generalize rd_T54 node 0 = cb at hnw hnw1 hs hs2 HHF
    have hf := HHF.out
    rw [if_neg hs] at hf
    have HF2 := Aside0.mk hf
    clear hf HHF HF hs
    go_upto_region 4 with fail
    go_region
    go_wp2
    go_roundg k1
    case measure => have := HX.out; omega
    case rel => exact ⟨x + 1, by have e_ : wrap64 (x + 1) = x + 1 := (by have := HXI.out; have := HM.out; unfold wrap64; omega); first | rfl | rw [e_] | (simp [e_]; done), ⟨by have := HX.out; omega⟩, ⟨by rw [show (x + 1).toNat = x.toNat + 1 by have := HXI.out; omega]; exact HF2.out⟩, ⟨(((by repeat (first | exact HBW.out | apply pw_below_drewN | apply below_drew1 | apply below_alloc) : Below wr.heap.size wr _)).block _ (blk_lt HZ.out)).trans HZ.out⟩, ⟨below_step HB.out (zq HBW.out)⟩⟩
  | zero =>
   have hb0 : decide (x < (rules.length : Int)) = false := decide_eq_false (by have := HX.out; omega)
   have hf := HF.out
   rw [List.drop_eq_nil_of_le (by have := HX.out; omega), fitsF] at hf
   obtain rfl := Option.some.inj hf
   have q0 := (blk_cell HZ.out 0).trans rfl
   have q1 := (blk_cell HZ.out 1).trans rfl
   have q2 := (blk_cell HZ.out 2).trans rfl
   have f0 := blk_frozen HZ.out 0
   have f1 := blk_frozen HZ.out 1
   have f2 := blk_frozen HZ.out 2
   clear hf HF
   go_wp2
   refine bodyPost_ret (results_ctt rfl _ _ w.heap.size 73 _ (0, 0) _ rfl (set3_blk HZ.out _ _ _) Try.underlying73 rfl (by kernel_rfl)) rfl ?_
   exact ⟨rfl, set3_below HB.out (Nat.le_refl _) _ _ _⟩

-- ==== Rw10
def bindL : List S104 → ByteArray → List S54
 | [], _ => []
 | b :: u, v => if (b.f0.toList == v.toList) = true then b.f1 else bindL u v
set_option maxHeartbeats 8000000 in
set_option maxRecDepth 100000 in
theorem mk1_calls {p cb : Nat} {w : World} {Ab : Option Addr} {binds : List S104} (hp : w.heap[p]? = some (.cells #[.slice Ab binds.length cb] 100 (0, 0))) (hc : Kd.C k104 w Ab binds.length binds) (hl : ∀ b ∈ binds, b.f1.length ≤ 64) (v : ByteArray) :
 Calls Try.prog 75 #[.string v, .pointer (some ⟨p, 0, none⟩)] w fun e w' => ∃ v0 : Value, e = .returned v0 ∧ Kd.R k54 54 w' w.heap.size (fun _ => True) v0 (bindL binds v) ∧ Below w.heap.size w w' := by
 have HC := Aside0.mk hc
 have HL := Aside0.mk hl
 have HM := Aside0.mk (show (binds.length : Int) ≤ 9223372036854775807 by have := hc.2.1; omega)
 have hp0 : w.cell? ⟨p, 0, none⟩ = some (.slice Ab binds.length cb) := (blk_cell hp 0).trans rfl
 have HB := Aside0.mk (Below.refl w.heap.size w)
 obtain ⟨fin, hfin⟩ : ∃ fin, fin = bindL binds v := ⟨_, rfl⟩
 rw [← hfin]
 have HF := Aside0.mk hfin
 clear hp hc hl hfin
 go_enter Try.func75, Try.ntmps75
 go_wp2
 clear hp0
 go_loopg [8] binds.length (fun kq v8 w' => ∃ x : Int, v8 = .int .i64 x ∧ Aside0 (0 ≤ x ∧ x + kq = (binds.length : Int)) ∧ Aside0 (fin = bindL (binds.drop x.toNat) v) ∧ Aside0 (Below w.heap.size w w'))
 case atStart => exact ⟨0, rfl, ⟨by omega⟩, HF, HB⟩
 case round =>
  clear HF HB
  obtain ⟨x, rfl, HX, HF, HB⟩ := hrel
  cases gk with
  | succ k1 =>
   have hi : 0 ≤ x ∧ x < (binds.length : Int) := by have := HX.out; omega
   obtain ⟨ad, A1, c1, rfl, hx0, hx1, l1, g1⟩ := at_T104 (Kd.C_below HC.out HB.out) x hi.1 hi.2
   have hdr : binds.drop x.toNat = rd_T104 binds x :: binds.drop (x.toNat + 1) := by
    rw [List.drop_eq_getElem_cons (show x.toNat < binds.length by omega)]
    congr 1
    simp [rd_T104, List.getD_eq_getElem?_getD, show x.toNat < binds.length by omega]
   have hle : (rd_T104 binds x).f1.length ≤ 64 := HL.out _ (List.mem_of_mem_drop (i := x.toNat) (by rw [hdr]; exact List.mem_cons_self))
   have hf := HF.out
   rw [hdr, bindL] at hf
   generalize rd_T104 binds x = b at hx0 hx1 l1 g1 hf hle
   have HXI := Aside0.mk hi
   have hb0 : decide (x < (binds.length : Int)) = true := decide_eq_true hi.2
   have hpp := eq_true hi.1
   have hqq := eq_true hi.2
   have HG := Aside0.mk g1
   have HF1 := Aside0.mk hf
   have T1 := fun (W : World) (hW : Below wr.heap.size wr W) => cloneT_calls (w := W) (c := c1) (Kd.C_below HG.out hW) l1 (by omega)
   have HBW := Aside0.mk (Below.refl wr.heap.size wr)
   clear hdr g1 hf hi hle l1 HF
   by_cases hs : (b.f0.toList == v.toList) = true
   ·
    have hf := HF1.out
    rw [if_pos hs] at hf
    subst hf
    have hs1 : decide (b.f0.toList = v.toList) = true := decide_eq_true (by simpa using hs)
    clear HF1
    go_wp2_with (go_at_call 71; (with_reducible refine (T1 _ ?side1).mono ?_); (case side1 => exact (zq HBW.out)); rintro e w2 ⟨A2, c2, rfl, hR, hb⟩; have HR2 := Aside0.mk hR; have HB2 := Aside0.mk (below_step (zq HBW.out) hb); clear hR hb)
    go_ret
    exact ⟨_, rfl, Kd.R_lower HR2.out (Nat.le_trans HB.out.size (by simp)), below_step HB.out HB2.out⟩
   ·
    have hf := HF1.out
    rw [if_neg hs] at hf
    have HF2 := Aside0.mk hf
    have hs0 : (b.f0.toList == v.toList) = false := by simpa using hs
    have hs1 : decide (b.f0.toList = v.toList) = false := decide_eq_false (by simpa using hs)
    clear hf HF1 hs T1
    go_wp2
    go_roundg k1
    case measure => have := HX.out; omega
    case rel => exact ⟨x + 1, by have e_ : wrap64 (x + 1) = x + 1 := (by have := HXI.out; have := HM.out; unfold wrap64; omega); first | rfl | rw [e_] | (simp [e_]; done), ⟨by have := HX.out; omega⟩, ⟨by rw [show (x + 1).toNat = x.toNat + 1 by have := HXI.out; omega]; exact HF2.out⟩, ⟨below_step HB.out (zq HBW.out)⟩⟩
  | zero =>
   have hb0 : decide (x < (binds.length : Int)) = false := decide_eq_false (by have := HX.out; omega)
   have hf := HF.out
   rw [List.drop_eq_nil_of_le (by have := HX.out; omega), bindL] at hf
   subst hf
   clear HF
   go_wp2
   go_ret
   exact ⟨_, rfl, Kd.R_nil _ _ _ _ _, HB.out⟩

-- ==== Rw11
structure Mst where
 ops : List S70
 vals : List (List S54)
 st : Int
 hd : List ByteArray
 fu : Int
def nodeR (k : Nat) (rules : List S73) (node : List S54) (nm : ByteArray) (args : List (List S54)) (m : Mst) (m0 : Mst) : Option (Int × Mst) :=
 (fitsF k node rules).bind fun
  | none => (headF k [nm] m.hd).bind fun hd => if m.vals.length < 5864062014800 then some (0, ⟨m.ops, m.vals ++ [node], m.st, hd, m.fu⟩) else none
  | some rb => if m.fu ≤ 0 then some (14, m0) else if m.fu ≤ 9223372036854775807 ∧ (∀ b ∈ rb.2, b.f1.length ≤ 64) then
   (headF k [nm] m.hd).bind fun hd => (todoL (bindL rb.2) rb.1.f2 k 0 []).bind fun r => if m.ops.length + r.1.length < 2513169434900 then some (0, ⟨m.ops ++ r.1.reverse, m.vals, wrap64 (m.st + 1), hd, m.fu - 1⟩) else none else none
def makeN (k : Nat) (rules : List S73) (nm : ByteArray) (o : S70) (args : List (List S54)) (m : Mst) : Option (Int × Mst) :=
 if (nodeL ⟨nm, args.length⟩ args).length > 64 then some (6, ⟨m.ops ++ [o], m.vals ++ args, m.st, m.hd, m.fu⟩)
 else nodeR k rules (nodeL ⟨nm, args.length⟩ args) nm args m ⟨m.ops ++ [o], m.vals ++ args, m.st, m.hd, m.fu⟩
theorem F_lit {W : World} {nb : Nat} {nm : ByteArray} {ok : Nat → Prop} (h : W.heap[nb]? = some (.cells #[.string nm] 9 (0, 0))) (ho : ok nb) : Kd.F Kd.string W ok (some ⟨nb, 0, none⟩) [nm].length [nm] := by
 intro W' hW
 have hb := (hW nb ho (blk_lt h)).trans h
 refine ⟨rfl, by simp, fun _ => ⟨_, rfl, fun j p hj => ?_⟩⟩
 match j, hj with
 | 0, hj =>
  obtain rfl := Option.some.inj hj
  refine ⟨[.string nm], rfl, rfl, fun i u hu => ?_⟩
  match i, hu with
  | 0, hu =>
   obtain rfl := Option.some.inj hu
   rw [Nat.zero_mul, Nat.zero_add, Addr.add_zero']
   exact (blk_cell hb 0).trans rfl
  | i + 1, hu => simp at hu
 | j + 1, hj => simp at hj
theorem isMcH_below {B g : Nat} {W W' : World} {rv tv vh : Value} {ops : List S70} {vals : List (List S54)} {st fu : Int} {hd : List ByteArray} (h : IsMcH B W g rv tv ops vals st vh hd fu) (hb : Below W.heap.size W W') : IsMcH B W' g rv tv ops vals st vh hd fu := by
 obtain ⟨vo, vv, h1, h2, h3, h4, h5⟩ := h
 exact ⟨vo, vv, blk_below h1 hb, h2, Kd.R_below h3 hb, Kd.R_below h4 hb, Kd.R_below h5 hb⟩
theorem lit_new (w2 : World) (a b c : Obj) : (((w2.alloc a).alloc b).alloc c).heap[w2.heap.size + 1 + 1]? = some c := by
 have h := heap_alloc_new ((w2.alloc a).alloc b) c
 rwa [show ((w2.alloc a).alloc b).heap.size = w2.heap.size + 1 + 1 by simp] at h
theorem al2_below (w2 : World) (a b : Obj) : Below w2.heap.size w2 ((w2.alloc a).alloc b) := below_alloc (below_alloc (Below.refl _ _) a) b
theorem al2_0 (w2 : World) (a b : Obj) : ((w2.alloc a).alloc b).heap[w2.heap.size]? = some a := ((below_alloc (Below.refl _ _) b).block w2.heap.size (by simp)).trans (heap_alloc_new w2 a)
theorem al2_1 (w2 : World) (a b : Obj) : ((w2.alloc a).alloc b).heap[w2.heap.size + 1]? = some b := by
 have h := heap_alloc_new (w2.alloc a) b
 rwa [show (w2.alloc a).heap.size = w2.heap.size + 1 by simp] at h
theorem isMcH_fs {B g : Nat} {W : World} {rv tv vh : Value} {ops : List S70} {vals : List (List S54)} {st fu : Int} {hd : List ByteArray} (h : IsMcH B W g rv tv ops vals st vh hd fu) (st' fu' : Int) :
 IsMcH B ((W.setCell ⟨g, 6, none⟩ (.int .i64 fu')).setCell ⟨g, 2, none⟩ (.int .i64 st')) g rv tv ops vals st' vh hd fu' := by
 obtain ⟨vo, vv, h1, h2, h3, h4, h5⟩ := h
 have k1 : (W.setCell ⟨g, 6, none⟩ (.int .i64 fu')).heap[g]? = some (.cells #[vo, vv, .int .i64 st, vh, rv, tv, .int .i64 fu'] 94 (0, 0)) := by simpa using blk_set h1 6 (.int .i64 fu')
 exact ⟨vo, vv, by simpa using blk_set k1 2 (.int .i64 st'), h2, Kd.R_set (Kd.R_set h3 h1 (by decide) 6 _) k1 (by decide) 2 _, Kd.R_set (Kd.R_set h4 h1 (by decide) 6 _) k1 (by decide) 2 _, Kd.R_set (Kd.R_set h5 h1 (by decide) 6 _) k1 (by decide) 2 _⟩
theorem rows_parts {W : World} {B C : Nat} {v : Value} {xs : List S70} (h : Kd.R k70 70 W C (fun _ => True) v xs) (hB : B ≤ C) : ∃ A c, v = .slice A xs.length c ∧ ReadsRow (fun x cs => Kd.M k70 W B (fun k => C ≤ k ∧ some k ≠ v.ownBlock) x cs) k70.sz W A xs.length xs := by
 have h2 := Kd.R_lower (Kd.R_mono (Kd.R_bound h) (fun k hk => (hk.2.1 : C ≤ k))) hB
 obtain ⟨A, c, he, _, hr⟩ := OwnRow.reads h2.2
 exact ⟨A, c, he, hr⟩
theorem head2_calls {B g k nb : Nat} {w2 W : World} {rv tv vh : Value} {ops : List S70} {vals : List (List S54)} {st fu : Int} {hd fin : List ByteArray} {nm : ByteArray}
 (h : IsMcH B w2 g rv tv ops vals st vh hd fu) (hf : headF k [nm] hd = some fin) (hW : Below w2.heap.size w2 W) (hnb : W.heap[nb]? = some (.cells #[.string nm] 9 (0, 0))) (hle : w2.heap.size ≤ nb) :
 Calls Try.prog 73 #[.pointer (some ⟨g, 0, none⟩), .slice (some ⟨nb, 0, none⟩) 1 1] W fun e w3 => e = .returned (.tuple #[]) ∧ IsMc B w3 g rv tv ops vals st fin fu ∧ Below B w2 w3 ∧ Kept w2 w3 (fun q => q = g ∨ vh.ownBlock = some q) := by
 have h2 := h
 obtain ⟨vo, vv, h1, hg, _, _, hH⟩ := h2
 have hgl := blk_lt h1
 refine (head_calls (cn := 1) (names := [nm]) (isMcH_below h hW) (F_lit hnb ⟨by omega, fun he => by have := Kd.R_lt hH _ he; omega⟩) hf).mono ?_
 rintro e w3 ⟨he, hM, hB3, hK3⟩
 exact ⟨he, hM, below_trB (below_less hW (by omega)) hB3, Kept.then_ (Kept.below (Kept.refl w2 _) hW) hK3 (fun q hq => .inl hq)⟩
def IsM (B : Nat) (W : World) (g : Nat) (rv tv : Value) (m : Mst) : Prop := IsMc B W g rv tv m.ops m.vals m.st m.hd m.fu
theorem nodeL_pos (c : S54) : ∀ (args : List (List S54)), 0 < (nodeL c args).length := by
 intro args
 have : ∀ (args : List (List S54)) (out : List S54), 0 < out.length → 0 < (args.foldl nodeStep out).length := by
  intro args
  induction args with
  | nil => intro out h; exact h
  | cons v u ih =>
   intro out h
   refine ih _ ?_
   unfold nodeStep
   split
   ·
    rw [List.length_append]; omega
   ·
    exact h
 exact this args [c] (by simp)

set_option maxHeartbeats 8000000 in
set_option maxRecDepth 100000 in
theorem make_calls {B g k cr : Nat} {w0 w : World} {Ar : Option Addr} {rules : List S73} {nm : ByteArray} {o : S70} {args : List (List S54)} {m : Mst} {r : Int × Mst}
 (h : IsM B w g (.slice Ar rules.length cr) .nilIface ⟨m.ops ++ [o], m.vals ++ args, m.st, m.hd, m.fu⟩) (hr : Kd.C k73 w0 Ar rules.length rules) (hw0 : w0.heap.size ≤ B) (hb0 : Below w0.heap.size w0 w)
 (hv : ∀ v ∈ args, v.length ≤ 64) (hf : makeN k rules nm o args m = some r) :
 Calls Try.prog 49 #[.pointer (some ⟨g, 0, none⟩), .agg #[.string nm, .int .i64 (args.length : Int)]] w fun e w' => e = .returned (.int .i64 r.1) ∧ IsM B w' g (.slice Ar rules.length cr) .nilIface r.2 ∧ Below B w w' := by
 have HI := Aside0.mk h
 have HR := Aside0.mk hr
 have HW := Aside0.mk (And.intro hw0 hb0)
 have HF := Aside0.mk hf
 have hbx := heap_alloc_new w (.cells #[.string nm, .int .i64 (args.length : Int)] 54)
 have hb1 := below_alloc (Below.refl w.heap.size w) (.cells #[.string nm, .int .i64 (args.length : Int)] 54)
 obtain ⟨node, hnode⟩ : ∃ node, node = nodeL ⟨nm, args.length⟩ args := ⟨_, rfl⟩
 have N1 := fun (W : World) (hW : Below w.heap.size w W) => node_calls (nm := nm) (args := args) (vals := m.vals) (isMc_below h hW) hv
 rw [← hnode] at N1
 have hpos : 0 < node.length := by rw [hnode]; exact nodeL_pos _ _
 have hBw := isMc_lt h
 have HBX := Aside0.mk hbx
 have HB1 := Aside0.mk hb1
 have HBw := Aside0.mk hBw
 have h0 := HF.out
 unfold makeN at h0
 rw [← hnode] at h0
 have HP := Aside0.mk hpos
 clear h hr hw0 hb0 hf hb1 hbx hBw hnode HF
 have HBW := Aside0.mk (Below.refl w.heap.size w)
 by_cases hbig : node.length > 64
 ·
  rw [if_pos hbig] at h0
  obtain rfl := Option.some.inj h0
  clear h0 hpos
  have hnil := fun (W : World) => Lib.run_eql_slice_nil (P := Try.prog) W 23 54 none 0 0 0 0 Try.underlying23
  have hnil' : ∀ (W : World), Sem.run Try.prog (binOp BinOp.eql 23 (.slice none 0 0) (.slice none 0 0)) W = Result.ok (Value.bool true) W := hnil
  clear hnil
  have HBG := Aside0.mk hbig
  clear hbig
  go_enter Try.func49, Try.ntmps49
  go_wp2_with (first | (go_at_call 72; (with_reducible refine (N1 _ ?side1).mono ?_); (case side1 => exact (zq HBW.out)); rintro e w1 ⟨v1, rfl, hE, hb⟩; have hv1 : v1 = .slice none 0 0 := (by unfold NodeEnd at hE; rw [if_pos HBG.out] at hE; exact hE); subst hv1; have HB2 := Aside0.mk (below_step (zq HBW.out) hb); clear hE hb))
  go_ret
  exact ⟨rfl, isMc_below HI.out HB2.out, below_less HB2.out HBw.out⟩
 ·
  rw [if_neg hbig] at h0
  unfold nodeR at h0
  replace h0 := Option.bind_eq_some_iff.mp h0
  obtain ⟨res, hres, h0⟩ := h0
  have HRES := Aside0.mk hres
  have H0 := Aside0.mk h0
  have HBG := Aside0.mk hbig
  obtain ⟨vh, hih⟩ := isMc_iff.1 HI.out
  have HIH := Aside0.mk hih
  have HNS := Aside0.mk (show ∀ q, w.heap.size ≤ q → ¬ (q = g ∨ vh.ownBlock = some q) from fun q hq hs => by
   obtain ⟨_, _, h1, _, _, _, h5⟩ := HIH.out
   have := blk_lt h1
   rcases hs with rfl | hs
   ·
    omega
   ·
    have := Kd.R_lt h5 _ hs
    omega)
  clear hih
  clear hbig hres h0
  go_enter Try.func49, Try.ntmps49
  go_upto_region 10 with (first | (go_at_call 72; (with_reducible refine (N1 _ ?side2).mono ?_); (case side2 => exact (zq HBW.out)); rintro e w1 ⟨v1, rfl, hE, hb⟩; have hR1 : Kd.R k54 54 _ _ _ v1 node := (by unfold NodeEnd at hE; rw [if_neg HBG.out] at hE; exact hE); obtain ⟨gn, cn, rfl, _⟩ := Kd.R_form hR1 HP.out; have hnil' : ∀ (W : World) (n c : Nat), Sem.run Try.prog (binOp BinOp.eql 23 (.slice (some ⟨gn, 0, none⟩) n c) (.slice none 0 0)) W = Result.ok (Value.bool false) W := (fun W n c => Lib.run_eql_slice_nil (P := Try.prog) W 23 54 (some ⟨gn, 0, none⟩) n c 0 0 Try.underlying23); have HR1 := Aside0.mk (Kd.R_mono (Kd.R_bound (Kd.R_lower hR1 (Below.size (zq HBW.out)))) (fun k hk => (hk.2.1 : w.heap.size ≤ k))); have HBX1 := Aside0.mk ((hb.block w.heap.size (by have := HBX.out; exact blk_lt this)).trans HBX.out); have HB2 := Aside0.mk (below_step (zq HBW.out) hb); have hmh := isMcH_below HIH.out HB2.out; have HM1 := Aside0.mk hmh; obtain ⟨vo, vv, hmb, _⟩ := hmh; have HMB := Aside0.mk hmb; have q5 := (blk_cell hmb 5).trans rfl; clear hE hb hR1 hmb))
  have HB1W := Aside0.mk (Below.refl w1.heap.size w1)
  have FT1 := fun (W : World) (hW : Below w1.heap.size w1 W) => fits_calls (blk_below HMB.out hW) HR.out (below_step (below_step HW.out.2 HB2.out) hW) (Kd.R_reads' (Kd.R_below HR1.out hW)).2.2 (Kd.R_reads' HR1.out).2.1 HP.out HRES.out
  have h0 := H0.out
  cases res with
  | none =>
   simp only at h0
   replace h0 := Option.bind_eq_some_iff.mp h0
   obtain ⟨hd2, hhd, h0⟩ := h0
   have HHD := Aside0.mk hhd
   by_cases hlen : m.vals.length < 5864062014800
   case neg => rw [if_neg hlen] at h0; cases h0
   rw [if_pos hlen] at h0
   obtain rfl := Option.some.inj h0
   have HLEN := Aside0.mk hlen
   clear h0 hhd hlen H0 hpos hv N1
   go_wp2_with (first | (go_at_call 74; (with_reducible refine (FT1 _ ?side3).mono ?_); (case side3 => exact (zq HB1W.out)); rintro e w2 ⟨hE, hb⟩; have HBa := Aside0.mk (below_step (zq HB1W.out) hb); have he : e = .returned (.tuple #[.agg #[.int .i64 0, .slice none 0 0, .slice none 0 0], .slice none 0 0, .bool false]) := hE; subst he; have HM2 := Aside0.mk (isMcH_below HM1.out HBa.out); have HR2 := Aside0.mk (Kd.R_below HR1.out HBa.out); have HBX2 := Aside0.mk (blk_below HBX1.out HBa.out); have HB2W := Aside0.mk (Below.refl w2.heap.size w2); have q0 := pw_cell_below (below_alloc (below_alloc (Below.refl w2.heap.size w2) (.cells #[.int .i64 0, .slice none 0 0, .slice none 0 0] 73)) (.cells #[.slice none 0 0] 100)) ((blk_cell HBX2.out 0).trans rfl : w2.cell? ⟨w.heap.size, 0, none⟩ = some (.string nm)); have q6 := pw_cell_below (below_alloc (below_alloc (Below.refl w2.heap.size w2) (.cells #[.int .i64 0, .slice none 0 0, .slice none 0 0] 73)) (.cells #[.slice none 0 0] 100)) ((blk_cell (blk_below HMB.out HBa.out) 6).trans rfl : w2.cell? ⟨g, 6, none⟩ = some (.int .i64 m.fu)); have H1 := fun (W : World) (nb : Nat) (hW : Below w2.heap.size w2 W) (hnb : W.heap[nb]? = some (.cells #[.string nm] 9 (0, 0))) (hle : w2.heap.size ≤ nb) => head2_calls HM2.out HHD.out hW hnb hle; clear hE hb) | (go_at_call 73; (with_reducible refine (H1 _ (w2.heap.size + 1 + 1) ?side4a ?side4b ?side4c).mono ?_); (case side4a => exact (zq HB2W.out)); (case side4b => exact lit_new _ _ _ _); (case side4c => omega); rintro e w3 ⟨rfl, hM3, hB3, hK3⟩; have HM3 := Aside0.mk hM3; have HB3 := Aside0.mk hB3; have HR3 := Aside0.mk (Kd.R_lower (Kd.R_mono (Kd.R_kept HR2.out hK3 HNS.out) (fun _ _ => trivial)) HBw.out); have HBX3 := Aside0.mk (blk_kept HBX2.out hK3 (HNS.out _ (Nat.le_refl _))); have q1 := (blk_cell HBX3.out 1).trans rfl; clear hM3 hB3 hK3) | (go_at_call 48; (with_reducible refine (fin_calls HM3.out HR3.out (by have := HLEN.out; omega)).mono ?_); rintro e w4 ⟨rfl, hM4, hB4⟩; have HM4 := Aside0.mk hM4; have HB4 := Aside0.mk hB4; clear hM4 hB4))
   go_ret
   exact ⟨rfl, HM4.out, below_trB (below_trB (below_less (below_step HB2.out HBa.out) HBw.out) HB3.out) HB4.out⟩
  | some rb =>
   simp only at h0
   by_cases hfu : m.fu ≤ 0
   ·
    rw [if_pos hfu] at h0
    obtain rfl := Option.some.inj h0
    have hfb : decide (m.fu ≤ 0) = true := decide_eq_true hfu
    clear h0 hfu H0 hpos hv N1
    go_wp2_with (first | (go_at_call 74; (with_reducible refine (FT1 _ ?side5).mono ?_); (case side5 => exact (zq HB1W.out)); rintro e w2 ⟨hE, hb⟩; have HBa := Aside0.mk (below_step (zq HB1W.out) hb); obtain ⟨A1, A2, c1, c2, vb, rfl, hl2, hC2, hRb⟩ := hE; obtain ⟨Ab, cb, rfl⟩ := Kd.R_slice hRb; have HRb := Aside0.mk hRb; have HLO := Aside0.mk (show w.heap.size ≤ _ from Nat.le_trans HB2.out.size (Below.size (zq HB1W.out))); have HL2 := Aside0.mk hl2; have HC2 := Aside0.mk hC2; have HM2 := Aside0.mk (isMcH_below HM1.out HBa.out); have HR2 := Aside0.mk (Kd.R_below HR1.out HBa.out); have HBX2 := Aside0.mk (blk_below HBX1.out HBa.out); have HB2W := Aside0.mk (Below.refl w2.heap.size w2); have q0 := pw_cell_below (below_alloc (below_alloc (Below.refl w2.heap.size w2) (.cells #[.int .i64 rb.1.f0, .slice A1 rb.1.f1.length c1, .slice A2 rb.1.f2.length c2] 73)) (.cells #[.slice Ab rb.2.length cb] 100)) ((blk_cell HBX2.out 0).trans rfl : w2.cell? ⟨w.heap.size, 0, none⟩ = some (.string nm)); have q6 := pw_cell_below (below_alloc (below_alloc (Below.refl w2.heap.size w2) (.cells #[.int .i64 rb.1.f0, .slice A1 rb.1.f1.length c1, .slice A2 rb.1.f2.length c2] 73)) (.cells #[.slice Ab rb.2.length cb] 100)) ((blk_cell (blk_below HMB.out HBa.out) 6).trans rfl : w2.cell? ⟨g, 6, none⟩ = some (.int .i64 m.fu)); clear hb hl2 hC2 hRb))
    go_ret
    exact ⟨rfl, isMc_iff.2 ⟨_, isMcH_below HM2.out ((zq HB2W.out) : Below w2.heap.size w2 _)⟩, below_less (below_step (below_step HB2.out HBa.out) (zq HB2W.out)) HBw.out⟩
   ·
    rw [if_neg hfu] at h0
    by_cases hgo : m.fu ≤ 9223372036854775807 ∧ (∀ b ∈ rb.2, b.f1.length ≤ 64)
    case neg => rw [if_neg hgo] at h0; cases h0
    rw [if_pos hgo] at h0
    replace h0 := Option.bind_eq_some_iff.mp h0
    obtain ⟨hd2, hhd, h0⟩ := h0
    replace h0 := Option.bind_eq_some_iff.mp h0
    obtain ⟨td, htd, h0⟩ := h0
    have hfb : decide (m.fu ≤ 0) = false := decide_eq_false hfu
    by_cases hlen : m.ops.length + td.1.length < 2513169434900
    case neg => rw [if_neg hlen] at h0; cases h0
    rw [if_pos hlen] at h0
    obtain rfl := Option.some.inj h0
    have HLEN := Aside0.mk hlen
    have HGO := Aside0.mk hgo
    have HHD := Aside0.mk hhd
    have HTD := Aside0.mk htd
    have hwf : IntKind.i64.wrap (m.fu - 1) = m.fu - 1 := IntWalk.i64_in _ (by omega)
    have hws : IntKind.i64.wrap (m.st + 1) = wrap64 (m.st + 1) := i64_w _
    clear h0 hfu H0 hpos hv N1 hlen hgo hhd htd
    go_upto_region 19 with (first | (go_at_call 74; (with_reducible refine (FT1 _ ?side6).mono ?_); (case side6 => exact (zq HB1W.out)); rintro e w2 ⟨hE, hb⟩; have HBa := Aside0.mk (below_step (zq HB1W.out) hb); obtain ⟨A1, A2, c1, c2, vb, rfl, hl2, hC2, hRb⟩ := hE; obtain ⟨Ab, cb, rfl⟩ := Kd.R_slice hRb; have HRb := Aside0.mk hRb; have HLO := Aside0.mk (show w.heap.size ≤ _ from Nat.le_trans HB2.out.size (Below.size (zq HB1W.out))); have HL2 := Aside0.mk hl2; have HC2 := Aside0.mk hC2; have HM2 := Aside0.mk (isMcH_below HM1.out HBa.out); have HR2 := Aside0.mk (Kd.R_below HR1.out HBa.out); have HBX2 := Aside0.mk (blk_below HBX1.out HBa.out); have HB2W := Aside0.mk (Below.refl w2.heap.size w2); have q0 := pw_cell_below (below_alloc (below_alloc (Below.refl w2.heap.size w2) (.cells #[.int .i64 rb.1.f0, .slice A1 rb.1.f1.length c1, .slice A2 rb.1.f2.length c2] 73)) (.cells #[.slice Ab rb.2.length cb] 100)) ((blk_cell HBX2.out 0).trans rfl : w2.cell? ⟨w.heap.size, 0, none⟩ = some (.string nm)); have q6 := pw_cell_below (below_alloc (below_alloc (Below.refl w2.heap.size w2) (.cells #[.int .i64 rb.1.f0, .slice A1 rb.1.f1.length c1, .slice A2 rb.1.f2.length c2] 73)) (.cells #[.slice Ab rb.2.length cb] 100)) ((blk_cell (blk_below HMB.out HBa.out) 6).trans rfl : w2.cell? ⟨g, 6, none⟩ = some (.int .i64 m.fu)); have hbk := blk_below (blk_below HMB.out HBa.out) (below_alloc (below_alloc (Below.refl w2.heap.size w2) (.cells #[.int .i64 rb.1.f0, .slice A1 rb.1.f1.length c1, .slice A2 rb.1.f2.length c2] 73)) (.cells #[.slice Ab rb.2.length cb] 100)); have f6 := blk_frozen hbk 6; have hbk6 : (((w2.alloc (.cells #[.int .i64 rb.1.f0, .slice A1 rb.1.f1.length c1, .slice A2 rb.1.f2.length c2] 73)).alloc (.cells #[.slice Ab rb.2.length cb] 100)).setCell ⟨g, 6, none⟩ (.int .i64 (m.fu - 1))).heap[g]? = some (.cells #[vo, vv, .int .i64 m.st, vh, .slice Ar rules.length cr, .nilIface, .int .i64 (m.fu - 1)] 94 (0, 0)) := (by simpa using blk_set hbk 6 (.int .i64 (m.fu - 1))); have qs2 := (blk_cell hbk6 2).trans rfl; have fs2 := blk_frozen hbk6 2; clear hbk hbk6; clear hb hl2 hC2 hRb))
    have HS2 := Aside0.mk (show w.heap.size ≤ w2.heap.size from (below_step HB2.out HBa.out).size)
    have HM4 := Aside0.mk (isMcH_fs (isMcH_below HM2.out (al2_below w2 (.cells #[.int .i64 rb.1.f0, .slice A1 rb.1.f1.length c1, .slice A2 rb.1.f2.length c2] 73) (.cells #[.slice Ab rb.2.length cb] 100))) (wrap64 (m.st + 1)) (m.fu - 1))
    have HG := Aside0.mk (show B ≤ g by obtain ⟨_, _, _, hg, _⟩ := HM2.out; exact hg)
    have HK4 := Aside0.mk (show Kept ((w2.alloc (.cells #[.int .i64 rb.1.f0, .slice A1 rb.1.f1.length c1, .slice A2 rb.1.f2.length c2] 73)).alloc (.cells #[.slice Ab rb.2.length cb] 100)) ((((w2.alloc (.cells #[.int .i64 rb.1.f0, .slice A1 rb.1.f1.length c1, .slice A2 rb.1.f2.length c2] 73)).alloc (.cells #[.slice Ab rb.2.length cb] 100)).setCell ⟨g, 6, none⟩ (.int .i64 (m.fu - 1))).setCell ⟨g, 2, none⟩ (.int .i64 (wrap64 (m.st + 1)))) (fun q => q = g ∨ vh.ownBlock = some q) from Kept.setCell (Kept.setCell (Kept.refl _ _) (p := ⟨g, 6, none⟩) (.inl (.inl rfl)) _) (p := ⟨g, 2, none⟩) (.inl (.inl rfl)) _)
    have HB4 := Aside0.mk (show Below B w ((((w2.alloc (.cells #[.int .i64 rb.1.f0, .slice A1 rb.1.f1.length c1, .slice A2 rb.1.f2.length c2] 73)).alloc (.cells #[.slice Ab rb.2.length cb] 100)).setCell ⟨g, 6, none⟩ (.int .i64 (m.fu - 1))).setCell ⟨g, 2, none⟩ (.int .i64 (wrap64 (m.st + 1)))) from ((below_less (below_step (below_step HB2.out HBa.out) (al2_below w2 (.cells #[.int .i64 rb.1.f0, .slice A1 rb.1.f1.length c1, .slice A2 rb.1.f2.length c2] 73) (.cells #[.slice Ab rb.2.length cb] 100))) HBw.out).setCell (p := ⟨g, 6, none⟩) HG.out _).setCell (p := ⟨g, 2, none⟩) HG.out _)
    have HBX4 := Aside0.mk (blk_kept (blk_below HBX2.out (al2_below w2 (.cells #[.int .i64 rb.1.f0, .slice A1 rb.1.f1.length c1, .slice A2 rb.1.f2.length c2] 73) (.cells #[.slice Ab rb.2.length cb] 100))) HK4.out (HNS.out _ (Nat.le_refl _)))
    have HR4 := Aside0.mk (blk_kept (al2_0 w2 (.cells #[.int .i64 rb.1.f0, .slice A1 rb.1.f1.length c1, .slice A2 rb.1.f2.length c2] 73) (.cells #[.slice Ab rb.2.length cb] 100)) HK4.out (HNS.out _ HS2.out))
    have HCL4 := Aside0.mk (blk_kept (al2_1 w2 (.cells #[.int .i64 rb.1.f0, .slice A1 rb.1.f1.length c1, .slice A2 rb.1.f2.length c2] 73) (.cells #[.slice Ab rb.2.length cb] 100)) HK4.out (HNS.out _ (Nat.le_succ_of_le HS2.out)))
    have HBD4 := Aside0.mk (Kd.R_kept (Kd.R_below (Kd.R_mono (Kd.R_bound (Kd.R_lower HRb.out HLO.out)) (fun k hk => (hk.2.1 : w.heap.size ≤ k))) (al2_below w2 (.cells #[.int .i64 rb.1.f0, .slice A1 rb.1.f1.length c1, .slice A2 rb.1.f2.length c2] 73) (.cells #[.slice Ab rb.2.length cb] 100))) HK4.out HNS.out)
    clear HK4 HM2 HBX2 HRb q0 q6 f6 qs2 fs2
    generalize ((((w2.alloc (.cells #[.int .i64 rb.1.f0, .slice A1 rb.1.f1.length c1, .slice A2 rb.1.f2.length c2] 73)).alloc (.cells #[.slice Ab rb.2.length cb] 100)).setCell ⟨g, 6, none⟩ (.int .i64 (m.fu - 1))).setCell ⟨g, 2, none⟩ (.int .i64 (wrap64 (m.st + 1)))) = w4 at HM4 HB4 HBX4 HR4 HCL4 HBD4 ⊢
    have H1 := fun (W : World) (nb : Nat) (hW : Below w4.heap.size w4 W) (hnb : W.heap[nb]? = some (.cells #[.string nm] 9 (0, 0))) (hle : w4.heap.size ≤ nb) => head2_calls HM4.out HHD.out hW hnb hle
    have q0 : w4.cell? ⟨w.heap.size, 0, none⟩ = some (.string nm) := (blk_cell HBX4.out 0).trans rfl
    go_upto_region 20 with (first | (go_at_call 73; (with_reducible refine (H1 _ w4.heap.size ?s7a ?s7b ?s7c).mono ?_); (case s7a => exact (by repeat (first | exact Below.refl w4.heap.size w4 | apply pw_below_drewN | apply below_drew1 | apply below_alloc))); (case s7b => exact heap_alloc_new _ _); (case s7c => exact Nat.le_refl _); rintro e w5 ⟨rfl, hM5, hB5, hK5⟩; have HM5 := Aside0.mk hM5; have HB5 := Aside0.mk (below_trB HB4.out hB5); have HBX5 := Aside0.mk (blk_kept HBX4.out hK5 (HNS.out _ (Nat.le_refl _))); have HR5 := Aside0.mk (blk_kept HR4.out hK5 (HNS.out _ HS2.out)); have HCL5 := Aside0.mk (blk_kept HCL4.out hK5 (HNS.out _ (Nat.le_succ_of_le HS2.out))); have HBD5 := Aside0.mk (Kd.R_kept HBD4.out hK5 HNS.out); clear hM5 hB5 hK5))
    clear q0 H1 HM4 HB4 HBX4 HR4 HCL4 HBD4
    obtain ⟨vo5, vv5, vh5, hb, hg, hO, hV, hH⟩ := HM5.out
    obtain ⟨Ao, co, rfl⟩ := Kd.R_slice hO
    obtain ⟨Av, cv, rfl⟩ := Kd.R_slice hV
    obtain ⟨_, hco, hCo⟩ := Kd.R_reads' hO
    obtain ⟨_, hcv, hCv⟩ := Kd.R_reads' hV
    obtain ⟨N, hN⟩ : ∃ N, N = (m.ops ++ [o]).length := ⟨_, rfl⟩
    obtain ⟨M, hM⟩ : ∃ M, M = (m.vals ++ args).length := ⟨_, rfl⟩
    rw [← hN] at hb hco hCo hO
    rw [← hM] at hb hcv hCv hV
    have hNb := hCo.2.1
    have hMb := hCv.2.1
    have hN1 : N = m.ops.length + 1 := by rw [hN]; simp
    have hM1 : M = m.vals.length + args.length := by rw [hM]; simp
    have hc0 : w5.cell? ⟨g, 0, none⟩ = some (.slice Ao N co) := (blk_cell hb 0).trans rfl
    have hf0 := blk_frozen hb 0
    have hw0 : IntKind.i64.wrap ((N : Int) - 1) = (N : Int) - 1 := IntWalk.i64_in _ (by omega)
    have hw1 : IntKind.i64.wrap ((M : Int) - (args.length : Int)) = (M : Int) - (args.length : Int) := IntWalk.i64_in _ (by omega)
    obtain ⟨i70, hi70, _, hs70, _⟩ := info_parts info70
    obtain ⟨i23, hi23, _, hs23, _⟩ := info_parts info23
    have hcutO := cut_to (P := Try.prog) 24 70 .i64 Try.underlying24 hi70 Ao N co ((N : Int) - 1) (by omega) (by omega) hco
    have hcutV := cut_to (P := Try.prog) 25 23 .i64 Try.underlying25 hi23 Av M cv ((M : Int) - (args.length : Int)) (by omega) (by omega) hcv
    rw [show ((N : Int) - 1).toNat = m.ops.length by omega] at hcutO
    rw [show ((M : Int) - (args.length : Int)).toNat = m.vals.length by omega] at hcutV
    have HO := Aside0.mk hO
    have HV := Aside0.mk hV
    have HH := Aside0.mk hH
    have HBK := Aside0.mk hb
    have HL := Aside0.mk (show N = m.ops.length + 1 ∧ M = m.vals.length + args.length from ⟨hN1, hM1⟩)
    clear hO hV hH hg hb hN1 hM1 hN hM hCo hCv hco hcv HM5
    go_region
    have HBK1 := Aside0.mk (show _ = _ from (by simpa using blk_set HBK.out 0 (.slice Ao m.ops.length co) : (w5.setCell ⟨g, 0, none⟩ (.slice Ao m.ops.length co)).heap[g]? = some (.cells #[.slice Ao m.ops.length co, .slice Av M cv, .int .i64 (wrap64 (m.st + 1)), vh5, .slice Ar rules.length cr, .nilIface, .int .i64 (m.fu - 1)] 94 (0, 0))) : (w5.setCell ⟨g, 0, none⟩ (.slice Ao m.ops.length co)).drew.heap[g]? = some (.cells #[.slice Ao m.ops.length co, .slice Av M cv, .int .i64 (wrap64 (m.st + 1)), vh5, .slice Ar rules.length cr, .nilIface, .int .i64 (m.fu - 1)] 94 (0, 0)))
    have HO1 := Aside0.mk (Kd.R_drew (Kd.R_set (show Kd.R k70 70 w5 B (fun _ => True) (.slice Ao m.ops.length co) m.ops from by have := Kd.R_take (m := m.ops.length) HO.out (by simp); rwa [List.take_left] at this) HBK.out (by decide) 0 (.slice Ao m.ops.length co)))
    have HV1 := Aside0.mk (Kd.R_drew (Kd.R_set (show Kd.R (Kd.slice 54 k54) 23 w5 B (fun _ => True) (.slice Av m.vals.length cv) m.vals from by have := Kd.R_take (m := m.vals.length) HV.out (by simp); rwa [List.take_left] at this) HBK.out (by decide) 0 (.slice Ao m.ops.length co)))
    have HH1 := Aside0.mk (Kd.R_drew (Kd.R_set HH.out HBK.out (by decide) 0 (.slice Ao m.ops.length co)))
    have HK5 := Aside0.mk (show Kept w5 (w5.setCell ⟨g, 0, none⟩ (.slice Ao m.ops.length co)).drew (fun q => q = g ∨ vh.ownBlock = some q) from Kept.setCell (Kept.refl _ _) (p := ⟨g, 0, none⟩) (.inl (.inl rfl)) _)
    have HBX6 := Aside0.mk (blk_kept HBX5.out HK5.out (HNS.out _ (Nat.le_refl _)))
    have HR6 := Aside0.mk (blk_kept HR5.out HK5.out (HNS.out _ HS2.out))
    have HCL6 := Aside0.mk (blk_kept HCL5.out HK5.out (HNS.out _ (Nat.le_succ_of_le HS2.out)))
    have HBD6 := Aside0.mk (Kd.R_kept HBD5.out HK5.out HNS.out)
    have HB6 := Aside0.mk (below_drew1 (HB5.out.setCell (p := ⟨g, 0, none⟩) HG.out (.slice Ao m.ops.length co)))
    clear HK5 HBX5 HR5 HCL5 HBD5 hc0 hf0
    generalize (w5.setCell ⟨g, 0, none⟩ (.slice Ao m.ops.length co)).drew = w6 at HBK1 HO1 HV1 HH1 HBX6 HR6 HCL6 HBD6 HB6 ⊢
    have hc1 : w6.cell? ⟨g, 1, none⟩ = some (.slice Av M cv) := (blk_cell HBK1.out 1).trans rfl
    have hf1 := blk_frozen HBK1.out 1
    have q1 : w6.cell? ⟨w.heap.size, 1, none⟩ = some (.int .i64 args.length) := (blk_cell HBX6.out 1).trans rfl
    go_upto_region 21 with fail
    go_region
    have HBK2 := Aside0.mk (show _ = _ from (by simpa using blk_set HBK1.out 1 (.slice Av m.vals.length cv) : (w6.setCell ⟨g, 1, none⟩ (.slice Av m.vals.length cv)).heap[g]? = some (.cells #[.slice Ao m.ops.length co, .slice Av m.vals.length cv, .int .i64 (wrap64 (m.st + 1)), vh5, .slice Ar rules.length cr, .nilIface, .int .i64 (m.fu - 1)] 94 (0, 0))) : (w6.setCell ⟨g, 1, none⟩ (.slice Av m.vals.length cv)).drew.heap[g]? = some (.cells #[.slice Ao m.ops.length co, .slice Av m.vals.length cv, .int .i64 (wrap64 (m.st + 1)), vh5, .slice Ar rules.length cr, .nilIface, .int .i64 (m.fu - 1)] 94 (0, 0)))
    have HO2 := Aside0.mk (Kd.R_drew (Kd.R_set HO1.out HBK1.out (by decide) 1 (.slice Av m.vals.length cv)))
    have HV2 := Aside0.mk (Kd.R_drew (Kd.R_set HV1.out HBK1.out (by decide) 1 (.slice Av m.vals.length cv)))
    have HH2 := Aside0.mk (Kd.R_drew (Kd.R_set HH1.out HBK1.out (by decide) 1 (.slice Av m.vals.length cv)))
    have HK6 := Aside0.mk (show Kept w6 (w6.setCell ⟨g, 1, none⟩ (.slice Av m.vals.length cv)).drew (fun q => q = g ∨ vh.ownBlock = some q) from Kept.setCell (Kept.refl _ _) (p := ⟨g, 1, none⟩) (.inl (.inl rfl)) _)
    have HR7 := Aside0.mk (blk_kept HR6.out HK6.out (HNS.out _ HS2.out))
    have HCL7 := Aside0.mk (blk_kept HCL6.out HK6.out (HNS.out _ (Nat.le_succ_of_le HS2.out)))
    have HBD7 := Aside0.mk (Kd.R_kept HBD6.out HK6.out HNS.out)
    have HB7 := Aside0.mk (below_drew1 (HB6.out.setCell (p := ⟨g, 1, none⟩) HG.out (.slice Av m.vals.length cv)))
    clear HK6 HBX6 HR6 HCL6 HBD6 hc1 hf1 q1 HBK HBK1 HO1 HV1 HH1 HO HV HH
    generalize (w6.setCell ⟨g, 1, none⟩ (.slice Av m.vals.length cv)).drew = w7 at HBK2 HO2 HV2 HH2 HR7 HCL7 HBD7 HB7 ⊢
    have hr2 : w7.cell? ⟨w2.heap.size, 2, none⟩ = some (.slice A2 rb.1.f2.length c2) := (blk_cell HR7.out 2).trans rfl
    have hm0 : w7.cell? ⟨g, 0, none⟩ = some (.slice Ao m.ops.length co) := (blk_cell HBK2.out 0).trans rfl
    have HLR := Aside0.mk (And.intro HL2.out (below_trB HW.out.2 (below_less HB7.out HW.out.1)))
    obtain ⟨_, _, HBDC⟩ := Kd.R_reads' HBD7.out
    have HM1' := fun (s : ByteArray) (W : World) (hW : Below w7.drew.heap.size w7.drew W) => mk1_calls (p := w2.heap.size + 1) (cb := cb) (blk_below (w := w7.drew) HCL7.out hW) (Kd.C_below (w := w7.drew) HBDC hW) HGO.out.2 s
    have O1 := ops_calls1 (w := w7.drew) (A := A2) (c := c2) (pb := w2.heap.size + 1) (Kd.C_drew (Kd.C_below HC2.out HLR.out.2)) HLR.out.1 HM1' HTD.out
    have HO1 := Aside0.mk O1
    have HLT := Aside0.mk (show B ≤ w7.heap.size from Nat.le_trans HG.out (Nat.le_of_lt (blk_lt HBK2.out)))
    have hof : (td.1.reverse).length = td.1.length := List.length_reverse
    have HOF := Aside0.mk hof
    obtain ⟨ro, hro⟩ : ∃ ro, ro = td.1.reverse := ⟨_, rfl⟩
    rw [← hro] at HO1 HOF O1 hof
    have HRO := Aside0.mk hro
    clear hro
    have AFT := Aside0.mk (show ∀ (w8 w9 : World), Below w7.drew.heap.size w7.drew w8 → w8.grownBy w9 (Value.slice Ao m.ops.length co).ownBlock → w9.heap[g]? = some (.cells #[.slice Ao m.ops.length co, .slice Av m.vals.length cv, .int .i64 (wrap64 (m.st + 1)), vh5, .slice Ar rules.length cr, .nilIface, .int .i64 (m.fu - 1)] 94 (0, 0)) ∧ Kd.R (Kd.slice 54 k54) 23 w9 B (fun _ => True) (.slice Av m.vals.length cv) m.vals ∧ Kd.R Kd.string 9 w9 B (fun _ => True) vh5 hd2 from fun w8 w9 hb8 hgr =>
     ⟨blk_grown (w := w8) (blk_below (w := w7.drew) HBK2.out hb8) hgr (Kd.R_ne HO2.out HBK2.out (by decide)), Kd.R_over (Kd.R_below (Kd.R_drew HV2.out) hb8) (Kd.R_below (Kd.R_drew HO2.out) hb8) (by decide) hgr, Kd.R_over (Kd.R_below (Kd.R_drew HH2.out) hb8) (Kd.R_below (Kd.R_drew HO2.out) hb8) (by decide) hgr⟩)
    have HPK := Aside0.mk (show ∀ k, w7.drew.heap.size ≤ k → True ∧ some k ≠ (Value.slice Ao m.ops.length co).ownBlock from fun k hk => ⟨trivial, fun he => by have h1 := Kd.R_lt HO2.out _ he.symm; have h2 : w7.heap.size ≤ k := hk; omega⟩)
    have HLM := Aside0.mk (show (m.ops.length + ro.length) * 56 ≤ 140737488355328 by have := HLEN.out; omega)
    clear hof O1 HM1' HBDC
    go_upto_region 22 with fail
    go_region_law (first | (refine goes_ Try.func32 (by kernel_rfl) rfl #[.slice A2 rb.1.f2.length c2, .func (.func 75) #[] #[.pointer (some ⟨w2.heap.size + 1, 0, none⟩)]] (by rfl) rfl rfl (by (try simp only [List.map_toArray, List.map_cons, List.map_nil]); first | done | rfl) ?_; refine HO1.out.mono ?_; rintro e w8 ⟨v8, rfl, hR8, hb8⟩; refine ⟨_, rfl, ?_⟩; obtain ⟨A8, c8, rfl, hRR8⟩ := rows_parts hR8 (show B ≤ w7.drew.heap.size from HLT.out); have FR8 := Aside0.mk hRR8; have HB8 := Aside0.mk hb8; have FO8 := Aside0.mk (Kd.R_below (w := w7.drew) (Kd.R_drew HO2.out) hb8); have FB8 := Aside0.mk (below_trB (below_drew1 HB7.out) (below_less hb8 (show B ≤ w7.drew.heap.size from HLT.out))); have FS8 := Aside0.mk (Nat.le_trans HLT.out hb8.size); have hm8 := (blk_cell (blk_below (w := w7.drew) HBK2.out hb8) 0).trans rfl; clear hR8 hb8 hRR8) | (refine Kd.R_append_rows_step (W := w8) k70 (w0 := w) B rfl (.tmp 133) (.tmp 137) 24 70 (.agg #[(.int .i64 0), (.string ⟨#[]⟩), (.int .i64 0), (.slice none 0 0)]) 56 rfl Try.underlying24 info70 rfl (by decide) (by decide) (.slice Ao m.ops.length co) m.ops ro A8 ro.length c8 (fun _ => True) (fun k => w7.drew.heap.size ≤ k) rfl rfl FO8.out FR8.out (fun _ _ hx => Kd.M_drop hx) HPK.out (fun _ _ => trivial) FB8.out FS8.out HLM.out ?_; intro v9 w9 ho hb hgr hat; obtain ⟨A9, c9, rfl⟩ := Kd.R_slice ho; have HA := Aside0.mk (AFT.out w8 w9 HB8.out hgr); have HO9 := Aside0.mk ho; have HB9 := Aside0.mk hb; have hf9 := blk_frozen HA.out.1 0; have hc9 := (blk_cell HA.out.1 0).trans rfl; clear ho hb hgr hat))
    all_goals
     go_wp2
     go_ret
     have hO9 : Kd.R k70 70 w9 B (fun _ => True) (.slice A9 (m.ops.length + ro.length) c9) (m.ops ++ td.1.reverse) := by have h := HO9.out; rw [List.length_append] at h; rw [← HRO.out]; exact h
     have hS9 : (w9.setCell ⟨g, 0, none⟩ (.slice A9 (m.ops.length + ro.length) c9)).heap[g]? = some (.cells #[.slice A9 (m.ops.length + ro.length) c9, .slice Av m.vals.length cv, .int .i64 (wrap64 (m.st + 1)), vh5, .slice Ar rules.length cr, .nilIface, .int .i64 (m.fu - 1)] 94 (0, 0)) := by simpa using blk_set HA.out.1 0 (.slice A9 (m.ops.length + ro.length) c9)
     exact ⟨rfl, ⟨_, _, _, hS9, HG.out, Kd.R_set hO9 HA.out.1 (by decide) 0 _, Kd.R_set HA.out.2.1 HA.out.1 (by decide) 0 _, Kd.R_set HA.out.2.2 HA.out.1 (by decide) 0 _⟩, HB9.out.setCell (p := ⟨g, 0, none⟩) HG.out _⟩
end Go.Proofs.Ytdlkhpfgkghhmaa.P

-- ==== PF40
namespace Go.Proofs.Ytdlkhpfgkghhmaa.P
open Go.RowKit Go.Proofs.YtdlkhpfgkghhmaaW.PrintWords Go.Proofs.YtdlkhpfgkghhmaaW.PrintLast Go.Proofs.YtdlkhpfgkghhmaaW.PrintMore
attribute [local go_sem] max2_int min2_int max_two min_two max_three min_three max_four min_four

attribute [local go_sem high] eqA54
/-! ### rewrite_may: function 40 -/
def rewrite_may.f (k : Nat) (a0_0 : Int) (a0_1 : ByteArray) (a0_2 : Int) (l0_3 : List (S54)) : Option (Bool) := if a0_0 = 1 then (if (l0_3.length : Int) = 0 then ((name_Kind.f k a0_1).bind fun t102 => (if t102 = 1 then (if a0_2 ≥ 0 then (some (decide (a0_2 ≤ 4))) else (some false)) else (some false))) else (some false)) else (if a0_0 = 2 then (if (a0_1.toList == ([] : List UInt8) && (a0_2 == 0)) = true then ((rewrite_ground.f k l0_3).bind fun t103 => (some t103)) else (some false)) else (some false))
theorem rewrite_may.mono : ∀ a0 a1 a2 a3 k, LeO (rewrite_may.f k a0 a1 a2 a3) (rewrite_may.f (k + 1) a0 a1 a2 a3) := by
 intro a0 a1 a2 a3 k
 unfold rewrite_may.f
 repeat' first
  | (with_reducible exact name_Kind.mono _ _)
  | (with_reducible exact rewrite_ground.mono _ _)
  | (with_reducible exact LeO.refl _)
  | (with_reducible exact LeO.none _)
  | (with_reducible refine LeO.ite ?_ ?_)
  | (with_reducible refine LeO.bind ?_ (fun _ => ?_))
theorem rewrite_may.calls (k : Nat) (a0_0 : Int) (a0_1 : ByteArray) (a0_2 : Int) (A0_3 : Option Addr) (c0_3 : Nat) (l0_3 : List (S54)) (r : Bool) (w : World) (hr0_3 : Kd.C k54 w A0_3 l0_3.length l0_3) (hc0_3 : l0_3.length ≤ c0_3) (h : rewrite_may.f k a0_0 a0_1 a0_2 l0_3 = some r) :
 Calls Try.prog 40 #[.agg #[.int .i64 a0_0, .string a0_1, .int .i64 a0_2, .slice A0_3 l0_3.length c0_3]] w fun e w' => e = .returned (.bool r) ∧ Below w.heap.size w w' := by
 have hu70 := Try.underlying70
 have hu54 := Try.underlying54
 have HR0_3 := zM hr0_3
 have HC0_3 := zM hc0_3
 clear hr0_3 hc0_3
 have HB := zM (Below.refl w.heap.size w)
 have H : (if a0_0 = 1 then (if (l0_3.length : Int) = 0 then ((name_Kind.f k a0_1).bind fun t102 => (if t102 = 1 then (if a0_2 ≥ 0 then (some (decide (a0_2 ≤ 4))) else (some false)) else (some false))) else (some false)) else (if a0_0 = 2 then (if (a0_1.toList == ([] : List UInt8) && (a0_2 == 0)) = true then ((rewrite_ground.f k l0_3).bind fun t103 => (some t103)) else (some false)) else (some false))) = some r := h
 clear h
 by_cases c2 : a0_0 = 1
 ·
  rw [if_pos c2] at H
  have c2b0 : (a0_0 == 1) = true := zG c2
  have c2b1 : (a0_0 != 1) = false := zH c2
  clear c2
  by_cases c3 : (l0_3.length : Int) = 0
  ·
   rw [if_pos c3] at H
   have c3b0 : ((l0_3.length : Int) == 0) = true := zG c3
   have c3b1 : ((l0_3.length : Int) != 0) = false := zH c3
   clear c3
   replace H := zB H
   obtain ⟨t102, A40, H⟩ := H
   try dsimp only at H
   have A4 := zM A40
   clear A40
   by_cases c5 : t102 = 1
   ·
    rw [if_pos c5] at H
    have c5b0 : (t102 == 1) = true := zG c5
    have c5b1 : (t102 != 1) = false := zH c5
    clear c5
    by_cases c6 : a0_2 ≥ 0
    ·
     rw [if_pos c6] at H
     have c6b0 : decide (0 ≤ a0_2) = true := zQ c6
     clear c6
     obtain rfl := zS H
     go_enter Try.func40, Try.ntmps40
     go_wp2_with (first | ((with_reducible refine gate_dst (N := 1) rfl ?_); refine box_event ?hg (N := 1) ?hd (cs := #[.int .i64 a0_0, .string a0_1, .int .i64 a0_2, .slice A0_3 l0_3.length c0_3]) (t := 70) ?hr ?_; (case hd => rfl); (case hg => rfl); (case hr => first | (go_simp; done) | (go_simp; rfl)); intro gb101 hg w7 hbox hb; have BK101 := zM (hbox); have GW101 := zM (zh hg : w.heap.size ≤ gb101); have GE101 := zM (zh hg : w.heap.size ≤ gb101); replace HB := zM (below_step zb hb); clear hb hbox hg; have hcz8_0 : w7.cell? ⟨gb101, 0, none⟩ = some (.int .i64 a0_0) := (zX BK101.out 0).trans rfl; have hcz8_1 : w7.cell? ⟨gb101, 1, none⟩ = some (.string a0_1) := (zX BK101.out 1).trans rfl; have hcz8_2 : w7.cell? ⟨gb101, 2, none⟩ = some (.int .i64 a0_2) := (zX BK101.out 2).trans rfl; have hcz8_3 : w7.cell? ⟨gb101, 3, none⟩ = some (.slice A0_3 l0_3.length c0_3) := (zX BK101.out 3).trans rfl; have hfz8_0 := zY BK101.out 0; have hfz8_1 := zY BK101.out 1; have hfz8_2 := zY BK101.out 2; have hfz8_3 := zY BK101.out 3) | (go_at_call 43; (with_reducible refine (name_Kind.calls k a0_1 t102 _ A4.out).mono ?_); rintro e w' ⟨rfl, ⟨nd, rfl⟩⟩))
     go_ret
     exact ⟨zw, zb⟩
    ·
     rw [if_neg c6] at H
     have c6b0 : decide (0 ≤ a0_2) = false := zR c6
     clear c6
     obtain rfl := zS H
     go_enter Try.func40, Try.ntmps40
     go_wp2_with (first | ((with_reducible refine gate_dst (N := 1) rfl ?_); refine box_event ?hg (N := 1) ?hd (cs := #[.int .i64 a0_0, .string a0_1, .int .i64 a0_2, .slice A0_3 l0_3.length c0_3]) (t := 70) ?hr ?_; (case hd => rfl); (case hg => rfl); (case hr => first | (go_simp; done) | (go_simp; rfl)); intro gb101 hg w9 hbox hb; have BK101 := zM (hbox); have GW101 := zM (zh hg : w.heap.size ≤ gb101); have GE101 := zM (zh hg : w.heap.size ≤ gb101); replace HB := zM (below_step zb hb); clear hb hbox hg; have hcz10_0 : w9.cell? ⟨gb101, 0, none⟩ = some (.int .i64 a0_0) := (zX BK101.out 0).trans rfl; have hcz10_1 : w9.cell? ⟨gb101, 1, none⟩ = some (.string a0_1) := (zX BK101.out 1).trans rfl; have hcz10_2 : w9.cell? ⟨gb101, 2, none⟩ = some (.int .i64 a0_2) := (zX BK101.out 2).trans rfl; have hcz10_3 : w9.cell? ⟨gb101, 3, none⟩ = some (.slice A0_3 l0_3.length c0_3) := (zX BK101.out 3).trans rfl; have hfz10_0 := zY BK101.out 0; have hfz10_1 := zY BK101.out 1; have hfz10_2 := zY BK101.out 2; have hfz10_3 := zY BK101.out 3) | (go_at_call 43; (with_reducible refine (name_Kind.calls k a0_1 t102 _ A4.out).mono ?_); rintro e w' ⟨rfl, ⟨nd, rfl⟩⟩))
     go_ret
     exact ⟨zw, zb⟩
   ·
    rw [if_neg c5] at H
    have c5b0 : (t102 == 1) = false := zE c5
    have c5b1 : (t102 != 1) = true := zF c5
    obtain rfl := zS H
    go_enter Try.func40, Try.ntmps40
    go_wp2_with (first | ((with_reducible refine gate_dst (N := 1) rfl ?_); refine box_event ?hg (N := 1) ?hd (cs := #[.int .i64 a0_0, .string a0_1, .int .i64 a0_2, .slice A0_3 l0_3.length c0_3]) (t := 70) ?hr ?_; (case hd => rfl); (case hg => rfl); (case hr => first | (go_simp; done) | (go_simp; rfl)); intro gb101 hg w11 hbox hb; have BK101 := zM (hbox); have GW101 := zM (zh hg : w.heap.size ≤ gb101); have GE101 := zM (zh hg : w.heap.size ≤ gb101); replace HB := zM (below_step zb hb); clear hb hbox hg; have hcz12_0 : w11.cell? ⟨gb101, 0, none⟩ = some (.int .i64 a0_0) := (zX BK101.out 0).trans rfl; have hcz12_1 : w11.cell? ⟨gb101, 1, none⟩ = some (.string a0_1) := (zX BK101.out 1).trans rfl; have hcz12_2 : w11.cell? ⟨gb101, 2, none⟩ = some (.int .i64 a0_2) := (zX BK101.out 2).trans rfl; have hcz12_3 : w11.cell? ⟨gb101, 3, none⟩ = some (.slice A0_3 l0_3.length c0_3) := (zX BK101.out 3).trans rfl; have hfz12_0 := zY BK101.out 0; have hfz12_1 := zY BK101.out 1; have hfz12_2 := zY BK101.out 2; have hfz12_3 := zY BK101.out 3) | (go_at_call 43; (with_reducible refine (name_Kind.calls k a0_1 t102 _ A4.out).mono ?_); rintro e w' ⟨rfl, ⟨nd, rfl⟩⟩))
    go_ret
    exact ⟨zw, zb⟩
  ·
   rw [if_neg c3] at H
   have c3b0 : ((l0_3.length : Int) == 0) = false := zE c3
   have c3b1 : ((l0_3.length : Int) != 0) = true := zF c3
   have c3b2 : ¬ (l0_3 = []) := fun h_ => c3 (by rw [h_]; rfl)
   obtain rfl := zS H
   go_enter Try.func40, Try.ntmps40
   go_wp2_with (first | ((with_reducible refine gate_dst (N := 1) rfl ?_); refine box_event ?hg (N := 1) ?hd (cs := #[.int .i64 a0_0, .string a0_1, .int .i64 a0_2, .slice A0_3 l0_3.length c0_3]) (t := 70) ?hr ?_; (case hd => rfl); (case hg => rfl); (case hr => first | (go_simp; done) | (go_simp; rfl)); intro gb101 hg w13 hbox hb; have BK101 := zM (hbox); have GW101 := zM (zh hg : w.heap.size ≤ gb101); have GE101 := zM (zh hg : w.heap.size ≤ gb101); replace HB := zM (below_step zb hb); clear hb hbox hg; have hcz14_0 : w13.cell? ⟨gb101, 0, none⟩ = some (.int .i64 a0_0) := (zX BK101.out 0).trans rfl; have hcz14_1 : w13.cell? ⟨gb101, 1, none⟩ = some (.string a0_1) := (zX BK101.out 1).trans rfl; have hcz14_2 : w13.cell? ⟨gb101, 2, none⟩ = some (.int .i64 a0_2) := (zX BK101.out 2).trans rfl; have hcz14_3 : w13.cell? ⟨gb101, 3, none⟩ = some (.slice A0_3 l0_3.length c0_3) := (zX BK101.out 3).trans rfl; have hfz14_0 := zY BK101.out 0; have hfz14_1 := zY BK101.out 1; have hfz14_2 := zY BK101.out 2; have hfz14_3 := zY BK101.out 3))
   go_ret
   exact ⟨zw, zb⟩
 ·
  rw [if_neg c2] at H
  have c2b0 : (a0_0 == 1) = false := zE c2
  have c2b1 : (a0_0 != 1) = true := zF c2
  by_cases c15 : a0_0 = 2
  ·
   rw [if_pos c15] at H
   have c15b0 : (a0_0 == 2) = true := zG c15
   have c15b1 : (a0_0 != 2) = false := zH c15
   clear c15
   by_cases c16 : (a0_1.toList == ([] : List UInt8) && (a0_2 == 0)) = true
   ·
    rw [if_pos c16] at H
    have c16b0 : (a0_1.toList == ([] : List UInt8) && (a0_2 == 0)) = true := c16
    (try (have c16b1 : decide (a0_1.toList = ([] : List UInt8) && (a0_2 == 0)) = true := by simpa using c16))
    (try (have c16b2 : (a0_1.toList == ([] : List UInt8) && (a0_2 == 0)) = true := by simpa using c16))
    have c16b9 : (a0_1.toList.isEmpty && (a0_2 == 0)) = true := by rw [← c16b0]; cases a0_1.toList <;> rfl
    clear c16
    replace H := zB H
    obtain ⟨t103, A170, H⟩ := H
    try dsimp only at H
    have A17 := zM A170
    clear A170
    obtain rfl := zS H
    go_enter Try.func40, Try.ntmps40
    go_wp2_with (first | ((with_reducible refine gate_dst (N := 1) rfl ?_); refine box_event ?hg (N := 1) ?hd (cs := #[.int .i64 a0_0, .string a0_1, .int .i64 a0_2, .slice A0_3 l0_3.length c0_3]) (t := 70) ?hr ?_; (case hd => rfl); (case hg => rfl); (case hr => first | (go_simp; done) | (go_simp; rfl)); intro gb101 hg w18 hbox hb; have BK101 := zM (hbox); have GW101 := zM (zh hg : w.heap.size ≤ gb101); have GE101 := zM (zh hg : w.heap.size ≤ gb101); replace HB := zM (below_step zb hb); clear hb hbox hg; have hcz19_0 : w18.cell? ⟨gb101, 0, none⟩ = some (.int .i64 a0_0) := (zX BK101.out 0).trans rfl; have hcz19_1 : w18.cell? ⟨gb101, 1, none⟩ = some (.string a0_1) := (zX BK101.out 1).trans rfl; have hcz19_2 : w18.cell? ⟨gb101, 2, none⟩ = some (.int .i64 a0_2) := (zX BK101.out 2).trans rfl; have hcz19_3 : w18.cell? ⟨gb101, 3, none⟩ = some (.slice A0_3 l0_3.length c0_3) := (zX BK101.out 3).trans rfl; have hfz19_0 := zY BK101.out 0; have hfz19_1 := zY BK101.out 1; have hfz19_2 := zY BK101.out 2; have hfz19_3 := zY BK101.out 3) | (go_at_call 31; (with_reducible refine (rewrite_ground.calls k _ _ l0_3 t103 _ ?side1 ?side2 A17.out).mono ?_); (case side1 => exact Kd.C_below HR0_3.out zb); (case side2 => exact HC0_3.out); rintro e w20 ⟨rfl, hb⟩; replace BK101 := zM (blk_below (zk BK101.out) hb); replace HB := zM (below_step zb hb); (try clear hb)))
    go_ret
    exact ⟨zw, zb⟩
   ·
    rw [if_neg c16] at H
    have c16b0 : (a0_1.toList == ([] : List UInt8) && (a0_2 == 0)) = false := by simpa using c16
    (try (have c16b1 : decide (a0_1.toList = ([] : List UInt8) && (a0_2 == 0)) = false := by simpa using c16))
    (try (have c16b2 : (a0_1.toList == ([] : List UInt8) && (a0_2 == 0)) = false := by simpa using c16))
    have c16b9 : (a0_1.toList.isEmpty && (a0_2 == 0)) = false := by rw [← c16b0]; cases a0_1.toList <;> rfl
    (try (have c16b3 : ¬ (a0_1.toList = ([] : List UInt8) && (a0_2 == 0)) := by simpa using c16))
    clear c16
    obtain rfl := zS H
    go_enter Try.func40, Try.ntmps40
    go_wp2_with (first | ((with_reducible refine gate_dst (N := 1) rfl ?_); refine box_event ?hg (N := 1) ?hd (cs := #[.int .i64 a0_0, .string a0_1, .int .i64 a0_2, .slice A0_3 l0_3.length c0_3]) (t := 70) ?hr ?_; (case hd => rfl); (case hg => rfl); (case hr => first | (go_simp; done) | (go_simp; rfl)); intro gb101 hg w21 hbox hb; have BK101 := zM (hbox); have GW101 := zM (zh hg : w.heap.size ≤ gb101); have GE101 := zM (zh hg : w.heap.size ≤ gb101); replace HB := zM (below_step zb hb); clear hb hbox hg; have hcz22_0 : w21.cell? ⟨gb101, 0, none⟩ = some (.int .i64 a0_0) := (zX BK101.out 0).trans rfl; have hcz22_1 : w21.cell? ⟨gb101, 1, none⟩ = some (.string a0_1) := (zX BK101.out 1).trans rfl; have hcz22_2 : w21.cell? ⟨gb101, 2, none⟩ = some (.int .i64 a0_2) := (zX BK101.out 2).trans rfl; have hcz22_3 : w21.cell? ⟨gb101, 3, none⟩ = some (.slice A0_3 l0_3.length c0_3) := (zX BK101.out 3).trans rfl; have hfz22_0 := zY BK101.out 0; have hfz22_1 := zY BK101.out 1; have hfz22_2 := zY BK101.out 2; have hfz22_3 := zY BK101.out 3))
    go_ret
    exact ⟨zw, zb⟩
  ·
   rw [if_neg c15] at H
   have c15b0 : (a0_0 == 2) = false := zE c15
   have c15b1 : (a0_0 != 2) = true := zF c15
   obtain rfl := zS H
   go_enter Try.func40, Try.ntmps40
   go_wp2_with (first | ((with_reducible refine gate_dst (N := 1) rfl ?_); refine box_event ?hg (N := 1) ?hd (cs := #[.int .i64 a0_0, .string a0_1, .int .i64 a0_2, .slice A0_3 l0_3.length c0_3]) (t := 70) ?hr ?_; (case hd => rfl); (case hg => rfl); (case hr => first | (go_simp; done) | (go_simp; rfl)); intro gb101 hg w23 hbox hb; have BK101 := zM (hbox); have GW101 := zM (zh hg : w.heap.size ≤ gb101); have GE101 := zM (zh hg : w.heap.size ≤ gb101); replace HB := zM (below_step zb hb); clear hb hbox hg; have hcz24_0 : w23.cell? ⟨gb101, 0, none⟩ = some (.int .i64 a0_0) := (zX BK101.out 0).trans rfl; have hcz24_1 : w23.cell? ⟨gb101, 1, none⟩ = some (.string a0_1) := (zX BK101.out 1).trans rfl; have hcz24_2 : w23.cell? ⟨gb101, 2, none⟩ = some (.int .i64 a0_2) := (zX BK101.out 2).trans rfl; have hcz24_3 : w23.cell? ⟨gb101, 3, none⟩ = some (.slice A0_3 l0_3.length c0_3) := (zX BK101.out 3).trans rfl; have hfz24_0 := zY BK101.out 0; have hfz24_1 := zY BK101.out 1; have hfz24_2 := zY BK101.out 2; have hfz24_3 := zY BK101.out 3))
   go_ret
   exact ⟨zw, zb⟩

end Go.Proofs.Ytdlkhpfgkghhmaa.P

-- ==== Rw12
namespace Go.Proofs.Ytdlkhpfgkghhmaa.P
open Go.RowKit Go.Proofs.YtdlkhpfgkghhmaaW.PrintWords Go.Proofs.YtdlkhpfgkghhmaaW.PrintLast Go.Proofs.YtdlkhpfgkghhmaaW.PrintMore
def idxF (k : Nat) : List (List S54) → Int → Option Int
 | [], _ => some (-1)
 | v :: u, i => (rewrite_ground.f k v).bind fun b => if b = true then idxF k u (i + 1) else some i
set_option maxHeartbeats 1000000 in
theorem chk1_calls {k c : Nat} {A : Option Addr} {v : List S54} {b : Bool} {w : World} (hr : Kd.C k54 w A v.length v) (hc : v.length ≤ c) (h : rewrite_ground.f k v = some b) :
 Calls Try.prog 42 #[.slice A v.length c] w fun e w' => e = .returned (.bool (!b)) ∧ Below w.heap.size w w' := by
 have G1 := fun (W : World) (hW : Below w.heap.size w W) => rewrite_ground.calls k A c v b W (Kd.C_below hr hW) hc h
 have HBW := Aside0.mk (Below.refl w.heap.size w)
 clear hr h
 go_enter Try.func42, Try.ntmps42
 go_wp2_with (go_at_call 31; (with_reducible refine (G1 _ ?side1).mono ?_); (case side1 => exact (zq HBW.out)); rintro e w2 ⟨rfl, hb⟩; have HB2 := Aside0.mk (below_step (zq HBW.out) hb); clear hb)
 go_ret
 exact ⟨rfl, HB2.out⟩
set_option maxHeartbeats 4000000 in
set_option maxRecDepth 100000 in
theorem idx_calls {k cv : Nat} {w : World} {Av : Option Addr} {vals : List (List S54)} {r : Int} (hv : Kd.C (Kd.slice 54 k54) w Av vals.length vals) (hf : idxF k vals 0 = some r) :
 Calls Try.prog 67 #[.slice Av vals.length cv, .func (.func 42) #[] #[]] w fun e w' => e = .returned (.int .i64 r) ∧ Below w.heap.size w w' := by
 have HC := Aside0.mk hv
 have HF := Aside0.mk hf
 have HM := Aside0.mk (show (vals.length : Int) ≤ 9223372036854775807 by have := hv.2.1; omega)
 have HB := Aside0.mk (Below.refl w.heap.size w)
 clear hv hf
 go_enter Try.func67, Try.ntmps67
 go_wp2
 go_loopg [8] vals.length (fun kq v8 w' => ∃ x : Int, v8 = .int .i64 x ∧ Aside0 (0 ≤ x ∧ x + kq = (vals.length : Int)) ∧ Aside0 (idxF k (vals.drop x.toNat) x = some r) ∧ Aside0 (Below w.heap.size w w'))
 case atStart => exact ⟨0, rfl, ⟨by omega⟩, HF, HB⟩
 case round =>
  clear HF HB
  obtain ⟨x, rfl, HX, HF, HB⟩ := hrel
  cases gk with
  | succ k1 =>
   have hi : 0 ≤ x ∧ x < (vals.length : Int) := by have := HX.out; omega
   obtain ⟨ad, A0, c0, rfl, hx0, hl0, hc0⟩ := at_L3 (Kd.C_below HC.out HB.out) x hi.1 hi.2
   have hdr : vals.drop x.toNat = rd_L3 vals x :: vals.drop (x.toNat + 1) := by
    rw [List.drop_eq_getElem_cons (show x.toNat < vals.length by omega)]
    congr 1
    simp [rd_L3, List.getD_eq_getElem?_getD, show x.toNat < vals.length by omega]
   have hf := HF.out
   rw [hdr, idxF] at hf
   generalize rd_L3 vals x = v at hx0 hl0 hc0 hf
   obtain ⟨b, hg, hf⟩ := Option.bind_eq_some_iff.mp hf
   have HXI := Aside0.mk hi
   have hb0 : decide (x < (vals.length : Int)) = true := decide_eq_true hi.2
   have hpp := eq_true hi.1
   have hqq := eq_true hi.2
   have G1 := fun (W : World) (hW : Below wr.heap.size wr W) => chk1_calls (c := c0) (Kd.C_below hc0 hW) hl0 hg
   have HBW := Aside0.mk (Below.refl wr.heap.size wr)
   have HF1 := Aside0.mk hf
   clear hdr hc0 hl0 hg hi hf HF
   cases b with
   | true =>
    have hf := HF1.out
    rw [if_pos rfl] at hf
    have HF2 := Aside0.mk hf
    clear hf HF1
    go_wp2_with (go_at_call 42; (with_reducible refine (G1 _ ?side1).mono ?_); (case side1 => exact (zq HBW.out)); rintro e w2 ⟨rfl, hb⟩; have HB2 := Aside0.mk (below_step (zq HBW.out) hb); clear hb)
    go_roundg k1
    case measure => have := HX.out; omega
    case rel => exact ⟨x + 1, by have e_ : wrap64 (x + 1) = x + 1 := (by have := HXI.out; have := HM.out; unfold wrap64; omega); first | rfl | rw [e_] | (simp [e_]; done), ⟨by have := HX.out; omega⟩, ⟨by rw [show (x + 1).toNat = x.toNat + 1 by have := HXI.out; omega]; exact HF2.out⟩, ⟨below_step HB.out HB2.out⟩⟩
   | false =>
    have hf := HF1.out
    rw [if_neg (by decide)] at hf
    obtain rfl := Option.some.inj hf
    clear hf HF1
    go_wp2_with (go_at_call 42; (with_reducible refine (G1 _ ?side2).mono ?_); (case side2 => exact (zq HBW.out)); rintro e w2 ⟨rfl, hb⟩; have HB2 := Aside0.mk (below_step (zq HBW.out) hb); clear hb)
    go_ret
    exact ⟨rfl, below_step HB.out HB2.out⟩
  | zero =>
   have hb0 : decide (x < (vals.length : Int)) = false := decide_eq_false (by have := HX.out; omega)
   have hf := HF.out
   rw [List.drop_eq_nil_of_le (by have := HX.out; omega), idxF] at hf
   obtain rfl := Option.some.inj hf
   clear hf HF
   go_wp2
   go_ret
   exact ⟨rfl, HB.out⟩
set_option maxHeartbeats 1000000 in
theorem cont_calls {k cv : Nat} {w : World} {Av : Option Addr} {vals : List (List S54)} {r : Int} (hv : Kd.C (Kd.slice 54 k54) w Av vals.length vals) (hf : idxF k vals 0 = some r) :
 Calls Try.prog 41 #[.slice Av vals.length cv, .func (.func 42) #[] #[]] w fun e w' => e = .returned (.bool (decide (0 ≤ r))) ∧ Below w.heap.size w w' := by
 have G1 := fun (W : World) (hW : Below w.heap.size w W) => idx_calls (cv := cv) (Kd.C_below hv hW) hf
 have HBW := Aside0.mk (Below.refl w.heap.size w)
 clear hv hf
 go_enter Try.func41, Try.ntmps41
 go_wp2_with (go_at_call 67; (with_reducible refine (G1 _ ?side1).mono ?_); (case side1 => exact (zq HBW.out)); rintro e w2 ⟨rfl, hb⟩; have HB2 := Aside0.mk (below_step (zq HBW.out) hb); clear hb)
 go_ret
 exact ⟨rfl, HB2.out⟩
end Go.Proofs.Ytdlkhpfgkghhmaa.P

-- ==== Rw13
namespace Go.Proofs.Ytdlkhpfgkghhmaa.P
open Go.RowKit Go.Proofs.YtdlkhpfgkghhmaaW.PrintWords Go.Proofs.YtdlkhpfgkghhmaaW.PrintLast Go.Proofs.YtdlkhpfgkghhmaaW.PrintMore
attribute [local go_sem] Oper.semAt_some
def opV (fA : Nat → Option Addr) (fc : Nat → Nat) (ops : List S70) (x : Nat) : Value := .agg #[.int .i64 (rd_T70 ops x).f0, .string (rd_T70 ops x).f1.f0, .int .i64 (rd_T70 ops x).f1.f1, .slice (fA x) (rd_T70 ops x).f2.length (fc x)]
def OpsAt (w : World) (n₀ : Nat) (A : Option Addr) (fA : Nat → Option Addr) (fc : Nat → Nat) (ops : List S70) : Prop :=
 ∀ x : Nat, x < ops.length → ∃ ad, A = some ad ∧ (ad.add (x * 4)).block < n₀ ∧ w.cell? (ad.add (x * 4)) = some (.int .i64 (rd_T70 ops x).f0) ∧ w.cell? ⟨(ad.add (x * 4)).block, (ad.add (x * 4)).off + 1, none⟩ = some (.string (rd_T70 ops x).f1.f0) ∧ w.cell? ⟨(ad.add (x * 4)).block, (ad.add (x * 4)).off + 2, none⟩ = some (.int .i64 (rd_T70 ops x).f1.f1) ∧ w.cell? ⟨(ad.add (x * 4)).block, (ad.add (x * 4)).off + 3, none⟩ = some (.slice (fA x) (rd_T70 ops x).f2.length (fc x))
theorem opsAt_of {w : World} {A : Option Addr} {ops : List S70} (h : Kd.C k70 w A ops.length ops) : ∃ fA fc, OpsAt w w.heap.size A fA fc ops ∧ ∀ x : Nat, x < ops.length → (rd_T70 ops x).f2.length ≤ fc x ∧ Kd.C k54 w (fA x) (rd_T70 ops x).f2.length (rd_T70 ops x).f2 := by
 have hx : ∀ x : Nat, ∃ p : Option Addr × Nat, x < ops.length → (∃ ad, A = some ad ∧ (ad.add (x * 4)).block < w.heap.size ∧ w.cell? (ad.add (x * 4)) = some (.int .i64 (rd_T70 ops x).f0) ∧ w.cell? ⟨(ad.add (x * 4)).block, (ad.add (x * 4)).off + 1, none⟩ = some (.string (rd_T70 ops x).f1.f0) ∧ w.cell? ⟨(ad.add (x * 4)).block, (ad.add (x * 4)).off + 2, none⟩ = some (.int .i64 (rd_T70 ops x).f1.f1) ∧ w.cell? ⟨(ad.add (x * 4)).block, (ad.add (x * 4)).off + 3, none⟩ = some (.slice p.1 (rd_T70 ops x).f2.length p.2)) ∧ (rd_T70 ops x).f2.length ≤ p.2 ∧ Kd.C k54 w p.1 (rd_T70 ops x).f2.length (rd_T70 ops x).f2 := by
  intro x
  by_cases hl : x < ops.length
  ·
   obtain ⟨ad, A3, c3, e, h0, h1, h2, h3, h4, h5⟩ := at_T70 h (x : Int) (by omega) (by omega)
   rw [show ((x : Int)).toNat = x from rfl] at h0 h1 h2 h3
   exact ⟨(A3, c3), fun _ => ⟨⟨ad, e, World.block_lt_of_cell? w _ h0, h0, h1, h2, h3⟩, h4, h5⟩⟩
  ·
   exact ⟨(none, 0), fun h => absurd h hl⟩
 obtain ⟨f, hf⟩ := Classical.axiomOfChoice hx
 exact ⟨fun x => (f x).1, fun x => (f x).2, fun x hl => (hf x hl).1, fun x hl => (hf x hl).2⟩
def KpB (n₀ Bs : Nat) (W W' : World) : Prop := W.heap.size ≤ W'.heap.size ∧ ∀ q, q < n₀ ∨ q = Bs → q < W.heap.size → W'.heap[q]? = W.heap[q]?
theorem KpB.trans {n₀ Bs : Nat} {A B C : World} (h : KpB n₀ Bs A B) (k : KpB n₀ Bs B C) : KpB n₀ Bs A C := ⟨Nat.le_trans h.1 k.1, fun q hq hl => (k.2 q hq (Nat.lt_of_lt_of_le hl h.1)).trans (h.2 q hq hl)⟩
theorem cell_heap {w W : World} {a : Addr} (h : W.heap[a.block]? = w.heap[a.block]?) : W.cell? a = w.cell? a := by simp [World.cell?, h]
theorem opsAt_keep {w W : World} {n₀ Bs : Nat} {A : Option Addr} {fA : Nat → Option Addr} {fc : Nat → Nat} {ops : List S70} (h : OpsAt w n₀ A fA fc ops) (hk : KpB n₀ Bs w W) : OpsAt W n₀ A fA fc ops := by
 intro x hx
 obtain ⟨ad, e, hb, h0, h1, h2, h3⟩ := h x hx
 have hq := hk.2 _ (.inl hb) (World.block_lt_of_cell? w _ h0)
 exact ⟨ad, e, hb, (cell_heap hq).trans h0, (cell_heap (a := ⟨_, _, none⟩) hq).trans h1, (cell_heap (a := ⟨_, _, none⟩) hq).trans h2, (cell_heap (a := ⟨_, _, none⟩) hq).trans h3⟩
set_option maxRecDepth 100000 in
set_option maxHeartbeats 4000000 in
theorem back_in (F : Fence) (n : Nat) (h66 : F.fn 66) (hro : F.round = none) (hn : 1 ≤ n) (l Bs n₀ : Nat) (A : Option Addr) (c : Nat) (fA : Nat → Option Addr) (fc : Nat → Nat) (ops : List S70) (hlen : ops.length ≤ 9223372036854775807) (J Jx : List Nat → World → Prop)
 (W : World) (hO : OpsAt W n₀ A fA fc ops) (hc : W.cell? ⟨Bs, 0, none⟩ = some (.slice A ops.length c))
 (hY : ∀ (pre : List Nat) (x : Nat) (W1 : World), x < ops.length → J pre W1 → pre.length < ops.length → YieldAt F (n - 1) Try.prog l #[.int .i64 (x : Int), opV fA fc ops x] W1 fun e W' =>
  (e = .returned (.bool true) ∧ J (pre ++ [x]) W' ∧ KpB n₀ Bs W1 W') ∨ (e = .returned (.bool false) ∧ Jx (pre ++ [x]) W'))
 (h0 : J [] W) :
 CallsIn F n Try.prog 66 #[.func (.yield l) #[] #[], .pointer (some ⟨Bs, 0, none⟩)] W fun e W' => (∃ v, e = .returned v) ∧
  ((∃ ys, ys = (List.range ops.length).reverse ∧ J ys W') ∨ (∃ pre, (∃ q, pre ++ q = (List.range ops.length).reverse) ∧ Jx pre W')) := by
 have hw0 : IntKind.i64.wrap ((ops.length : Int) - 1) = (ops.length : Int) - 1 := IntWalk.i64_in _ (by omega)
 refine callsIn_of_wp Try.func66 rfl h66 ?_ hro
 simp only [Try.ntmps66, List.size_toArray, List.length_cons, List.length_nil, Nat.reduceAdd, Nat.reduceSub, Array.replicate_succ, Array.replicate_zero, List.push_toArray, List.append_toArray, List.nil_append, List.cons_append]
 gi_wp2
 gi_loopw [3] (fun p wr => ∃ (pre : List Nat) (m : Nat), p = .int .i64 ((m : Int) - 1) ∧ m ≤ ops.length ∧ pre.length + m = ops.length ∧ pre ++ (List.range m).reverse = (List.range ops.length).reverse ∧ J pre wr ∧ OpsAt wr n₀ A fA fc ops ∧ wr.cell? ⟨Bs, 0, none⟩ = some (.slice A ops.length c))
  (fun p _ => (intOf p + 1).toNat)
 case atStart =>
  exact ⟨[], ops.length, rfl, Nat.le_refl _, by simp, rfl, h0, hO, hc⟩
 case round =>
  obtain ⟨pre, m, rfl, hm, hpl, hpre, hJ, hOr, hcr⟩ := hrel
  cases m with
  | zero =>
   have hg : decide ((0 : Int) ≤ ((0 : Nat) : Int) - 1) = false := by decide
   gi_wp2
   go_end0
   refine ⟨⟨_, rfl⟩, .inl ⟨_, rfl, ?_⟩⟩
   rw [← hpre]
   simpa using hJ
  | succ m =>
   obtain ⟨fn, tmps, assign, body, hy, hR⟩ := hY pre m wr (by omega) hJ (by omega)
   obtain ⟨ad, rfl, hbl, hx0, hx1, hx2, hx3⟩ := hOr m (by omega)
   have HM := Aside0.mk hm
   have HPL := Aside0.mk hpl
   have HPR := Aside0.mk hpre
   have HOr := Aside0.mk hOr
   have e1 : (((m + 1 : Nat) : Int) - 1) = (m : Int) := by omega
   have hg : decide ((0 : Int) ≤ (m : Int)) = true := decide_eq_true (by omega)
   have hqq : ((m : Int) < (ops.length : Int)) = True := eq_true (by omega)
   have hpp : ((0 : Int) ≤ (m : Int)) = True := eq_true (by omega)
   have hmm : ((m : Int)).toNat = m := rfl
   have hww : IntKind.i64.wrap ((m : Int) - 1) = (m : Int) - 1 := IntWalk.i64_in _ (by omega)
   rw [e1]
   unfold opV at hy
   clear hm hpl hpre hOr hY
   gi_wp2
   refine hR.mono ?_
   rintro e W3 (⟨rfl, hJ3, hk3⟩ | ⟨rfl, hJx3⟩)
   ·
    have hO3 := opsAt_keep HOr.out hk3
    have hc3 : W3.cell? ⟨Bs, 0, none⟩ = some (.slice (some ad) ops.length c) := (cell_heap (a := ⟨Bs, 0, none⟩) (hk3.2 Bs (.inr rfl) (World.block_lt_of_cell? wr _ hcr))).trans hcr
    have HO3 := Aside0.mk hO3
    clear hO3 hx0 hx1 hx2 hx3 hcr
    gi_wp2
    have hpl := HPL.out
    have hm := HM.out
    exact ⟨⟨pre ++ [m], m, rfl, by omega, by simp; omega, by have h := HPR.out; rw [List.range_succ, List.reverse_append] at h; rw [← h]; simp, hJ3, HO3.out, hc3⟩, by simp [intOf]⟩
   ·
    gi_wp2
    refine bodyPost_ret (results_none rfl _ _ _) rfl ?_
    exact ⟨⟨_, rfl⟩, .inr ⟨_, ⟨_, by have h := HPR.out; rw [List.range_succ, List.reverse_append] at h; rw [← h]; simp; rfl⟩, hJx3⟩⟩

-- ==== Rw14
theorem back_stops (F : Fence) (n : Nat) (h66 : F.fn 66) (hro : F.round = none) (hn : 1 ≤ n) (Bs n₀ : Nat) (A : Option Addr) (c : Nat) (fA : Nat → Option Addr) (fc : Nat → Nat) (ops : List S70) (hlen : ops.length ≤ 9223372036854775807) (w : World)
 (hO : OpsAt w n₀ A fA fc ops) (hn₀ : n₀ ≤ w.heap.size) (hc : w.cell? ⟨Bs, 0, none⟩ = some (.slice A ops.length c)) :
 SeqStopsK F n Try.prog 66 #[.pointer (some ⟨Bs, 0, none⟩)] (fun x : Fin ops.length => #[.int .i64 (x.val : Int), opV fA fc ops x.val]) (KpB n₀ Bs) (fun ys => ys.map Fin.val = (List.range ops.length).reverse) (fun pre => ∃ q, pre.map Fin.val ++ q = (List.range ops.length).reverse) ops.length w := by
 intro l J Jx W hW _ _ hY h0
 have hBs : Bs < w.heap.size := World.block_lt_of_cell? w _ hc
 refine (back_in F n h66 hro hn l Bs n₀ A c fA fc ops hlen (fun p W => ∃ pre, pre.map Fin.val = p ∧ J pre W) (fun p W => ∃ pre, pre.map Fin.val = p ∧ Jx pre W) W (opsAt_keep (Bs := Bs) hO ⟨hW.size, fun q hq hl => hW.block q hl⟩) ((cell_heap (a := ⟨Bs, 0, none⟩) (hW.block Bs hBs)).trans hc) ?_ ⟨[], rfl, h0⟩).mono ?_
 ·
  rintro p x W1 hx ⟨pre, rfl, hJ⟩ hlt
  have h := hY pre ⟨x, hx⟩ W1 hJ (by simpa using hlt)
  refine h.mono ?_
  rintro e W' (⟨he, h1, h2⟩ | ⟨he, h1⟩)
  ·
   exact .inl ⟨he, ⟨_, by simp, h1⟩, h2⟩
  ·
   exact .inr ⟨he, ⟨_, by simp, h1⟩⟩
 ·
  rintro e W' ⟨hv, ⟨ys, hys, pre, hp, hJ⟩ | ⟨p, hq, pre, rfl, hJ⟩⟩
  ·
   exact ⟨hv, .inl ⟨pre, hp.trans hys, hJ⟩⟩
  ·
   exact ⟨hv, .inr ⟨pre, hq, hJ⟩⟩
set_option maxRecDepth 100000 in
set_option maxHeartbeats 4000000 in
theorem mkback_in (F : Fence) (n : Nat) (h39 : F.fn 39) (hro : F.round = none) (A : Option Addr) (m c : Nat) (w : World) :
 CallsIn F n Try.prog 39 #[.slice A m c] w fun e W' => e = .returned (.func (.func 66) #[] #[.pointer (some ⟨w.heap.size, 0, none⟩)]) ∧ W' = w.alloc (.cells #[.slice A m c] 24) := by
 refine callsIn_of_wp Try.func39 rfl h39 ?_ hro
 simp only [Try.ntmps39, List.size_toArray, List.length_cons, List.length_nil, Nat.reduceAdd, Nat.reduceSub, Array.replicate_succ, Array.replicate_zero, List.push_toArray, List.append_toArray, List.nil_append, List.cons_append]
 gi_wp2
 go_ret
 exact ⟨rfl, rfl⟩
def arOf (ops : List S70) (x : Nat) : Int := (rd_T70 ops x).f1.f1
def chkB (ops : List S70) (bs : Nat → Bool) : List Nat → Int → Option Int
 | [], n => some n
 | x :: u, n => if bs x = true then (if arOf ops x > n then none else chkB ops bs u (wrap64 (n + wrap64 (1 - arOf ops x)))) else none
theorem chkB_append (ops : List S70) (bs : Nat → Bool) : ∀ (a b : List Nat) (n : Int), chkB ops bs (a ++ b) n = (chkB ops bs a n).bind fun m => chkB ops bs b m
 | [], b, n => rfl
 | x :: u, b, n => by
  simp only [List.cons_append, chkB]
  split
  ·
   split
   ·
    rfl
   ·
    exact chkB_append ops bs u b _
  ·
   rfl
def M3 (w : World) (stv : Array Value) (W : World) (nv e : Int) : Prop :=
 W.heap[w.heap.size]? = some (.cells stv 28 (0, 0)) ∧ W.heap[w.heap.size + 1]? = some (.cells #[.int .i64 e] 30 (0, 0)) ∧ W.heap[w.heap.size + 1 + 1]? = some (.cells #[.int .i64 nv] 3 (0, 0)) ∧ Below w.heap.size w W
theorem grown_same {W W' : World} {row : Option Nat} {B q : Nat} {o : Obj} (hg : W.grownBy W' row) (hr : ∀ r, row = some r → B ≤ r ∧ ∃ o : Obj, W.heap[r]? = some o ∧ o.isCells = false) (hq : q < B) (h : W.heap[q]? = some o) : W'.heap[q]? = some o :=
 (hg.block q (blk_lt h) (fun e => by have := (hr _ e.symm).1; omega)).trans h
theorem M3.grown {w W W' : World} {stv : Array Value} {nv e : Int} {row : Option Nat} {B : Nat} (h : M3 w stv W nv e) (hB : w.heap.size + 1 + 1 < B) (hg : W.grownBy W' row) (hr : ∀ r, row = some r → B ≤ r ∧ ∃ o : Obj, W.heap[r]? = some o ∧ o.isCells = false) : M3 w stv W' nv e :=
 ⟨grown_same hg hr (by omega) h.1, grown_same hg hr (by omega) h.2.1, grown_same hg hr (by omega) h.2.2.1, h.2.2.2.grown hg h.2.2.2.size (fun k e => by have := (hr k e).1; omega)⟩
theorem M3.below {w W W' : World} {stv : Array Value} {nv e : Int} (h : M3 w stv W nv e) (hb : Below W.heap.size W W') : M3 w stv W' nv e :=
 ⟨blk_below h.1 hb, blk_below h.2.1 hb, blk_below h.2.2.1 hb, below_step h.2.2.2 hb⟩
theorem M3.drewN {w W : World} {stv : Array Value} {nv e : Int} (h : M3 w stv W nv e) (n : Nat) : M3 w stv (W.drewN n) nv e := ⟨h.1, h.2.1, h.2.2.1, pw_below_drewN h.2.2.2 n⟩
theorem M3.setN {w W : World} {stv : Array Value} {nv e : Int} (h : M3 w stv W nv e) (n' : Int) : M3 w stv (W.setCell ⟨w.heap.size + 1 + 1, 0, none⟩ (.int .i64 n')) n' e :=
 ⟨(Below.heap_setCell W ⟨w.heap.size + 1 + 1, 0, none⟩ _ _ (by simp; omega)).trans h.1, (Below.heap_setCell W ⟨w.heap.size + 1 + 1, 0, none⟩ _ _ (by simp)).trans h.2.1, by simpa using blk_set h.2.2.1 0 (.int .i64 n'), h.2.2.2.setCell (p := ⟨w.heap.size + 1 + 1, 0, none⟩) (by simp; omega) _⟩
theorem M3.setE {w W : World} {stv : Array Value} {nv e : Int} (h : M3 w stv W nv e) (e' : Int) : M3 w stv (W.setCell ⟨w.heap.size + 1, 0, none⟩ (.int .i64 e')) nv e' :=
 ⟨(Below.heap_setCell W ⟨w.heap.size + 1, 0, none⟩ _ _ (by simp)).trans h.1, by simpa using blk_set h.2.1 0 (.int .i64 e'), (Below.heap_setCell W ⟨w.heap.size + 1, 0, none⟩ _ _ (by simp)).trans h.2.2.1, h.2.2.2.setCell (p := ⟨w.heap.size + 1, 0, none⟩) (by simp) _⟩
def okH : Option ByteArray → ByteArray → Bool
 | none, _ => true
 | some q, h => Op.bytesLess q.toList h.toList
def hdsF (k : Nat) : Option ByteArray → List ByteArray → Option Int
 | _, [] => some 0
 | p, h :: u => (name_Kind.f k h).bind fun c => if c = 1 then (if okH p h = true then hdsF k (some h) u else some 3) else some 3
def postF (k : Nat) (vals : List (List S54)) (st : Int) (hd : List ByteArray) : Option Int → Option Int
 | none => some 3
 | some n => if n = 1 then (if st < 0 then some 3 else (idxF k vals 0).bind fun i => if 0 ≤ i then some 3 else hdsF k none hd) else some 3
theorem M3.ends {w W : World} {stv : Array Value} {nv e : Int} {D : Nat} (h : M3 w stv W nv e) (hK : W.heap[D]? = some (.deferred (some []))) (hD : w.heap.size + 1 + 1 < D) : M3 w stv (W.putObj D (.deferred none)) nv e :=
 h.grown hD (grownBy_putObj' _ D _) (fun r e => by cases e; exact ⟨Nat.le_refl _, _, hK, rfl⟩)
theorem kpB_below {n₀ Bs : Nat} {W W' : World} (h : Below W.heap.size W W') : KpB n₀ Bs W W' := ⟨h.size, fun q _ hl => h.block q hl⟩
theorem keepsFrom_below {B : Nat} {W W' : World} (h : Below W.heap.size W W') : KeepsFrom B W W' := ⟨h.size, fun k o _ hk _ => blk_below hk h⟩
theorem kpB_set {n₀ Bs b : Nat} {W : World} {v : Value} (h1 : n₀ ≤ b) (h2 : b ≠ Bs) : KpB n₀ Bs W (W.setCell ⟨b, 0, none⟩ v) := ⟨by simp [World.setCell], fun q hq _ => Below.heap_setCell W ⟨b, 0, none⟩ _ _ (by rcases hq with hq | rfl <;> simp <;> omega)⟩
theorem run_geS_f {a b : ByteArray} (h : Op.bytesLess a.toList b.toList = true) (W : World) : Sem.run Try.prog (binOp BinOp.geq 9 (.string a) (.string b)) W = Result.ok (Value.bool false) W := by
 simp [go_sem, binOp, Op.stringOp, h]
theorem run_geS_t {a b : ByteArray} (h : Op.bytesLess a.toList b.toList = false) (W : World) : Sem.run Try.prog (binOp BinOp.geq 9 (.string a) (.string b)) W = Result.ok (Value.bool true) W := by
 simp [go_sem, binOp, Op.stringOp, h]
set_option maxRecDepth 100000 in
set_option maxHeartbeats 4000000 in
theorem check_in {k co cv ch : Nat} {w : World} {Ao Av Ah : Option Addr} {ops : List S70} {vals : List (List S54)} {st : Int} {hd : List ByteArray} {bs : Nat → Bool}
 (hO : Kd.C k70 w Ao ops.length ops) (hV : Kd.C (Kd.slice 54 k54) w Av vals.length vals) (hH : Kd.C Kd.string w Ah hd.length hd)
 {r : Int} (hr : postF k vals st hd (chkB ops bs (List.range ops.length).reverse vals.length) = some r) (hm : ∀ x : Nat, x < ops.length → rewrite_may.f k (rd_T70 ops x).f0 (rd_T70 ops x).f1.f0 (rd_T70 ops x).f1.f1 (rd_T70 ops x).f2 = some (bs x)) :
 Calls Try.prog 16 #[.agg #[.slice Ao ops.length co, .slice Av vals.length cv, .int .i64 st, .slice Ah hd.length ch]] w fun e W' => e = .returned (.int .i64 r) ∧ Below w.heap.size w W' := by
 refine (callsIn_wide (n := 6)).1 ?_
 have h66 : Fence.wide.fn 66 := trivial
 have h39 : Fence.wide.fn 39 := trivial
 have h40 : Fence.wide.fn 40 := trivial
 have h41 : Fence.wide.fn 41 := trivial
 have h43 : Fence.wide.fn 43 := trivial
 obtain ⟨fA, fc, hOA, hOC⟩ := opsAt_of hO
 have B1 := fun (W : World) => mkback_in Fence.wide (6 - 1) h39 rfl Ao ops.length co W
 refine callsIn_of_wp_marks Try.func16 rfl trivial ?_ rfl
 simp only [Try.ntmps16, List.size_toArray, List.length_cons, List.length_nil, Nat.reduceAdd, Nat.reduceSub, Array.replicate_succ, Array.replicate_zero, List.push_toArray, List.append_toArray, List.nil_append, List.cons_append]
 gi_wp2_with (gi_at_call 39; refine (B1 _).mono ?_; rintro e w' ⟨rfl, rfl⟩)
 obtain ⟨stv, hstv⟩ : ∃ stv : Array Value, stv = #[.slice Ao ops.length co, .slice Av vals.length cv, .int .i64 st, .slice Ah hd.length ch] := ⟨_, rfl⟩
 have hM0 : M3 w stv ((((w.alloc (.cells #[.slice Ao ops.length co, .slice Av vals.length cv, .int .i64 st, .slice Ah hd.length ch] 28)).alloc (.cells #[.int .i64 0] 30)).alloc (.cells #[.int .i64 vals.length] 3)).alloc (.cells #[.slice Ao ops.length co] 24)) vals.length 0 := by
  refine M3.below ?_ (below_alloc (Below.refl _ _) _)
  rw [hstv]
  exact ⟨((below_alloc (below_alloc (Below.refl _ _) _) _).block _ (by simp)).trans (heap_alloc_new w _), ((below_alloc (Below.refl _ _) _).block _ (by simp)).trans (al2_1 w _ _), lit_new _ _ _ _, below_alloc (below_alloc (below_alloc (Below.refl _ _) _) _) _⟩
 have hbs : ((((w.alloc (.cells #[.slice Ao ops.length co, .slice Av vals.length cv, .int .i64 st, .slice Ah hd.length ch] 28)).alloc (.cells #[.int .i64 0] 30)).alloc (.cells #[.int .i64 vals.length] 3)).alloc (.cells #[.slice Ao ops.length co] 24)).cell? ⟨w.heap.size + 1 + 1 + 1, 0, none⟩ = some (.slice Ao ops.length co) := by
  have h := lit_new (w.alloc (.cells #[.slice Ao ops.length co, .slice Av vals.length cv, .int .i64 st, .slice Ah hd.length ch] 28)) (.cells #[.int .i64 0] 30) (.cells #[.int .i64 vals.length] 3) (.cells #[.slice Ao ops.length co] 24)
  rw [show (w.alloc (.cells #[.slice Ao ops.length co, .slice Av vals.length cv, .int .i64 st, .slice Ah hd.length ch] 28)).heap.size = w.heap.size + 1 by simp] at h
  exact (blk_cell h 0).trans rfl
 have hsz : ((((w.alloc (.cells #[.slice Ao ops.length co, .slice Av vals.length cv, .int .i64 st, .slice Ah hd.length ch] 28)).alloc (.cells #[.int .i64 0] 30)).alloc (.cells #[.int .i64 vals.length] 3)).alloc (.cells #[.slice Ao ops.length co] 24)).heap.size = w.heap.size + 4 := by simp
 generalize ((((w.alloc (.cells #[.slice Ao ops.length co, .slice Av vals.length cv, .int .i64 st, .slice Ah hd.length ch] 28)).alloc (.cells #[.int .i64 0] 30)).alloc (.cells #[.int .i64 vals.length] 3)).alloc (.cells #[.slice Ao ops.length co] 24)) = W0 at hM0 hbs hsz ⊢
 have hOA0 : OpsAt W0 w.heap.size Ao fA fc ops := opsAt_keep (Bs := w.heap.size) hOA ⟨by omega, fun q _ hl => hM0.2.2.2.block q hl⟩
 refine wpIn_rangeFunc_ownH rfl (by omega) (gf := 66) (lb := #[.pointer (some ⟨w.heap.size + 1 + 1 + 1, 0, none⟩)]) rfl h66 (enters_of Try.func66 (by kernel_rfl) rfl)
  (back_stops Fence.wide (6 - 1) h66 rfl (by omega) (w.heap.size + 1 + 1 + 1) w.heap.size Ao co fA fc ops hO.2.1 W0 hOA0 (by omega) hbs) KpB.trans ?kb (Below.refl _ _) (fun _ => rfl)
  (fun pre W => ∃ nv, chkB ops bs (pre.map Fin.val) vals.length = some nv ∧ M3 w stv W nv 0)
  (fun c pre W => c = .ret ∧ chkB ops bs (pre.map Fin.val) vals.length = none ∧ ∃ nv, M3 w stv W nv 3)
  (fun pre W W' row ⟨nv, h1, h2⟩ hg hr => ⟨nv, h1, h2.grown (by omega) hg hr⟩)
  (fun c pre W W' row ⟨h0, h1, nv, h2⟩ hg hr => ⟨h0, h1, nv, h2.grown (by omega) hg hr⟩)
  ⟨_, rfl, hM0⟩
  (fun x a' W => ∃ Bx, w.heap.size + 1 + 1 < Bx ∧ W.heap[Bx]? = some (.cells #[.int .i64 (rd_T70 ops x.val).f0, .string (rd_T70 ops x.val).f1.f0, .int .i64 (rd_T70 ops x.val).f1.f1, .slice (fA x.val) (rd_T70 ops x.val).f2.length (fc x.val)] 70 (0, 0)) ∧ a' = { tmps := #[.agg #[.slice Ao ops.length co, .slice Av vals.length cv, .int .i64 st, .slice Ah hd.length ch], .pointer (some ⟨w.heap.size, 0, none⟩), .pointer (some ⟨w.heap.size + 1, 0, none⟩), .pointer (some ⟨w.heap.size + 1 + 1, 0, none⟩), undef, .pointer (some ⟨Bx, 0, none⟩), undef, undef, .pointer (some ⟨w.heap.size, 1, none⟩), .slice Av vals.length cv, .int .i64 vals.length, .pointer (some ⟨w.heap.size, 0, none⟩), .slice Ao ops.length co, .func (.func 66) #[] #[.pointer (some ⟨w.heap.size + 1 + 1 + 1, 0, none⟩)], .int .i64 x.val, opV fA fc ops x.val, undef, undef, undef, undef, undef, undef, undef, undef, undef, undef, undef, undef, undef, undef, undef, undef, undef, undef, undef, undef, undef, undef, undef, undef, undef, undef, undef, undef, undef, undef, undef, undef, undef, undef, undef, undef, undef, undef, undef, undef, undef, undef, undef, undef, undef, undef, undef, undef, undef, undef, undef, undef, undef, undef], defers := [] })
  ?ax ?assign ?body ?done ?stop
 case kb =>
  intro W l o o' hl _ _ _
  have hg := grownBy_putObj' W l o'
  exact ⟨hg.size, fun q hq hlt => hg.block q hlt (fun e => by have := Option.some.inj e; omega)⟩
 case ax =>
  rintro x a' _ X Y row ⟨Bx, e1, e2, e3⟩ hg hr
  refine ⟨Bx, e1, (hg.block Bx (blk_lt e2) (fun e => ?_)).trans e2, e3⟩
  obtain ⟨_, o, ho, hn⟩ := hr Bx e.symm
  rw [e2] at ho
  obtain rfl := Option.some.inj ho
  simp [Obj.isCells] at hn
 case assign =>
  rintro l pre x W K ⟨nv, h1, h2⟩ hK
  unfold opV
  gi_wp2
  exact hK _ _ ((KeepsOthers.alloc _ _).from _) (kpB_below (below_alloc (Below.refl _ _) _)) ⟨nv, h1, h2.below (below_alloc (Below.refl _ _) _)⟩ ⟨W.heap.size, blk_lt h2.2.2.1, heap_alloc_new _ _, rfl⟩
 case body =>
  rintro l pre x a' W hl ⟨r, hr⟩ ⟨nv, h1, h2⟩ ⟨Bx, hBx, bX, rfl⟩ hlt
  unfold opV
  have hx := x.isLt
  have HM := Aside0.mk (hm x.val hx)
  have HOC := Aside0.mk (hOC x.val hx)
  have HM3 := Aside0.mk h2
  have M1 := fun (W' : World) (hW' : Below W.heap.size W W') => rewrite_may.calls k (rd_T70 ops x.val).f0 (rd_T70 ops x.val).f1.f0 (rd_T70 ops x.val).f1.f1 (fA x.val) (fc x.val) (rd_T70 ops x.val).f2 (bs x.val) W' (Kd.C_below HOC.out.2 (below_step HM3.out.2.2.2 hW')) HOC.out.1 HM.out
  have q0 := (blk_cell bX 0).trans rfl
  have q1 := (blk_cell bX 1).trans rfl
  have q2 := (blk_cell bX 2).trans rfl
  have q3 := (blk_cell bX 3).trans rfl
  have HBX := Aside0.mk bX
  have HC := Aside0.mk h1
  have HSZ := Aside0.mk (And.intro hsz hBx)
  have hstep : ∀ r, (if bs x.val = true then (if arOf ops x.val > nv then none else some (wrap64 (nv + wrap64 (1 - arOf ops x.val)))) else none) = r → chkB ops bs ((pre ++ [x]).map Fin.val) vals.length = r := by
   rintro r rfl
   rw [List.map_append, chkB_append, HC.out]
   rfl
  have HST := Aside0.mk hstep
  obtain ⟨b, hb⟩ : ∃ b, b = bs x.val := ⟨_, rfl⟩
  rw [← hb] at M1 hstep
  have HBB := Aside0.mk hb
  clear hb hstep hm hOC h1 h2 bX hO hV hH hOA hOA0 hM0 hbs hsz B1 hBx
  cases b with
  | false =>
   gi_wp2_with (gi_at_call 40; refine (CallsIn.inRound l (callsIn_wide.2 (M1 _ (Below.refl _ _)))).mono ?_; rintro e w' ⟨rfl, hb⟩; have HB' := Aside0.mk hb; have HM3' := Aside0.mk (HM3.out.below hb); have f1 := blk_frozen HM3'.out.2.1 0; have c1 := (blk_cell HM3'.out.2.1 0).trans rfl; clear hb)
   have h := HST.out _ (if_neg (by rw [← HBB.out]; decide))
   exact ⟨(keepsFrom_below HB'.out).trans ((KeepsOthers.setCell _ _ _).from _), rfl, h, nv, HM3'.out.setE 3⟩
  | true =>
   by_cases hn : arOf ops x.val > nv
   ·
    have hd1 : decide ((rd_T70 ops x.val).f1.f1 > nv) = true := decide_eq_true hn
    have hd2 : decide (nv < (rd_T70 ops x.val).f1.f1) = true := decide_eq_true hn
    have HN := Aside0.mk hn
    clear hn
    gi_wp2_with (gi_at_call 40; refine (CallsIn.inRound l (callsIn_wide.2 (M1 _ (Below.refl _ _)))).mono ?_; rintro e w' ⟨rfl, hb⟩; have HB' := Aside0.mk hb; have HM3' := Aside0.mk (HM3.out.below hb); have f1 := blk_frozen HM3'.out.2.1 0; have c1 := (blk_cell HM3'.out.2.1 0).trans rfl; have c2 := (blk_cell HM3'.out.2.2.1 0).trans rfl; have p2 := (blk_cell (blk_below HBX.out hb) 2).trans rfl; clear hb)
    have h := HST.out _ ((if_pos HBB.out.symm).trans (if_pos HN.out))
    exact ⟨(keepsFrom_below HB'.out).trans ((KeepsOthers.setCell _ _ _).from _), rfl, h, nv, HM3'.out.setE 3⟩
   ·
    have hd1 : decide ((rd_T70 ops x.val).f1.f1 > nv) = false := decide_eq_false hn
    have hd2 : decide (nv < (rd_T70 ops x.val).f1.f1) = false := decide_eq_false hn
    have HN := Aside0.mk hn
    clear hn
    gi_wp2_with (gi_at_call 40; refine (CallsIn.inRound l (callsIn_wide.2 (M1 _ (Below.refl _ _)))).mono ?_; rintro e w' ⟨rfl, hb⟩; have HB' := Aside0.mk hb; have HM3' := Aside0.mk (HM3.out.below hb); have f1 := blk_frozen HM3'.out.2.2.1 0; have c2 := (blk_cell HM3'.out.2.2.1 0).trans rfl; have p2 := (blk_cell (blk_below HBX.out hb) 2).trans rfl; clear hb)
    have h := HST.out _ ((if_pos HBB.out.symm).trans (if_neg (Int.not_lt.mpr HN.out)))
    exact ⟨(keepsFrom_below HB'.out).trans ((KeepsOthers.setCell _ _ _).from _), (kpB_below HB'.out).trans (kpB_set (by omega) (by omega)), _, h, HM3'.out.setN _⟩
 case done =>
  rintro D ys W hD hys ⟨nv, hn, hM⟩ hK
  rw [hys] at hn
  rw [hn] at hr
  have HM := Aside0.mk hM
  have c2 := (blk_cell hM.2.2.1 0).trans rfl
  clear hn hM hm hOC hO hOA hOA0 hM0 hbs B1 hys
  by_cases hnv : nv = 1
  ·
   subst hnv
   subst hstv
   have s2 : W.cell? ⟨w.heap.size, 2, none⟩ = some (.int .i64 st) := (blk_cell HM.out.1 2).trans rfl
   have s1 : W.cell? ⟨w.heap.size, 1, none⟩ = some (.slice Av vals.length cv) := (blk_cell HM.out.1 1).trans rfl
   have f1 := blk_frozen HM.out.2.1 0
   have c1 := (blk_cell HM.out.2.1 0).trans rfl
   have hb : ((1 : Int) != 1) = false := rfl
   by_cases hst : st < 0
   ·
    have hs := decide_eq_true hst
    rw [show postF k vals st hd (some 1) = some 3 by simp [postF, hst]] at hr
    obtain rfl := Option.some.inj hr
    have hK_ := hK
    clear hr
    gi_wp2
    have hE := (HM.out.setE 3).ends ((Below.heap_setCell W ⟨w.heap.size + 1, 0, none⟩ (.int .i64 3) D (by simp; omega)).trans hK_) (by omega)
    have hc5 := (blk_cell hE.2.1 0).trans rfl
    refine ⟨by simp, .inl ⟨_, _, rfl, run_takeDeferred ((Below.heap_setCell W ⟨w.heap.size + 1, 0, none⟩ (.int .i64 3) D (by simp; omega)).trans hK_), ?_⟩⟩
    refine ⟨.int .i64 3, ?_, rfl, hE.2.2.2⟩
    simp [results, Try.f16, go_sem, hc5]
   ·
    have hs := decide_eq_false hst
    rw [show postF k vals st hd (some 1) = (idxF k vals 0).bind fun i => if 0 ≤ i then some 3 else hdsF k none hd by simp [postF, hst]] at hr
    obtain ⟨i, hi, hr⟩ := Option.bind_eq_some_iff.mp hr
    have C1 := fun (W' : World) (hW' : Below W.heap.size W W') => callsIn_wide (n := 6 - 1).2 (cont_calls (cv := cv) (Kd.C_below hV (below_step HM.out.2.2.2 hW')) hi)
    clear hi hV
    by_cases hi : 0 ≤ i
    ·
     rw [if_pos hi] at hr
     obtain rfl := Option.some.inj hr
     have hi0 := decide_eq_true hi
     clear hr
     gi_wp2_with (gi_at_call 41; refine (C1 _ (Below.refl _ _)).mono ?_; rintro e w2 ⟨rfl, hb2⟩; have hM2 := HM.out.below hb2; have f12 := blk_frozen hM2.2.1 0; have c12 := (blk_cell hM2.2.1 0).trans rfl; have hK_ := blk_below hK hb2)
     have hE := (hM2.setE 3).ends ((Below.heap_setCell w2 ⟨w.heap.size + 1, 0, none⟩ (.int .i64 3) D (by simp; omega)).trans hK_) (by omega)
     have hc5 := (blk_cell hE.2.1 0).trans rfl
     refine ⟨by simp, .inl ⟨_, _, rfl, run_takeDeferred ((Below.heap_setCell w2 ⟨w.heap.size + 1, 0, none⟩ (.int .i64 3) D (by simp; omega)).trans hK_), ?_⟩⟩
     refine ⟨.int .i64 3, ?_, rfl, hE.2.2.2⟩
     simp [results, Try.f16, go_sem, hc5]
    ·
     rw [if_neg hi] at hr
     have hi0 := decide_eq_false hi
     gi_wp2_with (gi_at_call 41; refine (C1 _ (Below.refl _ _)).mono ?_; rintro e w2 ⟨rfl, hb2⟩; have hM2 := HM.out.below hb2; have f12 := blk_frozen hM2.2.1 0; have c12 := (blk_cell hM2.2.1 0).trans rfl; have hK_ := blk_below hK hb2; have s3 : w2.cell? ⟨w.heap.size, 3, none⟩ = some (.slice Ah hd.length ch) := (blk_cell hM2.1 3).trans rfl)
     have HM2 := Aside0.mk hM2
     have HK2 := Aside0.mk hK_
     have HR := Aside0.mk hr
     have HLM := Aside0.mk (show (hd.length : Int) ≤ 9223372036854775807 by have := hH.2.1; omega)
     clear hM2 hK_ hr f12 c12 s3 hb2 C1 f1 c1 s1 s2 HM hK c2
     gi_loopw [47] (fun v47 wr => ∃ x : Nat, v47 = .int .i64 (x : Int) ∧ Aside0 (x ≤ hd.length) ∧ Aside0 (hdsF k (if x = 0 then none else some (rdOf ByteArray.empty hd ((x : Int) - 1))) (hd.drop x) = some r) ∧ Aside0 (M3 w #[.slice Ao ops.length co, .slice Av vals.length cv, .int .i64 st, .slice Ah hd.length ch] wr 1 0) ∧ Aside0 (wr.heap[D]? = some (.deferred (some []))))
      (fun v47 _ => hd.length - (intOf v47).toNat)
     case atStart => exact ⟨0, rfl, ⟨Nat.zero_le _⟩, HR, HM2, HK2⟩
     case round =>
      clear HM2 HK2 HR
      obtain ⟨x, rfl, HX, HF, HM2, HK2⟩ := hrel
      have f12 := blk_frozen HM2.out.2.1 0
      have c12 := (blk_cell HM2.out.2.1 0).trans rfl
      by_cases hx : x < hd.length
      case neg =>
       have hx0 : decide ((x : Int) < (hd.length : Int)) = false := decide_eq_false (by omega)
       have hf := HF.out
       rw [List.drop_eq_nil_of_le (by omega), hdsF] at hf
       obtain rfl := Option.some.inj hf
       have hK_ := HK2.out
       clear hf HF
       gi_wp2
       have hE := (HM2.out.setE 0).ends ((Below.heap_setCell wr ⟨w.heap.size + 1, 0, none⟩ (.int .i64 0) D (by simp; omega)).trans hK_) (by omega)
       have hc5 := (blk_cell hE.2.1 0).trans rfl
       refine ⟨by simp, .inl ⟨_, _, rfl, run_takeDeferred ((Below.heap_setCell wr ⟨w.heap.size + 1, 0, none⟩ (.int .i64 0) D (by simp; omega)).trans hK_), ?_⟩⟩
       refine ⟨.int .i64 0, ?_, rfl, hE.2.2.2⟩
       simp [results, Try.f16, go_sem, hc5]
      have hb0 : decide ((x : Int) < (hd.length : Int)) = true := decide_eq_true (by omega)
      have hpp : ((0 : Int) ≤ (x : Int)) = True := eq_true (by omega)
      have hqq : ((x : Int) < (hd.length : Int)) = True := eq_true (by omega)
      have hC := Kd.C_below hH HM2.out.2.2.2
      obtain ⟨ad, rfl, hx0⟩ := Kd.at_string hC (x : Int) (by omega) (by omega)
      rw [show ((x : Int)).toNat = x from rfl] at hx0
      have hdr : hd.drop x = rdOf ByteArray.empty hd (x : Int) :: hd.drop (x + 1) := by
       rw [List.drop_eq_getElem_cons hx]
       congr 1
       simp [rdOf, List.getD_eq_getElem?_getD, hx]
      have hf := HF.out
      rw [hdr, hdsF] at hf
      obtain ⟨c, hc, hf⟩ := Option.bind_eq_some_iff.mp hf
      have K1 := fun (W' : World) => callsIn_wide (n := 6 - 1).2 (name_Kind.calls k (rdOf ByteArray.empty hd (x : Int)) c W' hc)
      have HXX := Aside0.mk hx
      have s3 : wr.cell? ⟨w.heap.size, 3, none⟩ = some (.slice (some ad) hd.length ch) := (blk_cell HM2.out.1 3).trans rfl
      by_cases hc1 : c = 1
      case neg =>
       rw [if_neg hc1] at hf
       obtain rfl := Option.some.inj hf
       have hcb : (c != 1) = true := bne_iff_ne.mpr hc1
       have hK_ := HK2.out
       clear hf HF hc hdr hx hC
       gi_wp2_with (gi_at_call 43; refine (K1 _).mono ?_; rintro e w3 ⟨rfl, ⟨nd, rfl⟩⟩)
       have hE := ((HM2.out.drewN nd).setE 3).ends ((Below.heap_setCell (wr.drewN nd) ⟨w.heap.size + 1, 0, none⟩ (.int .i64 3) D (by simp; omega)).trans hK_) (by omega)
       have hc5 := (blk_cell hE.2.1 0).trans rfl
       refine ⟨by simp, .inl ⟨_, _, rfl, run_takeDeferred ((Below.heap_setCell (wr.drewN nd) ⟨w.heap.size + 1, 0, none⟩ (.int .i64 3) D (by simp; omega)).trans hK_), ?_⟩⟩
       refine ⟨.int .i64 3, ?_, rfl, hE.2.2.2⟩
       simp [results, Try.f16, go_sem, hc5]
      subst hc1
      rw [if_pos rfl] at hf
      have hcb : ((1 : Int) != 1) = false := rfl
      by_cases h0 : x = 0
      ·
       rw [if_pos h0] at hf
       have HF2 := Aside0.mk (show hdsF k (some (rdOf ByteArray.empty hd (x : Int))) (hd.drop (x + 1)) = some r from hf)
       have hg2 : decide ((0 : Int) < (x : Int)) = false := decide_eq_false (by omega)
       have hg3 : decide ((x : Int) > 0) = false := decide_eq_false (by omega)
       have hg4 : (0 < x) = False := eq_false (by omega)
       have hww : IntKind.i64.wrap ((x : Int) + 1) = ((x + 1 : Nat) : Int) := by rw [show ((x : Int) + 1) = ((x + 1 : Nat) : Int) by omega]; exact IntWalk.i64_in _ (by have := HLM.out; omega)
       clear hf HF hc hdr hx hC h0
       gi_wp2_with (gi_at_call 43; refine (K1 _).mono ?_; rintro e w3 ⟨rfl, ⟨nd, rfl⟩⟩)
       exact ⟨⟨x + 1, by simp, ⟨by have := HXX.out; omega⟩, ⟨by rw [if_neg (by omega), show (((x + 1 : Nat) : Int) - 1) = (x : Int) by omega]; exact HF2.out⟩, ⟨HM2.out.drewN nd⟩, ⟨HK2.out⟩⟩, by have := HXX.out; simp [intOf]; omega⟩
      ·
       rw [if_neg h0] at hf
       obtain ⟨ad', he', hx1⟩ := Kd.at_string hC ((x : Int) - 1) (by omega) (by omega)
       injection he' with he'
       subst he'
       have hw1 : IntKind.i64.wrap ((x : Int) - 1) = (x : Int) - 1 := IntWalk.i64_in _ (by have := HLM.out; omega)
       have hp2 : ((0 : Int) ≤ (x : Int) - 1) = True := eq_true (by omega)
       have hq2 : ((x : Int) - 1 < (hd.length : Int)) = True := eq_true (by omega)
       have hg2 : decide ((0 : Int) < (x : Int)) = true := decide_eq_true (by omega)
       have hg3 : decide ((x : Int) > 0) = true := decide_eq_true (by omega)
       have hg4 : (0 < x) = True := eq_true (by omega)
       have hww : IntKind.i64.wrap ((x : Int) + 1) = ((x + 1 : Nat) : Int) := by rw [show ((x : Int) + 1) = ((x + 1 : Nat) : Int) by omega]; exact IntWalk.i64_in _ (by have := HLM.out; omega)
       have hn1 : ((x : Int) - 1).toNat = x - 1 := by omega
       have hx2 := hx1
       rw [hn1] at hx2
       have hdec : okH (some (rdOf ByteArray.empty hd ((x : Int) - 1))) (rdOf ByteArray.empty hd (x : Int)) = Op.bytesLess (rdOf ByteArray.empty hd ((x : Int) - 1)).toList (rdOf ByteArray.empty hd (x : Int)).toList := rfl
       rw [hdec] at hf
       by_cases hlt : Op.bytesLess (rdOf ByteArray.empty hd ((x : Int) - 1)).toList (rdOf ByteArray.empty hd (x : Int)).toList = true
       ·
        rw [if_pos hlt] at hf
        have HF2 := Aside0.mk hf
        have hd1 : ∀ W : World, Sem.run Try.prog (binOp BinOp.geq 9 (.string (rdOf ByteArray.empty hd ((x : Int) - 1))) (.string (rdOf ByteArray.empty hd (x : Int)))) W = Result.ok (Value.bool false) W := run_geS_f hlt
        clear hlt
        clear hf HF hc hdr hx hC hdec
        gi_wp2_with (gi_at_call 43; refine (K1 _).mono ?_; rintro e w3 ⟨rfl, ⟨nd, rfl⟩⟩)
        exact ⟨⟨x + 1, by simp, ⟨by have := HXX.out; omega⟩, ⟨by rw [if_neg (by omega), show (((x + 1 : Nat) : Int) - 1) = (x : Int) by omega]; exact HF2.out⟩, ⟨HM2.out.drewN nd⟩, ⟨HK2.out⟩⟩, by have := HXX.out; simp [intOf]; omega⟩
       ·
        rw [if_neg hlt] at hf
        obtain rfl := Option.some.inj hf
        have hd1 : ∀ W : World, Sem.run Try.prog (binOp BinOp.geq 9 (.string (rdOf ByteArray.empty hd ((x : Int) - 1))) (.string (rdOf ByteArray.empty hd (x : Int)))) W = Result.ok (Value.bool true) W := run_geS_t (Bool.eq_false_iff.mpr hlt)
        clear hlt
        have hK_ := HK2.out
        clear hf HF hc hdr hx hC hdec
        gi_wp2_with (gi_at_call 43; refine (K1 _).mono ?_; rintro e w3 ⟨rfl, ⟨nd, rfl⟩⟩)
        have hE := ((HM2.out.drewN nd).setE 3).ends ((Below.heap_setCell (wr.drewN nd) ⟨w.heap.size + 1, 0, none⟩ (.int .i64 3) D (by simp; omega)).trans hK_) (by omega)
        have hc5 := (blk_cell hE.2.1 0).trans rfl
        refine ⟨by simp, .inl ⟨_, _, rfl, run_takeDeferred ((Below.heap_setCell (wr.drewN nd) ⟨w.heap.size + 1, 0, none⟩ (.int .i64 3) D (by simp; omega)).trans hK_), ?_⟩⟩
        refine ⟨.int .i64 3, ?_, rfl, hE.2.2.2⟩
        simp [results, Try.f16, go_sem, hc5]
  ·
   have hb : (nv != 1) = true := bne_iff_ne.mpr hnv
   rw [show postF k vals st hd (some nv) = some 3 from if_neg hnv] at hr
   obtain rfl := Option.some.inj hr
   have f1 := blk_frozen HM.out.2.1 0
   have c1 := (blk_cell HM.out.2.1 0).trans rfl
   clear hr
   gi_wp2
   have hE := (HM.out.setE 3).ends ((Below.heap_setCell W ⟨w.heap.size + 1, 0, none⟩ (.int .i64 3) D (by simp; omega)).trans hK) (by omega)
   have hc5 := (blk_cell hE.2.1 0).trans rfl
   refine ⟨by simp, .inl ⟨_, _, rfl, run_takeDeferred ((Below.heap_setCell W ⟨w.heap.size + 1, 0, none⟩ (.int .i64 3) D (by simp; omega)).trans hK), ?_⟩⟩
   refine ⟨.int .i64 3, ?_, rfl, hE.2.2.2⟩
   simp [results, Try.f16, go_sem, hc5]
 case stop =>
  rintro D c pre W hD ⟨q, hq⟩ ⟨rfl, hn, nv, hM⟩ hK
  rw [← hq, chkB_append, hn] at hr
  obtain rfl := Option.some.inj hr
  have HM := Aside0.mk hM
  clear hn hM hm hOC hO hH hOA hOA0 hM0 hbs B1 hq hr
  gi_wp2
  have hE := HM.out.ends hK (by omega)
  have hc5 := (blk_cell hE.2.1 0).trans rfl
  refine ⟨by simp, .inl ⟨_, _, rfl, run_takeDeferred hK, ?_⟩⟩
  refine ⟨.int .i64 3, ?_, rfl, hE.2.2.2⟩
  simp [results, Try.f16, go_sem, hc5]
end Go.Proofs.Ytdlkhpfgkghhmaa.P

-- ==== PF69
namespace Go.Proofs.Ytdlkhpfgkghhmaa.P
open Go.RowKit Go.Proofs.YtdlkhpfgkghhmaaW.PrintWords Go.Proofs.YtdlkhpfgkghhmaaW.PrintLast Go.Proofs.YtdlkhpfgkghhmaaW.PrintMore
attribute [local go_sem] max2_int min2_int max_two min_two max_three min_three max_four min_four

/-! ### rule_Check: function 69 -/
abbrev CkC := S54
structure IsRu (W : World) (g : Nat) (id : Int) (A1 : Option Addr) (c1 : Nat) (l : List CkC) (A2 : Option Addr) (c2 : Nat) (r : List CkC) : Prop where
 blk : W.heap[g]? = some (.cells #[.int .i64 id, .slice A1 l.length c1, .slice A2 r.length c2] 73 (0, 0))
 hl : Kd.C k54 W A1 l.length l
 hl' : l.length ≤ c1
 hr : Kd.C k54 W A2 r.length r
 hr' : r.length ≤ c2
theorem IsRu.below {W W' : World} {g c1 c2 : Nat} {id : Int} {A1 A2 : Option Addr} {l r : List CkC} (h : IsRu W g id A1 c1 l A2 c2 r) (hb : Below W.heap.size W W') : IsRu W' g id A1 c1 l A2 c2 r :=
 ⟨(hb.block g (blk_lt h.blk)).trans h.blk, Kd.C_below h.hl hb, h.hl', Kd.C_below h.hr hb, h.hr'⟩
theorem when_calls (b : Bool) (e : Int) (w : World) : Calls Try.prog 83 #[.bool b, .int .i64 e] w fun x w' => x = .returned (.int .i64 (if b = true then e else 0)) ∧ w' = w := by
 cases b
 ·
  go_enter Try.func83, Try.ntmps83
  go_wp2
  go_ret
  exact ⟨rfl, rfl⟩
 ·
  go_enter Try.func83, Try.ntmps83
  go_wp2
  go_ret
  exact ⟨rfl, rfl⟩
theorem ck1_calls {W : World} {g c1 c2 : Nat} {id : Int} {A1 A2 : Option Addr} {l r : List CkC} (h : IsRu W g id A1 c1 l A2 c2 r) :
 Calls Try.prog 82 #[.pointer (some ⟨g, 0, none⟩)] W fun x w' => x = .returned (.int .i64 (if id < 0 then 1 else if id > 65535 then 1 else 0)) ∧ Below W.heap.size W w' := by
 have hc0 : W.cell? ⟨g, 0, none⟩ = some (.int .i64 id) := (zX h.blk 0).trans rfl
 clear h
 by_cases h1 : id < 0
 ·
  have d1 : decide (id < 0) = true := zQ h1
  rw [if_pos h1]
  clear h1
  go_enter Try.func82, Try.ntmps82
  go_wp2_with (first | (go_at_call 83; (with_reducible refine (when_calls _ _ _).mono ?_); rintro e w1 ⟨rfl, rfl⟩))
  repeat (go_quiet (first | (go_at_call 83; (with_reducible refine (when_calls _ _ _).mono ?_); rintro e w1 ⟨rfl, rfl⟩)); try go_wp2_with (first | (go_at_call 83; (with_reducible refine (when_calls _ _ _).mono ?_); rintro e w1 ⟨rfl, rfl⟩)))
  all_goals (go_ret; exact ⟨by first | rfl | (simp; done) | (simp [*]; done) | (simp [*]; omega), by repeat (first | exact Below.refl _ _ | apply zN | apply zD)⟩)
 ·
  have d1 : decide (id < 0) = false := zR h1
  rw [if_neg h1]
  by_cases h2 : id > 65535
  ·
   have d2 : decide (65535 < id) = true := zQ h2
   rw [if_pos h2]
   clear h1 h2
   go_enter Try.func82, Try.ntmps82
   go_wp2_with (first | (go_at_call 83; (with_reducible refine (when_calls _ _ _).mono ?_); rintro e w1 ⟨rfl, rfl⟩))
   repeat (go_quiet (first | (go_at_call 83; (with_reducible refine (when_calls _ _ _).mono ?_); rintro e w1 ⟨rfl, rfl⟩)); try go_wp2_with (first | (go_at_call 83; (with_reducible refine (when_calls _ _ _).mono ?_); rintro e w1 ⟨rfl, rfl⟩)))
   all_goals (go_ret; exact ⟨by first | rfl | (simp; done) | (simp [*]; done) | (simp [*]; omega), by repeat (first | exact Below.refl _ _ | apply zN | apply zD)⟩)
  ·
   have d2 : decide (65535 < id) = false := zR h2
   rw [if_neg h2]
   clear h1 h2
   go_enter Try.func82, Try.ntmps82
   go_wp2_with (first | (go_at_call 83; (with_reducible refine (when_calls _ _ _).mono ?_); rintro e w1 ⟨rfl, rfl⟩))
   repeat (go_quiet (first | (go_at_call 83; (with_reducible refine (when_calls _ _ _).mono ?_); rintro e w1 ⟨rfl, rfl⟩)); try go_wp2_with (first | (go_at_call 83; (with_reducible refine (when_calls _ _ _).mono ?_); rintro e w1 ⟨rfl, rfl⟩)))
   all_goals (go_ret; exact ⟨by first | rfl | (simp; done) | (simp [*]; done) | (simp [*]; omega), by repeat (first | exact Below.refl _ _ | apply zN | apply zD)⟩)
theorem ck2_calls {W : World} {g c1 c2 k : Nat} {id e : Int} {A1 A2 : Option Addr} {l r : List CkC} (h : IsRu W g id A1 c1 l A2 c2 r) (he : term_Check.f k l = some e) :
 Calls Try.prog 84 #[.pointer (some ⟨g, 0, none⟩)] W fun x w' => x = .returned (.int .i64 e) ∧ Below W.heap.size W w' := by
 have hc0 : W.cell? ⟨g, 1, none⟩ = some (.slice A1 l.length c1) := (zX h.blk 1).trans rfl
 have C1 := term_Check.calls k A1 c1 l e W h.hl h.hl' he
 clear h he
 go_enter Try.func84, Try.ntmps84
 go_wp2_with (go_at_call 30; (with_reducible refine C1.mono ?_); rintro e w1 ⟨rfl, hb⟩; have HB := zM hb; clear hb)
 go_ret
 exact ⟨rfl, HB.out⟩
theorem ck3_calls {W : World} {g c1 c2 k : Nat} {id e : Int} {A1 A2 : Option Addr} {l r : List CkC} (h : IsRu W g id A1 c1 l A2 c2 r) (he : term_Check.f k r = some e) :
 Calls Try.prog 85 #[.pointer (some ⟨g, 0, none⟩)] W fun x w' => x = .returned (.int .i64 e) ∧ Below W.heap.size W w' := by
 have hc0 : W.cell? ⟨g, 2, none⟩ = some (.slice A2 r.length c2) := (zX h.blk 2).trans rfl
 have C1 := term_Check.calls k A2 c2 r e W h.hr h.hr' he
 clear h he
 go_enter Try.func85, Try.ntmps85
 go_wp2_with (go_at_call 30; (with_reducible refine C1.mono ?_); rintro e w1 ⟨rfl, hb⟩; have HB := zM hb; clear hb)
 go_ret
 exact ⟨rfl, HB.out⟩
theorem ck4_calls {W : World} {g c1 c2 : Nat} {id : Int} {A1 A2 : Option Addr} {l r : List CkC} (h : IsRu W g id A1 c1 l A2 c2 r) :
 Calls Try.prog 86 #[.pointer (some ⟨g, 0, none⟩)] W fun x w' => x = .returned (.int .i64 (if l.length > 8 then 6 else if r.length > 8 then 6 else 0)) ∧ Below W.heap.size W w' := by
 have hc1 : W.cell? ⟨g, 1, none⟩ = some (.slice A1 l.length c1) := (zX h.blk 1).trans rfl
 have hc2 : W.cell? ⟨g, 2, none⟩ = some (.slice A2 r.length c2) := (zX h.blk 2).trans rfl
 clear h
 by_cases hq : 8 < l.length ∨ 8 < r.length
 ·
  have HQ := zM hq
  have he : (if l.length > 8 then (6 : Int) else if r.length > 8 then 6 else 0) = 6 := by
   by_cases h1 : l.length > 8
   ·
    rw [if_pos h1]
   ·
    rw [if_neg h1, if_pos (by omega)]
  rw [he]
  clear he hq
  go_enter Try.func86, Try.ntmps86
  go_wp2_with (first | (go_at_call 83; (with_reducible refine (when_calls _ _ _).mono ?_); rintro e w1 ⟨rfl, rfl⟩))
  repeat (go_quiet (first | (go_at_call 83; (with_reducible refine (when_calls _ _ _).mono ?_); rintro e w1 ⟨rfl, rfl⟩)); try go_wp2_with (first | (go_at_call 83; (with_reducible refine (when_calls _ _ _).mono ?_); rintro e w1 ⟨rfl, rfl⟩)))
  all_goals (go_ret; exact ⟨by first | rfl | (simp; done) | (simp [*]; done) | (exfalso; have := HQ.out; omega), by repeat (first | exact Below.refl _ _ | apply zN | apply zD)⟩)
 ·
  have HQ := zM hq
  have he : (if l.length > 8 then (6 : Int) else if r.length > 8 then 6 else 0) = 0 := by
   rw [if_neg (by omega), if_neg (by omega)]
  rw [he]
  clear he hq
  go_enter Try.func86, Try.ntmps86
  go_wp2_with (first | (go_at_call 83; (with_reducible refine (when_calls _ _ _).mono ?_); rintro e w1 ⟨rfl, rfl⟩))
  repeat (go_quiet (first | (go_at_call 83; (with_reducible refine (when_calls _ _ _).mono ?_); rintro e w1 ⟨rfl, rfl⟩)); try go_wp2_with (first | (go_at_call 83; (with_reducible refine (when_calls _ _ _).mono ?_); rintro e w1 ⟨rfl, rfl⟩)))
  all_goals (go_ret; exact ⟨by first | rfl | (simp; done) | (simp [*]; done) | (exfalso; have := HQ.out; omega), by repeat (first | exact Below.refl _ _ | apply zN | apply zD)⟩)
theorem ck5_calls {W : World} {g c1 c2 k : Nat} {id e : Int} {A1 A2 : Option Addr} {l r : List CkC} (h : IsRu W g id A1 c1 l A2 c2 r) (hp : 0 < l.length) (he : name_Kind.f k (rd_T54 l 0).f0 = some e) :
 Calls Try.prog 87 #[.pointer (some ⟨g, 0, none⟩)] W fun x w' => x = .returned (.int .i64 (if e = 2 then 20 else 0)) ∧ Below W.heap.size W w' := by
 have hc1 : W.cell? ⟨g, 1, none⟩ = some (.slice A1 l.length c1) := (zX h.blk 1).trans rfl
 obtain ⟨ad101, e101, hx101_0, hx101_1⟩ := at_T54 h.hl 0 (by omega) (by omega)
 cases e101
 have C1 := fun W => name_Kind.calls k _ e W he
 clear h he
 have qi101 : (0 < l.length) = True := eq_true hp
 have c3b1 : decide (0 < l.length) = true := zQ hp
 clear hp
 (try rw [show ((0 : Int)).toNat = 0 from rfl] at hx101_0)
 (try rw [show 0 * 2 = 0 from rfl] at hx101_0)
 (try rw [Addr.add_zero'] at hx101_0)
 clear hx101_1
 by_cases h2 : e = 2
 ·
  have d2 : (e == 2) = true := zG h2
  rw [if_pos h2]
  clear h2
  go_enter Try.func87, Try.ntmps87
  go_wp2_with (first | (go_at_call 43; (with_reducible refine (C1 _).mono ?_); rintro e w1 ⟨rfl, ⟨nd, rfl⟩⟩) | (go_at_call 83; (with_reducible refine (when_calls _ _ _).mono ?_); rintro e w1 ⟨rfl, rfl⟩))
  repeat (go_quiet (first | (go_at_call 43; (with_reducible refine (C1 _).mono ?_); rintro e w1 ⟨rfl, ⟨nd, rfl⟩⟩) | (go_at_call 83; (with_reducible refine (when_calls _ _ _).mono ?_); rintro e w1 ⟨rfl, rfl⟩)); try go_wp2_with (first | (go_at_call 43; (with_reducible refine (C1 _).mono ?_); rintro e w1 ⟨rfl, ⟨nd, rfl⟩⟩) | (go_at_call 83; (with_reducible refine (when_calls _ _ _).mono ?_); rintro e w1 ⟨rfl, rfl⟩)))
  all_goals (go_ret; exact ⟨by first | rfl | (simp; done) | (simp [*]; done) | (simp [*]; omega), by repeat (first | exact Below.refl _ _ | apply zN | apply zD)⟩)
 ·
  have d2 : (e == 2) = false := zE h2
  rw [if_neg h2]
  clear h2
  go_enter Try.func87, Try.ntmps87
  go_wp2_with (first | (go_at_call 43; (with_reducible refine (C1 _).mono ?_); rintro e w1 ⟨rfl, ⟨nd, rfl⟩⟩) | (go_at_call 83; (with_reducible refine (when_calls _ _ _).mono ?_); rintro e w1 ⟨rfl, rfl⟩))
  repeat (go_quiet (first | (go_at_call 43; (with_reducible refine (C1 _).mono ?_); rintro e w1 ⟨rfl, ⟨nd, rfl⟩⟩) | (go_at_call 83; (with_reducible refine (when_calls _ _ _).mono ?_); rintro e w1 ⟨rfl, rfl⟩)); try go_wp2_with (first | (go_at_call 43; (with_reducible refine (C1 _).mono ?_); rintro e w1 ⟨rfl, ⟨nd, rfl⟩⟩) | (go_at_call 83; (with_reducible refine (when_calls _ _ _).mono ?_); rintro e w1 ⟨rfl, rfl⟩)))
  all_goals (go_ret; exact ⟨by first | rfl | (simp; done) | (simp [*]; done) | (simp [*]; omega), by repeat (first | exact Below.refl _ _ | apply zN | apply zD)⟩)
def strF (k : Nat) (vl : List ByteArray) : List ByteArray → Option Bool
 | [] => some false
 | v :: u => (slices_Contains_string_string.f k vl v).bind fun b => if b = true then strF k vl u else some true
structure IsVl (W : World) (p : Nat) (A : Option Addr) (c : Nat) (vl : List ByteArray) : Prop where
 blk : W.heap[p]? = some (.cells #[.slice A vl.length c] 26 (0, 0))
 hl : Kd.C Kd.string W A vl.length vl
 hc : vl.length ≤ c
theorem IsVl.below {W W' : World} {p c : Nat} {A : Option Addr} {vl : List ByteArray} (h : IsVl W p A c vl) (hb : Below W.heap.size W W') : IsVl W' p A c vl :=
 ⟨(hb.block p (blk_lt h.blk)).trans h.blk, Kd.C_below h.hl hb, h.hc⟩
theorem st1_calls {W : World} {p c k : Nat} {A : Option Addr} {vl : List ByteArray} {v : ByteArray} {b : Bool} (h : IsVl W p A c vl) (hf : slices_Contains_string_string.f k vl v = some b) :
 Calls Try.prog 97 #[.string v, .pointer (some ⟨p, 0, none⟩)] W fun x w' => x = .returned (.bool (!b)) ∧ Below W.heap.size W w' := by
 have hc0 : W.cell? ⟨p, 0, none⟩ = some (.slice A vl.length c) := (zX h.blk 0).trans rfl
 have C1 := slices_Contains_string_string.calls k A c vl v b W h.hl h.hc hf
 clear h hf
 go_enter Try.func97, Try.ntmps97
 go_wp2_with (first | (go_at_call 80; (with_reducible refine C1.mono ?_); rintro e w1 ⟨rfl, hb⟩; have HB := zM hb.below; clear hb))
 go_ret
 exact ⟨rfl, HB.out⟩
theorem ifn_calls {w : World} {p c k cr : Nat} {A Ar : Option Addr} {vl vr : List ByteArray} {b : Bool} (h : IsVl w p A c vl) (hr : Kd.C Kd.string w Ar vr.length vr) (hf : strF k vl vr = some b) :
 Calls Try.prog 105 #[.slice Ar vr.length cr, .func (.func 97) #[] #[.pointer (some ⟨p, 0, none⟩)]] w fun x w' => (∃ j : Int, x = .returned (.int .i64 j) ∧ decide (0 ≤ j) = b) ∧ Below w.heap.size w w' := by
 have HV := zM h
 have HR := zM hr
 have HF := zM hf
 have HM := zM (show (vr.length : Int) ≤ 9223372036854775807 by have := hr.2.1; omega)
 clear h hr hf
 have HB := zM (Below.refl w.heap.size w)
 go_enter Try.func105, Try.ntmps105
 go_wp2
 go_loopg [8] vr.length (fun kq v8 w' => ∃ x : Int, v8 = .int .i64 x ∧ Aside0 (0 ≤ x ∧ x + kq = (vr.length : Int)) ∧ Aside0 (strF k vl (vr.drop x.toNat) = some b) ∧ Aside0 (Below w.heap.size w w'))
 case atStart => exact ⟨0, rfl, ⟨by omega⟩, HF, HB⟩
 case round =>
  clear HF HB
  obtain ⟨x, rfl, HI, HF, HB⟩ := hrel
  cases gk with
  | succ k1 =>
   have hi : 0 ≤ x ∧ x < (vr.length : Int) := by have := HI.out; omega
   have hb0 : decide (x < (vr.length : Int)) = true := zQ hi.2
   have hb2 : decide (0 ≤ x) = true := zQ hi.1
   have hd : vr.drop x.toNat = rdOf ByteArray.empty vr x :: vr.drop (x.toNat + 1) := by
    rw [List.drop_eq_getElem_cons (by omega)]
    congr 1
    unfold rdOf
    rw [List.getD_eq_getElem?_getD, List.getElem?_eq_getElem (by omega)]
    rfl
   obtain ⟨ad, rfl, hx⟩ := Kd.at_string HR.out x hi.1 hi.2
   replace hx := (HB.out.cell (World.block_lt_of_cell? w _ hx)).trans hx
   have hf := HF.out
   rw [hd] at hf
   unfold strF at hf
   obtain ⟨b1, hb1, hf⟩ := zB hf
   have HX := zM hi
   have S1 := fun (W : World) (hW : Below w.heap.size w W) => st1_calls (HV.out.below hW) hb1
   have hp := eq_true hi.1
   have hq := eq_true hi.2
   cases b1 with
   | true =>
    rw [if_pos rfl] at hf
    have HF2 := zM hf
    clear hf hd hi hb1
    go_wp2_with (first | (go_at_call 97; (with_reducible refine (S1 _ ?side1).mono ?_); (case side1 => exact zb); rintro e w1 ⟨rfl, hb⟩; replace HB := zM (below_step zb hb); clear hb))
    go_roundg k1
    case measure => have := HI.out; omega
    case rel => exact ⟨x + 1, by have e_ : wrap64 (x + 1) = x + 1 := (by have := HX.out; have := HM.out; unfold wrap64; omega); first | rfl | rw [e_] | (simp [e_]; done), ⟨by have := HI.out; omega⟩, ⟨by rw [show (x + 1).toNat = x.toNat + 1 by have := HX.out; omega]; exact HF2.out⟩, ⟨by repeat (first | exact HB.out | apply zA | apply zN | apply zD)⟩⟩
   | false =>
    rw [if_neg (by simp)] at hf
    obtain rfl := zS hf
    clear hf hd hi hb1
    go_wp2_with (first | (go_at_call 97; (with_reducible refine (S1 _ ?side1).mono ?_); (case side1 => exact zb); rintro e w1 ⟨rfl, hb⟩; replace HB := zM (below_step zb hb); clear hb))
    go_ret
    exact ⟨⟨x, rfl, zQ HX.out.1⟩, by repeat (first | exact HB.out | apply zA | apply zN | apply zD)⟩
  | zero =>
   have hb0 : decide (x < (vr.length : Int)) = false := zR (by have := HI.out; omega)
   have hf := HF.out
   rw [List.drop_eq_nil_of_le (by have := HI.out; omega)] at hf
   obtain rfl := zS hf
   clear hf
   go_wp2
   go_ret
   exact ⟨⟨-1, rfl, rfl⟩, HB.out⟩
theorem cfn_calls {w : World} {p c k cr : Nat} {A Ar : Option Addr} {vl vr : List ByteArray} {b : Bool} (h : IsVl w p A c vl) (hr : Kd.C Kd.string w Ar vr.length vr) (hf : strF k vl vr = some b) :
 Calls Try.prog 96 #[.slice Ar vr.length cr, .func (.func 97) #[] #[.pointer (some ⟨p, 0, none⟩)]] w fun x w' => x = .returned (.bool b) ∧ Below w.heap.size w w' := by
 have C1 := ifn_calls (cr := cr) h hr hf
 clear h hr hf
 go_enter Try.func96, Try.ntmps96
 go_wp2_with (first | (go_at_call 105; (with_reducible refine C1.mono ?_); rintro e w1 ⟨⟨j, rfl, hj⟩, hb⟩; have HB := zM hb; clear hb))
 go_ret
 exact ⟨zy, HB.out⟩
theorem str_calls {w : World} {c1 c2 k : Nat} {id q1 q2 : Int} {A1 A2 : Option Addr} {l r : List CkC} {vl vr : List ByteArray} {b : Bool} (hl : Kd.C k54 w A1 l.length l) (hl' : l.length ≤ c1) (hr : Kd.C k54 w A2 r.length r) (hr' : r.length ≤ c2)
 (h1 : term_Vars.f k l = some (vl, q1)) (h2 : term_Vars.f k r = some (vr, q2)) (hf : strF k vl vr = some b) :
 Calls Try.prog 89 #[.agg #[.int .i64 id, .slice A1 l.length c1, .slice A2 r.length c2]] w fun x w' => x = .returned (.bool b) ∧ Below w.heap.size w w' := by
 have HL := zM hl
 have HR := zM hr
 have V1 := fun (W : World) (hW : Below w.heap.size w W) => term_Vars.calls k A1 c1 l vl q1 W (Kd.C_below hl hW) hl' h1
 have V2 := fun (W : World) (hW : Below w.heap.size w W) => term_Vars.calls k A2 c2 r vr q2 W (Kd.C_below hr hW) hr' h2
 clear hl hr h1 h2
 have HF := zM hf
 clear hf
 have hmf : ∀ (fn : Fn) (first cap : Array Value) (w : World), (Instr.makeFunc fn first cap).run Try.prog w = .ok (.func fn first cap) w := fun _ _ _ _ => rfl
 have HB := zM (Below.refl w.heap.size w)
 go_enter Try.func89, Try.ntmps89
 go_wp2_with (first | (go_at_call 62; (with_reducible refine (V1 _ ?side1).mono ?_); (case side1 => exact zb); rintro e w1 ⟨v1, rfl, hR, hb⟩; obtain ⟨Av, cv, rfl⟩ := Kd.R_slice hR; have HRV := zM (Kd.R_reads' hR).2; have hz : w.heap.size + 1 ≤ w1.heap.size := (by have h_ := hb.size; simp at h_; omega); have hzc : w1.cell? ⟨w.heap.size, 2, none⟩ = some (.slice A2 r.length c2) := (hb.cell (p := ⟨w.heap.size, 2, none⟩) (by simp)).trans ((cell_of_row _ _ 2 _ _ (0, 0) (heap_alloc_new w _)).trans rfl); replace HB := zM (below_step zb hb); clear hR hb; have HZ := zM hz; have hlt : w.heap.size < w1.heap.size := hz; clear hz) | (go_at_call 62; (with_reducible refine (V2 _ ?side2).mono ?_); (case side2 => exact (by repeat (first | exact HB.out | apply zA | apply zN | apply zD | (refine below_set ?_ (by have := HZ.out; omega))))); rintro e w2 ⟨v2, rfl, hR, hb⟩; obtain ⟨Ar, cr, rfl⟩ := Kd.R_slice hR; have hbx := heap_alloc_new w1 (.cells #[.slice Av vl.length cv] 26); have HIV := zM (IsVl.below (vl := vl) (c := cv) (A := Av) ⟨hbx, Kd.C_below HRV.out.2 (zA (Below.refl _ _) _), HRV.out.1⟩ hb); have HCR := zM (Kd.R_reads' hR).2.2; replace HB := zM (below_step (by repeat (first | exact HB.out | apply zA | apply zN | apply zD | (refine below_set ?_ (by have := HZ.out; omega)))) hb); clear hR hb hbx) | (go_at_call 96; (with_reducible refine (cfn_calls HIV.out HCR.out HF.out).mono ?_); rintro e w3 ⟨rfl, hb⟩; replace HB := zM (below_step HB.out hb); clear hb))
 go_ret
 exact ⟨rfl, HB.out⟩
def fst6 (e1 e2 e3 e4 e5 e6 : Int) : Int := if e1 ≠ 0 then e1 else if e2 ≠ 0 then e2 else if e3 ≠ 0 then e3 else if e4 ≠ 0 then e4 else if e5 ≠ 0 then e5 else e6
abbrev Asks (w : World) (f : Nat) (p : Value) (e : Int) : Prop := ∀ W, Below w.heap.size w W → Calls Try.prog f #[p] W fun x w' => x = .returned (.int .i64 e) ∧ Below W.heap.size W w'
def fnV (f : Nat) (p : Value) : Value := .func (.func f) #[] #[p]
theorem first_calls {w : World} {s : Nat} {p : Value} {e1 e2 e3 e4 e5 e6 : Int}
 (hs : w.heap[s]? = some (.cells #[fnV 82 p, fnV 84 p, fnV 85 p, fnV 86 p, fnV 87 p, fnV 88 p] 134 (0, 0)))
 (h1 : Asks w 82 p e1) (h2 : e1 = 0 → Asks w 84 p e2) (h3 : e1 = 0 → e2 = 0 → Asks w 85 p e3)
 (h4 : e1 = 0 → e2 = 0 → e3 = 0 → Asks w 86 p e4) (h5 : e1 = 0 → e2 = 0 → e3 = 0 → e4 = 0 → Asks w 87 p e5) (h6 : e1 = 0 → e2 = 0 → e3 = 0 → e4 = 0 → e5 = 0 → Asks w 88 p e6) :
 Calls Try.prog 81 #[.slice (some ⟨s, 0, none⟩) 6 6] w fun x w' => x = .returned (.int .i64 (fst6 e1 e2 e3 e4 e5 e6)) ∧ Below w.heap.size w w' := by
 have hc0_0 : w.cell? ⟨s, 0, none⟩ = some (.func (.func 82) #[] #[p]) := (zX hs 0).trans rfl
 have hc0_1 : w.cell? ⟨s, 1, none⟩ = some (.func (.func 84) #[] #[p]) := (zX hs 1).trans rfl
 have hc0_2 : w.cell? ⟨s, 2, none⟩ = some (.func (.func 85) #[] #[p]) := (zX hs 2).trans rfl
 have hc0_3 : w.cell? ⟨s, 3, none⟩ = some (.func (.func 86) #[] #[p]) := (zX hs 3).trans rfl
 have hc0_4 : w.cell? ⟨s, 4, none⟩ = some (.func (.func 87) #[] #[p]) := (zX hs 4).trans rfl
 have hc0_5 : w.cell? ⟨s, 5, none⟩ = some (.func (.func 88) #[] #[p]) := (zX hs 5).trans rfl
 have HB := zM (Below.refl w.heap.size w)
 clear hs
 have HC0 := zM hc0_0
 have HC1 := zM hc0_1
 have HC2 := zM hc0_2
 have HC3 := zM hc0_3
 have HC4 := zM hc0_4
 have HC5 := zM hc0_5
 clear hc0_0 hc0_1 hc0_2 hc0_3 hc0_4 hc0_5
 have a1 := h1
 by_cases c1 : e1 = 0
 case neg =>
  have d1 : (e1 != 0) = true := zF c1
  have hf : fst6 e1 e2 e3 e4 e5 e6 = e1 := by
   unfold fst6
   simp [c1]
  rw [hf]
  clear hf c1 h1 h2 h3 h4 h5 h6
  have hc_0 := HC0.out
  go_enter Try.func81, Try.ntmps81
  go_wp2
  refine wp_loop_rounds 1 ?_
  rw [rounds_succ]
  go_wp2_with (first | (go_at_call 82; (with_reducible refine (a1 _ ?side1).mono ?_); (case side1 => exact zb); rintro e w1 ⟨rfl, hb⟩; replace HB := zM (below_step zb hb); clear hb; have hc_1 := pw_cell_below HB.out HC1.out))
  go_ret
  exact ⟨zy, HB.out⟩
 case pos =>
 subst c1
 have a2 := h2 rfl
 by_cases c2 : e2 = 0
 case neg =>
  have d2 : (e2 != 0) = true := zF c2
  have hf : fst6 0 e2 e3 e4 e5 e6 = e2 := by
   unfold fst6
   simp [c2]
  rw [hf]
  clear hf c2 h1 h2 h3 h4 h5 h6
  have hc_0 := HC0.out
  go_enter Try.func81, Try.ntmps81
  go_wp2
  refine wp_loop_rounds 2 ?_
  rw [rounds_succ]
  go_wp2_with (first | (go_at_call 82; (with_reducible refine (a1 _ ?side1).mono ?_); (case side1 => exact zb); rintro e w1 ⟨rfl, hb⟩; replace HB := zM (below_step zb hb); clear hb; have hc_1 := pw_cell_below HB.out HC1.out))
  rw [rounds_succ]
  go_wp2_with (first | (go_at_call 84; (with_reducible refine (a2 _ ?side2).mono ?_); (case side2 => exact zb); rintro e w2 ⟨rfl, hb⟩; replace HB := zM (below_step zb hb); clear hb; have hc_2 := pw_cell_below HB.out HC2.out))
  go_ret
  exact ⟨zy, HB.out⟩
 case pos =>
 subst c2
 have a3 := h3 rfl rfl
 by_cases c3 : e3 = 0
 case neg =>
  have d3 : (e3 != 0) = true := zF c3
  have hf : fst6 0 0 e3 e4 e5 e6 = e3 := by
   unfold fst6
   simp [c3]
  rw [hf]
  clear hf c3 h1 h2 h3 h4 h5 h6
  have hc_0 := HC0.out
  go_enter Try.func81, Try.ntmps81
  go_wp2
  refine wp_loop_rounds 3 ?_
  rw [rounds_succ]
  go_wp2_with (first | (go_at_call 82; (with_reducible refine (a1 _ ?side1).mono ?_); (case side1 => exact zb); rintro e w1 ⟨rfl, hb⟩; replace HB := zM (below_step zb hb); clear hb; have hc_1 := pw_cell_below HB.out HC1.out))
  rw [rounds_succ]
  go_wp2_with (first | (go_at_call 84; (with_reducible refine (a2 _ ?side2).mono ?_); (case side2 => exact zb); rintro e w2 ⟨rfl, hb⟩; replace HB := zM (below_step zb hb); clear hb; have hc_2 := pw_cell_below HB.out HC2.out))
  rw [rounds_succ]
  go_wp2_with (first | (go_at_call 85; (with_reducible refine (a3 _ ?side3).mono ?_); (case side3 => exact zb); rintro e w3 ⟨rfl, hb⟩; replace HB := zM (below_step zb hb); clear hb; have hc_3 := pw_cell_below HB.out HC3.out))
  go_ret
  exact ⟨zy, HB.out⟩
 case pos =>
 subst c3
 have a4 := h4 rfl rfl rfl
 by_cases c4 : e4 = 0
 case neg =>
  have d4 : (e4 != 0) = true := zF c4
  have hf : fst6 0 0 0 e4 e5 e6 = e4 := by
   unfold fst6
   simp [c4]
  rw [hf]
  clear hf c4 h1 h2 h3 h4 h5 h6
  have hc_0 := HC0.out
  go_enter Try.func81, Try.ntmps81
  go_wp2
  refine wp_loop_rounds 4 ?_
  rw [rounds_succ]
  go_wp2_with (first | (go_at_call 82; (with_reducible refine (a1 _ ?side1).mono ?_); (case side1 => exact zb); rintro e w1 ⟨rfl, hb⟩; replace HB := zM (below_step zb hb); clear hb; have hc_1 := pw_cell_below HB.out HC1.out))
  rw [rounds_succ]
  go_wp2_with (first | (go_at_call 84; (with_reducible refine (a2 _ ?side2).mono ?_); (case side2 => exact zb); rintro e w2 ⟨rfl, hb⟩; replace HB := zM (below_step zb hb); clear hb; have hc_2 := pw_cell_below HB.out HC2.out))
  rw [rounds_succ]
  go_wp2_with (first | (go_at_call 85; (with_reducible refine (a3 _ ?side3).mono ?_); (case side3 => exact zb); rintro e w3 ⟨rfl, hb⟩; replace HB := zM (below_step zb hb); clear hb; have hc_3 := pw_cell_below HB.out HC3.out))
  rw [rounds_succ]
  go_wp2_with (first | (go_at_call 86; (with_reducible refine (a4 _ ?side4).mono ?_); (case side4 => exact zb); rintro e w4 ⟨rfl, hb⟩; replace HB := zM (below_step zb hb); clear hb; have hc_4 := pw_cell_below HB.out HC4.out))
  go_ret
  exact ⟨zy, HB.out⟩
 case pos =>
 subst c4
 have a5 := h5 rfl rfl rfl rfl
 by_cases c5 : e5 = 0
 case neg =>
  have d5 : (e5 != 0) = true := zF c5
  have hf : fst6 0 0 0 0 e5 e6 = e5 := by
   unfold fst6
   simp [c5]
  rw [hf]
  clear hf c5 h1 h2 h3 h4 h5 h6
  have hc_0 := HC0.out
  go_enter Try.func81, Try.ntmps81
  go_wp2
  refine wp_loop_rounds 5 ?_
  rw [rounds_succ]
  go_wp2_with (first | (go_at_call 82; (with_reducible refine (a1 _ ?side1).mono ?_); (case side1 => exact zb); rintro e w1 ⟨rfl, hb⟩; replace HB := zM (below_step zb hb); clear hb; have hc_1 := pw_cell_below HB.out HC1.out))
  rw [rounds_succ]
  go_wp2_with (first | (go_at_call 84; (with_reducible refine (a2 _ ?side2).mono ?_); (case side2 => exact zb); rintro e w2 ⟨rfl, hb⟩; replace HB := zM (below_step zb hb); clear hb; have hc_2 := pw_cell_below HB.out HC2.out))
  rw [rounds_succ]
  go_wp2_with (first | (go_at_call 85; (with_reducible refine (a3 _ ?side3).mono ?_); (case side3 => exact zb); rintro e w3 ⟨rfl, hb⟩; replace HB := zM (below_step zb hb); clear hb; have hc_3 := pw_cell_below HB.out HC3.out))
  rw [rounds_succ]
  go_wp2_with (first | (go_at_call 86; (with_reducible refine (a4 _ ?side4).mono ?_); (case side4 => exact zb); rintro e w4 ⟨rfl, hb⟩; replace HB := zM (below_step zb hb); clear hb; have hc_4 := pw_cell_below HB.out HC4.out))
  rw [rounds_succ]
  go_wp2_with (first | (go_at_call 87; (with_reducible refine (a5 _ ?side5).mono ?_); (case side5 => exact zb); rintro e w5 ⟨rfl, hb⟩; replace HB := zM (below_step zb hb); clear hb; have hc_5 := pw_cell_below HB.out HC5.out))
  go_ret
  exact ⟨zy, HB.out⟩
 case pos =>
 subst c5
 have a6 := h6 rfl rfl rfl rfl rfl
 by_cases c6 : e6 = 0
 case neg =>
  have d6 : (e6 != 0) = true := zF c6
  have hf : fst6 0 0 0 0 0 e6 = e6 := by
   unfold fst6
   simp [c6]
  rw [hf]
  clear hf c6 h1 h2 h3 h4 h5 h6
  have hc_0 := HC0.out
  go_enter Try.func81, Try.ntmps81
  go_wp2
  refine wp_loop_rounds 6 ?_
  rw [rounds_succ]
  go_wp2_with (first | (go_at_call 82; (with_reducible refine (a1 _ ?side1).mono ?_); (case side1 => exact zb); rintro e w1 ⟨rfl, hb⟩; replace HB := zM (below_step zb hb); clear hb; have hc_1 := pw_cell_below HB.out HC1.out))
  rw [rounds_succ]
  go_wp2_with (first | (go_at_call 84; (with_reducible refine (a2 _ ?side2).mono ?_); (case side2 => exact zb); rintro e w2 ⟨rfl, hb⟩; replace HB := zM (below_step zb hb); clear hb; have hc_2 := pw_cell_below HB.out HC2.out))
  rw [rounds_succ]
  go_wp2_with (first | (go_at_call 85; (with_reducible refine (a3 _ ?side3).mono ?_); (case side3 => exact zb); rintro e w3 ⟨rfl, hb⟩; replace HB := zM (below_step zb hb); clear hb; have hc_3 := pw_cell_below HB.out HC3.out))
  rw [rounds_succ]
  go_wp2_with (first | (go_at_call 86; (with_reducible refine (a4 _ ?side4).mono ?_); (case side4 => exact zb); rintro e w4 ⟨rfl, hb⟩; replace HB := zM (below_step zb hb); clear hb; have hc_4 := pw_cell_below HB.out HC4.out))
  rw [rounds_succ]
  go_wp2_with (first | (go_at_call 87; (with_reducible refine (a5 _ ?side5).mono ?_); (case side5 => exact zb); rintro e w5 ⟨rfl, hb⟩; replace HB := zM (below_step zb hb); clear hb; have hc_5 := pw_cell_below HB.out HC5.out))
  rw [rounds_succ]
  go_wp2_with (first | (go_at_call 88; (with_reducible refine (a6 _ ?side6).mono ?_); (case side6 => exact zb); rintro e w6 ⟨rfl, hb⟩; replace HB := zM (below_step zb hb); clear hb))
  go_ret
  exact ⟨zy, HB.out⟩
 case pos =>
 subst c6
 have hf : fst6 0 0 0 0 0 0 = 0 := rfl
 rw [hf]
 clear hf h1 h2 h3 h4 h5 h6
 have hc_0 := HC0.out
 go_enter Try.func81, Try.ntmps81
 go_wp2
 refine wp_loop_rounds 7 ?_
 rw [rounds_succ]
 go_wp2_with (first | (go_at_call 82; (with_reducible refine (a1 _ ?side1).mono ?_); (case side1 => exact zb); rintro e w1 ⟨rfl, hb⟩; replace HB := zM (below_step zb hb); clear hb; have hc_1 := pw_cell_below HB.out HC1.out))
 rw [rounds_succ]
 go_wp2_with (first | (go_at_call 84; (with_reducible refine (a2 _ ?side2).mono ?_); (case side2 => exact zb); rintro e w2 ⟨rfl, hb⟩; replace HB := zM (below_step zb hb); clear hb; have hc_2 := pw_cell_below HB.out HC2.out))
 rw [rounds_succ]
 go_wp2_with (first | (go_at_call 85; (with_reducible refine (a3 _ ?side3).mono ?_); (case side3 => exact zb); rintro e w3 ⟨rfl, hb⟩; replace HB := zM (below_step zb hb); clear hb; have hc_3 := pw_cell_below HB.out HC3.out))
 rw [rounds_succ]
 go_wp2_with (first | (go_at_call 86; (with_reducible refine (a4 _ ?side4).mono ?_); (case side4 => exact zb); rintro e w4 ⟨rfl, hb⟩; replace HB := zM (below_step zb hb); clear hb; have hc_4 := pw_cell_below HB.out HC4.out))
 rw [rounds_succ]
 go_wp2_with (first | (go_at_call 87; (with_reducible refine (a5 _ ?side5).mono ?_); (case side5 => exact zb); rintro e w5 ⟨rfl, hb⟩; replace HB := zM (below_step zb hb); clear hb; have hc_5 := pw_cell_below HB.out HC5.out))
 rw [rounds_succ]
 go_wp2_with (first | (go_at_call 88; (with_reducible refine (a6 _ ?side6).mono ?_); (case side6 => exact zb); rintro e w6 ⟨rfl, hb⟩; replace HB := zM (below_step zb hb); clear hb))
 rw [rounds_succ]
 go_wp2
 go_ret
 exact ⟨zy, HB.out⟩
theorem ck6_calls {W : World} {g c1 c2 k : Nat} {id q1 q2 : Int} {A1 A2 : Option Addr} {l r : List CkC} {vl vr : List ByteArray} {b : Bool} (h : IsRu W g id A1 c1 l A2 c2 r)
 (h1 : term_Vars.f k l = some (vl, q1)) (h2 : term_Vars.f k r = some (vr, q2)) (hf : strF k vl vr = some b) :
 Calls Try.prog 88 #[.pointer (some ⟨g, 0, none⟩)] W fun x w' => x = .returned (.int .i64 (if b = true then 7 else 0)) ∧ Below W.heap.size W w' := by
 have hc0 : W.cell? ⟨g, 0, none⟩ = some (.int .i64 id) := (zX h.blk 0).trans rfl
 have hc1 : W.cell? ⟨g, 1, none⟩ = some (.slice A1 l.length c1) := (zX h.blk 1).trans rfl
 have hc2 : W.cell? ⟨g, 2, none⟩ = some (.slice A2 r.length c2) := (zX h.blk 2).trans rfl
 have S1 := str_calls (id := id) h.hl h.hl' h.hr h.hr' h1 h2 hf
 clear h h1 h2 hf
 cases b
 ·
  go_enter Try.func88, Try.ntmps88
  go_wp2_with (first | (go_at_call 89; (with_reducible refine S1.mono ?_); rintro e w1 ⟨rfl, hb⟩; have HB := zM hb; clear hb) | (go_at_call 83; (with_reducible refine (when_calls _ _ _).mono ?_); rintro e w2 ⟨rfl, rfl⟩))
  go_ret
  exact ⟨zy, HB.out⟩
 ·
  go_enter Try.func88, Try.ntmps88
  go_wp2_with (first | (go_at_call 89; (with_reducible refine S1.mono ?_); rintro e w1 ⟨rfl, hb⟩; have HB := zM hb; clear hb) | (go_at_call 83; (with_reducible refine (when_calls _ _ _).mono ?_); rintro e w2 ⟨rfl, rfl⟩))
  go_ret
  exact ⟨zy, HB.out⟩
def rchF (k : Nat) (id : Int) (l r : List CkC) : Option Int :=
 if id < 0 then some 1 else if id > 65535 then some 1 else
 (term_Check.f k l).bind fun e2 => if e2 = 0 then ((term_Check.f k r).bind fun e3 => if e3 = 0 then (
  if l.length > 8 then some 6 else if r.length > 8 then some 6 else if 0 < l.length then (
   (name_Kind.f k (rd_T54 l 0).f0).bind fun kd => if kd = 2 then some 20 else
    (term_Vars.f k l).bind fun a => (term_Vars.f k r).bind fun b => (strF k a.1 b.1).bind fun s => some (if s = true then 7 else 0)) else none) else some e3) else some e2
theorem fst6_1 {e1 e2 e3 e4 e5 e6 : Int} (h : e1 ≠ 0) : fst6 e1 e2 e3 e4 e5 e6 = e1 := if_pos h
theorem fst6_2 {e2 e3 e4 e5 e6 : Int} (h : e2 ≠ 0) : fst6 0 e2 e3 e4 e5 e6 = e2 := by unfold fst6; simp [h]
theorem fst6_3 {e3 e4 e5 e6 : Int} (h : e3 ≠ 0) : fst6 0 0 e3 e4 e5 e6 = e3 := by unfold fst6; simp [h]
theorem fst6_4 {e4 e5 e6 : Int} (h : e4 ≠ 0) : fst6 0 0 0 e4 e5 e6 = e4 := by unfold fst6; simp [h]
theorem fst6_5 {e5 e6 : Int} (h : e5 ≠ 0) : fst6 0 0 0 0 e5 e6 = e5 := by unfold fst6; simp [h]
theorem rch_split {k : Nat} {id e : Int} {l r : List CkC} (h : rchF k id l r = some e) : ∃ e2 e3 kd e6 : Int, fst6 (if id < 0 then 1 else if id > 65535 then 1 else 0) e2 e3 (if l.length > 8 then 6 else if r.length > 8 then 6 else 0) (if kd = 2 then 20 else 0) e6 = e ∧
 ((if id < 0 then (1 : Int) else if id > 65535 then 1 else 0) = 0 → term_Check.f k l = some e2) ∧ ((if id < 0 then (1 : Int) else if id > 65535 then 1 else 0) = 0 → e2 = 0 → term_Check.f k r = some e3) ∧
 ((if id < 0 then (1 : Int) else if id > 65535 then 1 else 0) = 0 → e2 = 0 → e3 = 0 → (if l.length > 8 then (6 : Int) else if r.length > 8 then 6 else 0) = 0 → 0 < l.length ∧ name_Kind.f k (rd_T54 l 0).f0 = some kd) ∧
 ((if id < 0 then (1 : Int) else if id > 65535 then 1 else 0) = 0 → e2 = 0 → e3 = 0 → (if l.length > 8 then (6 : Int) else if r.length > 8 then 6 else 0) = 0 → (if kd = 2 then (20 : Int) else 0) = 0 → ∃ vl q1 vr q2 b, term_Vars.f k l = some (vl, q1) ∧ term_Vars.f k r = some (vr, q2) ∧ strF k vl vr = some b ∧ e6 = if b = true then 7 else 0) := by
 unfold rchF at h
 by_cases c1 : id < 0
 ·
  rw [if_pos c1] at h
  injection h with h
  subst h
  simp only [if_pos c1]
  exact ⟨0, 0, 0, 0, fst6_1 (by decide), (fun h => absurd h (by decide)), (fun h => absurd h (by decide)), (fun h => absurd h (by decide)), (fun h => absurd h (by decide))⟩
 ·
  rw [if_neg c1] at h
  simp only [if_neg c1]
  by_cases c2 : id > 65535
  ·
   rw [if_pos c2] at h
   injection h with h
   subst h
   simp only [if_pos c2]
   exact ⟨0, 0, 0, 0, fst6_1 (by decide), (fun h => absurd h (by decide)), (fun h => absurd h (by decide)), (fun h => absurd h (by decide)), (fun h => absurd h (by decide))⟩
  ·
   rw [if_neg c2] at h
   simp only [if_neg c2]
   obtain ⟨e2, h2, h⟩ := zB h
   by_cases d2 : e2 = 0
   ·
    subst d2
    rw [if_pos rfl] at h
    obtain ⟨e3, h3, h⟩ := zB h
    by_cases d3 : e3 = 0
    ·
     subst d3
     rw [if_pos rfl] at h
     by_cases d4 : l.length > 8
     ·
      rw [if_pos d4] at h
      injection h with h
      subst h
      simp only [if_pos d4]
      exact ⟨0, 0, 0, 0, fst6_4 (by decide), fun _ => h2, fun _ _ => h3, (fun _ _ _ h => absurd h (by decide)), (fun _ _ _ h => absurd h (by decide))⟩
     ·
      rw [if_neg d4] at h
      simp only [if_neg d4]
      by_cases d5 : r.length > 8
      ·
       rw [if_pos d5] at h
       injection h with h
       subst h
       simp only [if_pos d5]
       exact ⟨0, 0, 0, 0, fst6_4 (by decide), fun _ => h2, fun _ _ => h3, (fun _ _ _ h => absurd h (by decide)), (fun _ _ _ h => absurd h (by decide))⟩
      ·
       rw [if_neg d5] at h
       simp only [if_neg d5]
       by_cases d6 : 0 < l.length
       ·
        rw [if_pos d6] at h
        obtain ⟨kd, hk, h⟩ := zB h
        by_cases d7 : kd = 2
        ·
         rw [if_pos d7] at h
         injection h with h
         subst h
         refine ⟨0, 0, kd, 0, ?_, fun _ => h2, fun _ _ => h3, fun _ _ _ _ => ⟨d6, hk⟩, fun _ _ _ _ h => ?_⟩
         ·
          rw [if_pos d7]; exact fst6_5 (by decide)
         ·
          rw [if_pos d7] at h; cases h
        ·
         rw [if_neg d7] at h
         obtain ⟨⟨vl, q1⟩, a1, h⟩ := zB h
         obtain ⟨⟨vr, q2⟩, a2, h⟩ := zB h
         obtain ⟨b, a3, h⟩ := zB h
         injection h with h
         subst h
         refine ⟨0, 0, kd, _, ?_, fun _ => h2, fun _ _ => h3, fun _ _ _ _ => ⟨d6, hk⟩, fun _ _ _ _ _ => ⟨vl, q1, vr, q2, b, a1, a2, a3, rfl⟩⟩
         rw [if_neg d7]
         rfl
       ·
        rw [if_neg d6] at h
        cases h
    ·
     rw [if_neg d3] at h
     injection h with h
     subst h
     exact ⟨0, e3, 0, 0, fst6_3 d3, fun _ => h2, fun _ _ => h3, fun _ _ h => absurd h d3, fun _ _ h => absurd h d3⟩
   ·
    rw [if_neg d2] at h
    injection h with h
    subst h
    exact ⟨e2, 0, 0, 0, fst6_2 d2, fun _ => h2, fun _ h => absurd h d2, fun _ h => absurd h d2, fun _ h => absurd h d2⟩
def ruBox (w : World) (id : Int) (A1 : Option Addr) (c1 : Nat) (l : List CkC) (A2 : Option Addr) (c2 : Nat) (r : List CkC) : World := w.alloc (.cells #[.int .i64 id, .slice A1 l.length c1, .slice A2 r.length c2] 73)
def ruP (w : World) : Value := .pointer (some ⟨w.heap.size, 0, none⟩)
theorem rch_calls (k : Nat) (id : Int) (A1 : Option Addr) (c1 : Nat) (l : List CkC) (A2 : Option Addr) (c2 : Nat) (r : List CkC) (e : Int) (w : World) (hl : Kd.C k54 w A1 l.length l) (hl' : l.length ≤ c1) (hr : Kd.C k54 w A2 r.length r) (hr' : r.length ≤ c2) (h : rchF k id l r = some e) :
 Calls Try.prog 69 #[.agg #[.int .i64 id, .slice A1 l.length c1, .slice A2 r.length c2]] w fun x w' => x = .returned (.int .i64 e) ∧ Below w.heap.size w w' := by
 obtain ⟨e2, e3, kd, e6, hfst, g2, g3, g5, g6⟩ := rch_split h
 clear h
 have hb1 : Below w.heap.size w (ruBox w id A1 c1 l A2 c2 r) := zA (Below.refl _ _) _
 have hI : IsRu (ruBox w id A1 c1 l A2 c2 r) w.heap.size id A1 c1 l A2 c2 r := ⟨heap_alloc_new w _, Kd.C_below hl hb1, hl', Kd.C_below hr hb1, hr'⟩
 have hsz : (ruBox w id A1 c1 l A2 c2 r).heap.size = w.heap.size + 1 := by simp [ruBox]
 have FC := fun (row : Obj) (hrow : row = .cells #[fnV 82 (ruP w), fnV 84 (ruP w), fnV 85 (ruP w), fnV 86 (ruP w), fnV 87 (ruP w), fnV 88 (ruP w)] 134 (0, 0)) =>
  (show Calls Try.prog 81 #[.slice (some ⟨w.heap.size + 1, 0, none⟩) 6 6] ((ruBox w id A1 c1 l A2 c2 r).alloc row) (fun x w' => x = .returned (.int .i64 e) ∧ Below w.heap.size w w') from by
   have hI2 : IsRu ((ruBox w id A1 c1 l A2 c2 r).alloc row) w.heap.size id A1 c1 l A2 c2 r := hI.below (zA (Below.refl _ _) _)
   have hs := heap_alloc_new (ruBox w id A1 c1 l A2 c2 r) row
   rw [hsz] at hs
   rw [hrow] at hs hI2 ⊢
   have := first_calls (p := ruP w) hs (fun W hW => ck1_calls (hI2.below hW)) (fun a => fun W hW => ck2_calls (hI2.below hW) (g2 a)) (fun a b => fun W hW => ck3_calls (hI2.below hW) (g3 a b)) (fun a b c => fun W hW => ck4_calls (hI2.below hW)) (fun a b c d => fun W hW => ck5_calls (hI2.below hW) (g5 a b c d).1 (g5 a b c d).2)
    (e6 := e6) (fun a b c d f => fun W hW => by
     obtain ⟨vl, q1, vr, q2, b', a1, a2, a3, a4⟩ := g6 a b c d f
     rw [a4]
     exact ck6_calls (hI2.below hW) a1 a2 a3)
   rw [hfst] at this
   exact this.mono fun x w' hx => ⟨hx.1, below_step (zA hb1 _) hx.2⟩)
 clear hI hsz hb1 g2 g3 g5 g6 hfst hl hr
 have FD := FC _ rfl
 clear FC
 unfold ruBox ruP fnV at FD
 have hmf : ∀ (fn : Fn) (first cap : Array Value) (w : World), (Instr.makeFunc fn first cap).run Try.prog w = .ok (.func fn first cap) w := fun _ _ _ _ => rfl
 go_enter Try.func69, Try.ntmps69
 go_wp2_with (first | (go_at_call 81; (with_reducible refine FD.mono ?_); rintro e w1 ⟨rfl, hb⟩; have HB := zM hb; clear hb))
 go_ret
 exact ⟨rfl, HB.out⟩
theorem strF_mono (vl : List ByteArray) (k : Nat) : ∀ vr, LeO (strF k vl vr) (strF (k + 1) vl vr)
 | [] => LeO.refl _
 | v :: u => by
  unfold strF
  exact LeO.bind (slices_Contains_string_string.mono _ _ _) fun b => LeO.ite (strF_mono vl k u) (LeO.refl _)
def rule_Check.f (k : Nat) (a0_0 : Int) (l0_1 : List (S54)) (l0_2 : List (S54)) : Option Int := rchF k a0_0 l0_1 l0_2
theorem rule_Check.mono : ∀ a0 a1 a2 k, LeO (rule_Check.f k a0 a1 a2) (rule_Check.f (k + 1) a0 a1 a2) := by
 intro a0 a1 a2 k
 unfold rule_Check.f rchF
 refine LeO.ite (LeO.refl _) (LeO.ite (LeO.refl _) (LeO.bind (term_Check.mono _ _) fun _ => LeO.ite (LeO.bind (term_Check.mono _ _) fun _ => LeO.ite (LeO.ite (LeO.refl _) (LeO.ite (LeO.refl _) (LeO.ite (LeO.bind (name_Kind.mono _ _) fun _ => LeO.ite (LeO.refl _) (LeO.bind (term_Vars.mono _ _) fun _ => LeO.bind (term_Vars.mono _ _) fun _ => LeO.bind (strF_mono _ _ _) fun _ => LeO.refl _)) (LeO.refl _)))) (LeO.refl _)) (LeO.refl _)))
theorem rule_Check.calls (k : Nat) (a0_0 : Int) (A0_1 : Option Addr) (c0_1 : Nat) (l0_1 : List (S54)) (A0_2 : Option Addr) (c0_2 : Nat) (l0_2 : List (S54)) (r : Int) (w : World) (hr0_1 : Kd.C k54 w A0_1 l0_1.length l0_1) (hc0_1 : l0_1.length ≤ c0_1) (hr0_2 : Kd.C k54 w A0_2 l0_2.length l0_2) (hc0_2 : l0_2.length ≤ c0_2) (h : rule_Check.f k a0_0 l0_1 l0_2 = some r) :
 Calls Try.prog 69 #[.agg #[.int .i64 a0_0, .slice A0_1 l0_1.length c0_1, .slice A0_2 l0_2.length c0_2]] w fun e w' => e = .returned (.int .i64 r) ∧ Below w.heap.size w w' := rch_calls k a0_0 A0_1 c0_1 l0_1 A0_2 c0_2 l0_2 r w hr0_1 hc0_1 hr0_2 hc0_2 h



-- ==== PF46

/-! ### rewrite_together: function 46 -/
mutual
def rewrite_together.l0 : Nat → List (S73) → List (S73) → Int → Int → Option (Int)
 | 0, _, _, _, _ => none
 | k + 1, x0, x7, x8, x9 => if x9 < x8 then (if 0 ≤ x9 then (if x9 < (x7.length : Int) then ((rule_Check.f k ((rd_T73 x7 x9).f0) ((rd_T73 x7 x9).f1) ((rd_T73 x7 x9).f2)).bind fun t103 => (if t103 = 0 then (rewrite_together.l0 k x0 x7 x8 (wrap64 (x9 + 1))) else (some t103))) else (none)) else (none)) else (rewrite_together.l1 k x0 1)
def rewrite_together.l1 : Nat → List (S73) → Int → Option (Int)
 | 0, _, _ => none
 | k + 1, x0, x6 => if x6 < (x0.length : Int) then (if 0 ≤ (wrap64 (x6 - 1)) then (if (wrap64 (x6 - 1)) < (x0.length : Int) then (if 0 ≤ x6 then (if ((rd_T73 x0 (wrap64 (x6 - 1))).f0) ≥ ((rd_T73 x0 x6).f0) then (some 19) else (rewrite_together.l1 k x0 (wrap64 (x6 + 1)))) else (none)) else (none)) else (none)) else (some 0)
end
def rewrite_together.f (k : Nat) (l0 : List (S73)) : Option (Int) := rewrite_together.l0 k l0 l0 (l0.length : Int) 0
theorem rewrite_together.mono_l : ∀ k, (∀ y0 y1 y2 y3, LeO (rewrite_together.l0 k y0 y1 y2 y3) (rewrite_together.l0 (k + 1) y0 y1 y2 y3)) ∧ (∀ y0 y1, LeO (rewrite_together.l1 k y0 y1) (rewrite_together.l1 (k + 1) y0 y1))
 | 0 => ⟨fun _ _ _ _ r h => by simp [rewrite_together.l0] at h, fun _ _ r h => by simp [rewrite_together.l1] at h⟩
 | k + 1 => by
  obtain ⟨ih0, ih1⟩ := rewrite_together.mono_l k
  refine ⟨?_, ?_⟩
  ·
   intro y0 y1 y2 y3
   unfold rewrite_together.l0
   repeat' first
   | (with_reducible exact ih0 _ _ _ _)
   | (with_reducible exact ih1 _ _)
   | (with_reducible exact rule_Check.mono _ _ _ _)
   | (with_reducible exact LeO.refl _)
   | (with_reducible exact LeO.none _)
   | (with_reducible refine LeO.ite ?_ ?_)
   | (with_reducible refine LeO.bind ?_ (fun _ => ?_))
  ·
   intro y0 y1
   unfold rewrite_together.l1
   repeat' first
   | (with_reducible exact ih0 _ _ _ _)
   | (with_reducible exact ih1 _ _)
   | (with_reducible exact rule_Check.mono _ _ _ _)
   | (with_reducible exact LeO.refl _)
   | (with_reducible exact LeO.none _)
   | (with_reducible refine LeO.ite ?_ ?_)
   | (with_reducible refine LeO.bind ?_ (fun _ => ?_))
theorem rewrite_together.mono : ∀ a0 k, LeO (rewrite_together.f k a0) (rewrite_together.f (k + 1) a0) := by
 intro a0 k
 obtain ⟨ih0, ih1⟩ := rewrite_together.mono_l k
 unfold rewrite_together.f
 repeat' first
  | (with_reducible exact ih0 _ _ _ _)
  | (with_reducible exact ih1 _ _)
  | (with_reducible exact rule_Check.mono _ _ _ _)
  | (with_reducible exact LeO.refl _)
  | (with_reducible exact LeO.none _)
  | (with_reducible refine LeO.ite ?_ ?_)
  | (with_reducible refine LeO.bind ?_ (fun _ => ?_))
theorem rewrite_together.calls (k : Nat) (A0 : Option Addr) (c0 : Nat) (l0 : List (S73)) (r : Int) (w : World) (hr0 : Kd.C k73 w A0 l0.length l0) (hc0 : l0.length ≤ c0) (h : rewrite_together.f k l0 = some r) :
 Calls Try.prog 46 #[.slice A0 l0.length c0] w fun e w' => e = .returned (.int .i64 r) ∧ Below w.heap.size w w' := by
 have hu73 := Try.underlying73
 have HR0 := zM hr0
 have HC0 := zM hc0
 clear hr0 hc0
 have HB := zM (Below.refl w.heap.size w)
 have H : (rewrite_together.l0 k l0 l0 (l0.length : Int) 0) = some r := h
 clear h
 have H' := zM H
 clear H
 go_enter Try.func46, Try.ntmps46
 go_wp2
 repeat (go_quiet (fail); try go_wp2)
 go_loopg [9] k (fun kq v9 w' => ∃ (x9_1 : Int), v9 = .int .i64 x9_1 ∧ Aside0 (rewrite_together.l0 kq l0 l0 (l0.length : Int) x9_1 = some r) ∧ Aside0 (kq ≤ k) ∧ Aside0 (Below w.heap.size w w'))
 case atStart => exact ⟨(0), zy, H', ⟨Nat.le_refl _⟩, ⟨zb⟩⟩
 case round =>
  clear H'
  obtain ⟨x9_1, rfl, HA, HK1, HB⟩ := hrel
  cases gk with
  | zero => exact absurd HA.out (by simp [rewrite_together.l0])
  | succ k1 =>
   have H := HA.out
   clear HA
   simp only [rewrite_together.l0] at H
   by_cases c2 : x9_1 < (l0.length : Int)
   ·
    rw [if_pos c2] at H
    have c2b0 : decide (x9_1 < (l0.length : Int)) = true := zQ c2
    clear c2
    by_cases c3 : 0 ≤ x9_1
    ·
     rw [if_pos c3] at H
     have c3b0 : decide (0 ≤ x9_1) = true := zQ c3
     clear c3
     by_cases c4 : x9_1 < (l0.length : Int)
     ·
      rw [if_pos c4] at H
      have c4b0 : decide (x9_1 < (l0.length : Int)) = true := zQ c4
      clear c4
      replace H := zB H
      obtain ⟨t103, A50, H⟩ := H
      try dsimp only at H
      have A5 := zM A50
      clear A50
      by_cases c6 : t103 = 0
      ·
       rw [if_pos c6] at H
       have c6b0 : (t103 == 0) = true := zG c6
       have c6b1 : (t103 != 0) = false := zH c6
       clear c6
       have H' := zM H
       clear H
       have p101 : 0 ≤ (x9_1 : Int) := zT zv
       have q101 : x9_1 < (l0.length : Int) := zT zv
       obtain ⟨ad101, A101_1, c101_1, A101_2, c101_2, e101, hx101_0, hx101_1, hx101_2, hl101_1, hi101_1, hl101_2, hi101_2⟩ := at_T73 HR0.out x9_1 p101 q101
       cases e101
       replace hx101_0 := (HB.out.cell (World.block_lt_of_cell? w _ hx101_0)).trans hx101_0
       replace hx101_1 := (HB.out.cell (World.block_lt_of_cell? w _ hx101_1)).trans hx101_1
       replace hx101_2 := (HB.out.cell (World.block_lt_of_cell? w _ hx101_2)).trans hx101_2
       have HR101_1 := zM hi101_1
       have HC101_1 := zM hl101_1
       clear hi101_1 hl101_1
       have HR101_2 := zM hi101_2
       have HC101_2 := zM hl101_2
       clear hi101_2 hl101_2
       replace p101 := eq_true p101
       replace q101 := eq_true q101
       go_wp2_with (first | ((with_reducible refine gate_dst (N := 4) rfl ?_); refine box_event ?hg (N := 4) ?hd (cs := #[.int .i64 0, .slice none 0 0, .slice none 0 0]) (t := 73) ?hr ?_; (case hd => rfl); (case hg => rfl); (case hr => first | (go_simp; done) | (go_simp; rfl)); intro gb102 hg w7 hbox hb; have BK102 := zM (hbox); have GW102 := zM (zh hg : w.heap.size ≤ gb102); have GE102 := zM (zh hg : w.heap.size ≤ gb102); replace HB := zM (below_step zb hb); clear hb hbox hg; have hcz8_0 : w7.cell? ⟨gb102, 0, none⟩ = some (.int .i64 0) := (zX BK102.out 0).trans rfl; have hcz8_1 : w7.cell? ⟨gb102, 1, none⟩ = some (.slice none 0 0) := (zX BK102.out 1).trans rfl; have hcz8_2 : w7.cell? ⟨gb102, 2, none⟩ = some (.slice none 0 0) := (zX BK102.out 2).trans rfl; have hfz8_0 := zY BK102.out 0; have hfz8_1 := zY BK102.out 1; have hfz8_2 := zY BK102.out 2) | (go_at_call 69; (with_reducible refine (rule_Check.calls k1 ((rd_T73 l0 x9_1).f0) _ _ ((rd_T73 l0 x9_1).f1) _ _ ((rd_T73 l0 x9_1).f2) t103 _ ?side1 ?side2 ?side3 ?side4 A5.out).mono ?_); (case side1 => exact Kd.C_below HR101_1.out zb); (case side2 => exact HC101_1.out); (case side3 => exact Kd.C_below HR101_2.out zb); (case side4 => exact HC101_2.out); rintro e w9 ⟨rfl, hb⟩; replace BK102 := zM (blk_below (g := gb102) (o := .cells #[.int .i64 ((rd_T73 l0 x9_1).f0), .slice A101_1 ((rd_T73 l0 x9_1).f1).length c101_1, .slice A101_2 ((rd_T73 l0 x9_1).f2).length c101_2] 73 (0, 0)) (by refine zk ?_; refine blk_put (cs := #[.int .i64 ((rd_T73 l0 x9_1).f0), .slice A101_1 ((rd_T73 l0 x9_1).f1).length c101_1, .slice none 0 0]) ?_ 2 _ rfl; refine zk ?_; refine blk_put (cs := #[.int .i64 ((rd_T73 l0 x9_1).f0), .slice none 0 0, .slice none 0 0]) ?_ 1 _ rfl; refine zk ?_; refine blk_put (cs := #[.int .i64 0, .slice none 0 0, .slice none 0 0]) ?_ 0 _ rfl; refine zk ?_; exact BK102.out) hb); replace HB := zM (below_step zb hb); (try clear hb)))
       go_roundg k1
       case measure => have := HK1.out; omega
       case rel => exact ⟨(wrap64 (x9_1 + 1)), zy, H', ⟨by have := HK1.out; omega⟩, ⟨zb⟩⟩
      ·
       rw [if_neg c6] at H
       have c6b0 : (t103 == 0) = false := zE c6
       have c6b1 : (t103 != 0) = true := zF c6
       obtain rfl := zS H
       have p101 : 0 ≤ (x9_1 : Int) := zT zv
       have q101 : x9_1 < (l0.length : Int) := zT zv
       obtain ⟨ad101, A101_1, c101_1, A101_2, c101_2, e101, hx101_0, hx101_1, hx101_2, hl101_1, hi101_1, hl101_2, hi101_2⟩ := at_T73 HR0.out x9_1 p101 q101
       cases e101
       replace hx101_0 := (HB.out.cell (World.block_lt_of_cell? w _ hx101_0)).trans hx101_0
       replace hx101_1 := (HB.out.cell (World.block_lt_of_cell? w _ hx101_1)).trans hx101_1
       replace hx101_2 := (HB.out.cell (World.block_lt_of_cell? w _ hx101_2)).trans hx101_2
       have HR101_1 := zM hi101_1
       have HC101_1 := zM hl101_1
       clear hi101_1 hl101_1
       have HR101_2 := zM hi101_2
       have HC101_2 := zM hl101_2
       clear hi101_2 hl101_2
       replace p101 := eq_true p101
       replace q101 := eq_true q101
       go_wp2_with (first | ((with_reducible refine gate_dst (N := 4) rfl ?_); refine box_event ?hg (N := 4) ?hd (cs := #[.int .i64 0, .slice none 0 0, .slice none 0 0]) (t := 73) ?hr ?_; (case hd => rfl); (case hg => rfl); (case hr => first | (go_simp; done) | (go_simp; rfl)); intro gb102 hg w10 hbox hb; have BK102 := zM (hbox); have GW102 := zM (zh hg : w.heap.size ≤ gb102); have GE102 := zM (zh hg : w.heap.size ≤ gb102); replace HB := zM (below_step zb hb); clear hb hbox hg; have hcz11_0 : w10.cell? ⟨gb102, 0, none⟩ = some (.int .i64 0) := (zX BK102.out 0).trans rfl; have hcz11_1 : w10.cell? ⟨gb102, 1, none⟩ = some (.slice none 0 0) := (zX BK102.out 1).trans rfl; have hcz11_2 : w10.cell? ⟨gb102, 2, none⟩ = some (.slice none 0 0) := (zX BK102.out 2).trans rfl; have hfz11_0 := zY BK102.out 0; have hfz11_1 := zY BK102.out 1; have hfz11_2 := zY BK102.out 2) | (go_at_call 69; (with_reducible refine (rule_Check.calls k1 ((rd_T73 l0 x9_1).f0) _ _ ((rd_T73 l0 x9_1).f1) _ _ ((rd_T73 l0 x9_1).f2) t103 _ ?side1 ?side2 ?side3 ?side4 A5.out).mono ?_); (case side1 => exact Kd.C_below HR101_1.out zb); (case side2 => exact HC101_1.out); (case side3 => exact Kd.C_below HR101_2.out zb); (case side4 => exact HC101_2.out); rintro e w12 ⟨rfl, hb⟩; replace BK102 := zM (blk_below (g := gb102) (o := .cells #[.int .i64 ((rd_T73 l0 x9_1).f0), .slice A101_1 ((rd_T73 l0 x9_1).f1).length c101_1, .slice A101_2 ((rd_T73 l0 x9_1).f2).length c101_2] 73 (0, 0)) (by refine zk ?_; refine blk_put (cs := #[.int .i64 ((rd_T73 l0 x9_1).f0), .slice A101_1 ((rd_T73 l0 x9_1).f1).length c101_1, .slice none 0 0]) ?_ 2 _ rfl; refine zk ?_; refine blk_put (cs := #[.int .i64 ((rd_T73 l0 x9_1).f0), .slice none 0 0, .slice none 0 0]) ?_ 1 _ rfl; refine zk ?_; refine blk_put (cs := #[.int .i64 0, .slice none 0 0, .slice none 0 0]) ?_ 0 _ rfl; refine zk ?_; exact BK102.out) hb); replace HB := zM (below_step zb hb); (try clear hb)))
       go_ret
       exact ⟨zw, zb⟩
     ·
      rw [if_neg c4] at H
      exact absurd H (by simp)
    ·
     rw [if_neg c3] at H
     exact absurd H (by simp)
   ·
    rw [if_neg c2] at H
    have c2b0 : decide (x9_1 < (l0.length : Int)) = false := zR c2
    clear c2
    have H' := zM H
    clear H
    go_wp2
    repeat (go_quiet (fail); try go_wp2)
    go_loopg [6] k1 (fun kq v6 w' => ∃ (x6_2 : Int), v6 = .int .i64 x6_2 ∧ Aside0 (rewrite_together.l1 kq l0 x6_2 = some r) ∧ Aside0 (kq ≤ k1) ∧ Aside0 (Below w.heap.size w w'))
    case atStart => exact ⟨(1), zy, H', ⟨Nat.le_refl _⟩, ⟨zb⟩⟩
    case round =>
     clear H'
     try clear c1
     try clear p1
     try clear q1
     try clear hx1
     try clear c2
     try clear c2b0
     try clear p2
     try clear c3
     try clear c3b0
     try clear c4
     try clear c4b0
     try clear c6
     try clear c6b0
     try clear c6b1
     try clear p6
     try clear c10
     try clear p10
     try clear q10
     try clear hx10
     try clear hcz11_0
     try clear hcz11_1
     try clear hcz11_2
     try clear hcz8_0
     try clear hcz8_1
     try clear hcz8_2
     try clear hfz11_0
     try clear hfz11_1
     try clear hfz11_2
     try clear hfz8_0
     try clear hfz8_1
     try clear hfz8_2
     try clear hx101_0
     try clear hx101_1
     try clear hx101_2
     try clear p101
     try clear q101
     obtain ⟨x6_2, rfl, HA, HK2, HB⟩ := hrel
     cases gk with
     | zero => exact absurd HA.out (by simp [rewrite_together.l1])
     | succ k2 =>
      have H := HA.out
      clear HA
      simp only [rewrite_together.l1] at H
      by_cases c13 : x6_2 < (l0.length : Int)
      ·
       rw [if_pos c13] at H
       have c13b0 : decide (x6_2 < (l0.length : Int)) = true := zQ c13
       clear c13
       obtain ⟨ji14, hji14⟩ : ∃ j_ : Int, (wrap64 (x6_2 - 1)) = j_ := ⟨_, rfl⟩
       replace H : (if 0 ≤ (ji14) then (if (ji14) < (l0.length : Int) then (if 0 ≤ x6_2 then (if ((rd_T73 l0 (ji14)).f0) ≥ ((rd_T73 l0 x6_2).f0) then (some 19) else (rewrite_together.l1 k2 l0 (wrap64 (x6_2 + 1)))) else (none)) else (none)) else (none)) = some r := by first | (rw [hji14] at H; exact H) | (simp only [hji14] at H ⊢; exact H)
       have hji14w : (IntKind.i64.wrap (x6_2 - 1)) = ji14 := (i64_w _).trans hji14
       by_cases c15 : 0 ≤ (ji14)
       ·
        rw [if_pos c15] at H
        have c15b0 : decide (0 ≤ (ji14)) = true := zQ c15
        clear c15
        by_cases c16 : (ji14) < (l0.length : Int)
        ·
         rw [if_pos c16] at H
         have c16b0 : decide ((ji14) < (l0.length : Int)) = true := zQ c16
         clear c16
         by_cases c17 : 0 ≤ x6_2
         ·
          rw [if_pos c17] at H
          have c17b0 : decide (0 ≤ x6_2) = true := zQ c17
          clear c17
          by_cases c18 : ((rd_T73 l0 (ji14)).f0) ≥ ((rd_T73 l0 x6_2).f0)
          ·
           rw [if_pos c18] at H
           have c18b0 : decide (((rd_T73 l0 x6_2).f0) ≤ ((rd_T73 l0 (ji14)).f0)) = true := zQ c18
           clear c18
           obtain rfl := zS H
           have p104 : 0 ≤ ((ji14) : Int) := zT zv
           have q104 : (ji14) < (l0.length : Int) := zT zv
           obtain ⟨ad104, A104_1, c104_1, A104_2, c104_2, e104, hx104_0, hx104_1, hx104_2, hl104_1, hi104_1, hl104_2, hi104_2⟩ := at_T73 HR0.out (ji14) p104 q104
           cases e104
           replace hx104_0 := (HB.out.cell (World.block_lt_of_cell? w _ hx104_0)).trans hx104_0
           replace hx104_1 := (HB.out.cell (World.block_lt_of_cell? w _ hx104_1)).trans hx104_1
           replace hx104_2 := (HB.out.cell (World.block_lt_of_cell? w _ hx104_2)).trans hx104_2
           have HR104_1 := zM hi104_1
           have HC104_1 := zM hl104_1
           clear hi104_1 hl104_1
           have HR104_2 := zM hi104_2
           have HC104_2 := zM hl104_2
           clear hi104_2 hl104_2
           replace p104 := eq_true p104
           replace q104 := eq_true q104
           have p105 : 0 ≤ (x6_2 : Int) := zT zv
           have q105 : x6_2 < (l0.length : Int) := zT zv
           obtain ⟨ad105, A105_1, c105_1, A105_2, c105_2, e105, hx105_0, hx105_1, hx105_2, hl105_1, hi105_1, hl105_2, hi105_2⟩ := at_T73 HR0.out x6_2 p105 q105
           obtain rfl : ad104 = ad105 := (by injection e105)
           replace hx105_0 := (HB.out.cell (World.block_lt_of_cell? w _ hx105_0)).trans hx105_0
           replace hx105_1 := (HB.out.cell (World.block_lt_of_cell? w _ hx105_1)).trans hx105_1
           replace hx105_2 := (HB.out.cell (World.block_lt_of_cell? w _ hx105_2)).trans hx105_2
           have HR105_1 := zM hi105_1
           have HC105_1 := zM hl105_1
           clear hi105_1 hl105_1
           have HR105_2 := zM hi105_2
           have HC105_2 := zM hl105_2
           clear hi105_2 hl105_2
           replace p105 := eq_true p105
           replace q105 := eq_true q105
           go_wp2
           repeat (go_quiet (fail); try go_wp2)
           go_ret
           exact ⟨by first | rfl | (simp [errW_none, errW_some] <;> rfl) | (simp only [← hji14]; first | rfl | (simp [errW_none, errW_some] <;> rfl)) | (simp [*, errW_none, errW_some] <;> rfl), zb⟩
          ·
           rw [if_neg c18] at H
           have c18b0 : decide (((rd_T73 l0 x6_2).f0) ≤ ((rd_T73 l0 (ji14)).f0)) = false := zR c18
           clear c18
           have H' := zM H
           clear H
           have p104 : 0 ≤ ((ji14) : Int) := zT zv
           have q104 : (ji14) < (l0.length : Int) := zT zv
           obtain ⟨ad104, A104_1, c104_1, A104_2, c104_2, e104, hx104_0, hx104_1, hx104_2, hl104_1, hi104_1, hl104_2, hi104_2⟩ := at_T73 HR0.out (ji14) p104 q104
           cases e104
           replace hx104_0 := (HB.out.cell (World.block_lt_of_cell? w _ hx104_0)).trans hx104_0
           replace hx104_1 := (HB.out.cell (World.block_lt_of_cell? w _ hx104_1)).trans hx104_1
           replace hx104_2 := (HB.out.cell (World.block_lt_of_cell? w _ hx104_2)).trans hx104_2
           have HR104_1 := zM hi104_1
           have HC104_1 := zM hl104_1
           clear hi104_1 hl104_1
           have HR104_2 := zM hi104_2
           have HC104_2 := zM hl104_2
           clear hi104_2 hl104_2
           replace p104 := eq_true p104
           replace q104 := eq_true q104
           have p105 : 0 ≤ (x6_2 : Int) := zT zv
           have q105 : x6_2 < (l0.length : Int) := zT zv
           obtain ⟨ad105, A105_1, c105_1, A105_2, c105_2, e105, hx105_0, hx105_1, hx105_2, hl105_1, hi105_1, hl105_2, hi105_2⟩ := at_T73 HR0.out x6_2 p105 q105
           obtain rfl : ad104 = ad105 := (by injection e105)
           replace hx105_0 := (HB.out.cell (World.block_lt_of_cell? w _ hx105_0)).trans hx105_0
           replace hx105_1 := (HB.out.cell (World.block_lt_of_cell? w _ hx105_1)).trans hx105_1
           replace hx105_2 := (HB.out.cell (World.block_lt_of_cell? w _ hx105_2)).trans hx105_2
           have HR105_1 := zM hi105_1
           have HC105_1 := zM hl105_1
           clear hi105_1 hl105_1
           have HR105_2 := zM hi105_2
           have HC105_2 := zM hl105_2
           clear hi105_2 hl105_2
           replace p105 := eq_true p105
           replace q105 := eq_true q105
           go_wp2
           repeat (go_quiet (fail); try go_wp2)
           go_roundg k2
           case measure => have := HK1.out; have := HK2.out; omega
           case rel => exact ⟨(wrap64 (x6_2 + 1)), zy, H', ⟨by have := HK1.out; have := HK2.out; omega⟩, ⟨zb⟩⟩
         ·
          rw [if_neg c17] at H
          exact absurd H (by simp)
        ·
         rw [if_neg c16] at H
         exact absurd H (by simp)
       ·
        rw [if_neg c15] at H
        exact absurd H (by simp)
      ·
       rw [if_neg c13] at H
       have c13b0 : decide (x6_2 < (l0.length : Int)) = false := zR c13
       clear c13
       obtain rfl := zS H
       go_wp2
       repeat (go_quiet (fail); try go_wp2)
       go_ret
       exact ⟨zw, zb⟩

end Go.Proofs.Ytdlkhpfgkghhmaa.P
