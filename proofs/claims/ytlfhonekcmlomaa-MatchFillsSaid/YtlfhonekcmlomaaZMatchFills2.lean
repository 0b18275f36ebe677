/- MatchFills: the law answers true at every input that the given row speaks of. Conditions: those of the given row, none besides. (Part 3 of 4; written by programs of this session, which drive the kit's print, and by hand.) -/
import Derived.Test.YtlfhonekcmlomaaRows
import Derived.Test.YtlfhonekcmlomaaZMatchFillsWWords
import Derived.Deep.Slices
import Derived.SizedLaws
import Derived.ChangeSame
import Derived.ChangeArms
import Derived.Test.YtlfhonekcmlomaaZMatchFills0
import Derived.Test.YtlfhonekcmlomaaZMatchFills1
-- ==== PF10
namespace Go.Proofs.Ytlfhonekcmlomaa.P
open Go.RowKit Go.Proofs.YtlfhonekcmlomaaW.PrintWords Go.Proofs.YtlfhonekcmlomaaW.PrintLast Go.Proofs.YtlfhonekcmlomaaW.PrintMore
attribute [local go_sem] max2_int min2_int max_two min_two max_three min_three max_four min_four   -- for this text's walks alone
set_option linter.unusedVariables false
set_option linter.unusedSimpArgs false

attribute [local go_sem high] eqA47
/-! ### match_Match: function 10 -/
def match_Match.l0 : Nat → List (S47) → List (S44) → List (S47) → Int → List (S47) → Int → Int → Option ((List (S44)) × Bool × Int)
  | 0, _, _, _, _, _, _, _ => none
  | k + 1, x1, x10, x11, x12, x33, x34, x35 => if x35 < x34 then (if 0 ≤ x35 then (if x35 < (x33.length : Int) then ((match_variable.f k ((rd_T47 x33 x35).f0) ((rd_T47 x33 x35).f1)).bind fun t106 => (if t106 = true then ((match_end.f k x1 x12).bind fun t108 => (if 0 ≤ x12 then (if x12 ≤ t108 then (if t108 ≤ (x1.length : Int) then ((some ((x1.take (t108 : Int).toNat).drop (x12 : Int).toNat : List (S47))).bind fun y109 => (if ((rd_T47 x33 x35).f0).size ≤ 9223372036854775807 then (if (mapHas x11 ((rd_T47 x33 x35).f0) = true) then (if 0 ≤ (mapAt x11 ((rd_T47 x33 x35).f0)) then (if (mapAt x11 ((rd_T47 x33 x35).f0)) < (x10.length : Int) then ((api_Cell_24.f k ((rd_T44 x10 (mapAt x11 ((rd_T47 x33 x35).f0))).f1) y109).bind fun t114 => (if t114 = true then (match_Match.l0 k x1 x10 x11 (wrap64 (x12 + (y109.length : Int))) x33 x34 (wrap64 (x35 + 1))) else (some (([] : List (S44)), false, 0)))) else (none)) else (none)) else (if x11.length < 9223372036854775807 ∧ ((rd_T47 x33 x35).f0).size ≤ 9223372036854775807 ∧ 0 ≤ (x10.length : Int) ∧ (x10.length : Int) ≤ 9223372036854775807 then ((api_Cell_23.f y109).bind fun t118 => (if x10.length < 3518437208883 then (match_Match.l0 k x1 (x10 ++ [(⟨(rd_T47 x33 x35).f0, t118⟩ : S44)]) (mapPut x11 ((rd_T47 x33 x35).f0) (x10.length : Int)) (wrap64 (x12 + (y109.length : Int))) x33 x34 (wrap64 (x35 + 1))) else (none))) else (none))) else (none))) else (none)) else (none)) else (none))) else (if 0 ≤ x12 then (if x12 < (x1.length : Int) then (if (!((((rd_T47 x1 x12).f0).toList) == (((rd_T47 x33 x35).f0).toList)) || (!(((rd_T47 x1 x12).f1) == ((rd_T47 x33 x35).f1)))) = true then (some (([] : List (S44)), false, 0)) else (match_Match.l0 k x1 x10 x11 (wrap64 (x12 + 1)) x33 x34 (wrap64 (x35 + 1)))) else (none)) else (none)))) else (none)) else (none)) else (some (x10, true, 0))
def match_Match.g (k : Nat) (l0 : List (S47)) (l1 : List (S47)) : Option ((List (S44)) × Bool × Int) := match_Match.l0 k l1 ([] : List (S44)) (([] : List (S47))) 0 l0 (l0.length : Int) 0
def match_Match.f (k : Nat) (l0 : List (S47)) (l1 : List (S47)) : Option ((List (S44)) × Bool × Int) := (term_Check.f k l0).bind fun ta => (if ta = 0 then ((term_Check.f k l1).bind fun tb => (if tb = 0 then (match_Match.g k l0 l1) else (some (([] : List (S44)), false, tb)))) else (some (([] : List (S44)), false, ta)))
theorem match_Match.mono_l : ∀ k, (∀ y0 y1 y2 y3 y4 y5 y6, LeO (match_Match.l0 k y0 y1 y2 y3 y4 y5 y6) (match_Match.l0 (k + 1) y0 y1 y2 y3 y4 y5 y6))
  | 0 => fun _ _ _ _ _ _ _ r h => by simp [match_Match.l0] at h
  | k + 1 => by
    have ih0 := match_Match.mono_l k
    · intro y0 y1 y2 y3 y4 y5 y6
      unfold match_Match.l0
      repeat' first
      | (with_reducible exact ih0 _ _ _ _ _ _ _)
      | (with_reducible exact api_Cell_24.mono _ _ _)
      | (with_reducible exact match_end.mono _ _ _)
      | (with_reducible exact match_variable.mono _ _ _)
      | (with_reducible exact LeO.refl _)
      | (with_reducible exact LeO.none _)
      | (with_reducible refine LeO.ite ?_ ?_)
      | (with_reducible refine LeO.bind ?_ (fun _ => ?_))
      | exact ih0 _ _ _ _ _ _ _
      | exact api_Cell_24.mono _ _ _
      | exact match_end.mono _ _ _
      | exact match_variable.mono _ _ _
      | exact LeO.none _
      | refine LeO.ite ?_ ?_
      | refine LeO.bind ?_ (fun _ => ?_)
theorem match_Match.mono_g : ∀ a0 a1 k, LeO (match_Match.g k a0 a1) (match_Match.g (k + 1) a0 a1) := by
  intro a0 a1 k
  have ih0 := match_Match.mono_l k
  unfold match_Match.g
  repeat' first
      | (with_reducible exact ih0 _ _ _ _ _ _ _)
      | (with_reducible exact api_Cell_24.mono _ _ _)
      | (with_reducible exact match_end.mono _ _ _)
      | (with_reducible exact match_variable.mono _ _ _)
      | (with_reducible exact LeO.refl _)
      | (with_reducible exact LeO.none _)
      | (with_reducible refine LeO.ite ?_ ?_)
      | (with_reducible refine LeO.bind ?_ (fun _ => ?_))
      | exact ih0 _ _ _ _ _ _ _
      | exact api_Cell_24.mono _ _ _
      | exact match_end.mono _ _ _
      | exact match_variable.mono _ _ _
      | exact LeO.none _
      | refine LeO.ite ?_ ?_
      | refine LeO.bind ?_ (fun _ => ?_)
theorem match_Match.mono : ∀ a0 a1 k, LeO (match_Match.f k a0 a1) (match_Match.f (k + 1) a0 a1) := by
  intro a0 a1 k
  unfold match_Match.f
  refine LeO.bind (term_Check.mono _ _) (fun _ => LeO.ite (LeO.bind (term_Check.mono _ _) (fun _ => LeO.ite (match_Match.mono_g _ _ _) (LeO.refl _))) (LeO.refl _))
def match_Match.T23 : Bool × List (List Nat × List Nat) := (true, [([], []), ([], []), ([1], [1]), ([], []), ([3], [3]), ([2, 4], [2, 4]), ([5], [5]), ([0, 6, 4], [0, 6]), ([7, 7, 0, 1, 2, 3, 4, 5, 6, 7], [0, 7])])
def match_Match.B23 : List Nat := [0, 0, 2, 0, 8, 30, 62, 127, 255]
theorem match_Match.tab23 : rtab .any (opsOf Try.f10 23) = match_Match.T23 := by kernel_rfl
theorem match_Match.bits23 : waitsOk match_Match.T23.2 match_Match.B23 = true := by kernel_rfl
set_option maxHeartbeats 8000000 in
set_option maxRecDepth 100000 in
theorem match_Match.calls (k : Nat) (A0 : Option Addr) (c0 : Nat) (l0 : List (S47)) (A1 : Option Addr) (c1 : Nat) (l1 : List (S47)) (r1 : List (S44)) (r2 : Bool) (r3 : Int) (w : World) (hr0 : Kd.C k47 w A0 l0.length l0) (hc0 : l0.length ≤ c0) (hr1 : Kd.C k47 w A1 l1.length l1) (hc1 : l1.length ≤ c1) (h : match_Match.f k l0 l1 = some (r1, r2, r3)) :
    Calls Try.prog 10 #[.slice A0 l0.length c0, .slice A1 l1.length c1] w fun e w' => ∃ v0_ : Value, e = .returned (.tuple #[v0_, .bool r2, .int .i64 r3]) ∧ Kd.S k44 44 w' w.heap.size (fun _ => True) v0_ r1 ∧ Below w.heap.size w w' := by
  have hu47 := Try.underlying47
  have hu44 := Try.underlying44
  have HR0 := Aside0.mk hr0
  have HC0 := Aside0.mk hc0
  clear hr0 hc0
  have HR1 := Aside0.mk hr1
  have HC1 := Aside0.mk hc1
  clear hr1 hc1
  have HB := Aside0.mk (Below.refl w.heap.size w)
  have h0 : ((term_Check.f k l0).bind fun ta => (if ta = 0 then ((term_Check.f k l1).bind fun tb => (if tb = 0 then (match_Match.g k l0 l1) else (some (([] : List (S44)), false, tb)))) else (some (([] : List (S44)), false, ta)))) = some (r1, r2, r3) := h
  clear h
  replace h0 := Option.bind_eq_some_iff.mp h0
  obtain ⟨ta, Aa0, h0⟩ := h0
  have Aa := Aside0.mk Aa0
  clear Aa0
  by_cases cta : ta = 0
  case neg =>
      have h1 : (some (([] : List (S44)), false, ta)) = some (r1, r2, r3) := by first | (rw [if_neg cta] at h0; exact h0) | exact (if_neg cta).symm.trans h0
      clear h0
      simp only [Option.some.injEq, Prod.mk.injEq] at h1
      obtain ⟨rfl, rfl, rfl⟩ := h1
      have ctab0 : (ta == 0) = false := beq_eq_false_iff_ne.mpr cta
      have ctab1 : (ta != 0) = true := bne_iff_ne.mpr cta
      clear cta
      go_enter Try.func10, Try.ntmps10
      go_wp2
      refine wp_loop_rounds 1 ?_
      rw [rounds_succ]
      go_wp2_with (first | ((with_reducible refine gate_callee (f := 20) rfl ?_); refine goesL_ (some 27) rfl rfl Try.func20 (by kernel_rfl) rfl #[.slice A0 l0.length c0] rfl (by (try simp only [List.map_toArray, List.map_cons, List.map_nil]); first | done | rfl | (simp only [List.length_drop, List.length_take]; rfl)) ?_; (with_reducible refine (term_Check.calls k _ _ l0 ta _ ?side1 ?side2 Aa.out).mono ?_); (case side1 => repeat (first | exact HR0.out | (with_reducible refine Kd.C_alloc ?_ _) | (with_reducible refine Kd.C_drewN ?_ _) | (with_reducible refine Kd.C_drew ?_))); (case side2 => exact HC0.out); rintro e w5 ⟨rfl, hb⟩; have hz1 : w5.cell? ⟨w.heap.size, 1, none⟩ = some (.slice A1 l1.length c1) := (hb.cell (p := ⟨w.heap.size, 1, none⟩) (by simp)).trans ((cell_of_row _ _ 1 _ _ (0, 0) (heap_alloc_new w _)).trans rfl); have n0_ := Aside0.mk (below_step (below_alloc HB.out _) hb); clear HB; have HB := n0_; clear n0_ hb; refine ⟨_, rfl, ?_⟩))
      go_ret3
      exact ⟨_, by first | rfl | (simp [errW_none, errW_some] <;> rfl) | (simp [*, errW_none, errW_some] <;> rfl), Kd.S_nil _ _ _ _ _, by repeat (first | (with_reducible first | exact HB.out | apply below_alloc | apply pw_below_drewN | apply below_drew1) | exact HB.out)⟩
  case pos =>
  replace h0 : ((term_Check.f k l1).bind fun tb => (if tb = 0 then (match_Match.g k l0 l1) else (some (([] : List (S44)), false, tb)))) = some (r1, r2, r3) := (if_pos cta).symm.trans h0
  replace h0 := Option.bind_eq_some_iff.mp h0
  obtain ⟨tb, Ab0, h0⟩ := h0
  have Ab := Aside0.mk Ab0
  clear Ab0
  have ctab0 : (ta == 0) = true := beq_iff_eq.mpr cta
  have ctab1 : (ta != 0) = false := bne_eq_false_iff_eq.mpr cta
  clear cta
  by_cases ctb : tb = 0
  case neg =>
      have h1 : (some (([] : List (S44)), false, tb)) = some (r1, r2, r3) := by first | (rw [if_neg ctb] at h0; exact h0) | exact (if_neg ctb).symm.trans h0
      clear h0
      simp only [Option.some.injEq, Prod.mk.injEq] at h1
      obtain ⟨rfl, rfl, rfl⟩ := h1
      have ctbb0 : (tb == 0) = false := beq_eq_false_iff_ne.mpr ctb
      have ctbb1 : (tb != 0) = true := bne_iff_ne.mpr ctb
      clear ctb
      go_enter Try.func10, Try.ntmps10
      go_wp2
      refine wp_loop_rounds 2 ?_
      rw [rounds_succ]
      go_wp2_with (first | ((with_reducible refine gate_callee (f := 20) rfl ?_); refine goesL_ (some 27) rfl rfl Try.func20 (by kernel_rfl) rfl #[.slice A0 l0.length c0] rfl (by (try simp only [List.map_toArray, List.map_cons, List.map_nil]); first | done | rfl | (simp only [List.length_drop, List.length_take]; rfl)) ?_; (with_reducible refine (term_Check.calls k _ _ l0 ta _ ?side1 ?side2 Aa.out).mono ?_); (case side1 => repeat (first | exact HR0.out | (with_reducible refine Kd.C_alloc ?_ _) | (with_reducible refine Kd.C_drewN ?_ _) | (with_reducible refine Kd.C_drew ?_))); (case side2 => exact HC0.out); rintro e w5 ⟨rfl, hb⟩; have hz1 : w5.cell? ⟨w.heap.size, 1, none⟩ = some (.slice A1 l1.length c1) := (hb.cell (p := ⟨w.heap.size, 1, none⟩) (by simp)).trans ((cell_of_row _ _ 1 _ _ (0, 0) (heap_alloc_new w _)).trans rfl); have n0_ := Aside0.mk (below_step (below_alloc HB.out _) hb); clear HB; have HB := n0_; clear n0_ hb; refine ⟨_, rfl, ?_⟩))
      rw [rounds_succ]
      go_wp2_with (first | ((with_reducible refine gate_callee (f := 20) rfl ?_); refine goesL_ (some 27) rfl rfl Try.func20 (by kernel_rfl) rfl #[.slice A1 l1.length c1] rfl (by (try simp only [List.map_toArray, List.map_cons, List.map_nil]); first | done | rfl | (simp only [List.length_drop, List.length_take]; rfl)) ?_; (with_reducible refine (term_Check.calls k _ _ l1 tb _ ?side1 ?side2 Ab.out).mono ?_); (case side1 => exact Kd.C_below HR1.out HB.out); (case side2 => exact HC1.out); rintro e w6 ⟨rfl, hb⟩; have n0_ := Aside0.mk (below_step HB.out hb); clear HB; have HB := n0_; clear n0_ hb hz1; refine ⟨_, rfl, ?_⟩))
      go_ret3
      exact ⟨_, by first | rfl | (simp [errW_none, errW_some] <;> rfl) | (simp [*, errW_none, errW_some] <;> rfl), Kd.S_nil _ _ _ _ _, by repeat (first | (with_reducible first | exact HB.out | apply below_alloc | apply pw_below_drewN | apply below_drew1) | exact HB.out)⟩
  case pos =>
  have h : match_Match.g k l0 l1 = some (r1, r2, r3) := (if_pos ctb).symm.trans h0
  clear h0
  have ctbb0 : (tb == 0) = true := beq_iff_eq.mpr ctb
  have ctbb1 : (tb != 0) = false := bne_eq_false_iff_eq.mpr ctb
  clear ctb
  have H : (match_Match.l0 k l1 ([] : List (S44)) (([] : List (S47))) 0 l0 (l0.length : Int) 0) = some (r1, r2, r3) := h
  clear h
  obtain ⟨y101, hy101⟩ : ∃ y_ : List (S47), y_ = (([] : List (S47))) := ⟨_, rfl⟩
  replace H : (match_Match.l0 k l1 ([] : List (S44)) y101 0 l0 (l0.length : Int) 0) = some (r1, r2, r3) := by first | (rw [hy101]; with_reducible exact H) | (have H2_ := (Option.bind_some _ _).symm.trans H; rw [hy101]; with_reducible exact H2_) | (have H2_ := (Option.bind_some _ _).symm.trans H; with_reducible exact H2_) | with_reducible exact H | (rw [hy101]; exact H) | exact H
  have Ny101 := Aside0.mk hy101
  clear hy101
  have H' := Aside0.mk H
  clear H
  go_enter Try.func10, Try.ntmps10
  go_wp2
  refine wp_loop_rounds 3 ?_
  rw [rounds_succ]
  go_wp2_with (first | ((with_reducible refine gate_callee (f := 20) rfl ?_); refine goesL_ (some 27) rfl rfl Try.func20 (by kernel_rfl) rfl #[.slice A0 l0.length c0] rfl (by (try simp only [List.map_toArray, List.map_cons, List.map_nil]); first | done | rfl | (simp only [List.length_drop, List.length_take]; rfl)) ?_; (with_reducible refine (term_Check.calls k _ _ l0 ta _ ?side1 ?side2 Aa.out).mono ?_); (case side1 => repeat (first | exact HR0.out | (with_reducible refine Kd.C_alloc ?_ _) | (with_reducible refine Kd.C_drewN ?_ _) | (with_reducible refine Kd.C_drew ?_))); (case side2 => exact HC0.out); rintro e w5 ⟨rfl, hb⟩; have hz1 : w5.cell? ⟨w.heap.size, 1, none⟩ = some (.slice A1 l1.length c1) := (hb.cell (p := ⟨w.heap.size, 1, none⟩) (by simp)).trans ((cell_of_row _ _ 1 _ _ (0, 0) (heap_alloc_new w _)).trans rfl); have n0_ := Aside0.mk (below_step (below_alloc HB.out _) hb); clear HB; have HB := n0_; clear n0_ hb; refine ⟨_, rfl, ?_⟩))
  rw [rounds_succ]
  go_wp2_with (first | ((with_reducible refine gate_callee (f := 20) rfl ?_); refine goesL_ (some 27) rfl rfl Try.func20 (by kernel_rfl) rfl #[.slice A1 l1.length c1] rfl (by (try simp only [List.map_toArray, List.map_cons, List.map_nil]); first | done | rfl | (simp only [List.length_drop, List.length_take]; rfl)) ?_; (with_reducible refine (term_Check.calls k _ _ l1 tb _ ?side1 ?side2 Ab.out).mono ?_); (case side1 => exact Kd.C_below HR1.out HB.out); (case side2 => exact HC1.out); rintro e w6 ⟨rfl, hb⟩; have n0_ := Aside0.mk (below_step HB.out hb); clear HB; have HB := n0_; clear n0_ hb hz1; refine ⟨_, rfl, ?_⟩))
  rw [rounds_succ]
  go_wp2_with (first | ((with_reducible refine gate_dst (N := 32) rfl ?_); refine Kd.P_make k47 (N := 32) rfl rfl rfl ?_; intro v102 w3 ho4 hb; rw [← Ny101.out] at ho4; have n0_ := Aside0.mk (Kd.P_lower ho4 (below_size (by repeat (first | (with_reducible first | exact HB.out | apply below_alloc | apply pw_below_drewN | apply below_drew1) | exact HB.out)))); have n1_ := Aside0.mk (below_step (by repeat (first | (with_reducible first | exact HB.out | apply below_alloc | apply pw_below_drewN | apply below_drew1) | exact HB.out)) hb); clear HB; have HO103 := n0_; have HB := n1_; clear n0_ n1_; clear hb ho4))
  go_loopg [10, 12, 35] k (fun kq v10 v12 v35 w' => ∃ (x10_1 : List (S44)) (x11_1 : List (S47)) (x12_1 : Int) (x35_1 : Int), v12 = .int .i64 x12_1 ∧ v35 = .int .i64 x35_1 ∧ Aside0 (match_Match.l0 kq l1 x10_1 x11_1 x12_1 l0 (l0.length : Int) x35_1 = some (r1, r2, r3)) ∧ Aside0 (kq ≤ k) ∧ Aside0 (Kd.S k44 44 w' w.heap.size (fun _ => True) v10 x10_1) ∧ Aside0 (Kd.P k47 51 w' w.heap.size (fun _ => True) v102 x11_1) ∧ Aside0 (Below w.heap.size w w'))
  case atStart => exact ⟨(([] : List (S44))), (y101), (0), (0), (by first | rfl | (simp; done) | (simp [*]; done)), (by first | rfl | (simp; done) | (simp [*]; done)), H', ⟨Nat.le_refl _⟩, ⟨by first | exact Kd.S_nil _ _ _ _ _ | exact Kd.N_nil _ _ _ _ _ | exact Kd.V_nil _ _ _ _ _ | exact Kd.Q_nil _ _ _ _ _ | exact Kd.R_nil _ _ _ _ _⟩, ⟨by (with_reducible repeat (first | apply Kd.P_alloc | apply Kd.P_drewN | apply Kd.P_drew)); exact HO103.out⟩, ⟨by repeat (first | (with_reducible first | exact HB.out | apply below_alloc | apply pw_below_drewN | apply below_drew1) | exact HB.out)⟩⟩
  case round =>
    clear H'
    try clear c1
    try clear p2
    obtain ⟨x10_1, x11_1, x12_1, x35_1, rfl, rfl, HA, HK1, HO_10, HO_11, HB⟩ := hrel
    cases gk with
    | zero => exact absurd HA.out (by simp [match_Match.l0])
    | succ k1 =>
      have H := HA.out
      clear HA
      simp only [match_Match.l0] at H
      by_cases c5 : x35_1 < (l0.length : Int)
      · rw [if_pos c5] at H
        have c5b0 : decide (x35_1 < (l0.length : Int)) = true := decide_eq_true c5
        clear c5
        by_cases c6 : 0 ≤ x35_1
        · rw [if_pos c6] at H
          have c6b0 : decide (0 ≤ x35_1) = true := decide_eq_true c6
          clear c6
          by_cases c7 : x35_1 < (l0.length : Int)
          · rw [if_pos c7] at H
            have c7b0 : decide (x35_1 < (l0.length : Int)) = true := decide_eq_true c7
            clear c7
            replace H := Option.bind_eq_some_iff.mp H
            obtain ⟨t106, A80, H⟩ := H
            replace H : (if t106 = true then ((match_end.f k1 l1 x12_1).bind fun t108 => (if 0 ≤ x12_1 then (if x12_1 ≤ t108 then (if t108 ≤ (l1.length : Int) then ((some ((l1.take (t108 : Int).toNat).drop (x12_1 : Int).toNat : List (S47))).bind fun y109 => (if ((rd_T47 l0 x35_1).f0).size ≤ 9223372036854775807 then (if (mapHas x11_1 ((rd_T47 l0 x35_1).f0) = true) then (if 0 ≤ (mapAt x11_1 ((rd_T47 l0 x35_1).f0)) then (if (mapAt x11_1 ((rd_T47 l0 x35_1).f0)) < (x10_1.length : Int) then ((api_Cell_24.f k1 ((rd_T44 x10_1 (mapAt x11_1 ((rd_T47 l0 x35_1).f0))).f1) y109).bind fun t114 => (if t114 = true then (match_Match.l0 k1 l1 x10_1 x11_1 (wrap64 (x12_1 + (y109.length : Int))) l0 (l0.length : Int) (wrap64 (x35_1 + 1))) else (some (([] : List (S44)), false, 0)))) else (none)) else (none)) else (if x11_1.length < 9223372036854775807 ∧ ((rd_T47 l0 x35_1).f0).size ≤ 9223372036854775807 ∧ 0 ≤ (x10_1.length : Int) ∧ (x10_1.length : Int) ≤ 9223372036854775807 then ((api_Cell_23.f y109).bind fun t118 => (if x10_1.length < 3518437208883 then (match_Match.l0 k1 l1 (x10_1 ++ [(⟨(rd_T47 l0 x35_1).f0, t118⟩ : S44)]) (mapPut x11_1 ((rd_T47 l0 x35_1).f0) (x10_1.length : Int)) (wrap64 (x12_1 + (y109.length : Int))) l0 (l0.length : Int) (wrap64 (x35_1 + 1))) else (none))) else (none))) else (none))) else (none)) else (none)) else (none))) else (if 0 ≤ x12_1 then (if x12_1 < (l1.length : Int) then (if (!((((rd_T47 l1 x12_1).f0).toList) == (((rd_T47 l0 x35_1).f0).toList)) || (!(((rd_T47 l1 x12_1).f1) == ((rd_T47 l0 x35_1).f1)))) = true then (some (([] : List (S44)), false, 0)) else (match_Match.l0 k1 l1 x10_1 x11_1 (wrap64 (x12_1 + 1)) l0 (l0.length : Int) (wrap64 (x35_1 + 1)))) else (none)) else (none))) = some (r1, r2, r3) := H
            have A8 := Aside0.mk A80
            clear A80
            by_cases c9 : t106 = true
            · subst c9
              have H1 : ((match_end.f k1 l1 x12_1).bind fun t108 => (if 0 ≤ x12_1 then (if x12_1 ≤ t108 then (if t108 ≤ (l1.length : Int) then ((some ((l1.take (t108 : Int).toNat).drop (x12_1 : Int).toNat : List (S47))).bind fun y109 => (if ((rd_T47 l0 x35_1).f0).size ≤ 9223372036854775807 then (if (mapHas x11_1 ((rd_T47 l0 x35_1).f0) = true) then (if 0 ≤ (mapAt x11_1 ((rd_T47 l0 x35_1).f0)) then (if (mapAt x11_1 ((rd_T47 l0 x35_1).f0)) < (x10_1.length : Int) then ((api_Cell_24.f k1 ((rd_T44 x10_1 (mapAt x11_1 ((rd_T47 l0 x35_1).f0))).f1) y109).bind fun t114 => (if t114 = true then (match_Match.l0 k1 l1 x10_1 x11_1 (wrap64 (x12_1 + (y109.length : Int))) l0 (l0.length : Int) (wrap64 (x35_1 + 1))) else (some (([] : List (S44)), false, 0)))) else (none)) else (none)) else (if x11_1.length < 9223372036854775807 ∧ ((rd_T47 l0 x35_1).f0).size ≤ 9223372036854775807 ∧ 0 ≤ (x10_1.length : Int) ∧ (x10_1.length : Int) ≤ 9223372036854775807 then ((api_Cell_23.f y109).bind fun t118 => (if x10_1.length < 3518437208883 then (match_Match.l0 k1 l1 (x10_1 ++ [(⟨(rd_T47 l0 x35_1).f0, t118⟩ : S44)]) (mapPut x11_1 ((rd_T47 l0 x35_1).f0) (x10_1.length : Int)) (wrap64 (x12_1 + (y109.length : Int))) l0 (l0.length : Int) (wrap64 (x35_1 + 1))) else (none))) else (none))) else (none))) else (none)) else (none)) else (none))) = some (r1, r2, r3) := by rw [if_pos rfl] at H; exact H
              clear H
              have H := H1
              clear H1
              replace H := Option.bind_eq_some_iff.mp H
              obtain ⟨t108, A100, H⟩ := H
              replace H : (if 0 ≤ x12_1 then (if x12_1 ≤ t108 then (if t108 ≤ (l1.length : Int) then ((some ((l1.take (t108 : Int).toNat).drop (x12_1 : Int).toNat : List (S47))).bind fun y109 => (if ((rd_T47 l0 x35_1).f0).size ≤ 9223372036854775807 then (if (mapHas x11_1 ((rd_T47 l0 x35_1).f0) = true) then (if 0 ≤ (mapAt x11_1 ((rd_T47 l0 x35_1).f0)) then (if (mapAt x11_1 ((rd_T47 l0 x35_1).f0)) < (x10_1.length : Int) then ((api_Cell_24.f k1 ((rd_T44 x10_1 (mapAt x11_1 ((rd_T47 l0 x35_1).f0))).f1) y109).bind fun t114 => (if t114 = true then (match_Match.l0 k1 l1 x10_1 x11_1 (wrap64 (x12_1 + (y109.length : Int))) l0 (l0.length : Int) (wrap64 (x35_1 + 1))) else (some (([] : List (S44)), false, 0)))) else (none)) else (none)) else (if x11_1.length < 9223372036854775807 ∧ ((rd_T47 l0 x35_1).f0).size ≤ 9223372036854775807 ∧ 0 ≤ (x10_1.length : Int) ∧ (x10_1.length : Int) ≤ 9223372036854775807 then ((api_Cell_23.f y109).bind fun t118 => (if x10_1.length < 3518437208883 then (match_Match.l0 k1 l1 (x10_1 ++ [(⟨(rd_T47 l0 x35_1).f0, t118⟩ : S44)]) (mapPut x11_1 ((rd_T47 l0 x35_1).f0) (x10_1.length : Int)) (wrap64 (x12_1 + (y109.length : Int))) l0 (l0.length : Int) (wrap64 (x35_1 + 1))) else (none))) else (none))) else (none))) else (none)) else (none)) else (none)) = some (r1, r2, r3) := H
              have A10 := Aside0.mk A100
              clear A100
              by_cases c11 : 0 ≤ x12_1
              · rw [if_pos c11] at H
                have c11b0 := eq_true c11
                have c11b1 : decide (0 ≤ x12_1) = true := decide_eq_true c11
                clear c11
                by_cases c12 : x12_1 ≤ t108
                · rw [if_pos c12] at H
                  have c12b0 := eq_true c12
                  have c12b1 : decide (x12_1 ≤ t108) = true := decide_eq_true c12
                  clear c12
                  by_cases c13 : t108 ≤ (l1.length : Int)
                  · rw [if_pos c13] at H
                    have c13b0 := eq_true c13
                    have c13b1 : decide (t108 ≤ (l1.length : Int)) = true := decide_eq_true c13
                    clear c13
                    obtain ⟨y109, hy109⟩ : ∃ y_ : List (S47), y_ = ((l1.take (t108 : Int).toNat).drop (x12_1 : Int).toNat) := ⟨_, rfl⟩
                    replace H : (if ((rd_T47 l0 x35_1).f0).size ≤ 9223372036854775807 then (if (mapHas x11_1 ((rd_T47 l0 x35_1).f0) = true) then (if 0 ≤ (mapAt x11_1 ((rd_T47 l0 x35_1).f0)) then (if (mapAt x11_1 ((rd_T47 l0 x35_1).f0)) < (x10_1.length : Int) then ((api_Cell_24.f k1 ((rd_T44 x10_1 (mapAt x11_1 ((rd_T47 l0 x35_1).f0))).f1) y109).bind fun t114 => (if t114 = true then (match_Match.l0 k1 l1 x10_1 x11_1 (wrap64 (x12_1 + (y109.length : Int))) l0 (l0.length : Int) (wrap64 (x35_1 + 1))) else (some (([] : List (S44)), false, 0)))) else (none)) else (none)) else (if x11_1.length < 9223372036854775807 ∧ ((rd_T47 l0 x35_1).f0).size ≤ 9223372036854775807 ∧ 0 ≤ (x10_1.length : Int) ∧ (x10_1.length : Int) ≤ 9223372036854775807 then ((api_Cell_23.f y109).bind fun t118 => (if x10_1.length < 3518437208883 then (match_Match.l0 k1 l1 (x10_1 ++ [(⟨(rd_T47 l0 x35_1).f0, t118⟩ : S44)]) (mapPut x11_1 ((rd_T47 l0 x35_1).f0) (x10_1.length : Int)) (wrap64 (x12_1 + (y109.length : Int))) l0 (l0.length : Int) (wrap64 (x35_1 + 1))) else (none))) else (none))) else (none)) = some (r1, r2, r3) := by first | (rw [hy109]; with_reducible exact H) | (have H2_ := (Option.bind_some _ _).symm.trans H; rw [hy109]; with_reducible exact H2_) | (have H2_ := (Option.bind_some _ _).symm.trans H; with_reducible exact H2_) | with_reducible exact H | (rw [hy109]; exact H) | exact H
                    have Ny109 := Aside0.mk hy109
                    clear hy109
                    by_cases c14 : ((rd_T47 l0 x35_1).f0).size ≤ 9223372036854775807
                    · rw [if_pos c14] at H
                      have LMc14 := Aside0.mk c14
                      clear c14
                      by_cases c15 : (mapHas x11_1 ((rd_T47 l0 x35_1).f0) = true)
                      · rw [if_pos c15] at H
                        have c15b0 : mapHas x11_1 ((rd_T47 l0 x35_1).f0) = true := c15
                        clear c15
                        by_cases c16 : 0 ≤ (mapAt x11_1 ((rd_T47 l0 x35_1).f0))
                        · rw [if_pos c16] at H
                          have c16b0 : decide (0 ≤ (mapAt x11_1 ((rd_T47 l0 x35_1).f0))) = true := decide_eq_true c16
                          clear c16
                          by_cases c17 : (mapAt x11_1 ((rd_T47 l0 x35_1).f0)) < (x10_1.length : Int)
                          · rw [if_pos c17] at H
                            have c17b0 : decide ((mapAt x11_1 ((rd_T47 l0 x35_1).f0)) < (x10_1.length : Int)) = true := decide_eq_true c17
                            clear c17
                            replace H := Option.bind_eq_some_iff.mp H
                            obtain ⟨t114, A180, H⟩ := H
                            replace H : (if t114 = true then (match_Match.l0 k1 l1 x10_1 x11_1 (wrap64 (x12_1 + (y109.length : Int))) l0 (l0.length : Int) (wrap64 (x35_1 + 1))) else (some (([] : List (S44)), false, 0))) = some (r1, r2, r3) := H
                            have A18 := Aside0.mk A180
                            clear A180
                            by_cases c19 : t114 = true
                            · subst c19
                              have H1 : (match_Match.l0 k1 l1 x10_1 x11_1 (wrap64 (x12_1 + (y109.length : Int))) l0 (l0.length : Int) (wrap64 (x35_1 + 1))) = some (r1, r2, r3) := by rw [if_pos rfl] at H; exact H
                              clear H
                              have H := H1
                              clear H1
                              have H' := Aside0.mk H
                              clear H
                              have p104 : 0 ≤ (x35_1 : Int) := of_decide_eq_true (by first | (with_reducible assumption) | assumption)
                              have q104 : x35_1 < (l0.length : Int) := of_decide_eq_true (by first | (with_reducible assumption) | assumption)
                              obtain ⟨ad104, e104, hx104_0, hx104_1⟩ := at_T47 HR0.out x35_1 p104 q104
                              cases e104
                              replace hx104_0 := (HB.out.cell (World.block_lt_of_cell? w _ hx104_0)).trans hx104_0
                              replace hx104_1 := (HB.out.cell (World.block_lt_of_cell? w _ hx104_1)).trans hx104_1
                              replace p104 := eq_true p104
                              replace q104 := eq_true q104
                              go_wp2_with (first | ((with_reducible refine gate_dst (N := 14) rfl ?_); refine box_event ?hg (N := 14) ?hd (cs := #[.string (⟨#[]⟩ : ByteArray), .int .i64 0]) (t := 47) ?hr ?_; (case hd => rfl); (case hg => rfl); (case hr => first | (go_simp; done) | (go_simp; rfl)); intro gb105 hg w20 hbox hb; have n0_ := Aside0.mk (Kd.S_below (Kd.S_elderB (by (with_reducible repeat (first | apply Kd.S_alloc | apply Kd.S_drewN | apply Kd.S_drew)); exact HO_10.out) gb105 (Nat.le_of_eq hg.symm)) hb); have n1_ := Aside0.mk (Kd.P_below (by (with_reducible repeat (first | apply Kd.P_alloc | apply Kd.P_drewN | apply Kd.P_drew)); exact HO_11.out) hb); have n2_ := Aside0.mk (below_step (by repeat (first | (with_reducible first | exact HB.out | apply below_alloc | apply pw_below_drewN | apply below_drew1) | exact HB.out)) hb); have n3_ := Aside0.mk (hbox); have n4_ := Aside0.mk ((by rw [hg]; exact (below_size (by repeat (first | (with_reducible first | exact HB.out | apply below_alloc | apply pw_below_drewN | apply below_drew1) | exact HB.out))) : w.heap.size ≤ gb105)); have n5_ := Aside0.mk ((by rw [hg]; exact (below_size (by repeat (first | (with_reducible first | exact HB.out | apply below_alloc | apply pw_below_drewN | apply below_drew1) | exact HB.out))) : w.heap.size ≤ gb105)); clear HO_10; clear HO_11; clear HB; have HO_10 := n0_; have HO_11 := n1_; have HB := n2_; have BK105 := n3_; have GW105 := n4_; have GE105 := n5_; clear n0_ n1_ n2_ n3_ n4_ n5_; clear hb hbox hg; have hcz21_0 : w20.cell? ⟨gb105, 0, none⟩ = some (.string (⟨#[]⟩ : ByteArray)) := (blk_cell BK105.out 0).trans rfl; have hcz21_1 : w20.cell? ⟨gb105, 1, none⟩ = some (.int .i64 0) := (blk_cell BK105.out 1).trans rfl; have hfz21_0 := blk_frozen BK105.out 0; have hfz21_1 := blk_frozen BK105.out 1) | ((with_reducible refine gate_callee (f := 21) rfl ?_); refine goesL_ (some 40) rfl rfl Try.func21 (by kernel_rfl) rfl #[.agg #[.string ((rd_T47 l0 x35_1).f0), .int .i64 ((rd_T47 l0 x35_1).f1)]] rfl (by (try simp only [List.map_toArray, List.map_cons, List.map_nil]); first | done | rfl | (simp only [List.length_drop, List.length_take]; rfl)) ?_; (with_reducible refine (match_variable.calls k1 ((rd_T47 l0 x35_1).f0) ((rd_T47 l0 x35_1).f1) true _ A8.out).mono ?_); rintro e w22 ⟨rfl, hb⟩; refine ⟨_, rfl, ?_⟩; have n0_ := Aside0.mk (Kd.S_below (by (with_reducible repeat (first | apply Kd.S_alloc | apply Kd.S_drewN | apply Kd.S_drew)); exact (Kd.S_mono (Kd.S_far (p := ⟨gb105, 1, none⟩) (Kd.S_far (p := ⟨gb105, 0, none⟩) (Kd.S_mono HO_10.out (fun k_ hk => (⟨hk, hk.2⟩ : _ ∧ k_ ≠ gb105))) (fun _ hk => hk.2) (.string ((rd_T47 l0 x35_1).f0))) (fun _ hk => hk.2) (.int .i64 ((rd_T47 l0 x35_1).f1))) (fun _ h_ => h_.1))) hb); have n1_ := Aside0.mk (Kd.P_below (by (with_reducible repeat (first | apply Kd.P_alloc | apply Kd.P_drewN | apply Kd.P_drew)); exact (Kd.P_mono (Kd.P_far (p := ⟨gb105, 1, none⟩) (Kd.P_far (p := ⟨gb105, 0, none⟩) (Kd.P_types HO_11.out BK105.out (by decide)) (fun _ hk => hk.2) (.string ((rd_T47 l0 x35_1).f0))) (fun _ hk => hk.2) (.int .i64 ((rd_T47 l0 x35_1).f1))) (fun _ h_ => h_.1))) hb); have n2_ := Aside0.mk (blk_below (g := gb105) (o := .cells #[.string ((rd_T47 l0 x35_1).f0), .int .i64 ((rd_T47 l0 x35_1).f1)] 47 (0, 0)) (by (with_reducible repeat (first | refine blk_drewN ?_ _ | refine blk_drew ?_ | refine blk_alloc ?_ _)); refine blk_put (cs := #[.string ((rd_T47 l0 x35_1).f0), .int .i64 0]) ?_ 1 _ rfl; (with_reducible repeat (first | refine blk_drewN ?_ _ | refine blk_drew ?_ | refine blk_alloc ?_ _)); refine blk_put (cs := #[.string (⟨#[]⟩ : ByteArray), .int .i64 0]) ?_ 0 _ rfl; (with_reducible repeat (first | refine blk_drewN ?_ _ | refine blk_drew ?_ | refine blk_alloc ?_ _)); exact BK105.out) hb); have n3_ := Aside0.mk (below_step (by repeat (first | (with_reducible first | exact HB.out | apply below_alloc | apply pw_below_drewN | apply below_drew1 | refine below_set ?_ GE105.out) | exact HB.out)) hb); clear HO_10; clear HO_11; clear BK105; clear HB; have HO_10 := n0_; have HO_11 := n1_; have BK105 := n2_; have HB := n3_; clear n0_ n1_ n2_ n3_; (try clear hb); (try clear hb2); (try clear hk); (try clear hi)) | ((with_reducible refine gate_callee (f := 22) rfl ?_); refine goesL_ (some 54) rfl rfl Try.func22 (by kernel_rfl) rfl #[.slice A1 l1.length c1, .int .i64 x12_1] rfl (by (try simp only [List.map_toArray, List.map_cons, List.map_nil]); first | done | rfl | (simp only [List.length_drop, List.length_take]; rfl)) ?_; (with_reducible refine (match_end.calls k1 _ _ l1 x12_1 t108 _ ?side1 ?side2 A10.out).mono ?_); (case side1 => repeat (first | exact (Kd.C_below HR1.out HB.out) | (with_reducible refine Kd.C_alloc ?_ _) | (with_reducible refine Kd.C_drewN ?_ _) | (with_reducible refine Kd.C_drew ?_))); (case side2 => exact HC1.out); rintro e w' ⟨rfl, ⟨nd, rfl⟩⟩; refine ⟨_, rfl, ?_⟩; have q23 : (t108 : Int) ≤ ((l1.length : Int) : Int) := of_decide_eq_true (by first | (with_reducible assumption) | assumption); obtain ⟨i023, hi023, _, hsz23, _⟩ := info_parts info47; have hroom23 : l1.length ≤ c1 := HC1.out; have hC23 : Kd.C k47 _ A1 l1.length l1 := HR1.out; have ql23 : (x12_1 : Int) ≤ (t108 : Int) := of_decide_eq_true (by first | (with_reducible assumption) | assumption); have q023 : (0 : Int) ≤ (x12_1 : Int) := of_decide_eq_true (by first | (with_reducible assumption) | assumption); have hcut23 := cut_mid (P := Try.prog) 23 47 .i64 .i64 Try.underlying23 hi023 2 hsz23 A1 l1.length c1 x12_1 t108 q023 ql23 q23 hroom23; have hr23 := Kd.C_mid (lo := (x12_1 : Int).toNat) (hi := (t108 : Int).toNat) (c := c1) hC23 (by omega) (by omega) hroom23; obtain ⟨A23, hA23⟩ : ∃ Aq_, Aq_ = (if c1 = (x12_1 : Int).toNat then A1 else (A1 : Option Addr).map (·.add ((x12_1 : Int).toNat * 2))) := ⟨_, rfl⟩; obtain ⟨c23, hc23⟩ : ∃ cq_, cq_ = c1 - (x12_1 : Int).toNat := ⟨_, rfl⟩; have hy23 : y109.length = (t108 : Int).toNat - (x12_1 : Int).toNat := (by rw [Ny109.out, List.length_drop, List.length_take] <;> omega); rw [show ((l1).take (t108 : Int).toNat).drop (x12_1 : Int).toNat = y109 from Ny109.out.symm] at hr23; replace hr23 : Kd.C k47 _ A23 y109.length y109 := (by rw [hA23]; exact hr23); rw [← hy23, ← hA23, ← hc23] at hcut23; have HR112 := Aside0.mk hr23; have HC112 := Aside0.mk (show y109.length ≤ c23 from by rw [hy23, hc23]; exact Nat.sub_le_sub_right (Nat.le_trans (by omega) hroom23) _); clear hr23 hC23 hroom23 hi023 hsz23 hc23; have KY23 := Aside0.mk hy23; have KA23 := Aside0.mk hA23; clear hy23 hA23; replace q23 := eq_true q23; have hcz24_0 : w22.cell? ⟨gb105, 0, none⟩ = some (.string ((rd_T47 l0 x35_1).f0)) := (blk_cell BK105.out 0).trans rfl; have hcz24_1 : w22.cell? ⟨gb105, 1, none⟩ = some (.int .i64 ((rd_T47 l0 x35_1).f1)) := (blk_cell BK105.out 1).trans rfl; have hfz24_0 := blk_frozen BK105.out 0; have hfz24_1 := blk_frozen BK105.out 1; obtain ⟨Ao25, co25, eo25⟩ := Kd.S_slice HO_10.out; subst eo25; have p113 : 0 ≤ ((mapAt x11_1 ((rd_T47 l0 x35_1).f0)) : Int) := of_decide_eq_true (by first | (with_reducible assumption) | assumption); have q113 : (mapAt x11_1 ((rd_T47 l0 x35_1).f0)) < (x10_1.length : Int) := of_decide_eq_true (by first | (with_reducible assumption) | assumption); obtain ⟨ad113, A113_1, c113_1, e113, hx113_0, hx113_1, hl113_1, hi113_1⟩ := at_T44 (Kd.S_reads' HO_10.out).2.2 (mapAt x11_1 ((rd_T47 l0 x35_1).f0)) p113 q113; cases e113; obtain ⟨ce113, hce113, hMe113, hcc113⟩ := Kd.S_get HO_10.out z44 (mapAt x11_1 ((rd_T47 l0 x35_1).f0)) p113 (by first | exact q113 | exact of_decide_eq_true (by first | (with_reducible assumption) | assumption) | (have e_ := (Kd.S_reads' HO_10.out).1; omega)); obtain ⟨ve113_1, rfl, ge113_1⟩ := k44_openM hMe113; have hv113_1 := hcc113 1 _ rfl; rw [add_field _ _ 1 (by omega)] at hv113_1; replace hv113_1 := Option.some.inj (hv113_1.symm.trans hx113_1); rw [hv113_1] at ge113_1; have HL113_1 := Aside0.mk (show Kd.R k47 47 _ _ _ _ ((rd_T44 x10_1 (mapAt x11_1 ((rd_T47 l0 x35_1).f0))).f1) from ge113_1); clear hv113_1 ge113_1; clear hcc113 hce113; have HR113_1 := Aside0.mk hi113_1; have HC113_1 := Aside0.mk hl113_1; clear hi113_1 hl113_1; replace p113 := eq_true p113; replace q113 := eq_true q113) | ((with_reducible refine gate_dst (N := 64) rfl ?_); refine Kd.P_look (v := v102) (m := x11_1) (s := ((rd_T47 l0 x35_1).f0)) rfl rfl rfl rfl LMc14.out (by (with_reducible repeat (first | apply Kd.P_alloc | apply Kd.P_drewN | apply Kd.P_drew)); exact HO_11.out) ?_) | ((with_reducible refine gate_callee (f := 24) rfl ?_); refine goesL_ (some 90) rfl rfl Try.func24 (by kernel_rfl) rfl #[.slice A113_1 ((rd_T44 x10_1 (mapAt x11_1 ((rd_T47 l0 x35_1).f0))).f1).length c113_1, .slice A23 y109.length c23] rfl (by (try simp only [List.map_toArray, List.map_cons, List.map_nil]); first | done | rfl | (simp only [List.length_drop, List.length_take]; rfl)) ?_; (with_reducible refine (api_Cell_24.calls k1 _ _ ((rd_T44 x10_1 (mapAt x11_1 ((rd_T47 l0 x35_1).f0))).f1) _ _ y109 true _ ?side1 ?side2 ?side3 ?side4 A18.out).mono ?_); (case side1 => repeat (first | exact (by repeat (first | (with_reducible exact HR113_1.out) | (with_reducible refine Kd.C_alloc ?_ _) | (with_reducible refine Kd.C_drewN ?_ _) | (with_reducible refine Kd.C_drew ?_) | exact HR113_1.out)) | (with_reducible refine Kd.C_alloc ?_ _) | (with_reducible refine Kd.C_drewN ?_ _) | (with_reducible refine Kd.C_drew ?_))); (case side2 => exact HC113_1.out); (case side3 => repeat (first | exact (Kd.C_below HR112.out (by repeat (first | (with_reducible first | exact HB.out | apply below_alloc | apply pw_below_drewN | apply below_drew1 | refine below_set ?_ GE105.out) | exact HB.out))) | (with_reducible refine Kd.C_alloc ?_ _) | (with_reducible refine Kd.C_drewN ?_ _) | (with_reducible refine Kd.C_drew ?_))); (case side4 => exact HC112.out); rintro e w' ⟨rfl, ⟨nd, rfl⟩⟩; refine ⟨_, rfl, ?_⟩))
                              go_roundg k1
                              case measure => have := HK1.out; omega
                              case rel => exact ⟨(x10_1), (x11_1), (wrap64 (x12_1 + (y109.length : Int))), (wrap64 (x35_1 + 1)), (by first | rfl | (simp; done) | (simp [*]; done)), (by first | rfl | (simp; done) | (simp [*]; done)), H', ⟨by have := HK1.out; omega⟩, ⟨by (with_reducible repeat (first | apply Kd.S_alloc | apply Kd.S_drewN | apply Kd.S_drew)); exact Kd.S_mono HO_10.out (fun _ hk => trivial)⟩, ⟨by (with_reducible repeat (first | apply Kd.P_alloc | apply Kd.P_drewN | apply Kd.P_drew)); exact HO_11.out⟩, ⟨by repeat (first | (with_reducible first | exact HB.out | apply below_alloc | apply pw_below_drewN | apply below_drew1 | refine below_set ?_ GE105.out) | exact HB.out)⟩⟩
                            · replace c19 := Bool.eq_false_iff.mpr c19
                              subst c19
                              have H1 : (some (([] : List (S44)), false, 0)) = some (r1, r2, r3) := by rw [if_neg (show ¬ (false = true) by decide)] at H; exact H
                              clear H
                              have H := H1
                              clear H1
                              simp only [Option.some.injEq, Prod.mk.injEq] at H
                              obtain ⟨rfl, rfl, rfl⟩ := H
                              have p104 : 0 ≤ (x35_1 : Int) := of_decide_eq_true (by first | (with_reducible assumption) | assumption)
                              have q104 : x35_1 < (l0.length : Int) := of_decide_eq_true (by first | (with_reducible assumption) | assumption)
                              obtain ⟨ad104, e104, hx104_0, hx104_1⟩ := at_T47 HR0.out x35_1 p104 q104
                              cases e104
                              replace hx104_0 := (HB.out.cell (World.block_lt_of_cell? w _ hx104_0)).trans hx104_0
                              replace hx104_1 := (HB.out.cell (World.block_lt_of_cell? w _ hx104_1)).trans hx104_1
                              replace p104 := eq_true p104
                              replace q104 := eq_true q104
                              go_wp2_with (first | ((with_reducible refine gate_dst (N := 14) rfl ?_); refine box_event ?hg (N := 14) ?hd (cs := #[.string (⟨#[]⟩ : ByteArray), .int .i64 0]) (t := 47) ?hr ?_; (case hd => rfl); (case hg => rfl); (case hr => first | (go_simp; done) | (go_simp; rfl)); intro gb105 hg w26 hbox hb; have n0_ := Aside0.mk (Kd.S_below (Kd.S_elderB (by (with_reducible repeat (first | apply Kd.S_alloc | apply Kd.S_drewN | apply Kd.S_drew)); exact HO_10.out) gb105 (Nat.le_of_eq hg.symm)) hb); have n1_ := Aside0.mk (Kd.P_below (by (with_reducible repeat (first | apply Kd.P_alloc | apply Kd.P_drewN | apply Kd.P_drew)); exact HO_11.out) hb); have n2_ := Aside0.mk (below_step (by repeat (first | (with_reducible first | exact HB.out | apply below_alloc | apply pw_below_drewN | apply below_drew1) | exact HB.out)) hb); have n3_ := Aside0.mk (hbox); have n4_ := Aside0.mk ((by rw [hg]; exact (below_size (by repeat (first | (with_reducible first | exact HB.out | apply below_alloc | apply pw_below_drewN | apply below_drew1) | exact HB.out))) : w.heap.size ≤ gb105)); have n5_ := Aside0.mk ((by rw [hg]; exact (below_size (by repeat (first | (with_reducible first | exact HB.out | apply below_alloc | apply pw_below_drewN | apply below_drew1) | exact HB.out))) : w.heap.size ≤ gb105)); clear HO_10; clear HO_11; clear HB; have HO_10 := n0_; have HO_11 := n1_; have HB := n2_; have BK105 := n3_; have GW105 := n4_; have GE105 := n5_; clear n0_ n1_ n2_ n3_ n4_ n5_; clear hb hbox hg; have hcz27_0 : w26.cell? ⟨gb105, 0, none⟩ = some (.string (⟨#[]⟩ : ByteArray)) := (blk_cell BK105.out 0).trans rfl; have hcz27_1 : w26.cell? ⟨gb105, 1, none⟩ = some (.int .i64 0) := (blk_cell BK105.out 1).trans rfl; have hfz27_0 := blk_frozen BK105.out 0; have hfz27_1 := blk_frozen BK105.out 1) | ((with_reducible refine gate_callee (f := 21) rfl ?_); refine goesL_ (some 40) rfl rfl Try.func21 (by kernel_rfl) rfl #[.agg #[.string ((rd_T47 l0 x35_1).f0), .int .i64 ((rd_T47 l0 x35_1).f1)]] rfl (by (try simp only [List.map_toArray, List.map_cons, List.map_nil]); first | done | rfl | (simp only [List.length_drop, List.length_take]; rfl)) ?_; (with_reducible refine (match_variable.calls k1 ((rd_T47 l0 x35_1).f0) ((rd_T47 l0 x35_1).f1) true _ A8.out).mono ?_); rintro e w28 ⟨rfl, hb⟩; refine ⟨_, rfl, ?_⟩; have n0_ := Aside0.mk (Kd.S_below (by (with_reducible repeat (first | apply Kd.S_alloc | apply Kd.S_drewN | apply Kd.S_drew)); exact (Kd.S_mono (Kd.S_far (p := ⟨gb105, 1, none⟩) (Kd.S_far (p := ⟨gb105, 0, none⟩) (Kd.S_mono HO_10.out (fun k_ hk => (⟨hk, hk.2⟩ : _ ∧ k_ ≠ gb105))) (fun _ hk => hk.2) (.string ((rd_T47 l0 x35_1).f0))) (fun _ hk => hk.2) (.int .i64 ((rd_T47 l0 x35_1).f1))) (fun _ h_ => h_.1))) hb); have n1_ := Aside0.mk (Kd.P_below (by (with_reducible repeat (first | apply Kd.P_alloc | apply Kd.P_drewN | apply Kd.P_drew)); exact (Kd.P_mono (Kd.P_far (p := ⟨gb105, 1, none⟩) (Kd.P_far (p := ⟨gb105, 0, none⟩) (Kd.P_types HO_11.out BK105.out (by decide)) (fun _ hk => hk.2) (.string ((rd_T47 l0 x35_1).f0))) (fun _ hk => hk.2) (.int .i64 ((rd_T47 l0 x35_1).f1))) (fun _ h_ => h_.1))) hb); have n2_ := Aside0.mk (blk_below (g := gb105) (o := .cells #[.string ((rd_T47 l0 x35_1).f0), .int .i64 ((rd_T47 l0 x35_1).f1)] 47 (0, 0)) (by (with_reducible repeat (first | refine blk_drewN ?_ _ | refine blk_drew ?_ | refine blk_alloc ?_ _)); refine blk_put (cs := #[.string ((rd_T47 l0 x35_1).f0), .int .i64 0]) ?_ 1 _ rfl; (with_reducible repeat (first | refine blk_drewN ?_ _ | refine blk_drew ?_ | refine blk_alloc ?_ _)); refine blk_put (cs := #[.string (⟨#[]⟩ : ByteArray), .int .i64 0]) ?_ 0 _ rfl; (with_reducible repeat (first | refine blk_drewN ?_ _ | refine blk_drew ?_ | refine blk_alloc ?_ _)); exact BK105.out) hb); have n3_ := Aside0.mk (below_step (by repeat (first | (with_reducible first | exact HB.out | apply below_alloc | apply pw_below_drewN | apply below_drew1 | refine below_set ?_ GE105.out) | exact HB.out)) hb); clear HO_10; clear HO_11; clear BK105; clear HB; have HO_10 := n0_; have HO_11 := n1_; have BK105 := n2_; have HB := n3_; clear n0_ n1_ n2_ n3_; (try clear hb); (try clear hb2); (try clear hk); (try clear hi)) | ((with_reducible refine gate_callee (f := 22) rfl ?_); refine goesL_ (some 54) rfl rfl Try.func22 (by kernel_rfl) rfl #[.slice A1 l1.length c1, .int .i64 x12_1] rfl (by (try simp only [List.map_toArray, List.map_cons, List.map_nil]); first | done | rfl | (simp only [List.length_drop, List.length_take]; rfl)) ?_; (with_reducible refine (match_end.calls k1 _ _ l1 x12_1 t108 _ ?side1 ?side2 A10.out).mono ?_); (case side1 => repeat (first | exact (Kd.C_below HR1.out HB.out) | (with_reducible refine Kd.C_alloc ?_ _) | (with_reducible refine Kd.C_drewN ?_ _) | (with_reducible refine Kd.C_drew ?_))); (case side2 => exact HC1.out); rintro e w' ⟨rfl, ⟨nd, rfl⟩⟩; refine ⟨_, rfl, ?_⟩; have q29 : (t108 : Int) ≤ ((l1.length : Int) : Int) := of_decide_eq_true (by first | (with_reducible assumption) | assumption); obtain ⟨i029, hi029, _, hsz29, _⟩ := info_parts info47; have hroom29 : l1.length ≤ c1 := HC1.out; have hC29 : Kd.C k47 _ A1 l1.length l1 := HR1.out; have ql29 : (x12_1 : Int) ≤ (t108 : Int) := of_decide_eq_true (by first | (with_reducible assumption) | assumption); have q029 : (0 : Int) ≤ (x12_1 : Int) := of_decide_eq_true (by first | (with_reducible assumption) | assumption); have hcut29 := cut_mid (P := Try.prog) 23 47 .i64 .i64 Try.underlying23 hi029 2 hsz29 A1 l1.length c1 x12_1 t108 q029 ql29 q29 hroom29; have hr29 := Kd.C_mid (lo := (x12_1 : Int).toNat) (hi := (t108 : Int).toNat) (c := c1) hC29 (by omega) (by omega) hroom29; obtain ⟨A29, hA29⟩ : ∃ Aq_, Aq_ = (if c1 = (x12_1 : Int).toNat then A1 else (A1 : Option Addr).map (·.add ((x12_1 : Int).toNat * 2))) := ⟨_, rfl⟩; obtain ⟨c29, hc29⟩ : ∃ cq_, cq_ = c1 - (x12_1 : Int).toNat := ⟨_, rfl⟩; have hy29 : y109.length = (t108 : Int).toNat - (x12_1 : Int).toNat := (by rw [Ny109.out, List.length_drop, List.length_take] <;> omega); rw [show ((l1).take (t108 : Int).toNat).drop (x12_1 : Int).toNat = y109 from Ny109.out.symm] at hr29; replace hr29 : Kd.C k47 _ A29 y109.length y109 := (by rw [hA29]; exact hr29); rw [← hy29, ← hA29, ← hc29] at hcut29; have HR112 := Aside0.mk hr29; have HC112 := Aside0.mk (show y109.length ≤ c29 from by rw [hy29, hc29]; exact Nat.sub_le_sub_right (Nat.le_trans (by omega) hroom29) _); clear hr29 hC29 hroom29 hi029 hsz29 hc29; have KY29 := Aside0.mk hy29; have KA29 := Aside0.mk hA29; clear hy29 hA29; replace q29 := eq_true q29; have hcz30_0 : w28.cell? ⟨gb105, 0, none⟩ = some (.string ((rd_T47 l0 x35_1).f0)) := (blk_cell BK105.out 0).trans rfl; have hcz30_1 : w28.cell? ⟨gb105, 1, none⟩ = some (.int .i64 ((rd_T47 l0 x35_1).f1)) := (blk_cell BK105.out 1).trans rfl; have hfz30_0 := blk_frozen BK105.out 0; have hfz30_1 := blk_frozen BK105.out 1; obtain ⟨Ao31, co31, eo31⟩ := Kd.S_slice HO_10.out; subst eo31; have p113 : 0 ≤ ((mapAt x11_1 ((rd_T47 l0 x35_1).f0)) : Int) := of_decide_eq_true (by first | (with_reducible assumption) | assumption); have q113 : (mapAt x11_1 ((rd_T47 l0 x35_1).f0)) < (x10_1.length : Int) := of_decide_eq_true (by first | (with_reducible assumption) | assumption); obtain ⟨ad113, A113_1, c113_1, e113, hx113_0, hx113_1, hl113_1, hi113_1⟩ := at_T44 (Kd.S_reads' HO_10.out).2.2 (mapAt x11_1 ((rd_T47 l0 x35_1).f0)) p113 q113; cases e113; obtain ⟨ce113, hce113, hMe113, hcc113⟩ := Kd.S_get HO_10.out z44 (mapAt x11_1 ((rd_T47 l0 x35_1).f0)) p113 (by first | exact q113 | exact of_decide_eq_true (by first | (with_reducible assumption) | assumption) | (have e_ := (Kd.S_reads' HO_10.out).1; omega)); obtain ⟨ve113_1, rfl, ge113_1⟩ := k44_openM hMe113; have hv113_1 := hcc113 1 _ rfl; rw [add_field _ _ 1 (by omega)] at hv113_1; replace hv113_1 := Option.some.inj (hv113_1.symm.trans hx113_1); rw [hv113_1] at ge113_1; have HL113_1 := Aside0.mk (show Kd.R k47 47 _ _ _ _ ((rd_T44 x10_1 (mapAt x11_1 ((rd_T47 l0 x35_1).f0))).f1) from ge113_1); clear hv113_1 ge113_1; clear hcc113 hce113; have HR113_1 := Aside0.mk hi113_1; have HC113_1 := Aside0.mk hl113_1; clear hi113_1 hl113_1; replace p113 := eq_true p113; replace q113 := eq_true q113) | ((with_reducible refine gate_dst (N := 64) rfl ?_); refine Kd.P_look (v := v102) (m := x11_1) (s := ((rd_T47 l0 x35_1).f0)) rfl rfl rfl rfl LMc14.out (by (with_reducible repeat (first | apply Kd.P_alloc | apply Kd.P_drewN | apply Kd.P_drew)); exact HO_11.out) ?_) | ((with_reducible refine gate_callee (f := 24) rfl ?_); refine goesL_ (some 90) rfl rfl Try.func24 (by kernel_rfl) rfl #[.slice A113_1 ((rd_T44 x10_1 (mapAt x11_1 ((rd_T47 l0 x35_1).f0))).f1).length c113_1, .slice A29 y109.length c29] rfl (by (try simp only [List.map_toArray, List.map_cons, List.map_nil]); first | done | rfl | (simp only [List.length_drop, List.length_take]; rfl)) ?_; (with_reducible refine (api_Cell_24.calls k1 _ _ ((rd_T44 x10_1 (mapAt x11_1 ((rd_T47 l0 x35_1).f0))).f1) _ _ y109 false _ ?side1 ?side2 ?side3 ?side4 A18.out).mono ?_); (case side1 => repeat (first | exact (by repeat (first | (with_reducible exact HR113_1.out) | (with_reducible refine Kd.C_alloc ?_ _) | (with_reducible refine Kd.C_drewN ?_ _) | (with_reducible refine Kd.C_drew ?_) | exact HR113_1.out)) | (with_reducible refine Kd.C_alloc ?_ _) | (with_reducible refine Kd.C_drewN ?_ _) | (with_reducible refine Kd.C_drew ?_))); (case side2 => exact HC113_1.out); (case side3 => repeat (first | exact (Kd.C_below HR112.out (by repeat (first | (with_reducible first | exact HB.out | apply below_alloc | apply pw_below_drewN | apply below_drew1 | refine below_set ?_ GE105.out) | exact HB.out))) | (with_reducible refine Kd.C_alloc ?_ _) | (with_reducible refine Kd.C_drewN ?_ _) | (with_reducible refine Kd.C_drew ?_))); (case side4 => exact HC112.out); rintro e w' ⟨rfl, ⟨nd, rfl⟩⟩; refine ⟨_, rfl, ?_⟩))
                              go_ret3
                              exact ⟨_, by first | rfl | (simp [errW_none, errW_some] <;> rfl) | (simp [*, errW_none, errW_some] <;> rfl), by first | exact Kd.S_nil _ _ _ _ _ | exact Kd.N_nil _ _ _ _ _ | exact Kd.V_nil _ _ _ _ _ | exact Kd.Q_nil _ _ _ _ _ | exact Kd.R_nil _ _ _ _ _, by repeat (first | (with_reducible first | exact HB.out | apply below_alloc | apply pw_below_drewN | apply below_drew1 | refine below_set ?_ GE105.out) | exact HB.out)⟩
                          · rw [if_neg c17] at H
                            exact absurd H (by simp)
                        · rw [if_neg c16] at H
                          exact absurd H (by simp)
                      · rw [if_neg c15] at H
                        have c15b0 : mapHas x11_1 ((rd_T47 l0 x35_1).f0) = false := by simpa using c15
                        clear c15
                        by_cases c32 : x11_1.length < 9223372036854775807 ∧ ((rd_T47 l0 x35_1).f0).size ≤ 9223372036854775807 ∧ 0 ≤ (x10_1.length : Int) ∧ (x10_1.length : Int) ≤ 9223372036854775807
                        · rw [if_pos c32] at H
                          have LMc32 := Aside0.mk c32
                          clear c32
                          obtain ⟨y115, hy115⟩ : ∃ y_ : List (S47), y_ = (mapPut x11_1 ((rd_T47 l0 x35_1).f0) (x10_1.length : Int)) := ⟨_, rfl⟩
                          replace H : ((api_Cell_23.f y109).bind fun t118 => (if x10_1.length < 3518437208883 then (match_Match.l0 k1 l1 (x10_1 ++ [(⟨(rd_T47 l0 x35_1).f0, t118⟩ : S44)]) y115 (wrap64 (x12_1 + (y109.length : Int))) l0 (l0.length : Int) (wrap64 (x35_1 + 1))) else (none))) = some (r1, r2, r3) := by first | (rw [hy115]; with_reducible exact H) | (have H2_ := (Option.bind_some _ _).symm.trans H; rw [hy115]; with_reducible exact H2_) | (have H2_ := (Option.bind_some _ _).symm.trans H; with_reducible exact H2_) | with_reducible exact H | (rw [hy115]; exact H) | exact H
                          have Ny115 := Aside0.mk hy115
                          clear hy115
                          replace H := Option.bind_eq_some_iff.mp H
                          obtain ⟨t118, A330, H⟩ := H
                          replace H : (if x10_1.length < 3518437208883 then (match_Match.l0 k1 l1 (x10_1 ++ [(⟨(rd_T47 l0 x35_1).f0, t118⟩ : S44)]) y115 (wrap64 (x12_1 + (y109.length : Int))) l0 (l0.length : Int) (wrap64 (x35_1 + 1))) else (none)) = some (r1, r2, r3) := H
                          have A33 := Aside0.mk A330
                          clear A330
                          by_cases c34 : x10_1.length < 3518437208883
                          · rw [if_pos c34] at H
                            have LMc34 := Aside0.mk c34
                            clear c34
                            obtain ⟨y121, hy121⟩ : ∃ y_ : List (S44), y_ = (x10_1 ++ [(⟨(rd_T47 l0 x35_1).f0, t118⟩ : S44)]) := ⟨_, rfl⟩
                            replace H : (match_Match.l0 k1 l1 y121 y115 (wrap64 (x12_1 + (y109.length : Int))) l0 (l0.length : Int) (wrap64 (x35_1 + 1))) = some (r1, r2, r3) := by first | (rw [hy121]; with_reducible exact H) | (have H2_ := (Option.bind_some _ _).symm.trans H; rw [hy121]; with_reducible exact H2_) | (have H2_ := (Option.bind_some _ _).symm.trans H; with_reducible exact H2_) | with_reducible exact H | (rw [hy121]; exact H) | exact H
                            have Ny121 := Aside0.mk hy121
                            clear hy121
                            have H' := Aside0.mk H
                            clear H
                            have p104 : 0 ≤ (x35_1 : Int) := of_decide_eq_true (by first | (with_reducible assumption) | assumption)
                            have q104 : x35_1 < (l0.length : Int) := of_decide_eq_true (by first | (with_reducible assumption) | assumption)
                            obtain ⟨ad104, e104, hx104_0, hx104_1⟩ := at_T47 HR0.out x35_1 p104 q104
                            cases e104
                            replace hx104_0 := (HB.out.cell (World.block_lt_of_cell? w _ hx104_0)).trans hx104_0
                            replace hx104_1 := (HB.out.cell (World.block_lt_of_cell? w _ hx104_1)).trans hx104_1
                            replace p104 := eq_true p104
                            replace q104 := eq_true q104
                            try go_wp2_with (first | ((with_reducible refine gate_dst (N := 14) rfl ?_); refine box_event ?hg (N := 14) ?hd (cs := #[.string (⟨#[]⟩ : ByteArray), .int .i64 0]) (t := 47) ?hr ?_; (case hd => rfl); (case hg => rfl); (case hr => first | (go_simp; done) | (go_simp; rfl)); intro gb105 hg w35 hbox hb; have n0_ := Aside0.mk (Kd.S_below (Kd.S_elderB (by (with_reducible repeat (first | apply Kd.S_alloc | apply Kd.S_drewN | apply Kd.S_drew)); exact HO_10.out) gb105 (Nat.le_of_eq hg.symm)) hb); have n1_ := Aside0.mk (Kd.P_below (by (with_reducible repeat (first | apply Kd.P_alloc | apply Kd.P_drewN | apply Kd.P_drew)); exact HO_11.out) hb); have n2_ := Aside0.mk (below_step (by repeat (first | (with_reducible first | exact HB.out | apply below_alloc | apply pw_below_drewN | apply below_drew1) | exact HB.out)) hb); have n3_ := Aside0.mk (hbox); have n4_ := Aside0.mk ((by rw [hg]; exact (below_size (by repeat (first | (with_reducible first | exact HB.out | apply below_alloc | apply pw_below_drewN | apply below_drew1) | exact HB.out))) : w.heap.size ≤ gb105)); have n5_ := Aside0.mk ((by rw [hg]; exact (below_size (by repeat (first | (with_reducible first | exact HB.out | apply below_alloc | apply pw_below_drewN | apply below_drew1) | exact HB.out))) : w.heap.size ≤ gb105)); clear HO_10; clear HO_11; clear HB; have HO_10 := n0_; have HO_11 := n1_; have HB := n2_; have BK105 := n3_; have GW105 := n4_; have GE105 := n5_; clear n0_ n1_ n2_ n3_ n4_ n5_; clear hb hbox hg; have hcz36_0 : w35.cell? ⟨gb105, 0, none⟩ = some (.string (⟨#[]⟩ : ByteArray)) := (blk_cell BK105.out 0).trans rfl; have hcz36_1 : w35.cell? ⟨gb105, 1, none⟩ = some (.int .i64 0) := (blk_cell BK105.out 1).trans rfl; have hfz36_0 := blk_frozen BK105.out 0; have hfz36_1 := blk_frozen BK105.out 1) | ((with_reducible refine gate_callee (f := 21) rfl ?_); refine goesL_ (some 40) rfl rfl Try.func21 (by kernel_rfl) rfl #[.agg #[.string ((rd_T47 l0 x35_1).f0), .int .i64 ((rd_T47 l0 x35_1).f1)]] rfl (by (try simp only [List.map_toArray, List.map_cons, List.map_nil]); first | done | rfl | (simp only [List.length_drop, List.length_take]; rfl)) ?_; (with_reducible refine (match_variable.calls k1 ((rd_T47 l0 x35_1).f0) ((rd_T47 l0 x35_1).f1) true _ A8.out).mono ?_); rintro e w37 ⟨rfl, hb⟩; refine ⟨_, rfl, ?_⟩; have n0_ := Aside0.mk (Kd.S_below (by (with_reducible repeat (first | apply Kd.S_alloc | apply Kd.S_drewN | apply Kd.S_drew)); exact (Kd.S_mono (Kd.S_far (p := ⟨gb105, 1, none⟩) (Kd.S_far (p := ⟨gb105, 0, none⟩) (Kd.S_mono HO_10.out (fun k_ hk => (⟨hk, hk.2⟩ : _ ∧ k_ ≠ gb105))) (fun _ hk => hk.2) (.string ((rd_T47 l0 x35_1).f0))) (fun _ hk => hk.2) (.int .i64 ((rd_T47 l0 x35_1).f1))) (fun _ h_ => h_.1))) hb); have n1_ := Aside0.mk (Kd.P_below (by (with_reducible repeat (first | apply Kd.P_alloc | apply Kd.P_drewN | apply Kd.P_drew)); exact (Kd.P_mono (Kd.P_far (p := ⟨gb105, 1, none⟩) (Kd.P_far (p := ⟨gb105, 0, none⟩) (Kd.P_types HO_11.out BK105.out (by decide)) (fun _ hk => hk.2) (.string ((rd_T47 l0 x35_1).f0))) (fun _ hk => hk.2) (.int .i64 ((rd_T47 l0 x35_1).f1))) (fun _ h_ => h_.1))) hb); have n2_ := Aside0.mk (blk_below (g := gb105) (o := .cells #[.string ((rd_T47 l0 x35_1).f0), .int .i64 ((rd_T47 l0 x35_1).f1)] 47 (0, 0)) (by (with_reducible repeat (first | refine blk_drewN ?_ _ | refine blk_drew ?_ | refine blk_alloc ?_ _)); refine blk_put (cs := #[.string ((rd_T47 l0 x35_1).f0), .int .i64 0]) ?_ 1 _ rfl; (with_reducible repeat (first | refine blk_drewN ?_ _ | refine blk_drew ?_ | refine blk_alloc ?_ _)); refine blk_put (cs := #[.string (⟨#[]⟩ : ByteArray), .int .i64 0]) ?_ 0 _ rfl; (with_reducible repeat (first | refine blk_drewN ?_ _ | refine blk_drew ?_ | refine blk_alloc ?_ _)); exact BK105.out) hb); have n3_ := Aside0.mk (below_step (by repeat (first | (with_reducible first | exact HB.out | apply below_alloc | apply pw_below_drewN | apply below_drew1 | refine below_set ?_ GE105.out) | exact HB.out)) hb); clear HO_10; clear HO_11; clear BK105; clear HB; have HO_10 := n0_; have HO_11 := n1_; have BK105 := n2_; have HB := n3_; clear n0_ n1_ n2_ n3_; (try clear hb); (try clear hb2); (try clear hk); (try clear hi)) | ((with_reducible refine gate_callee (f := 22) rfl ?_); refine goesL_ (some 54) rfl rfl Try.func22 (by kernel_rfl) rfl #[.slice A1 l1.length c1, .int .i64 x12_1] rfl (by (try simp only [List.map_toArray, List.map_cons, List.map_nil]); first | done | rfl | (simp only [List.length_drop, List.length_take]; rfl)) ?_; (with_reducible refine (match_end.calls k1 _ _ l1 x12_1 t108 _ ?side1 ?side2 A10.out).mono ?_); (case side1 => repeat (first | exact (Kd.C_below HR1.out HB.out) | (with_reducible refine Kd.C_alloc ?_ _) | (with_reducible refine Kd.C_drewN ?_ _) | (with_reducible refine Kd.C_drew ?_))); (case side2 => exact HC1.out); rintro e w' ⟨rfl, ⟨nd, rfl⟩⟩; refine ⟨_, rfl, ?_⟩; have q38 : (t108 : Int) ≤ ((l1.length : Int) : Int) := of_decide_eq_true (by first | (with_reducible assumption) | assumption); obtain ⟨i038, hi038, _, hsz38, _⟩ := info_parts info47; have hroom38 : l1.length ≤ c1 := HC1.out; have hC38 : Kd.C k47 _ A1 l1.length l1 := HR1.out; have ql38 : (x12_1 : Int) ≤ (t108 : Int) := of_decide_eq_true (by first | (with_reducible assumption) | assumption); have q038 : (0 : Int) ≤ (x12_1 : Int) := of_decide_eq_true (by first | (with_reducible assumption) | assumption); have hcut38 := cut_mid (P := Try.prog) 23 47 .i64 .i64 Try.underlying23 hi038 2 hsz38 A1 l1.length c1 x12_1 t108 q038 ql38 q38 hroom38; have hr38 := Kd.C_mid (lo := (x12_1 : Int).toNat) (hi := (t108 : Int).toNat) (c := c1) hC38 (by omega) (by omega) hroom38; obtain ⟨A38, hA38⟩ : ∃ Aq_, Aq_ = (if c1 = (x12_1 : Int).toNat then A1 else (A1 : Option Addr).map (·.add ((x12_1 : Int).toNat * 2))) := ⟨_, rfl⟩; obtain ⟨c38, hc38⟩ : ∃ cq_, cq_ = c1 - (x12_1 : Int).toNat := ⟨_, rfl⟩; have hy38 : y109.length = (t108 : Int).toNat - (x12_1 : Int).toNat := (by rw [Ny109.out, List.length_drop, List.length_take] <;> omega); rw [show ((l1).take (t108 : Int).toNat).drop (x12_1 : Int).toNat = y109 from Ny109.out.symm] at hr38; replace hr38 : Kd.C k47 _ A38 y109.length y109 := (by rw [hA38]; exact hr38); rw [← hy38, ← hA38, ← hc38] at hcut38; have HR112 := Aside0.mk hr38; have HC112 := Aside0.mk (show y109.length ≤ c38 from by rw [hy38, hc38]; exact Nat.sub_le_sub_right (Nat.le_trans (by omega) hroom38) _); clear hr38 hC38 hroom38 hi038 hsz38 hc38; have KY38 := Aside0.mk hy38; have KA38 := Aside0.mk hA38; clear hy38 hA38; replace q38 := eq_true q38; have hcz39_0 : w37.cell? ⟨gb105, 0, none⟩ = some (.string ((rd_T47 l0 x35_1).f0)) := (blk_cell BK105.out 0).trans rfl; have hcz39_1 : w37.cell? ⟨gb105, 1, none⟩ = some (.int .i64 ((rd_T47 l0 x35_1).f1)) := (blk_cell BK105.out 1).trans rfl; have hfz39_0 := blk_frozen BK105.out 0; have hfz39_1 := blk_frozen BK105.out 1; obtain ⟨Ao40, co40, eo40⟩ := Kd.S_slice HO_10.out; subst eo40) | ((with_reducible refine gate_dst (N := 64) rfl ?_); refine Kd.P_look (v := v102) (m := x11_1) (s := ((rd_T47 l0 x35_1).f0)) rfl rfl rfl rfl LMc14.out (by (with_reducible repeat (first | apply Kd.P_alloc | apply Kd.P_drewN | apply Kd.P_drew)); exact HO_11.out) ?_) | (at_mapUpdate; refine Kd.P_put (v := v102) (m := x11_1) (s := ((rd_T47 l0 x35_1).f0)) (n := (x10_1.length : Int)) rfl rfl rfl rfl rfl LMc32.out (by (with_reducible repeat (first | apply Kd.P_alloc | apply Kd.P_drewN | apply Kd.P_drew)); exact HO_11.out) ?_; intro w41 ho hm; rw [← Ny115.out] at ho; have n0_ := Aside0.mk (Kd.S_mapped (by (with_reducible repeat (first | apply Kd.S_alloc | apply Kd.S_drewN | apply Kd.S_drew)); exact HO_10.out) hm); have n1_ := Aside0.mk (blk_mapped (g := gb105) (o := .cells #[.string ((rd_T47 l0 x35_1).f0), .int .i64 ((rd_T47 l0 x35_1).f1)] 47 (0, 0)) (by (with_reducible repeat (first | refine blk_drewN ?_ _ | refine blk_drew ?_ | refine blk_alloc ?_ _)); exact BK105.out) hm); have n2_ := Aside0.mk (below_mapped (by repeat (first | (with_reducible first | exact HB.out | apply below_alloc | apply pw_below_drewN | apply below_drew1 | refine below_set ?_ GE105.out) | exact HB.out)) hm); have n3_ := Aside0.mk (ho); clear HO_10; clear BK105; clear HB; clear HO_11; have HO_10 := n0_; have BK105 := n1_; have HB := n2_; have HO_11 := n3_; clear n0_ n1_ n2_ n3_; clear ho hm))
                            have n0_ := Aside0.mk (Kd.S_drew HO_10.out)
                            have n1_ := Aside0.mk (Kd.P_drew HO_11.out)
                            have n2_ := Aside0.mk (blk_drew BK105.out)
                            have n3_ := Aside0.mk (below_drew1 HB.out)
                            clear HO_10
                            clear HO_11
                            clear BK105
                            clear HB
                            have HO_10 := n0_
                            have HO_11 := n1_
                            have BK105 := n2_
                            have HB := n3_
                            clear n0_ n1_ n2_ n3_
                            refine start_ (n := 9) (S := fun w' => w'.cell? ⟨gb105, 0, none⟩ = some (.string ((rd_T47 l0 x35_1).f0)) ∧ w'.cell? ⟨gb105, 1, none⟩ = some (.int .i64 ((rd_T47 l0 x35_1).f1))) (ds := []) #[false, false, false, false, false, false, false, false, false] (by kernel_rfl) rfl rfl ⟨(blk_cell BK105.out 0).trans rfl, (blk_cell BK105.out 1).trans rfl⟩ (fun hHeld => ?_); refine with_tabW match_Match.tab23 match_Match.bits23 (fun HT_ HW_ => ?_)
                            generalize w41.drew = w42 at HO_10 HO_11 BK105 HB hHeld ⊢
                            refine pure_ (i := 0) (N := some 75) (v := ?_) (a' := ?_) #[true, false, false, false, false, false, false, false, false] rfl rfl (any_of HT_.out (by kernel_rfl)) (fun _ _ _ h => h) (Or.inl ⟨by rfl, ?_⟩) ?_ ?_
                            rotate_left
                            · intro w'
                              go_simp
                              with_reducible rfl
                            rotate_left
                            · simp only [Act.put, List.setIfInBounds_toArray, List.set_cons_zero, List.set_cons_succ, i64_w, i32_w]
                              rfl
                            refine pure_ (i := 1) (N := some 76) (v := ?_) (a' := ?_) #[true, true, false, false, false, false, false, false, false] rfl rfl (any_of HT_.out (by kernel_rfl)) (fun _ _ _ h => h) (Or.inl ⟨by rfl, ?_⟩) ?_ ?_
                            rotate_left
                            · intro w'
                              go_simp
                              with_reducible rfl
                            rotate_left
                            · simp only [Act.put, List.setIfInBounds_toArray, List.set_cons_zero, List.set_cons_succ, i64_w, i32_w]
                              rfl
                            refine pure_ (i := 3) (N := some 78) (v := ?_) (a' := ?_) #[true, true, false, true, false, false, false, false, false] rfl rfl (any_of HT_.out (by kernel_rfl)) (fun _ _ _ h => h) (Or.inl ⟨by rfl, ?_⟩) ?_ ?_
                            rotate_left
                            · intro w'
                              go_simp
                              with_reducible rfl
                            rotate_left
                            · simp only [Act.put, List.setIfInBounds_toArray, List.set_cons_zero, List.set_cons_succ, i64_w, i32_w]
                              rfl
                            refine take_ (i := 2) (N := some 77) (v := ?_) (a' := ?_) #[true, true, true, true, false, false, false, false, false] rfl rfl (take_ofW HT_.out HW_.out (by kernel_rfl)) (fun _ _ _ h => h) (Or.inl ⟨by rfl, ?_⟩) hHeld ?_ ?_
                            rotate_left
                            · rintro w' ⟨s0, s1⟩
                              go_simp
                              with_reducible rfl
                            rotate_left
                            · simp only [Act.put, List.setIfInBounds_toArray, List.set_cons_zero, List.set_cons_succ, i64_w, i32_w]
                              rfl
                            refine one_ (i := 4) (N := some 79) #[true, true, true, true, true, false, false, false, false] rfl rfl (one_of HT_.out (by kernel_rfl)) (by decide) (fun K hK => ?_)
                            refine goes_ Try.func23 (by kernel_rfl) rfl #[.slice A38 y109.length c38] (by rfl) rfl rfl (by (try simp only [List.map_toArray, List.map_cons, List.map_nil]); first | done | rfl | (simp only [List.length_drop, List.length_take]; rfl)) ?_
                            with_reducible refine (api_Cell_23.calls _ _ y109 t118 _ ?side1 ?side2 A33.out).mono ?_
                            (case side1 => repeat (first | exact (Kd.C_below HR112.out HB.out) | (with_reducible refine Kd.C_alloc ?_ _) | (with_reducible refine Kd.C_drewN ?_ _) | (with_reducible refine Kd.C_drew ?_)))
                            (case side2 => exact HC112.out)
                            rintro e w43 ⟨v119, rfl, ho0, hb⟩
                            refine ⟨_, rfl, ?_⟩
                            have n0_ := Aside0.mk (Kd.S_elder' (by (with_reducible repeat (first | apply Kd.S_alloc | apply Kd.S_drewN | apply Kd.S_drew)); exact HO_10.out) (Kd.R_base ho0) hb)
                            have n1_ := Aside0.mk (Kd.P_below (by (with_reducible repeat (first | apply Kd.P_alloc | apply Kd.P_drewN | apply Kd.P_drew)); exact HO_11.out) hb)
                            have n2_ := Aside0.mk (Kd.R_lower (Kd.R_newB ho0 (g := gb105) (o := .cells #[.string ((rd_T47 l0 x35_1).f0), .int .i64 ((rd_T47 l0 x35_1).f1)] 47 (0, 0)) (by (with_reducible repeat (first | refine blk_drewN ?_ _ | refine blk_drew ?_ | refine blk_alloc ?_ _)); exact BK105.out)) (below_size (by repeat (first | (with_reducible first | exact HB.out | apply below_alloc | apply pw_below_drewN | apply below_drew1 | refine below_set ?_ GE105.out) | exact HB.out))))
                            have n3_ := Aside0.mk (blk_below (g := gb105) (o := .cells #[.string ((rd_T47 l0 x35_1).f0), .int .i64 ((rd_T47 l0 x35_1).f1)] 47 (0, 0)) (by (with_reducible repeat (first | refine blk_drewN ?_ _ | refine blk_drew ?_ | refine blk_alloc ?_ _)); exact BK105.out) hb)
                            have n4_ := Aside0.mk (below_step (by repeat (first | (with_reducible first | exact HB.out | apply below_alloc | apply pw_below_drewN | apply below_drew1 | refine below_set ?_ GE105.out) | exact HB.out)) hb)
                            clear HO_10
                            clear HO_11
                            clear BK105
                            clear HB
                            have HO_10 := n0_
                            have HO_11 := n1_
                            have HO120 := n2_
                            have BK105 := n3_
                            have HB := n4_
                            clear n0_ n1_ n2_ n3_ n4_
                            (try clear hb)
                            (try clear hb2)
                            (try clear hk)
                            (try clear hi)
                            (try clear ho0)
                            obtain ⟨Ao44, co44, eo44⟩ := Kd.R_slice HO120.out
                            (first | subst eo44 | (injection eo44 with f1_ f2_ f3_; have f4_ := f1_.symm; have f5_ := f3_.symm; clear f1_ f2_ f3_; subst f4_; subst f5_))
                            refine hK.out _ _ ⟨(blk_cell BK105.out 0).trans rfl, (blk_cell BK105.out 1).trans rfl⟩ (fun hHeld => ?_)
                            clear hK K
                            refine norm_ (a' := ?_) ?_ ?_
                            rotate_left
                            · show Act.put _ (some 79) _ = _
                              simp only [Act.put, List.setIfInBounds_toArray, List.set_cons_zero, List.set_cons_succ, i64_w, i32_w]
                              rfl
                            refine pure_ (i := 5) (N := some 80) (v := ?_) (a' := ?_) #[true, true, true, true, true, true, false, false, false] rfl rfl (any_of HT_.out (by kernel_rfl)) (fun _ _ _ h => h) (Or.inl ⟨by rfl, ?_⟩) ?_ ?_
                            rotate_left
                            · intro w'
                              go_simp
                              with_reducible rfl
                            rotate_left
                            · simp only [Act.put, List.setIfInBounds_toArray, List.set_cons_zero, List.set_cons_succ, i64_w, i32_w]
                              rfl
                            refine one_ (i := 6) (N := some 81) #[true, true, true, true, true, true, true, false, false] rfl rfl (one_of HT_.out (by kernel_rfl)) (by decide) (fun K hK => ?_)
                            refine value_ (w1 := ?_) (v := ?_) (by rfl) rfl ?_ ?_
                            rotate_left 2
                            · go_simp
                              constructor
                              · rfl
                              · rfl
                            refine hK.out _ _ ⟨(blk_cell (blk_alloc BK105.out _) 0).trans rfl, (blk_cell (blk_alloc BK105.out _) 1).trans rfl⟩ (fun hHeld => ?_)
                            clear hK K
                            refine norm_ (a' := ?_) ?_ ?_
                            rotate_left
                            · show Act.put _ (some 81) _ = _
                              simp only [Act.put, List.setIfInBounds_toArray, List.set_cons_zero, List.set_cons_succ, i64_w, i32_w]
                              rfl
                            refine one_ (i := 7) (N := some 82) #[true, true, true, true, true, true, true, true, false] rfl rfl (one_of HT_.out (by kernel_rfl)) (by decide) (fun K hK => ?_)
                            refine Kd.S_append_step k44 (w0 := w) w.heap.size (by rfl) (.tmp 75) (.tmp 81) 25 44 (.agg #[(.string ⟨#[]⟩), (.slice none 0 0)]) 40 rfl Try.underlying25 info44 rfl (by decide) (by omega) (.slice Ao40 x10_1.length co40) x10_1 (⟨(rd_T47 l0 x35_1).f0, t118⟩ : S44) [.string ((rd_T47 l0 x35_1).f0), .slice Ao44 t118.length co44] (fun k_ => k_ ≠ gb105) (fun k_ => some k_ = (.slice Ao44 t118.length co44 : Value).ownBlock) rfl rfl ?aP (fun k_ hk_ => ((Kd.R_mono (ok' := fun k_ => ((fun k_ => k_ ≠ gb105)) k_ ∧ some k_ ≠ (.slice Ao40 x10_1.length co40 : Value).ownBlock) (Kd.R_apart' (HO120.out) (Kd.S_typed HO_10.out) (by decide)) (fun k_ hk => ⟨hk.1.2, hk.2⟩))).1 k_ hk_.symm) ?aF ?aO ?aB ?aS ?aL ?_
                            (case aP => exact k44_mkM _ _ _ (⟨(rd_T47 l0 x35_1).f0, t118⟩ : S44) (Kd.R_mono (Kd.R_tight rfl (Kd.R_mono (ok' := fun k_ => ((fun k_ => k_ ≠ gb105)) k_ ∧ some k_ ≠ (.slice Ao40 x10_1.length co40 : Value).ownBlock) (Kd.R_apart' (HO120.out) (Kd.S_typed HO_10.out) (by decide)) (fun k_ hk => ⟨hk.1.2, hk.2⟩))) (fun _ h_ => h_)))
                            (case aB => exact (by repeat (first | (with_reducible first | exact HB.out | apply below_alloc | apply pw_below_drewN | apply below_drew1 | refine below_set ?_ GE105.out) | exact HB.out)))
                            (case aF => exact (fun k_ hk => Kd.freshB (g := gb105) (o := .cells #[.string ((rd_T47 l0 x35_1).f0), .int .i64 ((rd_T47 l0 x35_1).f1)] 47 (0, 0)) (by (with_reducible repeat (first | refine blk_drewN ?_ _ | refine blk_drew ?_ | refine blk_alloc ?_ _)); exact BK105.out) k_ hk))
                            (case aO => exact (by (with_reducible repeat (first | apply Kd.S_alloc | apply Kd.S_drewN | apply Kd.S_drew)); exact Kd.S_mono HO_10.out (fun k_ hk => ⟨hk.1.2, fun e_ => hk.2 e_⟩)))
                            (case aS => exact (below_size (by repeat (first | (with_reducible first | exact HB.out | apply below_alloc | apply pw_below_drewN | apply below_drew1 | refine below_set ?_ GE105.out) | exact HB.out))))
                            (case aL => have := LMc34.out; omega)
                            intro v122 w45 ho hb hg hat
                            rw [← Ny121.out] at ho
                            have n0_ := Aside0.mk (blk_grown (g := gb105) (o := .cells #[.string ((rd_T47 l0 x35_1).f0), .int .i64 ((rd_T47 l0 x35_1).f1)] 47 (0, 0)) (by (with_reducible repeat (first | refine blk_drewN ?_ _ | refine blk_drew ?_ | refine blk_alloc ?_ _)); exact BK105.out) hg (Kd.S_ne HO_10.out BK105.out (by decide)))
                            have n1_ := Aside0.mk (Kd.P_over' (by (with_reducible repeat (first | apply Kd.P_alloc | apply Kd.P_drewN | apply Kd.P_drew)); exact HO_11.out) (Kd.S_typed (by (with_reducible repeat (first | apply Kd.S_alloc | apply Kd.S_drewN | apply Kd.S_drew)); exact HO_10.out)) (by decide) hg)
                            have n2_ := Aside0.mk (hb)
                            have n3_ := Aside0.mk (ho)
                            clear BK105
                            clear HO_11
                            clear HB
                            clear HO_10
                            clear HO120
                            have BK105 := n0_
                            have HO_11 := n1_
                            have HB := n2_
                            have HO123 := n3_
                            clear n0_ n1_ n2_ n3_
                            clear ho hb hg hat
                            refine hK.out _ _ ⟨(blk_cell BK105.out 0).trans rfl, (blk_cell BK105.out 1).trans rfl⟩ (fun hHeld => ?_)
                            clear hK K
                            refine norm_ (a' := ?_) ?_ ?_
                            rotate_left
                            · show Act.put _ (some 82) _ = _
                              simp only [Act.put, List.setIfInBounds_toArray, List.set_cons_zero, List.set_cons_succ, i64_w, i32_w]
                              rfl
                            refine pure_ (i := 8) (N := some 10) (v := ?_) (a' := ?_) #[true, true, true, true, true, true, true, true, true] rfl rfl (any_of HT_.out (by kernel_rfl)) (fun _ _ _ h => h) (Or.inl ⟨by rfl, ?_⟩) ?_ ?_
                            rotate_left
                            · intro w'
                              go_simp
                              with_reducible rfl
                            rotate_left
                            · simp only [Act.put, List.setIfInBounds_toArray, List.set_cons_zero, List.set_cons_succ, i64_w, i32_w]
                              rfl
                            refine done_ (done_of HT_.out (by kernel_rfl)) ?_
                            try go_wp2
                            go_roundg k1
                            case measure => have := HK1.out; omega
                            case rel => exact ⟨(y121), (y115), (wrap64 (x12_1 + (y109.length : Int))), (wrap64 (x35_1 + 1)), (by first | rfl | (simp; done) | (simp [*]; done)), (by first | rfl | (simp; done) | (simp [*]; done)), H', ⟨by have := HK1.out; omega⟩, ⟨by (with_reducible repeat (first | apply Kd.S_alloc | apply Kd.S_drewN | apply Kd.S_drew)); exact Kd.S_mono HO123.out (fun _ hk => trivial)⟩, ⟨by (with_reducible repeat (first | apply Kd.P_alloc | apply Kd.P_drewN | apply Kd.P_drew)); exact HO_11.out⟩, ⟨by repeat (first | (with_reducible first | exact HB.out | apply below_alloc | apply pw_below_drewN | apply below_drew1 | refine below_set ?_ GE105.out) | exact HB.out)⟩⟩
                          · rw [if_neg c34] at H
                            exact absurd H (by simp)
                        · rw [if_neg c32] at H
                          exact absurd H (by simp)
                    · rw [if_neg c14] at H
                      exact absurd H (by simp)
                  · rw [if_neg c13] at H
                    exact absurd H (by simp)
                · rw [if_neg c12] at H
                  exact absurd H (by simp)
              · rw [if_neg c11] at H
                exact absurd H (by simp)
            · replace c9 := Bool.eq_false_iff.mpr c9
              subst c9
              have H1 : (if 0 ≤ x12_1 then (if x12_1 < (l1.length : Int) then (if (!((((rd_T47 l1 x12_1).f0).toList) == (((rd_T47 l0 x35_1).f0).toList)) || (!(((rd_T47 l1 x12_1).f1) == ((rd_T47 l0 x35_1).f1)))) = true then (some (([] : List (S44)), false, 0)) else (match_Match.l0 k1 l1 x10_1 x11_1 (wrap64 (x12_1 + 1)) l0 (l0.length : Int) (wrap64 (x35_1 + 1)))) else (none)) else (none)) = some (r1, r2, r3) := by rw [if_neg (show ¬ (false = true) by decide)] at H; exact H
              clear H
              have H := H1
              clear H1
              by_cases c46 : 0 ≤ x12_1
              · rw [if_pos c46] at H
                have c46b0 : decide (0 ≤ x12_1) = true := decide_eq_true c46
                clear c46
                by_cases c47 : x12_1 < (l1.length : Int)
                · rw [if_pos c47] at H
                  have c47b0 : decide (x12_1 < (l1.length : Int)) = true := decide_eq_true c47
                  clear c47
                  by_cases c48 : (!((((rd_T47 l1 x12_1).f0).toList) == (((rd_T47 l0 x35_1).f0).toList)) || (!(((rd_T47 l1 x12_1).f1) == ((rd_T47 l0 x35_1).f1)))) = true
                  · rw [if_pos c48] at H
                    have c48b0 : (!((((rd_T47 l1 x12_1).f0).toList) == (((rd_T47 l0 x35_1).f0).toList)) || (!(((rd_T47 l1 x12_1).f1) == ((rd_T47 l0 x35_1).f1)))) = true := c48
                    clear c48
                    simp only [Option.some.injEq, Prod.mk.injEq] at H
                    obtain ⟨rfl, rfl, rfl⟩ := H
                    have p104 : 0 ≤ (x35_1 : Int) := of_decide_eq_true (by first | (with_reducible assumption) | assumption)
                    have q104 : x35_1 < (l0.length : Int) := of_decide_eq_true (by first | (with_reducible assumption) | assumption)
                    obtain ⟨ad104, e104, hx104_0, hx104_1⟩ := at_T47 HR0.out x35_1 p104 q104
                    cases e104
                    replace hx104_0 := (HB.out.cell (World.block_lt_of_cell? w _ hx104_0)).trans hx104_0
                    replace hx104_1 := (HB.out.cell (World.block_lt_of_cell? w _ hx104_1)).trans hx104_1
                    replace p104 := eq_true p104
                    replace q104 := eq_true q104
                    try go_wp2_with (first | ((with_reducible refine gate_dst (N := 14) rfl ?_); refine box_event ?hg (N := 14) ?hd (cs := #[.string (⟨#[]⟩ : ByteArray), .int .i64 0]) (t := 47) ?hr ?_; (case hd => rfl); (case hg => rfl); (case hr => first | (go_simp; done) | (go_simp; rfl)); intro gb105 hg w49 hbox hb; have n0_ := Aside0.mk (Kd.S_below (Kd.S_elderB (by (with_reducible repeat (first | apply Kd.S_alloc | apply Kd.S_drewN | apply Kd.S_drew)); exact HO_10.out) gb105 (Nat.le_of_eq hg.symm)) hb); have n1_ := Aside0.mk (Kd.P_below (by (with_reducible repeat (first | apply Kd.P_alloc | apply Kd.P_drewN | apply Kd.P_drew)); exact HO_11.out) hb); have n2_ := Aside0.mk (below_step (by repeat (first | (with_reducible first | exact HB.out | apply below_alloc | apply pw_below_drewN | apply below_drew1) | exact HB.out)) hb); have n3_ := Aside0.mk (hbox); have n4_ := Aside0.mk ((by rw [hg]; exact (below_size (by repeat (first | (with_reducible first | exact HB.out | apply below_alloc | apply pw_below_drewN | apply below_drew1) | exact HB.out))) : w.heap.size ≤ gb105)); have n5_ := Aside0.mk ((by rw [hg]; exact (below_size (by repeat (first | (with_reducible first | exact HB.out | apply below_alloc | apply pw_below_drewN | apply below_drew1) | exact HB.out))) : w.heap.size ≤ gb105)); clear HO_10; clear HO_11; clear HB; have HO_10 := n0_; have HO_11 := n1_; have HB := n2_; have BK105 := n3_; have GW105 := n4_; have GE105 := n5_; clear n0_ n1_ n2_ n3_ n4_ n5_; clear hb hbox hg; have hcz50_0 : w49.cell? ⟨gb105, 0, none⟩ = some (.string (⟨#[]⟩ : ByteArray)) := (blk_cell BK105.out 0).trans rfl; have hcz50_1 : w49.cell? ⟨gb105, 1, none⟩ = some (.int .i64 0) := (blk_cell BK105.out 1).trans rfl; have hfz50_0 := blk_frozen BK105.out 0; have hfz50_1 := blk_frozen BK105.out 1) | ((with_reducible refine gate_callee (f := 21) rfl ?_); refine goesL_ (some 40) rfl rfl Try.func21 (by kernel_rfl) rfl #[.agg #[.string ((rd_T47 l0 x35_1).f0), .int .i64 ((rd_T47 l0 x35_1).f1)]] rfl (by (try simp only [List.map_toArray, List.map_cons, List.map_nil]); first | done | rfl | (simp only [List.length_drop, List.length_take]; rfl)) ?_; (with_reducible refine (match_variable.calls k1 ((rd_T47 l0 x35_1).f0) ((rd_T47 l0 x35_1).f1) false _ A8.out).mono ?_); rintro e w51 ⟨rfl, hb⟩; refine ⟨_, rfl, ?_⟩; have n0_ := Aside0.mk (Kd.S_below (by (with_reducible repeat (first | apply Kd.S_alloc | apply Kd.S_drewN | apply Kd.S_drew)); exact (Kd.S_mono (Kd.S_far (p := ⟨gb105, 1, none⟩) (Kd.S_far (p := ⟨gb105, 0, none⟩) (Kd.S_mono HO_10.out (fun k_ hk => (⟨hk, hk.2⟩ : _ ∧ k_ ≠ gb105))) (fun _ hk => hk.2) (.string ((rd_T47 l0 x35_1).f0))) (fun _ hk => hk.2) (.int .i64 ((rd_T47 l0 x35_1).f1))) (fun _ h_ => h_.1))) hb); have n1_ := Aside0.mk (Kd.P_below (by (with_reducible repeat (first | apply Kd.P_alloc | apply Kd.P_drewN | apply Kd.P_drew)); exact (Kd.P_mono (Kd.P_far (p := ⟨gb105, 1, none⟩) (Kd.P_far (p := ⟨gb105, 0, none⟩) (Kd.P_types HO_11.out BK105.out (by decide)) (fun _ hk => hk.2) (.string ((rd_T47 l0 x35_1).f0))) (fun _ hk => hk.2) (.int .i64 ((rd_T47 l0 x35_1).f1))) (fun _ h_ => h_.1))) hb); have n2_ := Aside0.mk (blk_below (g := gb105) (o := .cells #[.string ((rd_T47 l0 x35_1).f0), .int .i64 ((rd_T47 l0 x35_1).f1)] 47 (0, 0)) (by (with_reducible repeat (first | refine blk_drewN ?_ _ | refine blk_drew ?_ | refine blk_alloc ?_ _)); refine blk_put (cs := #[.string ((rd_T47 l0 x35_1).f0), .int .i64 0]) ?_ 1 _ rfl; (with_reducible repeat (first | refine blk_drewN ?_ _ | refine blk_drew ?_ | refine blk_alloc ?_ _)); refine blk_put (cs := #[.string (⟨#[]⟩ : ByteArray), .int .i64 0]) ?_ 0 _ rfl; (with_reducible repeat (first | refine blk_drewN ?_ _ | refine blk_drew ?_ | refine blk_alloc ?_ _)); exact BK105.out) hb); have n3_ := Aside0.mk (below_step (by repeat (first | (with_reducible first | exact HB.out | apply below_alloc | apply pw_below_drewN | apply below_drew1 | refine below_set ?_ GE105.out) | exact HB.out)) hb); clear HO_10; clear HO_11; clear BK105; clear HB; have HO_10 := n0_; have HO_11 := n1_; have BK105 := n2_; have HB := n3_; clear n0_ n1_ n2_ n3_; (try clear hb); (try clear hb2); (try clear hk); (try clear hi)))
                    have n0_ := Aside0.mk (Kd.S_drew HO_10.out)
                    have n1_ := Aside0.mk (Kd.P_drew HO_11.out)
                    have n2_ := Aside0.mk (blk_drew BK105.out)
                    have n3_ := Aside0.mk (below_drew1 HB.out)
                    clear HO_10
                    clear HO_11
                    clear BK105
                    clear HB
                    have HO_10 := n0_
                    have HO_11 := n1_
                    have BK105 := n2_
                    have HB := n3_
                    clear n0_ n1_ n2_ n3_
                    have p107 : 0 ≤ (x12_1 : Int) := of_decide_eq_true (by first | (with_reducible assumption) | assumption)
                    have q107 : x12_1 < (l1.length : Int) := of_decide_eq_true (by first | (with_reducible assumption) | assumption)
                    obtain ⟨ad107, e107, hx107_0, hx107_1⟩ := at_T47 HR1.out x12_1 p107 q107
                    have hw107_1 := hx107_1
                    have hw107_0 := hx107_0
                    cases e107
                    replace hx107_0 := (HB.out.cell (World.block_lt_of_cell? w _ hx107_0)).trans hx107_0
                    replace hx107_1 := (HB.out.cell (World.block_lt_of_cell? w _ hx107_1)).trans hx107_1
                    replace p107 := eq_true p107
                    replace q107 := eq_true q107
                    refine start_ (n := 6) (S := fun w' => w'.cell? ⟨gb105, 0, none⟩ = some (.string ((rd_T47 l0 x35_1).f0)) ∧ w'.cell? ⟨gb105, 1, none⟩ = some (.int .i64 ((rd_T47 l0 x35_1).f1)) ∧ w'.cell? (ad107.add ((x12_1).toNat * 2)) = some (.string ((rd_T47 l1 x12_1).f0)) ∧ w'.cell? ⟨(ad107.add ((x12_1).toNat * 2)).block, (ad107.add ((x12_1).toNat * 2)).off + 1, none⟩ = some (.int .i64 ((rd_T47 l1 x12_1).f1))) (ds := []) #[false, false, false, false, false, false] (by kernel_rfl) rfl rfl ⟨(blk_cell BK105.out 0).trans rfl, (blk_cell BK105.out 1).trans rfl, ((HB.out.cell (World.block_lt_of_cell? w _ hw107_0)).trans hw107_0), ((HB.out.cell (World.block_lt_of_cell? w _ hw107_1)).trans hw107_1)⟩ (fun hHeld => ?_)
                    generalize w51.drew = w52 at HO_10 HO_11 BK105 HB hx107_0 hx107_1 hHeld ⊢
                    refine pure_ (i := 0) (N := some 42) (v := ?_) (a' := ?_) #[true, false, false, false, false, false] rfl rfl (by kernel_rfl) (fun _ _ _ h => h) (Or.inl ⟨by rfl, ?_⟩) ?_ ?_
                    rotate_left
                    · intro w'
                      go_simp
                      with_reducible rfl
                    rotate_left
                    · simp only [Act.put, List.setIfInBounds_toArray, List.set_cons_zero, List.set_cons_succ, i64_w, i32_w]
                      rfl
                    refine pure_ (i := 1) (N := some 43) (v := ?_) (a' := ?_) #[true, true, false, false, false, false] rfl rfl (by kernel_rfl) (fun _ _ _ h => h) (Or.inl ⟨by rfl, ?_⟩) ?_ ?_
                    rotate_left
                    · intro w'
                      go_simp
                      with_reducible rfl
                    rotate_left
                    · simp only [Act.put, List.setIfInBounds_toArray, List.set_cons_zero, List.set_cons_succ, i64_w, i32_w]
                      rfl
                    refine pure_ (i := 2) (N := some 44) (v := ?_) (a' := ?_) #[true, true, true, false, false, false] rfl rfl (by kernel_rfl) (fun _ _ _ h => h) (Or.inl ⟨by rfl, ?_⟩) ?_ ?_
                    rotate_left
                    · intro w'
                      go_simp
                      with_reducible rfl
                    rotate_left
                    · simp only [Act.put, List.setIfInBounds_toArray, List.set_cons_zero, List.set_cons_succ, i64_w, i32_w]
                      rfl
                    refine take_ (i := 3) (N := some 45) (v := ?_) (a' := ?_) #[true, true, true, true, false, false] rfl rfl (by kernel_rfl) (fun _ _ _ h => h) (Or.inl ⟨by rfl, ?_⟩) hHeld ?_ ?_
                    rotate_left
                    · rintro w' ⟨s0, s1, s2, s3⟩
                      go_simp
                      with_reducible rfl
                    rotate_left
                    · simp only [Act.put, List.setIfInBounds_toArray, List.set_cons_zero, List.set_cons_succ, i64_w, i32_w]
                      rfl
                    refine take_ (i := 4) (N := some 46) (v := ?_) (a' := ?_) #[true, true, true, true, true, false] rfl rfl (by kernel_rfl) (fun _ _ _ h => h) (Or.inl ⟨by rfl, ?_⟩) hHeld ?_ ?_
                    rotate_left
                    · rintro w' ⟨s0, s1, s2, s3⟩
                      go_simp
                      with_reducible rfl
                    rotate_left
                    · simp only [Act.put, List.setIfInBounds_toArray, List.set_cons_zero, List.set_cons_succ, i64_w, i32_w]
                      rfl
                    refine pure_ (i := 5) (N := some 47) (v := ?_) (a' := ?_) #[true, true, true, true, true, true] rfl rfl (by kernel_rfl) (fun _ _ _ h => h) (Or.inl ⟨by rfl, ?_⟩) ?_ ?_
                    rotate_left
                    · intro w'
                      go_simp
                      with_reducible rfl
                    rotate_left
                    · simp only [Act.put, List.setIfInBounds_toArray, List.set_cons_zero, List.set_cons_succ, i64_w, i32_w]
                      rfl
                    refine done_ (by kernel_rfl) ?_
                    try go_wp2
                    go_ret3
                    exact ⟨_, by first | rfl | (simp [errW_none, errW_some] <;> rfl) | (simp [*, errW_none, errW_some] <;> rfl), by first | exact Kd.S_nil _ _ _ _ _ | exact Kd.N_nil _ _ _ _ _ | exact Kd.V_nil _ _ _ _ _ | exact Kd.Q_nil _ _ _ _ _ | exact Kd.R_nil _ _ _ _ _, by repeat (first | (with_reducible first | exact HB.out | apply below_alloc | apply pw_below_drewN | apply below_drew1 | refine below_set ?_ GE105.out) | exact HB.out)⟩
                  · rw [if_neg c48] at H
                    have c48b0 : (!((((rd_T47 l1 x12_1).f0).toList) == (((rd_T47 l0 x35_1).f0).toList)) || (!(((rd_T47 l1 x12_1).f1) == ((rd_T47 l0 x35_1).f1)))) = false := by simpa using c48
                    clear c48
                    have H' := Aside0.mk H
                    clear H
                    have p104 : 0 ≤ (x35_1 : Int) := of_decide_eq_true (by first | (with_reducible assumption) | assumption)
                    have q104 : x35_1 < (l0.length : Int) := of_decide_eq_true (by first | (with_reducible assumption) | assumption)
                    obtain ⟨ad104, e104, hx104_0, hx104_1⟩ := at_T47 HR0.out x35_1 p104 q104
                    cases e104
                    replace hx104_0 := (HB.out.cell (World.block_lt_of_cell? w _ hx104_0)).trans hx104_0
                    replace hx104_1 := (HB.out.cell (World.block_lt_of_cell? w _ hx104_1)).trans hx104_1
                    replace p104 := eq_true p104
                    replace q104 := eq_true q104
                    try go_wp2_with (first | ((with_reducible refine gate_dst (N := 14) rfl ?_); refine box_event ?hg (N := 14) ?hd (cs := #[.string (⟨#[]⟩ : ByteArray), .int .i64 0]) (t := 47) ?hr ?_; (case hd => rfl); (case hg => rfl); (case hr => first | (go_simp; done) | (go_simp; rfl)); intro gb105 hg w53 hbox hb; have n0_ := Aside0.mk (Kd.S_below (Kd.S_elderB (by (with_reducible repeat (first | apply Kd.S_alloc | apply Kd.S_drewN | apply Kd.S_drew)); exact HO_10.out) gb105 (Nat.le_of_eq hg.symm)) hb); have n1_ := Aside0.mk (Kd.P_below (by (with_reducible repeat (first | apply Kd.P_alloc | apply Kd.P_drewN | apply Kd.P_drew)); exact HO_11.out) hb); have n2_ := Aside0.mk (below_step (by repeat (first | (with_reducible first | exact HB.out | apply below_alloc | apply pw_below_drewN | apply below_drew1) | exact HB.out)) hb); have n3_ := Aside0.mk (hbox); have n4_ := Aside0.mk ((by rw [hg]; exact (below_size (by repeat (first | (with_reducible first | exact HB.out | apply below_alloc | apply pw_below_drewN | apply below_drew1) | exact HB.out))) : w.heap.size ≤ gb105)); have n5_ := Aside0.mk ((by rw [hg]; exact (below_size (by repeat (first | (with_reducible first | exact HB.out | apply below_alloc | apply pw_below_drewN | apply below_drew1) | exact HB.out))) : w.heap.size ≤ gb105)); clear HO_10; clear HO_11; clear HB; have HO_10 := n0_; have HO_11 := n1_; have HB := n2_; have BK105 := n3_; have GW105 := n4_; have GE105 := n5_; clear n0_ n1_ n2_ n3_ n4_ n5_; clear hb hbox hg; have hcz54_0 : w53.cell? ⟨gb105, 0, none⟩ = some (.string (⟨#[]⟩ : ByteArray)) := (blk_cell BK105.out 0).trans rfl; have hcz54_1 : w53.cell? ⟨gb105, 1, none⟩ = some (.int .i64 0) := (blk_cell BK105.out 1).trans rfl; have hfz54_0 := blk_frozen BK105.out 0; have hfz54_1 := blk_frozen BK105.out 1) | ((with_reducible refine gate_callee (f := 21) rfl ?_); refine goesL_ (some 40) rfl rfl Try.func21 (by kernel_rfl) rfl #[.agg #[.string ((rd_T47 l0 x35_1).f0), .int .i64 ((rd_T47 l0 x35_1).f1)]] rfl (by (try simp only [List.map_toArray, List.map_cons, List.map_nil]); first | done | rfl | (simp only [List.length_drop, List.length_take]; rfl)) ?_; (with_reducible refine (match_variable.calls k1 ((rd_T47 l0 x35_1).f0) ((rd_T47 l0 x35_1).f1) false _ A8.out).mono ?_); rintro e w55 ⟨rfl, hb⟩; refine ⟨_, rfl, ?_⟩; have n0_ := Aside0.mk (Kd.S_below (by (with_reducible repeat (first | apply Kd.S_alloc | apply Kd.S_drewN | apply Kd.S_drew)); exact (Kd.S_mono (Kd.S_far (p := ⟨gb105, 1, none⟩) (Kd.S_far (p := ⟨gb105, 0, none⟩) (Kd.S_mono HO_10.out (fun k_ hk => (⟨hk, hk.2⟩ : _ ∧ k_ ≠ gb105))) (fun _ hk => hk.2) (.string ((rd_T47 l0 x35_1).f0))) (fun _ hk => hk.2) (.int .i64 ((rd_T47 l0 x35_1).f1))) (fun _ h_ => h_.1))) hb); have n1_ := Aside0.mk (Kd.P_below (by (with_reducible repeat (first | apply Kd.P_alloc | apply Kd.P_drewN | apply Kd.P_drew)); exact (Kd.P_mono (Kd.P_far (p := ⟨gb105, 1, none⟩) (Kd.P_far (p := ⟨gb105, 0, none⟩) (Kd.P_types HO_11.out BK105.out (by decide)) (fun _ hk => hk.2) (.string ((rd_T47 l0 x35_1).f0))) (fun _ hk => hk.2) (.int .i64 ((rd_T47 l0 x35_1).f1))) (fun _ h_ => h_.1))) hb); have n2_ := Aside0.mk (blk_below (g := gb105) (o := .cells #[.string ((rd_T47 l0 x35_1).f0), .int .i64 ((rd_T47 l0 x35_1).f1)] 47 (0, 0)) (by (with_reducible repeat (first | refine blk_drewN ?_ _ | refine blk_drew ?_ | refine blk_alloc ?_ _)); refine blk_put (cs := #[.string ((rd_T47 l0 x35_1).f0), .int .i64 0]) ?_ 1 _ rfl; (with_reducible repeat (first | refine blk_drewN ?_ _ | refine blk_drew ?_ | refine blk_alloc ?_ _)); refine blk_put (cs := #[.string (⟨#[]⟩ : ByteArray), .int .i64 0]) ?_ 0 _ rfl; (with_reducible repeat (first | refine blk_drewN ?_ _ | refine blk_drew ?_ | refine blk_alloc ?_ _)); exact BK105.out) hb); have n3_ := Aside0.mk (below_step (by repeat (first | (with_reducible first | exact HB.out | apply below_alloc | apply pw_below_drewN | apply below_drew1 | refine below_set ?_ GE105.out) | exact HB.out)) hb); clear HO_10; clear HO_11; clear BK105; clear HB; have HO_10 := n0_; have HO_11 := n1_; have BK105 := n2_; have HB := n3_; clear n0_ n1_ n2_ n3_; (try clear hb); (try clear hb2); (try clear hk); (try clear hi)))
                    have n0_ := Aside0.mk (Kd.S_drew HO_10.out)
                    have n1_ := Aside0.mk (Kd.P_drew HO_11.out)
                    have n2_ := Aside0.mk (blk_drew BK105.out)
                    have n3_ := Aside0.mk (below_drew1 HB.out)
                    clear HO_10
                    clear HO_11
                    clear BK105
                    clear HB
                    have HO_10 := n0_
                    have HO_11 := n1_
                    have BK105 := n2_
                    have HB := n3_
                    clear n0_ n1_ n2_ n3_
                    have p107 : 0 ≤ (x12_1 : Int) := of_decide_eq_true (by first | (with_reducible assumption) | assumption)
                    have q107 : x12_1 < (l1.length : Int) := of_decide_eq_true (by first | (with_reducible assumption) | assumption)
                    obtain ⟨ad107, e107, hx107_0, hx107_1⟩ := at_T47 HR1.out x12_1 p107 q107
                    have hw107_1 := hx107_1
                    have hw107_0 := hx107_0
                    cases e107
                    replace hx107_0 := (HB.out.cell (World.block_lt_of_cell? w _ hx107_0)).trans hx107_0
                    replace hx107_1 := (HB.out.cell (World.block_lt_of_cell? w _ hx107_1)).trans hx107_1
                    replace p107 := eq_true p107
                    replace q107 := eq_true q107
                    refine start_ (n := 6) (S := fun w' => w'.cell? ⟨gb105, 0, none⟩ = some (.string ((rd_T47 l0 x35_1).f0)) ∧ w'.cell? ⟨gb105, 1, none⟩ = some (.int .i64 ((rd_T47 l0 x35_1).f1)) ∧ w'.cell? (ad107.add ((x12_1).toNat * 2)) = some (.string ((rd_T47 l1 x12_1).f0)) ∧ w'.cell? ⟨(ad107.add ((x12_1).toNat * 2)).block, (ad107.add ((x12_1).toNat * 2)).off + 1, none⟩ = some (.int .i64 ((rd_T47 l1 x12_1).f1))) (ds := []) #[false, false, false, false, false, false] (by kernel_rfl) rfl rfl ⟨(blk_cell BK105.out 0).trans rfl, (blk_cell BK105.out 1).trans rfl, ((HB.out.cell (World.block_lt_of_cell? w _ hw107_0)).trans hw107_0), ((HB.out.cell (World.block_lt_of_cell? w _ hw107_1)).trans hw107_1)⟩ (fun hHeld => ?_)
                    generalize w55.drew = w56 at HO_10 HO_11 BK105 HB hx107_0 hx107_1 hHeld ⊢
                    refine pure_ (i := 0) (N := some 42) (v := ?_) (a' := ?_) #[true, false, false, false, false, false] rfl rfl (by kernel_rfl) (fun _ _ _ h => h) (Or.inl ⟨by rfl, ?_⟩) ?_ ?_
                    rotate_left
                    · intro w'
                      go_simp
                      with_reducible rfl
                    rotate_left
                    · simp only [Act.put, List.setIfInBounds_toArray, List.set_cons_zero, List.set_cons_succ, i64_w, i32_w]
                      rfl
                    refine pure_ (i := 1) (N := some 43) (v := ?_) (a' := ?_) #[true, true, false, false, false, false] rfl rfl (by kernel_rfl) (fun _ _ _ h => h) (Or.inl ⟨by rfl, ?_⟩) ?_ ?_
                    rotate_left
                    · intro w'
                      go_simp
                      with_reducible rfl
                    rotate_left
                    · simp only [Act.put, List.setIfInBounds_toArray, List.set_cons_zero, List.set_cons_succ, i64_w, i32_w]
                      rfl
                    refine pure_ (i := 2) (N := some 44) (v := ?_) (a' := ?_) #[true, true, true, false, false, false] rfl rfl (by kernel_rfl) (fun _ _ _ h => h) (Or.inl ⟨by rfl, ?_⟩) ?_ ?_
                    rotate_left
                    · intro w'
                      go_simp
                      with_reducible rfl
                    rotate_left
                    · simp only [Act.put, List.setIfInBounds_toArray, List.set_cons_zero, List.set_cons_succ, i64_w, i32_w]
                      rfl
                    refine take_ (i := 3) (N := some 45) (v := ?_) (a' := ?_) #[true, true, true, true, false, false] rfl rfl (by kernel_rfl) (fun _ _ _ h => h) (Or.inl ⟨by rfl, ?_⟩) hHeld ?_ ?_
                    rotate_left
                    · rintro w' ⟨s0, s1, s2, s3⟩
                      go_simp
                      with_reducible rfl
                    rotate_left
                    · simp only [Act.put, List.setIfInBounds_toArray, List.set_cons_zero, List.set_cons_succ, i64_w, i32_w]
                      rfl
                    refine take_ (i := 4) (N := some 46) (v := ?_) (a' := ?_) #[true, true, true, true, true, false] rfl rfl (by kernel_rfl) (fun _ _ _ h => h) (Or.inl ⟨by rfl, ?_⟩) hHeld ?_ ?_
                    rotate_left
                    · rintro w' ⟨s0, s1, s2, s3⟩
                      go_simp
                      with_reducible rfl
                    rotate_left
                    · simp only [Act.put, List.setIfInBounds_toArray, List.set_cons_zero, List.set_cons_succ, i64_w, i32_w]
                      rfl
                    refine pure_ (i := 5) (N := some 47) (v := ?_) (a' := ?_) #[true, true, true, true, true, true] rfl rfl (by kernel_rfl) (fun _ _ _ h => h) (Or.inl ⟨by rfl, ?_⟩) ?_ ?_
                    rotate_left
                    · intro w'
                      go_simp
                      with_reducible rfl
                    rotate_left
                    · simp only [Act.put, List.setIfInBounds_toArray, List.set_cons_zero, List.set_cons_succ, i64_w, i32_w]
                      rfl
                    refine done_ (by kernel_rfl) ?_
                    try go_wp2
                    go_roundg k1
                    case measure => have := HK1.out; omega
                    case rel => exact ⟨(x10_1), (x11_1), (wrap64 (x12_1 + 1)), (wrap64 (x35_1 + 1)), (by first | rfl | (simp; done) | (simp [*]; done)), (by first | rfl | (simp; done) | (simp [*]; done)), H', ⟨by have := HK1.out; omega⟩, ⟨by (with_reducible repeat (first | apply Kd.S_alloc | apply Kd.S_drewN | apply Kd.S_drew)); exact Kd.S_mono HO_10.out (fun _ hk => trivial)⟩, ⟨by (with_reducible repeat (first | apply Kd.P_alloc | apply Kd.P_drewN | apply Kd.P_drew)); exact HO_11.out⟩, ⟨by repeat (first | (with_reducible first | exact HB.out | apply below_alloc | apply pw_below_drewN | apply below_drew1 | refine below_set ?_ GE105.out) | exact HB.out)⟩⟩
                · rw [if_neg c47] at H
                  exact absurd H (by simp)
              · rw [if_neg c46] at H
                exact absurd H (by simp)
          · rw [if_neg c7] at H
            exact absurd H (by simp)
        · rw [if_neg c6] at H
          exact absurd H (by simp)
      · rw [if_neg c5] at H
        have c5b0 : decide (x35_1 < (l0.length : Int)) = false := decide_eq_false c5
        clear c5
        simp only [Option.some.injEq, Prod.mk.injEq] at H
        obtain ⟨rfl, rfl, rfl⟩ := H
        go_wp2
        go_ret3
        exact ⟨_, by first | rfl | (simp [errW_none, errW_some] <;> rfl) | (simp [*, errW_none, errW_some] <;> rfl), by (with_reducible repeat (first | apply Kd.S_alloc | apply Kd.S_drewN | apply Kd.S_drew)); exact HO_10.out, by repeat (first | (with_reducible first | exact HB.out | apply below_alloc | apply pw_below_drewN | apply below_drew1) | exact HB.out)⟩

end Go.Proofs.Ytlfhonekcmlomaa.P

-- ==== PF9
namespace Go.Proofs.Ytlfhonekcmlomaa.P
open Go.RowKit Go.Proofs.YtlfhonekcmlomaaW.PrintWords Go.Proofs.YtlfhonekcmlomaaW.PrintLast Go.Proofs.YtlfhonekcmlomaaW.PrintMore
attribute [local go_sem] max2_int min2_int max_two min_two max_three min_three max_four min_four   -- for this text's walks alone
set_option linter.unusedVariables false
set_option linter.unusedSimpArgs false

/-! ### aumbrylaw05_wakes: function 9 -/
def aumbrylaw05_wakes.f (k : Nat)  : Option (Bool) := (match_Match.f k (([(⟨(⟨#[103]⟩ : ByteArray), 2⟩ : S47), (⟨(⟨#[88]⟩ : ByteArray), 0⟩ : S47), (⟨(⟨#[89]⟩ : ByteArray), 0⟩ : S47)] : List (S47))) (([(⟨(⟨#[103]⟩ : ByteArray), 2⟩ : S47), (⟨(⟨#[97]⟩ : ByteArray), 0⟩ : S47), (⟨(⟨#[98]⟩ : ByteArray), 0⟩ : S47)] : List (S47)))).bind fun bt107 => ((match_Fill.f k (([(⟨(⟨#[89]⟩ : ByteArray), 0⟩ : S47)] : List (S47))) bt107.1).bind fun bt115 => (if bt107.2.1 = true then (if bt107.2.2 = 0 then (if bt115.2 = 0 then (if (bt107.1.length : Int) = 2 then (if 0 < (bt107.1.length : Int) then (if ((rd_T44 bt107.1 0).f0).toList = ([88] : List UInt8) then (if (bt115.1.length : Int) = 1 then (if 0 < (bt115.1.length : Int) then (some (((rd_T47 bt115.1 0).f0).toList == ([98] : List UInt8))) else (none)) else (some false)) else (some false)) else (none)) else (some false)) else (some false)) else (some false)) else (some false)))
theorem aumbrylaw05_wakes.mono : ∀ k, LeO (aumbrylaw05_wakes.f k ) (aumbrylaw05_wakes.f (k + 1) ) := by
  intro  k
  unfold aumbrylaw05_wakes.f
  repeat' first
      | (with_reducible exact match_Fill.mono _ _ _)
      | (with_reducible exact match_Match.mono _ _ _)
      | (with_reducible exact LeO.refl _)
      | (with_reducible exact LeO.none _)
      | (with_reducible refine LeO.ite ?_ ?_)
      | (with_reducible refine LeO.bind ?_ (fun _ => ?_))
      | exact match_Fill.mono _ _ _
      | exact match_Match.mono _ _ _
      | exact LeO.none _
      | refine LeO.ite ?_ ?_
      | refine LeO.bind ?_ (fun _ => ?_)
set_option maxHeartbeats 8000000 in
set_option maxRecDepth 100000 in
theorem aumbrylaw05_wakes.calls (k : Nat)  (r : Bool) (w : World) (h : aumbrylaw05_wakes.f k  = some r) :
    Calls Try.prog 9 #[] w fun e w' => e = .returned (.bool r) ∧ Below w.heap.size w w' := by
  have hu47 := Try.underlying47
  have HB := Aside0.mk (Below.refl w.heap.size w)
  have H : ((match_Match.f k (([(⟨(⟨#[103]⟩ : ByteArray), 2⟩ : S47), (⟨(⟨#[88]⟩ : ByteArray), 0⟩ : S47), (⟨(⟨#[89]⟩ : ByteArray), 0⟩ : S47)] : List (S47))) (([(⟨(⟨#[103]⟩ : ByteArray), 2⟩ : S47), (⟨(⟨#[97]⟩ : ByteArray), 0⟩ : S47), (⟨(⟨#[98]⟩ : ByteArray), 0⟩ : S47)] : List (S47)))).bind fun bt107 => ((match_Fill.f k (([(⟨(⟨#[89]⟩ : ByteArray), 0⟩ : S47)] : List (S47))) bt107.1).bind fun bt115 => (if bt107.2.1 = true then (if bt107.2.2 = 0 then (if bt115.2 = 0 then (if (bt107.1.length : Int) = 2 then (if 0 < (bt107.1.length : Int) then (if ((rd_T44 bt107.1 0).f0).toList = ([88] : List UInt8) then (if (bt115.1.length : Int) = 1 then (if 0 < (bt115.1.length : Int) then (some (((rd_T47 bt115.1 0).f0).toList == ([98] : List UInt8))) else (none)) else (some false)) else (some false)) else (none)) else (some false)) else (some false)) else (some false)) else (some false)))) = some r := h
  clear h
  obtain ⟨y101, hy101⟩ : ∃ y_ : List (S47), y_ = (([(⟨(⟨#[103]⟩ : ByteArray), 2⟩ : S47), (⟨(⟨#[88]⟩ : ByteArray), 0⟩ : S47), (⟨(⟨#[89]⟩ : ByteArray), 0⟩ : S47)] : List (S47))) := ⟨_, rfl⟩
  replace H : ((match_Match.f k y101 (([(⟨(⟨#[103]⟩ : ByteArray), 2⟩ : S47), (⟨(⟨#[97]⟩ : ByteArray), 0⟩ : S47), (⟨(⟨#[98]⟩ : ByteArray), 0⟩ : S47)] : List (S47)))).bind fun bt107 => ((match_Fill.f k (([(⟨(⟨#[89]⟩ : ByteArray), 0⟩ : S47)] : List (S47))) bt107.1).bind fun bt115 => (if bt107.2.1 = true then (if bt107.2.2 = 0 then (if bt115.2 = 0 then (if (bt107.1.length : Int) = 2 then (if 0 < (bt107.1.length : Int) then (if ((rd_T44 bt107.1 0).f0).toList = ([88] : List UInt8) then (if (bt115.1.length : Int) = 1 then (if 0 < (bt115.1.length : Int) then (some (((rd_T47 bt115.1 0).f0).toList == ([98] : List UInt8))) else (none)) else (some false)) else (some false)) else (none)) else (some false)) else (some false)) else (some false)) else (some false)))) = some r := by first | (rw [hy101]; with_reducible exact H) | (have H2_ := (Option.bind_some _ _).symm.trans H; rw [hy101]; with_reducible exact H2_) | (have H2_ := (Option.bind_some _ _).symm.trans H; with_reducible exact H2_) | with_reducible exact H | (rw [hy101]; exact H) | exact H
  have Ny101 := Aside0.mk hy101
  clear hy101
  obtain ⟨y104, hy104⟩ : ∃ y_ : List (S47), y_ = (([(⟨(⟨#[103]⟩ : ByteArray), 2⟩ : S47), (⟨(⟨#[97]⟩ : ByteArray), 0⟩ : S47), (⟨(⟨#[98]⟩ : ByteArray), 0⟩ : S47)] : List (S47))) := ⟨_, rfl⟩
  replace H : ((match_Match.f k y101 y104).bind fun bt107 => ((match_Fill.f k (([(⟨(⟨#[89]⟩ : ByteArray), 0⟩ : S47)] : List (S47))) bt107.1).bind fun bt115 => (if bt107.2.1 = true then (if bt107.2.2 = 0 then (if bt115.2 = 0 then (if (bt107.1.length : Int) = 2 then (if 0 < (bt107.1.length : Int) then (if ((rd_T44 bt107.1 0).f0).toList = ([88] : List UInt8) then (if (bt115.1.length : Int) = 1 then (if 0 < (bt115.1.length : Int) then (some (((rd_T47 bt115.1 0).f0).toList == ([98] : List UInt8))) else (none)) else (some false)) else (some false)) else (none)) else (some false)) else (some false)) else (some false)) else (some false)))) = some r := by first | (rw [hy104]; with_reducible exact H) | (have H2_ := (Option.bind_some _ _).symm.trans H; rw [hy104]; with_reducible exact H2_) | (have H2_ := (Option.bind_some _ _).symm.trans H; with_reducible exact H2_) | with_reducible exact H | (rw [hy104]; exact H) | exact H
  have Ny104 := Aside0.mk hy104
  clear hy104
  replace H := Option.bind_eq_some_iff.mp H
  obtain ⟨⟨t107, t108, t109⟩, A10, H⟩ := H
  replace H : ((match_Fill.f k (([(⟨(⟨#[89]⟩ : ByteArray), 0⟩ : S47)] : List (S47))) t107).bind fun bt115 => (if t108 = true then (if t109 = 0 then (if bt115.2 = 0 then (if (t107.length : Int) = 2 then (if 0 < (t107.length : Int) then (if ((rd_T44 t107 0).f0).toList = ([88] : List UInt8) then (if (bt115.1.length : Int) = 1 then (if 0 < (bt115.1.length : Int) then (some (((rd_T47 bt115.1 0).f0).toList == ([98] : List UInt8))) else (none)) else (some false)) else (some false)) else (none)) else (some false)) else (some false)) else (some false)) else (some false))) = some r := H
  have A1 := Aside0.mk A10
  clear A10
  obtain ⟨y112, hy112⟩ : ∃ y_ : List (S47), y_ = (([(⟨(⟨#[89]⟩ : ByteArray), 0⟩ : S47)] : List (S47))) := ⟨_, rfl⟩
  replace H : ((match_Fill.f k y112 t107).bind fun bt115 => (if t108 = true then (if t109 = 0 then (if bt115.2 = 0 then (if (t107.length : Int) = 2 then (if 0 < (t107.length : Int) then (if ((rd_T44 t107 0).f0).toList = ([88] : List UInt8) then (if (bt115.1.length : Int) = 1 then (if 0 < (bt115.1.length : Int) then (some (((rd_T47 bt115.1 0).f0).toList == ([98] : List UInt8))) else (none)) else (some false)) else (some false)) else (none)) else (some false)) else (some false)) else (some false)) else (some false))) = some r := by first | (rw [hy112]; with_reducible exact H) | (have H2_ := (Option.bind_some _ _).symm.trans H; rw [hy112]; with_reducible exact H2_) | (have H2_ := (Option.bind_some _ _).symm.trans H; with_reducible exact H2_) | with_reducible exact H | (rw [hy112]; exact H) | exact H
  have Ny112 := Aside0.mk hy112
  clear hy112
  replace H := Option.bind_eq_some_iff.mp H
  obtain ⟨⟨t115, t116⟩, A20, H⟩ := H
  replace H : (if t108 = true then (if t109 = 0 then (if t116 = 0 then (if (t107.length : Int) = 2 then (if 0 < (t107.length : Int) then (if ((rd_T44 t107 0).f0).toList = ([88] : List UInt8) then (if (t115.length : Int) = 1 then (if 0 < (t115.length : Int) then (some (((rd_T47 t115 0).f0).toList == ([98] : List UInt8))) else (none)) else (some false)) else (some false)) else (none)) else (some false)) else (some false)) else (some false)) else (some false)) = some r := H
  have A2 := Aside0.mk A20
  clear A20
  by_cases c3 : t108 = true
  · subst c3
    have H1 : (if t109 = 0 then (if t116 = 0 then (if (t107.length : Int) = 2 then (if 0 < (t107.length : Int) then (if ((rd_T44 t107 0).f0).toList = ([88] : List UInt8) then (if (t115.length : Int) = 1 then (if 0 < (t115.length : Int) then (some (((rd_T47 t115 0).f0).toList == ([98] : List UInt8))) else (none)) else (some false)) else (some false)) else (none)) else (some false)) else (some false)) else (some false)) = some r := by rw [if_pos rfl] at H; exact H
    clear H
    have H := H1
    clear H1
    by_cases c4 : t109 = 0
    · rw [if_pos c4] at H
      have c4b0 : (t109 == 0) = true := beq_iff_eq.mpr c4
      have c4b1 : (t109 != 0) = false := bne_eq_false_iff_eq.mpr c4
      clear c4
      by_cases c5 : t116 = 0
      · rw [if_pos c5] at H
        have c5b0 : (t116 == 0) = true := beq_iff_eq.mpr c5
        have c5b1 : (t116 != 0) = false := bne_eq_false_iff_eq.mpr c5
        clear c5
        by_cases c6 : (t107.length : Int) = 2
        · rw [if_pos c6] at H
          have c6b0 : ((t107.length : Int) == 2) = true := beq_iff_eq.mpr c6
          have c6b1 : ((t107.length : Int) != 2) = false := bne_eq_false_iff_eq.mpr c6
          clear c6
          by_cases c7 : 0 < (t107.length : Int)
          · rw [if_pos c7] at H
            have c7b0 : decide (0 < (t107.length : Int)) = true := decide_eq_true c7
            have c7b1 : decide (0 < t107.length) = true := decide_eq_true (by omega)
            clear c7
            by_cases c8 : ((rd_T44 t107 0).f0).toList = ([88] : List UInt8)
            · rw [if_pos c8] at H
              have c8b0 : (((rd_T44 t107 0).f0).toList == ([88] : List UInt8)) = true := beq_iff_eq.mpr c8
              have c8b1 : (((rd_T44 t107 0).f0).toList != ([88] : List UInt8)) = false := bne_eq_false_iff_eq.mpr c8
              clear c8
              by_cases c9 : (t115.length : Int) = 1
              · rw [if_pos c9] at H
                have c9b0 : ((t115.length : Int) == 1) = true := beq_iff_eq.mpr c9
                have c9b1 : ((t115.length : Int) != 1) = false := bne_eq_false_iff_eq.mpr c9
                clear c9
                by_cases c10 : 0 < (t115.length : Int)
                · rw [if_pos c10] at H
                  have c10b0 : decide (0 < (t115.length : Int)) = true := decide_eq_true c10
                  have c10b1 : decide (0 < t115.length) = true := decide_eq_true (by omega)
                  clear c10
                  obtain rfl := Option.some.inj H
                  go_enter Try.func9, Try.ntmps9
                  go_wp2_with (first | ((with_reducible refine gate_dst (N := 11) rfl ?_); (try (refine gate_guard (by rfl) ?_; dsimp only)); refine Kd.R_lit k47 _ 47 ?hg (N := 11) ?hd (xs := ([(⟨(⟨#[103]⟩ : ByteArray), 2⟩ : S47), (⟨(⟨#[88]⟩ : ByteArray), 0⟩ : S47), (⟨(⟨#[89]⟩ : ByteArray), 0⟩ : S47)] : List (S47))) (inner := [.string (⟨#[103]⟩ : ByteArray), .int .i64 2, .string (⟨#[88]⟩ : ByteArray), .int .i64 0, .string (⟨#[89]⟩ : ByteArray), .int .i64 0]) (ok := fun _ => True) (okp := fun _ => True) ?hr ?hp (fun _ hk => hk) trivial (Below.refl _ _) (Nat.le_refl _) (by simp) ?_; (case hd => rfl); (case hg => rfl); (case hr => first | (go_simp; done) | (go_simp; rfl)); (case hp => exact (Reps.c2 (show Kd.M k47 _ _ _ (⟨(⟨#[103]⟩ : ByteArray), 2⟩ : S47) [.string (⟨#[103]⟩ : ByteArray), .int .i64 2] from (k47_mkM _ _ _ (⟨(⟨#[103]⟩ : ByteArray), 2⟩ : S47) )) (Reps.c2 (show Kd.M k47 _ _ _ (⟨(⟨#[88]⟩ : ByteArray), 0⟩ : S47) [.string (⟨#[88]⟩ : ByteArray), .int .i64 0] from (k47_mkM _ _ _ (⟨(⟨#[88]⟩ : ByteArray), 0⟩ : S47) )) (Reps.c2 (show Kd.M k47 _ _ _ (⟨(⟨#[89]⟩ : ByteArray), 0⟩ : S47) [.string (⟨#[89]⟩ : ByteArray), .int .i64 0] from (k47_mkM _ _ _ (⟨(⟨#[89]⟩ : ByteArray), 0⟩ : S47) )) (Reps.none _ _))))); intro v102 w11 ho12 hb hg_ hnew_; clear hg_ hnew_; (first | rw [← Ny101.out] at ho12 | (simp only [Int.reduceToNat] at ho12; rw [← Ny101.out] at ho12)); have n0_ := Aside0.mk (Kd.R_lower ho12 (below_size (by repeat (first | (with_reducible first | exact HB.out | apply below_alloc | apply pw_below_drewN | apply below_drew1) | exact HB.out)))); have n1_ := Aside0.mk (below_step (by repeat (first | (with_reducible first | exact HB.out | apply below_alloc | apply pw_below_drewN | apply below_drew1) | exact HB.out)) hb); clear HB; have HO103 := n0_; have HB := n1_; clear n0_ n1_; clear hb ho12) | ((with_reducible refine gate_dst (N := 15) rfl ?_); (try (refine gate_guard (by rfl) ?_; dsimp only)); refine Kd.R_lit k47 _ 47 ?hg (N := 15) ?hd (xs := ([(⟨(⟨#[103]⟩ : ByteArray), 2⟩ : S47), (⟨(⟨#[97]⟩ : ByteArray), 0⟩ : S47), (⟨(⟨#[98]⟩ : ByteArray), 0⟩ : S47)] : List (S47))) (inner := [.string (⟨#[103]⟩ : ByteArray), .int .i64 2, .string (⟨#[97]⟩ : ByteArray), .int .i64 0, .string (⟨#[98]⟩ : ByteArray), .int .i64 0]) (ok := fun _ => True) (okp := fun _ => True) ?hr ?hp (fun _ hk => hk) trivial (Below.refl _ _) (Nat.le_refl _) (by simp) ?_; (case hd => rfl); (case hg => rfl); (case hr => first | (go_simp; done) | (go_simp; rfl)); (case hp => exact (Reps.c2 (show Kd.M k47 _ _ _ (⟨(⟨#[103]⟩ : ByteArray), 2⟩ : S47) [.string (⟨#[103]⟩ : ByteArray), .int .i64 2] from (k47_mkM _ _ _ (⟨(⟨#[103]⟩ : ByteArray), 2⟩ : S47) )) (Reps.c2 (show Kd.M k47 _ _ _ (⟨(⟨#[97]⟩ : ByteArray), 0⟩ : S47) [.string (⟨#[97]⟩ : ByteArray), .int .i64 0] from (k47_mkM _ _ _ (⟨(⟨#[97]⟩ : ByteArray), 0⟩ : S47) )) (Reps.c2 (show Kd.M k47 _ _ _ (⟨(⟨#[98]⟩ : ByteArray), 0⟩ : S47) [.string (⟨#[98]⟩ : ByteArray), .int .i64 0] from (k47_mkM _ _ _ (⟨(⟨#[98]⟩ : ByteArray), 0⟩ : S47) )) (Reps.none _ _))))); intro v105 w13 ho14 hb hg_ hnew_; clear hg_ hnew_; (first | rw [← Ny104.out] at ho14 | (simp only [Int.reduceToNat] at ho14; rw [← Ny104.out] at ho14)); have n0_ := Aside0.mk (Kd.R_elder' (by (with_reducible repeat (first | apply Kd.R_alloc | apply Kd.R_drewN | apply Kd.R_drew)); exact HO103.out) (Kd.R_base ho14) hb); have n1_ := Aside0.mk (Kd.R_lower (Kd.R_new' ho14 (Kd.R_lt (by (with_reducible repeat (first | apply Kd.R_alloc | apply Kd.R_drewN | apply Kd.R_drew)); exact HO103.out))) (below_size (by repeat (first | (with_reducible first | exact HB.out | apply below_alloc | apply pw_below_drewN | apply below_drew1) | exact HB.out)))); have n2_ := Aside0.mk (below_step (by repeat (first | (with_reducible first | exact HB.out | apply below_alloc | apply pw_below_drewN | apply below_drew1) | exact HB.out)) hb); clear HO103; clear HB; have HO103 := n0_; have HO106 := n1_; have HB := n2_; clear n0_ n1_ n2_; clear hb ho14; obtain ⟨Ao15, co15, eo15⟩ := Kd.R_slice HO103.out; subst eo15; obtain ⟨Ao16, co16, eo16⟩ := Kd.R_slice HO106.out; subst eo16) | ((with_reducible refine gate_callee (f := 10) rfl ?_); refine goesL_ (some 19) rfl rfl Try.func10 (by kernel_rfl) rfl #[.slice Ao15 y101.length co15, .slice Ao16 y104.length co16] rfl (by (try simp only [List.map_toArray, List.map_cons, List.map_nil]); first | done | rfl | (simp only [List.length_drop, List.length_take]; rfl)) ?_; (with_reducible refine (match_Match.calls k _ _ y101 _ _ y104 t107 true t109 _ ?side1 ?side2 ?side3 ?side4 A1.out).mono ?_); (case side1 => repeat (first | exact (Kd.R_reads' HO103.out).2.2 | (with_reducible refine Kd.C_alloc ?_ _) | (with_reducible refine Kd.C_drewN ?_ _) | (with_reducible refine Kd.C_drew ?_))); (case side2 => exact (Kd.R_reads' HO103.out).2.1); (case side3 => repeat (first | exact (Kd.R_reads' HO106.out).2.2 | (with_reducible refine Kd.C_alloc ?_ _) | (with_reducible refine Kd.C_drewN ?_ _) | (with_reducible refine Kd.C_drew ?_))); (case side4 => exact (Kd.R_reads' HO106.out).2.1); rintro e w17 ⟨v110, rfl, ho0, hb⟩; refine ⟨_, rfl, ?_⟩; have n0_ := Aside0.mk (Kd.R_below (by (with_reducible repeat (first | apply Kd.R_alloc | apply Kd.R_drewN | apply Kd.R_drew)); exact HO103.out) hb); have n1_ := Aside0.mk (Kd.R_below (by (with_reducible repeat (first | apply Kd.R_alloc | apply Kd.R_drewN | apply Kd.R_drew)); exact HO106.out) hb); have n2_ := Aside0.mk (Kd.S_lower (Kd.S_new' (Kd.S_new' ho0 (Kd.R_lt (by (with_reducible repeat (first | apply Kd.R_alloc | apply Kd.R_drewN | apply Kd.R_drew)); exact HO103.out))) (Kd.R_lt (by (with_reducible repeat (first | apply Kd.R_alloc | apply Kd.R_drewN | apply Kd.R_drew)); exact HO106.out))) (below_size (by repeat (first | (with_reducible first | exact HB.out | apply below_alloc | apply pw_below_drewN | apply below_drew1) | exact HB.out)))); have n3_ := Aside0.mk (below_step (by repeat (first | (with_reducible first | exact HB.out | apply below_alloc | apply pw_below_drewN | apply below_drew1) | exact HB.out)) hb); clear HO103; clear HO106; clear HB; have HO103 := n0_; have HO106 := n1_; have HO111 := n2_; have HB := n3_; clear n0_ n1_ n2_ n3_; (try clear hb); (try clear hb2); (try clear hk); (try clear hi); (try clear ho0)) | ((with_reducible refine gate_dst (N := 25) rfl ?_); (try (refine gate_guard (by rfl) ?_; dsimp only)); refine Kd.R_lit k47 _ 47 ?hg (N := 25) ?hd (xs := ([(⟨(⟨#[89]⟩ : ByteArray), 0⟩ : S47)] : List (S47))) (inner := [.string (⟨#[89]⟩ : ByteArray), .int .i64 0]) (ok := fun _ => True) (okp := fun _ => True) ?hr ?hp (fun _ hk => hk) trivial (Below.refl _ _) (Nat.le_refl _) (by simp) ?_; (case hd => rfl); (case hg => rfl); (case hr => first | (go_simp; done) | (go_simp; rfl)); (case hp => exact (Reps.c2 (show Kd.M k47 _ _ _ (⟨(⟨#[89]⟩ : ByteArray), 0⟩ : S47) [.string (⟨#[89]⟩ : ByteArray), .int .i64 0] from (k47_mkM _ _ _ (⟨(⟨#[89]⟩ : ByteArray), 0⟩ : S47) )) (Reps.none _ _))); intro v113 w18 ho19 hb hg_ hnew_; clear hg_ hnew_; (first | rw [← Ny112.out] at ho19 | (simp only [Int.reduceToNat] at ho19; rw [← Ny112.out] at ho19)); have n0_ := Aside0.mk (Kd.R_elder' (by (with_reducible repeat (first | apply Kd.R_alloc | apply Kd.R_drewN | apply Kd.R_drew)); exact HO103.out) (Kd.R_base ho19) hb); have n1_ := Aside0.mk (Kd.R_elder' (by (with_reducible repeat (first | apply Kd.R_alloc | apply Kd.R_drewN | apply Kd.R_drew)); exact HO106.out) (Kd.R_base ho19) hb); have n2_ := Aside0.mk (Kd.S_elder' (by (with_reducible repeat (first | apply Kd.S_alloc | apply Kd.S_drewN | apply Kd.S_drew)); exact HO111.out) (Kd.R_base ho19) hb); have n3_ := Aside0.mk (Kd.R_lower (Kd.R_new' (Kd.R_new' ho19 (Kd.R_lt (by (with_reducible repeat (first | apply Kd.R_alloc | apply Kd.R_drewN | apply Kd.R_drew)); exact HO103.out))) (Kd.R_lt (by (with_reducible repeat (first | apply Kd.R_alloc | apply Kd.R_drewN | apply Kd.R_drew)); exact HO106.out))) (below_size (by repeat (first | (with_reducible first | exact HB.out | apply below_alloc | apply pw_below_drewN | apply below_drew1) | exact HB.out)))); have n4_ := Aside0.mk (below_step (by repeat (first | (with_reducible first | exact HB.out | apply below_alloc | apply pw_below_drewN | apply below_drew1) | exact HB.out)) hb); clear HO103; clear HO106; clear HO111; clear HB; have HO103 := n0_; have HO106 := n1_; have HO111 := n2_; have HO114 := n3_; have HB := n4_; clear n0_ n1_ n2_ n3_ n4_; clear hb ho19; obtain ⟨Ao20, co20, eo20⟩ := Kd.R_slice HO114.out; subst eo20; obtain ⟨Ao21, co21, eo21⟩ := Kd.S_slice HO111.out; subst eo21) | ((with_reducible refine gate_callee (f := 14) rfl ?_); refine goesL_ (some 27) rfl rfl Try.func14 (by kernel_rfl) rfl #[.slice Ao20 y112.length co20, .slice Ao21 t107.length co21] rfl (by (try simp only [List.map_toArray, List.map_cons, List.map_nil]); first | done | rfl | (simp only [List.length_drop, List.length_take]; rfl)) ?_; (with_reducible refine (match_Fill.calls k _ _ y112 _ _ t107 t115 t116 _ ?side1 ?side2 ?side3 ?side4 A2.out).mono ?_); (case side1 => repeat (first | exact (Kd.R_reads' HO114.out).2.2 | (with_reducible refine Kd.C_alloc ?_ _) | (with_reducible refine Kd.C_drewN ?_ _) | (with_reducible refine Kd.C_drew ?_))); (case side2 => exact (Kd.R_reads' HO114.out).2.1); (case side3 => repeat (first | exact (Kd.S_reads' HO111.out).2.2 | (with_reducible refine Kd.C_alloc ?_ _) | (with_reducible refine Kd.C_drewN ?_ _) | (with_reducible refine Kd.C_drew ?_))); (case side4 => exact (Kd.S_reads' HO111.out).2.1); rintro e w22 ⟨v117, rfl, ho0, hb⟩; refine ⟨_, rfl, ?_⟩; have n0_ := Aside0.mk (Kd.R_elder' (by (with_reducible repeat (first | apply Kd.R_alloc | apply Kd.R_drewN | apply Kd.R_drew)); exact HO103.out) (Kd.R_base ho0) hb); have n1_ := Aside0.mk (Kd.R_elder' (by (with_reducible repeat (first | apply Kd.R_alloc | apply Kd.R_drewN | apply Kd.R_drew)); exact HO106.out) (Kd.R_base ho0) hb); have n2_ := Aside0.mk (Kd.S_elder' (by (with_reducible repeat (first | apply Kd.S_alloc | apply Kd.S_drewN | apply Kd.S_drew)); exact HO111.out) (Kd.R_base ho0) hb); have n3_ := Aside0.mk (Kd.R_elder' (by (with_reducible repeat (first | apply Kd.R_alloc | apply Kd.R_drewN | apply Kd.R_drew)); exact HO114.out) (Kd.R_base ho0) hb); have n4_ := Aside0.mk (Kd.R_lower (Kd.R_new' (Kd.R_new' (Kd.R_new' ho0 (Kd.R_lt (by (with_reducible repeat (first | apply Kd.R_alloc | apply Kd.R_drewN | apply Kd.R_drew)); exact HO103.out))) (Kd.R_lt (by (with_reducible repeat (first | apply Kd.R_alloc | apply Kd.R_drewN | apply Kd.R_drew)); exact HO106.out))) (Kd.R_lt (by (with_reducible repeat (first | apply Kd.R_alloc | apply Kd.R_drewN | apply Kd.R_drew)); exact HO114.out))) (below_size (by repeat (first | (with_reducible first | exact HB.out | apply below_alloc | apply pw_below_drewN | apply below_drew1) | exact HB.out)))); have n5_ := Aside0.mk (below_step (by repeat (first | (with_reducible first | exact HB.out | apply below_alloc | apply pw_below_drewN | apply below_drew1) | exact HB.out)) hb); clear HO103; clear HO106; clear HO111; clear HO114; clear HB; have HO103 := n0_; have HO106 := n1_; have HO111 := n2_; have HO114 := n3_; have HO118 := n4_; have HB := n5_; clear n0_ n1_ n2_ n3_ n4_ n5_; (try clear hb); (try clear hb2); (try clear hk); (try clear hi); (try clear ho0); have p119 : 0 ≤ (0 : Int) := (by omega); have q119 : 0 < (t107.length : Int) := of_decide_eq_true (by first | (with_reducible assumption) | assumption); obtain ⟨ad119, A119_1, c119_1, e119, hx119_0, hx119_1, hl119_1, hi119_1⟩ := at_T44 (Kd.S_reads' HO111.out).2.2 0 p119 q119; cases e119; obtain ⟨ce119, hce119, hMe119, hcc119⟩ := Kd.S_get HO111.out z44 0 p119 (by first | exact q119 | exact of_decide_eq_true (by first | (with_reducible assumption) | assumption) | (have e_ := (Kd.S_reads' HO111.out).1; omega)); obtain ⟨ve119_1, rfl, ge119_1⟩ := k44_openM hMe119; have hv119_1 := hcc119 1 _ rfl; rw [add_field _ _ 1 (by omega)] at hv119_1; replace hv119_1 := Option.some.inj (hv119_1.symm.trans hx119_1); rw [hv119_1] at ge119_1; have HL119_1 := Aside0.mk (show Kd.R k47 47 _ _ _ _ ((rd_T44 t107 0).f1) from ge119_1); clear hv119_1 ge119_1; clear hcc119 hce119; have qi119 : (0 < t107.length) = True := eq_true (by omega); (try rw [show ((0 : Int)).toNat = 0 from rfl] at hx119_0); (try rw [show 0 * 2 = 0 from rfl] at hx119_0); (try rw [Addr.add_zero'] at hx119_0); (try rw [show ((0 : Int)).toNat = 0 from rfl] at hx119_1); (try rw [show 0 * 2 = 0 from rfl] at hx119_1); (try rw [Addr.add_zero'] at hx119_1); have HR119_1 := Aside0.mk hi119_1; have HC119_1 := Aside0.mk hl119_1; clear hi119_1 hl119_1; replace p119 := eq_true p119; replace q119 := eq_true q119; obtain ⟨Ao23, co23, eo23⟩ := Kd.R_slice HO118.out; subst eo23; have p120 : 0 ≤ (0 : Int) := (by omega); have q120 : 0 < (t115.length : Int) := of_decide_eq_true (by first | (with_reducible assumption) | assumption); obtain ⟨ad120, e120, hx120_0, hx120_1⟩ := at_T47 (Kd.R_reads' HO118.out).2.2 0 p120 q120; cases e120; have qi120 : (0 < t115.length) = True := eq_true (by omega); (try rw [show ((0 : Int)).toNat = 0 from rfl] at hx120_0); (try rw [show 0 * 2 = 0 from rfl] at hx120_0); (try rw [Addr.add_zero'] at hx120_0); (try rw [show ((0 : Int)).toNat = 0 from rfl] at hx120_1); (try rw [show 0 * 2 = 0 from rfl] at hx120_1); (try rw [Addr.add_zero'] at hx120_1); replace p120 := eq_true p120; replace q120 := eq_true q120))
                  go_ret
                  exact ⟨by first | rfl | (simp [errW_none, errW_some] <;> rfl) | (simp [*, errW_none, errW_some] <;> rfl), by repeat (first | (with_reducible first | exact HB.out | apply below_alloc | apply pw_below_drewN | apply below_drew1) | exact HB.out)⟩
                · rw [if_neg c10] at H
                  exact absurd H (by simp)
              · rw [if_neg c9] at H
                have c9b0 : ((t115.length : Int) == 1) = false := beq_eq_false_iff_ne.mpr c9
                have c9b1 : ((t115.length : Int) != 1) = true := bne_iff_ne.mpr c9
                obtain rfl := Option.some.inj H
                go_enter Try.func9, Try.ntmps9
                go_wp2_with (first | ((with_reducible refine gate_dst (N := 11) rfl ?_); (try (refine gate_guard (by rfl) ?_; dsimp only)); refine Kd.R_lit k47 _ 47 ?hg (N := 11) ?hd (xs := ([(⟨(⟨#[103]⟩ : ByteArray), 2⟩ : S47), (⟨(⟨#[88]⟩ : ByteArray), 0⟩ : S47), (⟨(⟨#[89]⟩ : ByteArray), 0⟩ : S47)] : List (S47))) (inner := [.string (⟨#[103]⟩ : ByteArray), .int .i64 2, .string (⟨#[88]⟩ : ByteArray), .int .i64 0, .string (⟨#[89]⟩ : ByteArray), .int .i64 0]) (ok := fun _ => True) (okp := fun _ => True) ?hr ?hp (fun _ hk => hk) trivial (Below.refl _ _) (Nat.le_refl _) (by simp) ?_; (case hd => rfl); (case hg => rfl); (case hr => first | (go_simp; done) | (go_simp; rfl)); (case hp => exact (Reps.c2 (show Kd.M k47 _ _ _ (⟨(⟨#[103]⟩ : ByteArray), 2⟩ : S47) [.string (⟨#[103]⟩ : ByteArray), .int .i64 2] from (k47_mkM _ _ _ (⟨(⟨#[103]⟩ : ByteArray), 2⟩ : S47) )) (Reps.c2 (show Kd.M k47 _ _ _ (⟨(⟨#[88]⟩ : ByteArray), 0⟩ : S47) [.string (⟨#[88]⟩ : ByteArray), .int .i64 0] from (k47_mkM _ _ _ (⟨(⟨#[88]⟩ : ByteArray), 0⟩ : S47) )) (Reps.c2 (show Kd.M k47 _ _ _ (⟨(⟨#[89]⟩ : ByteArray), 0⟩ : S47) [.string (⟨#[89]⟩ : ByteArray), .int .i64 0] from (k47_mkM _ _ _ (⟨(⟨#[89]⟩ : ByteArray), 0⟩ : S47) )) (Reps.none _ _))))); intro v102 w24 ho25 hb hg_ hnew_; clear hg_ hnew_; (first | rw [← Ny101.out] at ho25 | (simp only [Int.reduceToNat] at ho25; rw [← Ny101.out] at ho25)); have n0_ := Aside0.mk (Kd.R_lower ho25 (below_size (by repeat (first | (with_reducible first | exact HB.out | apply below_alloc | apply pw_below_drewN | apply below_drew1) | exact HB.out)))); have n1_ := Aside0.mk (below_step (by repeat (first | (with_reducible first | exact HB.out | apply below_alloc | apply pw_below_drewN | apply below_drew1) | exact HB.out)) hb); clear HB; have HO103 := n0_; have HB := n1_; clear n0_ n1_; clear hb ho25) | ((with_reducible refine gate_dst (N := 15) rfl ?_); (try (refine gate_guard (by rfl) ?_; dsimp only)); refine Kd.R_lit k47 _ 47 ?hg (N := 15) ?hd (xs := ([(⟨(⟨#[103]⟩ : ByteArray), 2⟩ : S47), (⟨(⟨#[97]⟩ : ByteArray), 0⟩ : S47), (⟨(⟨#[98]⟩ : ByteArray), 0⟩ : S47)] : List (S47))) (inner := [.string (⟨#[103]⟩ : ByteArray), .int .i64 2, .string (⟨#[97]⟩ : ByteArray), .int .i64 0, .string (⟨#[98]⟩ : ByteArray), .int .i64 0]) (ok := fun _ => True) (okp := fun _ => True) ?hr ?hp (fun _ hk => hk) trivial (Below.refl _ _) (Nat.le_refl _) (by simp) ?_; (case hd => rfl); (case hg => rfl); (case hr => first | (go_simp; done) | (go_simp; rfl)); (case hp => exact (Reps.c2 (show Kd.M k47 _ _ _ (⟨(⟨#[103]⟩ : ByteArray), 2⟩ : S47) [.string (⟨#[103]⟩ : ByteArray), .int .i64 2] from (k47_mkM _ _ _ (⟨(⟨#[103]⟩ : ByteArray), 2⟩ : S47) )) (Reps.c2 (show Kd.M k47 _ _ _ (⟨(⟨#[97]⟩ : ByteArray), 0⟩ : S47) [.string (⟨#[97]⟩ : ByteArray), .int .i64 0] from (k47_mkM _ _ _ (⟨(⟨#[97]⟩ : ByteArray), 0⟩ : S47) )) (Reps.c2 (show Kd.M k47 _ _ _ (⟨(⟨#[98]⟩ : ByteArray), 0⟩ : S47) [.string (⟨#[98]⟩ : ByteArray), .int .i64 0] from (k47_mkM _ _ _ (⟨(⟨#[98]⟩ : ByteArray), 0⟩ : S47) )) (Reps.none _ _))))); intro v105 w26 ho27 hb hg_ hnew_; clear hg_ hnew_; (first | rw [← Ny104.out] at ho27 | (simp only [Int.reduceToNat] at ho27; rw [← Ny104.out] at ho27)); have n0_ := Aside0.mk (Kd.R_elder' (by (with_reducible repeat (first | apply Kd.R_alloc | apply Kd.R_drewN | apply Kd.R_drew)); exact HO103.out) (Kd.R_base ho27) hb); have n1_ := Aside0.mk (Kd.R_lower (Kd.R_new' ho27 (Kd.R_lt (by (with_reducible repeat (first | apply Kd.R_alloc | apply Kd.R_drewN | apply Kd.R_drew)); exact HO103.out))) (below_size (by repeat (first | (with_reducible first | exact HB.out | apply below_alloc | apply pw_below_drewN | apply below_drew1) | exact HB.out)))); have n2_ := Aside0.mk (below_step (by repeat (first | (with_reducible first | exact HB.out | apply below_alloc | apply pw_below_drewN | apply below_drew1) | exact HB.out)) hb); clear HO103; clear HB; have HO103 := n0_; have HO106 := n1_; have HB := n2_; clear n0_ n1_ n2_; clear hb ho27; obtain ⟨Ao28, co28, eo28⟩ := Kd.R_slice HO103.out; subst eo28; obtain ⟨Ao29, co29, eo29⟩ := Kd.R_slice HO106.out; subst eo29) | ((with_reducible refine gate_callee (f := 10) rfl ?_); refine goesL_ (some 19) rfl rfl Try.func10 (by kernel_rfl) rfl #[.slice Ao28 y101.length co28, .slice Ao29 y104.length co29] rfl (by (try simp only [List.map_toArray, List.map_cons, List.map_nil]); first | done | rfl | (simp only [List.length_drop, List.length_take]; rfl)) ?_; (with_reducible refine (match_Match.calls k _ _ y101 _ _ y104 t107 true t109 _ ?side1 ?side2 ?side3 ?side4 A1.out).mono ?_); (case side1 => repeat (first | exact (Kd.R_reads' HO103.out).2.2 | (with_reducible refine Kd.C_alloc ?_ _) | (with_reducible refine Kd.C_drewN ?_ _) | (with_reducible refine Kd.C_drew ?_))); (case side2 => exact (Kd.R_reads' HO103.out).2.1); (case side3 => repeat (first | exact (Kd.R_reads' HO106.out).2.2 | (with_reducible refine Kd.C_alloc ?_ _) | (with_reducible refine Kd.C_drewN ?_ _) | (with_reducible refine Kd.C_drew ?_))); (case side4 => exact (Kd.R_reads' HO106.out).2.1); rintro e w30 ⟨v110, rfl, ho0, hb⟩; refine ⟨_, rfl, ?_⟩; have n0_ := Aside0.mk (Kd.R_below (by (with_reducible repeat (first | apply Kd.R_alloc | apply Kd.R_drewN | apply Kd.R_drew)); exact HO103.out) hb); have n1_ := Aside0.mk (Kd.R_below (by (with_reducible repeat (first | apply Kd.R_alloc | apply Kd.R_drewN | apply Kd.R_drew)); exact HO106.out) hb); have n2_ := Aside0.mk (Kd.S_lower (Kd.S_new' (Kd.S_new' ho0 (Kd.R_lt (by (with_reducible repeat (first | apply Kd.R_alloc | apply Kd.R_drewN | apply Kd.R_drew)); exact HO103.out))) (Kd.R_lt (by (with_reducible repeat (first | apply Kd.R_alloc | apply Kd.R_drewN | apply Kd.R_drew)); exact HO106.out))) (below_size (by repeat (first | (with_reducible first | exact HB.out | apply below_alloc | apply pw_below_drewN | apply below_drew1) | exact HB.out)))); have n3_ := Aside0.mk (below_step (by repeat (first | (with_reducible first | exact HB.out | apply below_alloc | apply pw_below_drewN | apply below_drew1) | exact HB.out)) hb); clear HO103; clear HO106; clear HB; have HO103 := n0_; have HO106 := n1_; have HO111 := n2_; have HB := n3_; clear n0_ n1_ n2_ n3_; (try clear hb); (try clear hb2); (try clear hk); (try clear hi); (try clear ho0)) | ((with_reducible refine gate_dst (N := 25) rfl ?_); (try (refine gate_guard (by rfl) ?_; dsimp only)); refine Kd.R_lit k47 _ 47 ?hg (N := 25) ?hd (xs := ([(⟨(⟨#[89]⟩ : ByteArray), 0⟩ : S47)] : List (S47))) (inner := [.string (⟨#[89]⟩ : ByteArray), .int .i64 0]) (ok := fun _ => True) (okp := fun _ => True) ?hr ?hp (fun _ hk => hk) trivial (Below.refl _ _) (Nat.le_refl _) (by simp) ?_; (case hd => rfl); (case hg => rfl); (case hr => first | (go_simp; done) | (go_simp; rfl)); (case hp => exact (Reps.c2 (show Kd.M k47 _ _ _ (⟨(⟨#[89]⟩ : ByteArray), 0⟩ : S47) [.string (⟨#[89]⟩ : ByteArray), .int .i64 0] from (k47_mkM _ _ _ (⟨(⟨#[89]⟩ : ByteArray), 0⟩ : S47) )) (Reps.none _ _))); intro v113 w31 ho32 hb hg_ hnew_; clear hg_ hnew_; (first | rw [← Ny112.out] at ho32 | (simp only [Int.reduceToNat] at ho32; rw [← Ny112.out] at ho32)); have n0_ := Aside0.mk (Kd.R_elder' (by (with_reducible repeat (first | apply Kd.R_alloc | apply Kd.R_drewN | apply Kd.R_drew)); exact HO103.out) (Kd.R_base ho32) hb); have n1_ := Aside0.mk (Kd.R_elder' (by (with_reducible repeat (first | apply Kd.R_alloc | apply Kd.R_drewN | apply Kd.R_drew)); exact HO106.out) (Kd.R_base ho32) hb); have n2_ := Aside0.mk (Kd.S_elder' (by (with_reducible repeat (first | apply Kd.S_alloc | apply Kd.S_drewN | apply Kd.S_drew)); exact HO111.out) (Kd.R_base ho32) hb); have n3_ := Aside0.mk (Kd.R_lower (Kd.R_new' (Kd.R_new' ho32 (Kd.R_lt (by (with_reducible repeat (first | apply Kd.R_alloc | apply Kd.R_drewN | apply Kd.R_drew)); exact HO103.out))) (Kd.R_lt (by (with_reducible repeat (first | apply Kd.R_alloc | apply Kd.R_drewN | apply Kd.R_drew)); exact HO106.out))) (below_size (by repeat (first | (with_reducible first | exact HB.out | apply below_alloc | apply pw_below_drewN | apply below_drew1) | exact HB.out)))); have n4_ := Aside0.mk (below_step (by repeat (first | (with_reducible first | exact HB.out | apply below_alloc | apply pw_below_drewN | apply below_drew1) | exact HB.out)) hb); clear HO103; clear HO106; clear HO111; clear HB; have HO103 := n0_; have HO106 := n1_; have HO111 := n2_; have HO114 := n3_; have HB := n4_; clear n0_ n1_ n2_ n3_ n4_; clear hb ho32; obtain ⟨Ao33, co33, eo33⟩ := Kd.R_slice HO114.out; subst eo33; obtain ⟨Ao34, co34, eo34⟩ := Kd.S_slice HO111.out; subst eo34) | ((with_reducible refine gate_callee (f := 14) rfl ?_); refine goesL_ (some 27) rfl rfl Try.func14 (by kernel_rfl) rfl #[.slice Ao33 y112.length co33, .slice Ao34 t107.length co34] rfl (by (try simp only [List.map_toArray, List.map_cons, List.map_nil]); first | done | rfl | (simp only [List.length_drop, List.length_take]; rfl)) ?_; (with_reducible refine (match_Fill.calls k _ _ y112 _ _ t107 t115 t116 _ ?side1 ?side2 ?side3 ?side4 A2.out).mono ?_); (case side1 => repeat (first | exact (Kd.R_reads' HO114.out).2.2 | (with_reducible refine Kd.C_alloc ?_ _) | (with_reducible refine Kd.C_drewN ?_ _) | (with_reducible refine Kd.C_drew ?_))); (case side2 => exact (Kd.R_reads' HO114.out).2.1); (case side3 => repeat (first | exact (Kd.S_reads' HO111.out).2.2 | (with_reducible refine Kd.C_alloc ?_ _) | (with_reducible refine Kd.C_drewN ?_ _) | (with_reducible refine Kd.C_drew ?_))); (case side4 => exact (Kd.S_reads' HO111.out).2.1); rintro e w35 ⟨v117, rfl, ho0, hb⟩; refine ⟨_, rfl, ?_⟩; have n0_ := Aside0.mk (Kd.R_elder' (by (with_reducible repeat (first | apply Kd.R_alloc | apply Kd.R_drewN | apply Kd.R_drew)); exact HO103.out) (Kd.R_base ho0) hb); have n1_ := Aside0.mk (Kd.R_elder' (by (with_reducible repeat (first | apply Kd.R_alloc | apply Kd.R_drewN | apply Kd.R_drew)); exact HO106.out) (Kd.R_base ho0) hb); have n2_ := Aside0.mk (Kd.S_elder' (by (with_reducible repeat (first | apply Kd.S_alloc | apply Kd.S_drewN | apply Kd.S_drew)); exact HO111.out) (Kd.R_base ho0) hb); have n3_ := Aside0.mk (Kd.R_elder' (by (with_reducible repeat (first | apply Kd.R_alloc | apply Kd.R_drewN | apply Kd.R_drew)); exact HO114.out) (Kd.R_base ho0) hb); have n4_ := Aside0.mk (Kd.R_lower (Kd.R_new' (Kd.R_new' (Kd.R_new' ho0 (Kd.R_lt (by (with_reducible repeat (first | apply Kd.R_alloc | apply Kd.R_drewN | apply Kd.R_drew)); exact HO103.out))) (Kd.R_lt (by (with_reducible repeat (first | apply Kd.R_alloc | apply Kd.R_drewN | apply Kd.R_drew)); exact HO106.out))) (Kd.R_lt (by (with_reducible repeat (first | apply Kd.R_alloc | apply Kd.R_drewN | apply Kd.R_drew)); exact HO114.out))) (below_size (by repeat (first | (with_reducible first | exact HB.out | apply below_alloc | apply pw_below_drewN | apply below_drew1) | exact HB.out)))); have n5_ := Aside0.mk (below_step (by repeat (first | (with_reducible first | exact HB.out | apply below_alloc | apply pw_below_drewN | apply below_drew1) | exact HB.out)) hb); clear HO103; clear HO106; clear HO111; clear HO114; clear HB; have HO103 := n0_; have HO106 := n1_; have HO111 := n2_; have HO114 := n3_; have HO118 := n4_; have HB := n5_; clear n0_ n1_ n2_ n3_ n4_ n5_; (try clear hb); (try clear hb2); (try clear hk); (try clear hi); (try clear ho0); have p119 : 0 ≤ (0 : Int) := (by omega); have q119 : 0 < (t107.length : Int) := of_decide_eq_true (by first | (with_reducible assumption) | assumption); obtain ⟨ad119, A119_1, c119_1, e119, hx119_0, hx119_1, hl119_1, hi119_1⟩ := at_T44 (Kd.S_reads' HO111.out).2.2 0 p119 q119; cases e119; obtain ⟨ce119, hce119, hMe119, hcc119⟩ := Kd.S_get HO111.out z44 0 p119 (by first | exact q119 | exact of_decide_eq_true (by first | (with_reducible assumption) | assumption) | (have e_ := (Kd.S_reads' HO111.out).1; omega)); obtain ⟨ve119_1, rfl, ge119_1⟩ := k44_openM hMe119; have hv119_1 := hcc119 1 _ rfl; rw [add_field _ _ 1 (by omega)] at hv119_1; replace hv119_1 := Option.some.inj (hv119_1.symm.trans hx119_1); rw [hv119_1] at ge119_1; have HL119_1 := Aside0.mk (show Kd.R k47 47 _ _ _ _ ((rd_T44 t107 0).f1) from ge119_1); clear hv119_1 ge119_1; clear hcc119 hce119; have qi119 : (0 < t107.length) = True := eq_true (by omega); (try rw [show ((0 : Int)).toNat = 0 from rfl] at hx119_0); (try rw [show 0 * 2 = 0 from rfl] at hx119_0); (try rw [Addr.add_zero'] at hx119_0); (try rw [show ((0 : Int)).toNat = 0 from rfl] at hx119_1); (try rw [show 0 * 2 = 0 from rfl] at hx119_1); (try rw [Addr.add_zero'] at hx119_1); have HR119_1 := Aside0.mk hi119_1; have HC119_1 := Aside0.mk hl119_1; clear hi119_1 hl119_1; replace p119 := eq_true p119; replace q119 := eq_true q119; obtain ⟨Ao36, co36, eo36⟩ := Kd.R_slice HO118.out; subst eo36))
                go_ret
                exact ⟨by first | rfl | (simp [errW_none, errW_some] <;> rfl) | (simp [*, errW_none, errW_some] <;> rfl), by repeat (first | (with_reducible first | exact HB.out | apply below_alloc | apply pw_below_drewN | apply below_drew1) | exact HB.out)⟩
            · rw [if_neg c8] at H
              have c8b0 : (((rd_T44 t107 0).f0).toList == ([88] : List UInt8)) = false := beq_eq_false_iff_ne.mpr c8
              have c8b1 : (((rd_T44 t107 0).f0).toList != ([88] : List UInt8)) = true := bne_iff_ne.mpr c8
              obtain rfl := Option.some.inj H
              go_enter Try.func9, Try.ntmps9
              go_wp2_with (first | ((with_reducible refine gate_dst (N := 11) rfl ?_); (try (refine gate_guard (by rfl) ?_; dsimp only)); refine Kd.R_lit k47 _ 47 ?hg (N := 11) ?hd (xs := ([(⟨(⟨#[103]⟩ : ByteArray), 2⟩ : S47), (⟨(⟨#[88]⟩ : ByteArray), 0⟩ : S47), (⟨(⟨#[89]⟩ : ByteArray), 0⟩ : S47)] : List (S47))) (inner := [.string (⟨#[103]⟩ : ByteArray), .int .i64 2, .string (⟨#[88]⟩ : ByteArray), .int .i64 0, .string (⟨#[89]⟩ : ByteArray), .int .i64 0]) (ok := fun _ => True) (okp := fun _ => True) ?hr ?hp (fun _ hk => hk) trivial (Below.refl _ _) (Nat.le_refl _) (by simp) ?_; (case hd => rfl); (case hg => rfl); (case hr => first | (go_simp; done) | (go_simp; rfl)); (case hp => exact (Reps.c2 (show Kd.M k47 _ _ _ (⟨(⟨#[103]⟩ : ByteArray), 2⟩ : S47) [.string (⟨#[103]⟩ : ByteArray), .int .i64 2] from (k47_mkM _ _ _ (⟨(⟨#[103]⟩ : ByteArray), 2⟩ : S47) )) (Reps.c2 (show Kd.M k47 _ _ _ (⟨(⟨#[88]⟩ : ByteArray), 0⟩ : S47) [.string (⟨#[88]⟩ : ByteArray), .int .i64 0] from (k47_mkM _ _ _ (⟨(⟨#[88]⟩ : ByteArray), 0⟩ : S47) )) (Reps.c2 (show Kd.M k47 _ _ _ (⟨(⟨#[89]⟩ : ByteArray), 0⟩ : S47) [.string (⟨#[89]⟩ : ByteArray), .int .i64 0] from (k47_mkM _ _ _ (⟨(⟨#[89]⟩ : ByteArray), 0⟩ : S47) )) (Reps.none _ _))))); intro v102 w37 ho38 hb hg_ hnew_; clear hg_ hnew_; (first | rw [← Ny101.out] at ho38 | (simp only [Int.reduceToNat] at ho38; rw [← Ny101.out] at ho38)); have n0_ := Aside0.mk (Kd.R_lower ho38 (below_size (by repeat (first | (with_reducible first | exact HB.out | apply below_alloc | apply pw_below_drewN | apply below_drew1) | exact HB.out)))); have n1_ := Aside0.mk (below_step (by repeat (first | (with_reducible first | exact HB.out | apply below_alloc | apply pw_below_drewN | apply below_drew1) | exact HB.out)) hb); clear HB; have HO103 := n0_; have HB := n1_; clear n0_ n1_; clear hb ho38) | ((with_reducible refine gate_dst (N := 15) rfl ?_); (try (refine gate_guard (by rfl) ?_; dsimp only)); refine Kd.R_lit k47 _ 47 ?hg (N := 15) ?hd (xs := ([(⟨(⟨#[103]⟩ : ByteArray), 2⟩ : S47), (⟨(⟨#[97]⟩ : ByteArray), 0⟩ : S47), (⟨(⟨#[98]⟩ : ByteArray), 0⟩ : S47)] : List (S47))) (inner := [.string (⟨#[103]⟩ : ByteArray), .int .i64 2, .string (⟨#[97]⟩ : ByteArray), .int .i64 0, .string (⟨#[98]⟩ : ByteArray), .int .i64 0]) (ok := fun _ => True) (okp := fun _ => True) ?hr ?hp (fun _ hk => hk) trivial (Below.refl _ _) (Nat.le_refl _) (by simp) ?_; (case hd => rfl); (case hg => rfl); (case hr => first | (go_simp; done) | (go_simp; rfl)); (case hp => exact (Reps.c2 (show Kd.M k47 _ _ _ (⟨(⟨#[103]⟩ : ByteArray), 2⟩ : S47) [.string (⟨#[103]⟩ : ByteArray), .int .i64 2] from (k47_mkM _ _ _ (⟨(⟨#[103]⟩ : ByteArray), 2⟩ : S47) )) (Reps.c2 (show Kd.M k47 _ _ _ (⟨(⟨#[97]⟩ : ByteArray), 0⟩ : S47) [.string (⟨#[97]⟩ : ByteArray), .int .i64 0] from (k47_mkM _ _ _ (⟨(⟨#[97]⟩ : ByteArray), 0⟩ : S47) )) (Reps.c2 (show Kd.M k47 _ _ _ (⟨(⟨#[98]⟩ : ByteArray), 0⟩ : S47) [.string (⟨#[98]⟩ : ByteArray), .int .i64 0] from (k47_mkM _ _ _ (⟨(⟨#[98]⟩ : ByteArray), 0⟩ : S47) )) (Reps.none _ _))))); intro v105 w39 ho40 hb hg_ hnew_; clear hg_ hnew_; (first | rw [← Ny104.out] at ho40 | (simp only [Int.reduceToNat] at ho40; rw [← Ny104.out] at ho40)); have n0_ := Aside0.mk (Kd.R_elder' (by (with_reducible repeat (first | apply Kd.R_alloc | apply Kd.R_drewN | apply Kd.R_drew)); exact HO103.out) (Kd.R_base ho40) hb); have n1_ := Aside0.mk (Kd.R_lower (Kd.R_new' ho40 (Kd.R_lt (by (with_reducible repeat (first | apply Kd.R_alloc | apply Kd.R_drewN | apply Kd.R_drew)); exact HO103.out))) (below_size (by repeat (first | (with_reducible first | exact HB.out | apply below_alloc | apply pw_below_drewN | apply below_drew1) | exact HB.out)))); have n2_ := Aside0.mk (below_step (by repeat (first | (with_reducible first | exact HB.out | apply below_alloc | apply pw_below_drewN | apply below_drew1) | exact HB.out)) hb); clear HO103; clear HB; have HO103 := n0_; have HO106 := n1_; have HB := n2_; clear n0_ n1_ n2_; clear hb ho40; obtain ⟨Ao41, co41, eo41⟩ := Kd.R_slice HO103.out; subst eo41; obtain ⟨Ao42, co42, eo42⟩ := Kd.R_slice HO106.out; subst eo42) | ((with_reducible refine gate_callee (f := 10) rfl ?_); refine goesL_ (some 19) rfl rfl Try.func10 (by kernel_rfl) rfl #[.slice Ao41 y101.length co41, .slice Ao42 y104.length co42] rfl (by (try simp only [List.map_toArray, List.map_cons, List.map_nil]); first | done | rfl | (simp only [List.length_drop, List.length_take]; rfl)) ?_; (with_reducible refine (match_Match.calls k _ _ y101 _ _ y104 t107 true t109 _ ?side1 ?side2 ?side3 ?side4 A1.out).mono ?_); (case side1 => repeat (first | exact (Kd.R_reads' HO103.out).2.2 | (with_reducible refine Kd.C_alloc ?_ _) | (with_reducible refine Kd.C_drewN ?_ _) | (with_reducible refine Kd.C_drew ?_))); (case side2 => exact (Kd.R_reads' HO103.out).2.1); (case side3 => repeat (first | exact (Kd.R_reads' HO106.out).2.2 | (with_reducible refine Kd.C_alloc ?_ _) | (with_reducible refine Kd.C_drewN ?_ _) | (with_reducible refine Kd.C_drew ?_))); (case side4 => exact (Kd.R_reads' HO106.out).2.1); rintro e w43 ⟨v110, rfl, ho0, hb⟩; refine ⟨_, rfl, ?_⟩; have n0_ := Aside0.mk (Kd.R_below (by (with_reducible repeat (first | apply Kd.R_alloc | apply Kd.R_drewN | apply Kd.R_drew)); exact HO103.out) hb); have n1_ := Aside0.mk (Kd.R_below (by (with_reducible repeat (first | apply Kd.R_alloc | apply Kd.R_drewN | apply Kd.R_drew)); exact HO106.out) hb); have n2_ := Aside0.mk (Kd.S_lower (Kd.S_new' (Kd.S_new' ho0 (Kd.R_lt (by (with_reducible repeat (first | apply Kd.R_alloc | apply Kd.R_drewN | apply Kd.R_drew)); exact HO103.out))) (Kd.R_lt (by (with_reducible repeat (first | apply Kd.R_alloc | apply Kd.R_drewN | apply Kd.R_drew)); exact HO106.out))) (below_size (by repeat (first | (with_reducible first | exact HB.out | apply below_alloc | apply pw_below_drewN | apply below_drew1) | exact HB.out)))); have n3_ := Aside0.mk (below_step (by repeat (first | (with_reducible first | exact HB.out | apply below_alloc | apply pw_below_drewN | apply below_drew1) | exact HB.out)) hb); clear HO103; clear HO106; clear HB; have HO103 := n0_; have HO106 := n1_; have HO111 := n2_; have HB := n3_; clear n0_ n1_ n2_ n3_; (try clear hb); (try clear hb2); (try clear hk); (try clear hi); (try clear ho0)) | ((with_reducible refine gate_dst (N := 25) rfl ?_); (try (refine gate_guard (by rfl) ?_; dsimp only)); refine Kd.R_lit k47 _ 47 ?hg (N := 25) ?hd (xs := ([(⟨(⟨#[89]⟩ : ByteArray), 0⟩ : S47)] : List (S47))) (inner := [.string (⟨#[89]⟩ : ByteArray), .int .i64 0]) (ok := fun _ => True) (okp := fun _ => True) ?hr ?hp (fun _ hk => hk) trivial (Below.refl _ _) (Nat.le_refl _) (by simp) ?_; (case hd => rfl); (case hg => rfl); (case hr => first | (go_simp; done) | (go_simp; rfl)); (case hp => exact (Reps.c2 (show Kd.M k47 _ _ _ (⟨(⟨#[89]⟩ : ByteArray), 0⟩ : S47) [.string (⟨#[89]⟩ : ByteArray), .int .i64 0] from (k47_mkM _ _ _ (⟨(⟨#[89]⟩ : ByteArray), 0⟩ : S47) )) (Reps.none _ _))); intro v113 w44 ho45 hb hg_ hnew_; clear hg_ hnew_; (first | rw [← Ny112.out] at ho45 | (simp only [Int.reduceToNat] at ho45; rw [← Ny112.out] at ho45)); have n0_ := Aside0.mk (Kd.R_elder' (by (with_reducible repeat (first | apply Kd.R_alloc | apply Kd.R_drewN | apply Kd.R_drew)); exact HO103.out) (Kd.R_base ho45) hb); have n1_ := Aside0.mk (Kd.R_elder' (by (with_reducible repeat (first | apply Kd.R_alloc | apply Kd.R_drewN | apply Kd.R_drew)); exact HO106.out) (Kd.R_base ho45) hb); have n2_ := Aside0.mk (Kd.S_elder' (by (with_reducible repeat (first | apply Kd.S_alloc | apply Kd.S_drewN | apply Kd.S_drew)); exact HO111.out) (Kd.R_base ho45) hb); have n3_ := Aside0.mk (Kd.R_lower (Kd.R_new' (Kd.R_new' ho45 (Kd.R_lt (by (with_reducible repeat (first | apply Kd.R_alloc | apply Kd.R_drewN | apply Kd.R_drew)); exact HO103.out))) (Kd.R_lt (by (with_reducible repeat (first | apply Kd.R_alloc | apply Kd.R_drewN | apply Kd.R_drew)); exact HO106.out))) (below_size (by repeat (first | (with_reducible first | exact HB.out | apply below_alloc | apply pw_below_drewN | apply below_drew1) | exact HB.out)))); have n4_ := Aside0.mk (below_step (by repeat (first | (with_reducible first | exact HB.out | apply below_alloc | apply pw_below_drewN | apply below_drew1) | exact HB.out)) hb); clear HO103; clear HO106; clear HO111; clear HB; have HO103 := n0_; have HO106 := n1_; have HO111 := n2_; have HO114 := n3_; have HB := n4_; clear n0_ n1_ n2_ n3_ n4_; clear hb ho45; obtain ⟨Ao46, co46, eo46⟩ := Kd.R_slice HO114.out; subst eo46; obtain ⟨Ao47, co47, eo47⟩ := Kd.S_slice HO111.out; subst eo47) | ((with_reducible refine gate_callee (f := 14) rfl ?_); refine goesL_ (some 27) rfl rfl Try.func14 (by kernel_rfl) rfl #[.slice Ao46 y112.length co46, .slice Ao47 t107.length co47] rfl (by (try simp only [List.map_toArray, List.map_cons, List.map_nil]); first | done | rfl | (simp only [List.length_drop, List.length_take]; rfl)) ?_; (with_reducible refine (match_Fill.calls k _ _ y112 _ _ t107 t115 t116 _ ?side1 ?side2 ?side3 ?side4 A2.out).mono ?_); (case side1 => repeat (first | exact (Kd.R_reads' HO114.out).2.2 | (with_reducible refine Kd.C_alloc ?_ _) | (with_reducible refine Kd.C_drewN ?_ _) | (with_reducible refine Kd.C_drew ?_))); (case side2 => exact (Kd.R_reads' HO114.out).2.1); (case side3 => repeat (first | exact (Kd.S_reads' HO111.out).2.2 | (with_reducible refine Kd.C_alloc ?_ _) | (with_reducible refine Kd.C_drewN ?_ _) | (with_reducible refine Kd.C_drew ?_))); (case side4 => exact (Kd.S_reads' HO111.out).2.1); rintro e w48 ⟨v117, rfl, ho0, hb⟩; refine ⟨_, rfl, ?_⟩; have n0_ := Aside0.mk (Kd.R_elder' (by (with_reducible repeat (first | apply Kd.R_alloc | apply Kd.R_drewN | apply Kd.R_drew)); exact HO103.out) (Kd.R_base ho0) hb); have n1_ := Aside0.mk (Kd.R_elder' (by (with_reducible repeat (first | apply Kd.R_alloc | apply Kd.R_drewN | apply Kd.R_drew)); exact HO106.out) (Kd.R_base ho0) hb); have n2_ := Aside0.mk (Kd.S_elder' (by (with_reducible repeat (first | apply Kd.S_alloc | apply Kd.S_drewN | apply Kd.S_drew)); exact HO111.out) (Kd.R_base ho0) hb); have n3_ := Aside0.mk (Kd.R_elder' (by (with_reducible repeat (first | apply Kd.R_alloc | apply Kd.R_drewN | apply Kd.R_drew)); exact HO114.out) (Kd.R_base ho0) hb); have n4_ := Aside0.mk (Kd.R_lower (Kd.R_new' (Kd.R_new' (Kd.R_new' ho0 (Kd.R_lt (by (with_reducible repeat (first | apply Kd.R_alloc | apply Kd.R_drewN | apply Kd.R_drew)); exact HO103.out))) (Kd.R_lt (by (with_reducible repeat (first | apply Kd.R_alloc | apply Kd.R_drewN | apply Kd.R_drew)); exact HO106.out))) (Kd.R_lt (by (with_reducible repeat (first | apply Kd.R_alloc | apply Kd.R_drewN | apply Kd.R_drew)); exact HO114.out))) (below_size (by repeat (first | (with_reducible first | exact HB.out | apply below_alloc | apply pw_below_drewN | apply below_drew1) | exact HB.out)))); have n5_ := Aside0.mk (below_step (by repeat (first | (with_reducible first | exact HB.out | apply below_alloc | apply pw_below_drewN | apply below_drew1) | exact HB.out)) hb); clear HO103; clear HO106; clear HO111; clear HO114; clear HB; have HO103 := n0_; have HO106 := n1_; have HO111 := n2_; have HO114 := n3_; have HO118 := n4_; have HB := n5_; clear n0_ n1_ n2_ n3_ n4_ n5_; (try clear hb); (try clear hb2); (try clear hk); (try clear hi); (try clear ho0); have p119 : 0 ≤ (0 : Int) := (by omega); have q119 : 0 < (t107.length : Int) := of_decide_eq_true (by first | (with_reducible assumption) | assumption); obtain ⟨ad119, A119_1, c119_1, e119, hx119_0, hx119_1, hl119_1, hi119_1⟩ := at_T44 (Kd.S_reads' HO111.out).2.2 0 p119 q119; cases e119; obtain ⟨ce119, hce119, hMe119, hcc119⟩ := Kd.S_get HO111.out z44 0 p119 (by first | exact q119 | exact of_decide_eq_true (by first | (with_reducible assumption) | assumption) | (have e_ := (Kd.S_reads' HO111.out).1; omega)); obtain ⟨ve119_1, rfl, ge119_1⟩ := k44_openM hMe119; have hv119_1 := hcc119 1 _ rfl; rw [add_field _ _ 1 (by omega)] at hv119_1; replace hv119_1 := Option.some.inj (hv119_1.symm.trans hx119_1); rw [hv119_1] at ge119_1; have HL119_1 := Aside0.mk (show Kd.R k47 47 _ _ _ _ ((rd_T44 t107 0).f1) from ge119_1); clear hv119_1 ge119_1; clear hcc119 hce119; have qi119 : (0 < t107.length) = True := eq_true (by omega); (try rw [show ((0 : Int)).toNat = 0 from rfl] at hx119_0); (try rw [show 0 * 2 = 0 from rfl] at hx119_0); (try rw [Addr.add_zero'] at hx119_0); (try rw [show ((0 : Int)).toNat = 0 from rfl] at hx119_1); (try rw [show 0 * 2 = 0 from rfl] at hx119_1); (try rw [Addr.add_zero'] at hx119_1); have HR119_1 := Aside0.mk hi119_1; have HC119_1 := Aside0.mk hl119_1; clear hi119_1 hl119_1; replace p119 := eq_true p119; replace q119 := eq_true q119))
              go_ret
              exact ⟨by first | rfl | (simp [errW_none, errW_some] <;> rfl) | (simp [*, errW_none, errW_some] <;> rfl), by repeat (first | (with_reducible first | exact HB.out | apply below_alloc | apply pw_below_drewN | apply below_drew1) | exact HB.out)⟩
          · rw [if_neg c7] at H
            exact absurd H (by simp)
        · rw [if_neg c6] at H
          have c6b0 : ((t107.length : Int) == 2) = false := beq_eq_false_iff_ne.mpr c6
          have c6b1 : ((t107.length : Int) != 2) = true := bne_iff_ne.mpr c6
          obtain rfl := Option.some.inj H
          go_enter Try.func9, Try.ntmps9
          go_wp2_with (first | ((with_reducible refine gate_dst (N := 11) rfl ?_); (try (refine gate_guard (by rfl) ?_; dsimp only)); refine Kd.R_lit k47 _ 47 ?hg (N := 11) ?hd (xs := ([(⟨(⟨#[103]⟩ : ByteArray), 2⟩ : S47), (⟨(⟨#[88]⟩ : ByteArray), 0⟩ : S47), (⟨(⟨#[89]⟩ : ByteArray), 0⟩ : S47)] : List (S47))) (inner := [.string (⟨#[103]⟩ : ByteArray), .int .i64 2, .string (⟨#[88]⟩ : ByteArray), .int .i64 0, .string (⟨#[89]⟩ : ByteArray), .int .i64 0]) (ok := fun _ => True) (okp := fun _ => True) ?hr ?hp (fun _ hk => hk) trivial (Below.refl _ _) (Nat.le_refl _) (by simp) ?_; (case hd => rfl); (case hg => rfl); (case hr => first | (go_simp; done) | (go_simp; rfl)); (case hp => exact (Reps.c2 (show Kd.M k47 _ _ _ (⟨(⟨#[103]⟩ : ByteArray), 2⟩ : S47) [.string (⟨#[103]⟩ : ByteArray), .int .i64 2] from (k47_mkM _ _ _ (⟨(⟨#[103]⟩ : ByteArray), 2⟩ : S47) )) (Reps.c2 (show Kd.M k47 _ _ _ (⟨(⟨#[88]⟩ : ByteArray), 0⟩ : S47) [.string (⟨#[88]⟩ : ByteArray), .int .i64 0] from (k47_mkM _ _ _ (⟨(⟨#[88]⟩ : ByteArray), 0⟩ : S47) )) (Reps.c2 (show Kd.M k47 _ _ _ (⟨(⟨#[89]⟩ : ByteArray), 0⟩ : S47) [.string (⟨#[89]⟩ : ByteArray), .int .i64 0] from (k47_mkM _ _ _ (⟨(⟨#[89]⟩ : ByteArray), 0⟩ : S47) )) (Reps.none _ _))))); intro v102 w49 ho50 hb hg_ hnew_; clear hg_ hnew_; (first | rw [← Ny101.out] at ho50 | (simp only [Int.reduceToNat] at ho50; rw [← Ny101.out] at ho50)); have n0_ := Aside0.mk (Kd.R_lower ho50 (below_size (by repeat (first | (with_reducible first | exact HB.out | apply below_alloc | apply pw_below_drewN | apply below_drew1) | exact HB.out)))); have n1_ := Aside0.mk (below_step (by repeat (first | (with_reducible first | exact HB.out | apply below_alloc | apply pw_below_drewN | apply below_drew1) | exact HB.out)) hb); clear HB; have HO103 := n0_; have HB := n1_; clear n0_ n1_; clear hb ho50) | ((with_reducible refine gate_dst (N := 15) rfl ?_); (try (refine gate_guard (by rfl) ?_; dsimp only)); refine Kd.R_lit k47 _ 47 ?hg (N := 15) ?hd (xs := ([(⟨(⟨#[103]⟩ : ByteArray), 2⟩ : S47), (⟨(⟨#[97]⟩ : ByteArray), 0⟩ : S47), (⟨(⟨#[98]⟩ : ByteArray), 0⟩ : S47)] : List (S47))) (inner := [.string (⟨#[103]⟩ : ByteArray), .int .i64 2, .string (⟨#[97]⟩ : ByteArray), .int .i64 0, .string (⟨#[98]⟩ : ByteArray), .int .i64 0]) (ok := fun _ => True) (okp := fun _ => True) ?hr ?hp (fun _ hk => hk) trivial (Below.refl _ _) (Nat.le_refl _) (by simp) ?_; (case hd => rfl); (case hg => rfl); (case hr => first | (go_simp; done) | (go_simp; rfl)); (case hp => exact (Reps.c2 (show Kd.M k47 _ _ _ (⟨(⟨#[103]⟩ : ByteArray), 2⟩ : S47) [.string (⟨#[103]⟩ : ByteArray), .int .i64 2] from (k47_mkM _ _ _ (⟨(⟨#[103]⟩ : ByteArray), 2⟩ : S47) )) (Reps.c2 (show Kd.M k47 _ _ _ (⟨(⟨#[97]⟩ : ByteArray), 0⟩ : S47) [.string (⟨#[97]⟩ : ByteArray), .int .i64 0] from (k47_mkM _ _ _ (⟨(⟨#[97]⟩ : ByteArray), 0⟩ : S47) )) (Reps.c2 (show Kd.M k47 _ _ _ (⟨(⟨#[98]⟩ : ByteArray), 0⟩ : S47) [.string (⟨#[98]⟩ : ByteArray), .int .i64 0] from (k47_mkM _ _ _ (⟨(⟨#[98]⟩ : ByteArray), 0⟩ : S47) )) (Reps.none _ _))))); intro v105 w51 ho52 hb hg_ hnew_; clear hg_ hnew_; (first | rw [← Ny104.out] at ho52 | (simp only [Int.reduceToNat] at ho52; rw [← Ny104.out] at ho52)); have n0_ := Aside0.mk (Kd.R_elder' (by (with_reducible repeat (first | apply Kd.R_alloc | apply Kd.R_drewN | apply Kd.R_drew)); exact HO103.out) (Kd.R_base ho52) hb); have n1_ := Aside0.mk (Kd.R_lower (Kd.R_new' ho52 (Kd.R_lt (by (with_reducible repeat (first | apply Kd.R_alloc | apply Kd.R_drewN | apply Kd.R_drew)); exact HO103.out))) (below_size (by repeat (first | (with_reducible first | exact HB.out | apply below_alloc | apply pw_below_drewN | apply below_drew1) | exact HB.out)))); have n2_ := Aside0.mk (below_step (by repeat (first | (with_reducible first | exact HB.out | apply below_alloc | apply pw_below_drewN | apply below_drew1) | exact HB.out)) hb); clear HO103; clear HB; have HO103 := n0_; have HO106 := n1_; have HB := n2_; clear n0_ n1_ n2_; clear hb ho52; obtain ⟨Ao53, co53, eo53⟩ := Kd.R_slice HO103.out; subst eo53; obtain ⟨Ao54, co54, eo54⟩ := Kd.R_slice HO106.out; subst eo54) | ((with_reducible refine gate_callee (f := 10) rfl ?_); refine goesL_ (some 19) rfl rfl Try.func10 (by kernel_rfl) rfl #[.slice Ao53 y101.length co53, .slice Ao54 y104.length co54] rfl (by (try simp only [List.map_toArray, List.map_cons, List.map_nil]); first | done | rfl | (simp only [List.length_drop, List.length_take]; rfl)) ?_; (with_reducible refine (match_Match.calls k _ _ y101 _ _ y104 t107 true t109 _ ?side1 ?side2 ?side3 ?side4 A1.out).mono ?_); (case side1 => repeat (first | exact (Kd.R_reads' HO103.out).2.2 | (with_reducible refine Kd.C_alloc ?_ _) | (with_reducible refine Kd.C_drewN ?_ _) | (with_reducible refine Kd.C_drew ?_))); (case side2 => exact (Kd.R_reads' HO103.out).2.1); (case side3 => repeat (first | exact (Kd.R_reads' HO106.out).2.2 | (with_reducible refine Kd.C_alloc ?_ _) | (with_reducible refine Kd.C_drewN ?_ _) | (with_reducible refine Kd.C_drew ?_))); (case side4 => exact (Kd.R_reads' HO106.out).2.1); rintro e w55 ⟨v110, rfl, ho0, hb⟩; refine ⟨_, rfl, ?_⟩; have n0_ := Aside0.mk (Kd.R_below (by (with_reducible repeat (first | apply Kd.R_alloc | apply Kd.R_drewN | apply Kd.R_drew)); exact HO103.out) hb); have n1_ := Aside0.mk (Kd.R_below (by (with_reducible repeat (first | apply Kd.R_alloc | apply Kd.R_drewN | apply Kd.R_drew)); exact HO106.out) hb); have n2_ := Aside0.mk (Kd.S_lower (Kd.S_new' (Kd.S_new' ho0 (Kd.R_lt (by (with_reducible repeat (first | apply Kd.R_alloc | apply Kd.R_drewN | apply Kd.R_drew)); exact HO103.out))) (Kd.R_lt (by (with_reducible repeat (first | apply Kd.R_alloc | apply Kd.R_drewN | apply Kd.R_drew)); exact HO106.out))) (below_size (by repeat (first | (with_reducible first | exact HB.out | apply below_alloc | apply pw_below_drewN | apply below_drew1) | exact HB.out)))); have n3_ := Aside0.mk (below_step (by repeat (first | (with_reducible first | exact HB.out | apply below_alloc | apply pw_below_drewN | apply below_drew1) | exact HB.out)) hb); clear HO103; clear HO106; clear HB; have HO103 := n0_; have HO106 := n1_; have HO111 := n2_; have HB := n3_; clear n0_ n1_ n2_ n3_; (try clear hb); (try clear hb2); (try clear hk); (try clear hi); (try clear ho0)) | ((with_reducible refine gate_dst (N := 25) rfl ?_); (try (refine gate_guard (by rfl) ?_; dsimp only)); refine Kd.R_lit k47 _ 47 ?hg (N := 25) ?hd (xs := ([(⟨(⟨#[89]⟩ : ByteArray), 0⟩ : S47)] : List (S47))) (inner := [.string (⟨#[89]⟩ : ByteArray), .int .i64 0]) (ok := fun _ => True) (okp := fun _ => True) ?hr ?hp (fun _ hk => hk) trivial (Below.refl _ _) (Nat.le_refl _) (by simp) ?_; (case hd => rfl); (case hg => rfl); (case hr => first | (go_simp; done) | (go_simp; rfl)); (case hp => exact (Reps.c2 (show Kd.M k47 _ _ _ (⟨(⟨#[89]⟩ : ByteArray), 0⟩ : S47) [.string (⟨#[89]⟩ : ByteArray), .int .i64 0] from (k47_mkM _ _ _ (⟨(⟨#[89]⟩ : ByteArray), 0⟩ : S47) )) (Reps.none _ _))); intro v113 w56 ho57 hb hg_ hnew_; clear hg_ hnew_; (first | rw [← Ny112.out] at ho57 | (simp only [Int.reduceToNat] at ho57; rw [← Ny112.out] at ho57)); have n0_ := Aside0.mk (Kd.R_elder' (by (with_reducible repeat (first | apply Kd.R_alloc | apply Kd.R_drewN | apply Kd.R_drew)); exact HO103.out) (Kd.R_base ho57) hb); have n1_ := Aside0.mk (Kd.R_elder' (by (with_reducible repeat (first | apply Kd.R_alloc | apply Kd.R_drewN | apply Kd.R_drew)); exact HO106.out) (Kd.R_base ho57) hb); have n2_ := Aside0.mk (Kd.S_elder' (by (with_reducible repeat (first | apply Kd.S_alloc | apply Kd.S_drewN | apply Kd.S_drew)); exact HO111.out) (Kd.R_base ho57) hb); have n3_ := Aside0.mk (Kd.R_lower (Kd.R_new' (Kd.R_new' ho57 (Kd.R_lt (by (with_reducible repeat (first | apply Kd.R_alloc | apply Kd.R_drewN | apply Kd.R_drew)); exact HO103.out))) (Kd.R_lt (by (with_reducible repeat (first | apply Kd.R_alloc | apply Kd.R_drewN | apply Kd.R_drew)); exact HO106.out))) (below_size (by repeat (first | (with_reducible first | exact HB.out | apply below_alloc | apply pw_below_drewN | apply below_drew1) | exact HB.out)))); have n4_ := Aside0.mk (below_step (by repeat (first | (with_reducible first | exact HB.out | apply below_alloc | apply pw_below_drewN | apply below_drew1) | exact HB.out)) hb); clear HO103; clear HO106; clear HO111; clear HB; have HO103 := n0_; have HO106 := n1_; have HO111 := n2_; have HO114 := n3_; have HB := n4_; clear n0_ n1_ n2_ n3_ n4_; clear hb ho57; obtain ⟨Ao58, co58, eo58⟩ := Kd.R_slice HO114.out; subst eo58; obtain ⟨Ao59, co59, eo59⟩ := Kd.S_slice HO111.out; subst eo59) | ((with_reducible refine gate_callee (f := 14) rfl ?_); refine goesL_ (some 27) rfl rfl Try.func14 (by kernel_rfl) rfl #[.slice Ao58 y112.length co58, .slice Ao59 t107.length co59] rfl (by (try simp only [List.map_toArray, List.map_cons, List.map_nil]); first | done | rfl | (simp only [List.length_drop, List.length_take]; rfl)) ?_; (with_reducible refine (match_Fill.calls k _ _ y112 _ _ t107 t115 t116 _ ?side1 ?side2 ?side3 ?side4 A2.out).mono ?_); (case side1 => repeat (first | exact (Kd.R_reads' HO114.out).2.2 | (with_reducible refine Kd.C_alloc ?_ _) | (with_reducible refine Kd.C_drewN ?_ _) | (with_reducible refine Kd.C_drew ?_))); (case side2 => exact (Kd.R_reads' HO114.out).2.1); (case side3 => repeat (first | exact (Kd.S_reads' HO111.out).2.2 | (with_reducible refine Kd.C_alloc ?_ _) | (with_reducible refine Kd.C_drewN ?_ _) | (with_reducible refine Kd.C_drew ?_))); (case side4 => exact (Kd.S_reads' HO111.out).2.1); rintro e w60 ⟨v117, rfl, ho0, hb⟩; refine ⟨_, rfl, ?_⟩; have n0_ := Aside0.mk (Kd.R_elder' (by (with_reducible repeat (first | apply Kd.R_alloc | apply Kd.R_drewN | apply Kd.R_drew)); exact HO103.out) (Kd.R_base ho0) hb); have n1_ := Aside0.mk (Kd.R_elder' (by (with_reducible repeat (first | apply Kd.R_alloc | apply Kd.R_drewN | apply Kd.R_drew)); exact HO106.out) (Kd.R_base ho0) hb); have n2_ := Aside0.mk (Kd.S_elder' (by (with_reducible repeat (first | apply Kd.S_alloc | apply Kd.S_drewN | apply Kd.S_drew)); exact HO111.out) (Kd.R_base ho0) hb); have n3_ := Aside0.mk (Kd.R_elder' (by (with_reducible repeat (first | apply Kd.R_alloc | apply Kd.R_drewN | apply Kd.R_drew)); exact HO114.out) (Kd.R_base ho0) hb); have n4_ := Aside0.mk (Kd.R_lower (Kd.R_new' (Kd.R_new' (Kd.R_new' ho0 (Kd.R_lt (by (with_reducible repeat (first | apply Kd.R_alloc | apply Kd.R_drewN | apply Kd.R_drew)); exact HO103.out))) (Kd.R_lt (by (with_reducible repeat (first | apply Kd.R_alloc | apply Kd.R_drewN | apply Kd.R_drew)); exact HO106.out))) (Kd.R_lt (by (with_reducible repeat (first | apply Kd.R_alloc | apply Kd.R_drewN | apply Kd.R_drew)); exact HO114.out))) (below_size (by repeat (first | (with_reducible first | exact HB.out | apply below_alloc | apply pw_below_drewN | apply below_drew1) | exact HB.out)))); have n5_ := Aside0.mk (below_step (by repeat (first | (with_reducible first | exact HB.out | apply below_alloc | apply pw_below_drewN | apply below_drew1) | exact HB.out)) hb); clear HO103; clear HO106; clear HO111; clear HO114; clear HB; have HO103 := n0_; have HO106 := n1_; have HO111 := n2_; have HO114 := n3_; have HO118 := n4_; have HB := n5_; clear n0_ n1_ n2_ n3_ n4_ n5_; (try clear hb); (try clear hb2); (try clear hk); (try clear hi); (try clear ho0)))
          go_ret
          exact ⟨by first | rfl | (simp [errW_none, errW_some] <;> rfl) | (simp [*, errW_none, errW_some] <;> rfl), by repeat (first | (with_reducible first | exact HB.out | apply below_alloc | apply pw_below_drewN | apply below_drew1) | exact HB.out)⟩
      · rw [if_neg c5] at H
        have c5b0 : (t116 == 0) = false := beq_eq_false_iff_ne.mpr c5
        have c5b1 : (t116 != 0) = true := bne_iff_ne.mpr c5
        obtain rfl := Option.some.inj H
        go_enter Try.func9, Try.ntmps9
        go_wp2_with (first | ((with_reducible refine gate_dst (N := 11) rfl ?_); (try (refine gate_guard (by rfl) ?_; dsimp only)); refine Kd.R_lit k47 _ 47 ?hg (N := 11) ?hd (xs := ([(⟨(⟨#[103]⟩ : ByteArray), 2⟩ : S47), (⟨(⟨#[88]⟩ : ByteArray), 0⟩ : S47), (⟨(⟨#[89]⟩ : ByteArray), 0⟩ : S47)] : List (S47))) (inner := [.string (⟨#[103]⟩ : ByteArray), .int .i64 2, .string (⟨#[88]⟩ : ByteArray), .int .i64 0, .string (⟨#[89]⟩ : ByteArray), .int .i64 0]) (ok := fun _ => True) (okp := fun _ => True) ?hr ?hp (fun _ hk => hk) trivial (Below.refl _ _) (Nat.le_refl _) (by simp) ?_; (case hd => rfl); (case hg => rfl); (case hr => first | (go_simp; done) | (go_simp; rfl)); (case hp => exact (Reps.c2 (show Kd.M k47 _ _ _ (⟨(⟨#[103]⟩ : ByteArray), 2⟩ : S47) [.string (⟨#[103]⟩ : ByteArray), .int .i64 2] from (k47_mkM _ _ _ (⟨(⟨#[103]⟩ : ByteArray), 2⟩ : S47) )) (Reps.c2 (show Kd.M k47 _ _ _ (⟨(⟨#[88]⟩ : ByteArray), 0⟩ : S47) [.string (⟨#[88]⟩ : ByteArray), .int .i64 0] from (k47_mkM _ _ _ (⟨(⟨#[88]⟩ : ByteArray), 0⟩ : S47) )) (Reps.c2 (show Kd.M k47 _ _ _ (⟨(⟨#[89]⟩ : ByteArray), 0⟩ : S47) [.string (⟨#[89]⟩ : ByteArray), .int .i64 0] from (k47_mkM _ _ _ (⟨(⟨#[89]⟩ : ByteArray), 0⟩ : S47) )) (Reps.none _ _))))); intro v102 w61 ho62 hb hg_ hnew_; clear hg_ hnew_; (first | rw [← Ny101.out] at ho62 | (simp only [Int.reduceToNat] at ho62; rw [← Ny101.out] at ho62)); have n0_ := Aside0.mk (Kd.R_lower ho62 (below_size (by repeat (first | (with_reducible first | exact HB.out | apply below_alloc | apply pw_below_drewN | apply below_drew1) | exact HB.out)))); have n1_ := Aside0.mk (below_step (by repeat (first | (with_reducible first | exact HB.out | apply below_alloc | apply pw_below_drewN | apply below_drew1) | exact HB.out)) hb); clear HB; have HO103 := n0_; have HB := n1_; clear n0_ n1_; clear hb ho62) | ((with_reducible refine gate_dst (N := 15) rfl ?_); (try (refine gate_guard (by rfl) ?_; dsimp only)); refine Kd.R_lit k47 _ 47 ?hg (N := 15) ?hd (xs := ([(⟨(⟨#[103]⟩ : ByteArray), 2⟩ : S47), (⟨(⟨#[97]⟩ : ByteArray), 0⟩ : S47), (⟨(⟨#[98]⟩ : ByteArray), 0⟩ : S47)] : List (S47))) (inner := [.string (⟨#[103]⟩ : ByteArray), .int .i64 2, .string (⟨#[97]⟩ : ByteArray), .int .i64 0, .string (⟨#[98]⟩ : ByteArray), .int .i64 0]) (ok := fun _ => True) (okp := fun _ => True) ?hr ?hp (fun _ hk => hk) trivial (Below.refl _ _) (Nat.le_refl _) (by simp) ?_; (case hd => rfl); (case hg => rfl); (case hr => first | (go_simp; done) | (go_simp; rfl)); (case hp => exact (Reps.c2 (show Kd.M k47 _ _ _ (⟨(⟨#[103]⟩ : ByteArray), 2⟩ : S47) [.string (⟨#[103]⟩ : ByteArray), .int .i64 2] from (k47_mkM _ _ _ (⟨(⟨#[103]⟩ : ByteArray), 2⟩ : S47) )) (Reps.c2 (show Kd.M k47 _ _ _ (⟨(⟨#[97]⟩ : ByteArray), 0⟩ : S47) [.string (⟨#[97]⟩ : ByteArray), .int .i64 0] from (k47_mkM _ _ _ (⟨(⟨#[97]⟩ : ByteArray), 0⟩ : S47) )) (Reps.c2 (show Kd.M k47 _ _ _ (⟨(⟨#[98]⟩ : ByteArray), 0⟩ : S47) [.string (⟨#[98]⟩ : ByteArray), .int .i64 0] from (k47_mkM _ _ _ (⟨(⟨#[98]⟩ : ByteArray), 0⟩ : S47) )) (Reps.none _ _))))); intro v105 w63 ho64 hb hg_ hnew_; clear hg_ hnew_; (first | rw [← Ny104.out] at ho64 | (simp only [Int.reduceToNat] at ho64; rw [← Ny104.out] at ho64)); have n0_ := Aside0.mk (Kd.R_elder' (by (with_reducible repeat (first | apply Kd.R_alloc | apply Kd.R_drewN | apply Kd.R_drew)); exact HO103.out) (Kd.R_base ho64) hb); have n1_ := Aside0.mk (Kd.R_lower (Kd.R_new' ho64 (Kd.R_lt (by (with_reducible repeat (first | apply Kd.R_alloc | apply Kd.R_drewN | apply Kd.R_drew)); exact HO103.out))) (below_size (by repeat (first | (with_reducible first | exact HB.out | apply below_alloc | apply pw_below_drewN | apply below_drew1) | exact HB.out)))); have n2_ := Aside0.mk (below_step (by repeat (first | (with_reducible first | exact HB.out | apply below_alloc | apply pw_below_drewN | apply below_drew1) | exact HB.out)) hb); clear HO103; clear HB; have HO103 := n0_; have HO106 := n1_; have HB := n2_; clear n0_ n1_ n2_; clear hb ho64; obtain ⟨Ao65, co65, eo65⟩ := Kd.R_slice HO103.out; subst eo65; obtain ⟨Ao66, co66, eo66⟩ := Kd.R_slice HO106.out; subst eo66) | ((with_reducible refine gate_callee (f := 10) rfl ?_); refine goesL_ (some 19) rfl rfl Try.func10 (by kernel_rfl) rfl #[.slice Ao65 y101.length co65, .slice Ao66 y104.length co66] rfl (by (try simp only [List.map_toArray, List.map_cons, List.map_nil]); first | done | rfl | (simp only [List.length_drop, List.length_take]; rfl)) ?_; (with_reducible refine (match_Match.calls k _ _ y101 _ _ y104 t107 true t109 _ ?side1 ?side2 ?side3 ?side4 A1.out).mono ?_); (case side1 => repeat (first | exact (Kd.R_reads' HO103.out).2.2 | (with_reducible refine Kd.C_alloc ?_ _) | (with_reducible refine Kd.C_drewN ?_ _) | (with_reducible refine Kd.C_drew ?_))); (case side2 => exact (Kd.R_reads' HO103.out).2.1); (case side3 => repeat (first | exact (Kd.R_reads' HO106.out).2.2 | (with_reducible refine Kd.C_alloc ?_ _) | (with_reducible refine Kd.C_drewN ?_ _) | (with_reducible refine Kd.C_drew ?_))); (case side4 => exact (Kd.R_reads' HO106.out).2.1); rintro e w67 ⟨v110, rfl, ho0, hb⟩; refine ⟨_, rfl, ?_⟩; have n0_ := Aside0.mk (Kd.R_below (by (with_reducible repeat (first | apply Kd.R_alloc | apply Kd.R_drewN | apply Kd.R_drew)); exact HO103.out) hb); have n1_ := Aside0.mk (Kd.R_below (by (with_reducible repeat (first | apply Kd.R_alloc | apply Kd.R_drewN | apply Kd.R_drew)); exact HO106.out) hb); have n2_ := Aside0.mk (Kd.S_lower (Kd.S_new' (Kd.S_new' ho0 (Kd.R_lt (by (with_reducible repeat (first | apply Kd.R_alloc | apply Kd.R_drewN | apply Kd.R_drew)); exact HO103.out))) (Kd.R_lt (by (with_reducible repeat (first | apply Kd.R_alloc | apply Kd.R_drewN | apply Kd.R_drew)); exact HO106.out))) (below_size (by repeat (first | (with_reducible first | exact HB.out | apply below_alloc | apply pw_below_drewN | apply below_drew1) | exact HB.out)))); have n3_ := Aside0.mk (below_step (by repeat (first | (with_reducible first | exact HB.out | apply below_alloc | apply pw_below_drewN | apply below_drew1) | exact HB.out)) hb); clear HO103; clear HO106; clear HB; have HO103 := n0_; have HO106 := n1_; have HO111 := n2_; have HB := n3_; clear n0_ n1_ n2_ n3_; (try clear hb); (try clear hb2); (try clear hk); (try clear hi); (try clear ho0)) | ((with_reducible refine gate_dst (N := 25) rfl ?_); (try (refine gate_guard (by rfl) ?_; dsimp only)); refine Kd.R_lit k47 _ 47 ?hg (N := 25) ?hd (xs := ([(⟨(⟨#[89]⟩ : ByteArray), 0⟩ : S47)] : List (S47))) (inner := [.string (⟨#[89]⟩ : ByteArray), .int .i64 0]) (ok := fun _ => True) (okp := fun _ => True) ?hr ?hp (fun _ hk => hk) trivial (Below.refl _ _) (Nat.le_refl _) (by simp) ?_; (case hd => rfl); (case hg => rfl); (case hr => first | (go_simp; done) | (go_simp; rfl)); (case hp => exact (Reps.c2 (show Kd.M k47 _ _ _ (⟨(⟨#[89]⟩ : ByteArray), 0⟩ : S47) [.string (⟨#[89]⟩ : ByteArray), .int .i64 0] from (k47_mkM _ _ _ (⟨(⟨#[89]⟩ : ByteArray), 0⟩ : S47) )) (Reps.none _ _))); intro v113 w68 ho69 hb hg_ hnew_; clear hg_ hnew_; (first | rw [← Ny112.out] at ho69 | (simp only [Int.reduceToNat] at ho69; rw [← Ny112.out] at ho69)); have n0_ := Aside0.mk (Kd.R_elder' (by (with_reducible repeat (first | apply Kd.R_alloc | apply Kd.R_drewN | apply Kd.R_drew)); exact HO103.out) (Kd.R_base ho69) hb); have n1_ := Aside0.mk (Kd.R_elder' (by (with_reducible repeat (first | apply Kd.R_alloc | apply Kd.R_drewN | apply Kd.R_drew)); exact HO106.out) (Kd.R_base ho69) hb); have n2_ := Aside0.mk (Kd.S_elder' (by (with_reducible repeat (first | apply Kd.S_alloc | apply Kd.S_drewN | apply Kd.S_drew)); exact HO111.out) (Kd.R_base ho69) hb); have n3_ := Aside0.mk (Kd.R_lower (Kd.R_new' (Kd.R_new' ho69 (Kd.R_lt (by (with_reducible repeat (first | apply Kd.R_alloc | apply Kd.R_drewN | apply Kd.R_drew)); exact HO103.out))) (Kd.R_lt (by (with_reducible repeat (first | apply Kd.R_alloc | apply Kd.R_drewN | apply Kd.R_drew)); exact HO106.out))) (below_size (by repeat (first | (with_reducible first | exact HB.out | apply below_alloc | apply pw_below_drewN | apply below_drew1) | exact HB.out)))); have n4_ := Aside0.mk (below_step (by repeat (first | (with_reducible first | exact HB.out | apply below_alloc | apply pw_below_drewN | apply below_drew1) | exact HB.out)) hb); clear HO103; clear HO106; clear HO111; clear HB; have HO103 := n0_; have HO106 := n1_; have HO111 := n2_; have HO114 := n3_; have HB := n4_; clear n0_ n1_ n2_ n3_ n4_; clear hb ho69; obtain ⟨Ao70, co70, eo70⟩ := Kd.R_slice HO114.out; subst eo70; obtain ⟨Ao71, co71, eo71⟩ := Kd.S_slice HO111.out; subst eo71) | ((with_reducible refine gate_callee (f := 14) rfl ?_); refine goesL_ (some 27) rfl rfl Try.func14 (by kernel_rfl) rfl #[.slice Ao70 y112.length co70, .slice Ao71 t107.length co71] rfl (by (try simp only [List.map_toArray, List.map_cons, List.map_nil]); first | done | rfl | (simp only [List.length_drop, List.length_take]; rfl)) ?_; (with_reducible refine (match_Fill.calls k _ _ y112 _ _ t107 t115 t116 _ ?side1 ?side2 ?side3 ?side4 A2.out).mono ?_); (case side1 => repeat (first | exact (Kd.R_reads' HO114.out).2.2 | (with_reducible refine Kd.C_alloc ?_ _) | (with_reducible refine Kd.C_drewN ?_ _) | (with_reducible refine Kd.C_drew ?_))); (case side2 => exact (Kd.R_reads' HO114.out).2.1); (case side3 => repeat (first | exact (Kd.S_reads' HO111.out).2.2 | (with_reducible refine Kd.C_alloc ?_ _) | (with_reducible refine Kd.C_drewN ?_ _) | (with_reducible refine Kd.C_drew ?_))); (case side4 => exact (Kd.S_reads' HO111.out).2.1); rintro e w72 ⟨v117, rfl, ho0, hb⟩; refine ⟨_, rfl, ?_⟩; have n0_ := Aside0.mk (Kd.R_elder' (by (with_reducible repeat (first | apply Kd.R_alloc | apply Kd.R_drewN | apply Kd.R_drew)); exact HO103.out) (Kd.R_base ho0) hb); have n1_ := Aside0.mk (Kd.R_elder' (by (with_reducible repeat (first | apply Kd.R_alloc | apply Kd.R_drewN | apply Kd.R_drew)); exact HO106.out) (Kd.R_base ho0) hb); have n2_ := Aside0.mk (Kd.S_elder' (by (with_reducible repeat (first | apply Kd.S_alloc | apply Kd.S_drewN | apply Kd.S_drew)); exact HO111.out) (Kd.R_base ho0) hb); have n3_ := Aside0.mk (Kd.R_elder' (by (with_reducible repeat (first | apply Kd.R_alloc | apply Kd.R_drewN | apply Kd.R_drew)); exact HO114.out) (Kd.R_base ho0) hb); have n4_ := Aside0.mk (Kd.R_lower (Kd.R_new' (Kd.R_new' (Kd.R_new' ho0 (Kd.R_lt (by (with_reducible repeat (first | apply Kd.R_alloc | apply Kd.R_drewN | apply Kd.R_drew)); exact HO103.out))) (Kd.R_lt (by (with_reducible repeat (first | apply Kd.R_alloc | apply Kd.R_drewN | apply Kd.R_drew)); exact HO106.out))) (Kd.R_lt (by (with_reducible repeat (first | apply Kd.R_alloc | apply Kd.R_drewN | apply Kd.R_drew)); exact HO114.out))) (below_size (by repeat (first | (with_reducible first | exact HB.out | apply below_alloc | apply pw_below_drewN | apply below_drew1) | exact HB.out)))); have n5_ := Aside0.mk (below_step (by repeat (first | (with_reducible first | exact HB.out | apply below_alloc | apply pw_below_drewN | apply below_drew1) | exact HB.out)) hb); clear HO103; clear HO106; clear HO111; clear HO114; clear HB; have HO103 := n0_; have HO106 := n1_; have HO111 := n2_; have HO114 := n3_; have HO118 := n4_; have HB := n5_; clear n0_ n1_ n2_ n3_ n4_ n5_; (try clear hb); (try clear hb2); (try clear hk); (try clear hi); (try clear ho0)))
        go_ret
        exact ⟨by first | rfl | (simp [errW_none, errW_some] <;> rfl) | (simp [*, errW_none, errW_some] <;> rfl), by repeat (first | (with_reducible first | exact HB.out | apply below_alloc | apply pw_below_drewN | apply below_drew1) | exact HB.out)⟩
    · rw [if_neg c4] at H
      have c4b0 : (t109 == 0) = false := beq_eq_false_iff_ne.mpr c4
      have c4b1 : (t109 != 0) = true := bne_iff_ne.mpr c4
      obtain rfl := Option.some.inj H
      go_enter Try.func9, Try.ntmps9
      go_wp2_with (first | ((with_reducible refine gate_dst (N := 11) rfl ?_); (try (refine gate_guard (by rfl) ?_; dsimp only)); refine Kd.R_lit k47 _ 47 ?hg (N := 11) ?hd (xs := ([(⟨(⟨#[103]⟩ : ByteArray), 2⟩ : S47), (⟨(⟨#[88]⟩ : ByteArray), 0⟩ : S47), (⟨(⟨#[89]⟩ : ByteArray), 0⟩ : S47)] : List (S47))) (inner := [.string (⟨#[103]⟩ : ByteArray), .int .i64 2, .string (⟨#[88]⟩ : ByteArray), .int .i64 0, .string (⟨#[89]⟩ : ByteArray), .int .i64 0]) (ok := fun _ => True) (okp := fun _ => True) ?hr ?hp (fun _ hk => hk) trivial (Below.refl _ _) (Nat.le_refl _) (by simp) ?_; (case hd => rfl); (case hg => rfl); (case hr => first | (go_simp; done) | (go_simp; rfl)); (case hp => exact (Reps.c2 (show Kd.M k47 _ _ _ (⟨(⟨#[103]⟩ : ByteArray), 2⟩ : S47) [.string (⟨#[103]⟩ : ByteArray), .int .i64 2] from (k47_mkM _ _ _ (⟨(⟨#[103]⟩ : ByteArray), 2⟩ : S47) )) (Reps.c2 (show Kd.M k47 _ _ _ (⟨(⟨#[88]⟩ : ByteArray), 0⟩ : S47) [.string (⟨#[88]⟩ : ByteArray), .int .i64 0] from (k47_mkM _ _ _ (⟨(⟨#[88]⟩ : ByteArray), 0⟩ : S47) )) (Reps.c2 (show Kd.M k47 _ _ _ (⟨(⟨#[89]⟩ : ByteArray), 0⟩ : S47) [.string (⟨#[89]⟩ : ByteArray), .int .i64 0] from (k47_mkM _ _ _ (⟨(⟨#[89]⟩ : ByteArray), 0⟩ : S47) )) (Reps.none _ _))))); intro v102 w73 ho74 hb hg_ hnew_; clear hg_ hnew_; (first | rw [← Ny101.out] at ho74 | (simp only [Int.reduceToNat] at ho74; rw [← Ny101.out] at ho74)); have n0_ := Aside0.mk (Kd.R_lower ho74 (below_size (by repeat (first | (with_reducible first | exact HB.out | apply below_alloc | apply pw_below_drewN | apply below_drew1) | exact HB.out)))); have n1_ := Aside0.mk (below_step (by repeat (first | (with_reducible first | exact HB.out | apply below_alloc | apply pw_below_drewN | apply below_drew1) | exact HB.out)) hb); clear HB; have HO103 := n0_; have HB := n1_; clear n0_ n1_; clear hb ho74) | ((with_reducible refine gate_dst (N := 15) rfl ?_); (try (refine gate_guard (by rfl) ?_; dsimp only)); refine Kd.R_lit k47 _ 47 ?hg (N := 15) ?hd (xs := ([(⟨(⟨#[103]⟩ : ByteArray), 2⟩ : S47), (⟨(⟨#[97]⟩ : ByteArray), 0⟩ : S47), (⟨(⟨#[98]⟩ : ByteArray), 0⟩ : S47)] : List (S47))) (inner := [.string (⟨#[103]⟩ : ByteArray), .int .i64 2, .string (⟨#[97]⟩ : ByteArray), .int .i64 0, .string (⟨#[98]⟩ : ByteArray), .int .i64 0]) (ok := fun _ => True) (okp := fun _ => True) ?hr ?hp (fun _ hk => hk) trivial (Below.refl _ _) (Nat.le_refl _) (by simp) ?_; (case hd => rfl); (case hg => rfl); (case hr => first | (go_simp; done) | (go_simp; rfl)); (case hp => exact (Reps.c2 (show Kd.M k47 _ _ _ (⟨(⟨#[103]⟩ : ByteArray), 2⟩ : S47) [.string (⟨#[103]⟩ : ByteArray), .int .i64 2] from (k47_mkM _ _ _ (⟨(⟨#[103]⟩ : ByteArray), 2⟩ : S47) )) (Reps.c2 (show Kd.M k47 _ _ _ (⟨(⟨#[97]⟩ : ByteArray), 0⟩ : S47) [.string (⟨#[97]⟩ : ByteArray), .int .i64 0] from (k47_mkM _ _ _ (⟨(⟨#[97]⟩ : ByteArray), 0⟩ : S47) )) (Reps.c2 (show Kd.M k47 _ _ _ (⟨(⟨#[98]⟩ : ByteArray), 0⟩ : S47) [.string (⟨#[98]⟩ : ByteArray), .int .i64 0] from (k47_mkM _ _ _ (⟨(⟨#[98]⟩ : ByteArray), 0⟩ : S47) )) (Reps.none _ _))))); intro v105 w75 ho76 hb hg_ hnew_; clear hg_ hnew_; (first | rw [← Ny104.out] at ho76 | (simp only [Int.reduceToNat] at ho76; rw [← Ny104.out] at ho76)); have n0_ := Aside0.mk (Kd.R_elder' (by (with_reducible repeat (first | apply Kd.R_alloc | apply Kd.R_drewN | apply Kd.R_drew)); exact HO103.out) (Kd.R_base ho76) hb); have n1_ := Aside0.mk (Kd.R_lower (Kd.R_new' ho76 (Kd.R_lt (by (with_reducible repeat (first | apply Kd.R_alloc | apply Kd.R_drewN | apply Kd.R_drew)); exact HO103.out))) (below_size (by repeat (first | (with_reducible first | exact HB.out | apply below_alloc | apply pw_below_drewN | apply below_drew1) | exact HB.out)))); have n2_ := Aside0.mk (below_step (by repeat (first | (with_reducible first | exact HB.out | apply below_alloc | apply pw_below_drewN | apply below_drew1) | exact HB.out)) hb); clear HO103; clear HB; have HO103 := n0_; have HO106 := n1_; have HB := n2_; clear n0_ n1_ n2_; clear hb ho76; obtain ⟨Ao77, co77, eo77⟩ := Kd.R_slice HO103.out; subst eo77; obtain ⟨Ao78, co78, eo78⟩ := Kd.R_slice HO106.out; subst eo78) | ((with_reducible refine gate_callee (f := 10) rfl ?_); refine goesL_ (some 19) rfl rfl Try.func10 (by kernel_rfl) rfl #[.slice Ao77 y101.length co77, .slice Ao78 y104.length co78] rfl (by (try simp only [List.map_toArray, List.map_cons, List.map_nil]); first | done | rfl | (simp only [List.length_drop, List.length_take]; rfl)) ?_; (with_reducible refine (match_Match.calls k _ _ y101 _ _ y104 t107 true t109 _ ?side1 ?side2 ?side3 ?side4 A1.out).mono ?_); (case side1 => repeat (first | exact (Kd.R_reads' HO103.out).2.2 | (with_reducible refine Kd.C_alloc ?_ _) | (with_reducible refine Kd.C_drewN ?_ _) | (with_reducible refine Kd.C_drew ?_))); (case side2 => exact (Kd.R_reads' HO103.out).2.1); (case side3 => repeat (first | exact (Kd.R_reads' HO106.out).2.2 | (with_reducible refine Kd.C_alloc ?_ _) | (with_reducible refine Kd.C_drewN ?_ _) | (with_reducible refine Kd.C_drew ?_))); (case side4 => exact (Kd.R_reads' HO106.out).2.1); rintro e w79 ⟨v110, rfl, ho0, hb⟩; refine ⟨_, rfl, ?_⟩; have n0_ := Aside0.mk (Kd.R_below (by (with_reducible repeat (first | apply Kd.R_alloc | apply Kd.R_drewN | apply Kd.R_drew)); exact HO103.out) hb); have n1_ := Aside0.mk (Kd.R_below (by (with_reducible repeat (first | apply Kd.R_alloc | apply Kd.R_drewN | apply Kd.R_drew)); exact HO106.out) hb); have n2_ := Aside0.mk (Kd.S_lower (Kd.S_new' (Kd.S_new' ho0 (Kd.R_lt (by (with_reducible repeat (first | apply Kd.R_alloc | apply Kd.R_drewN | apply Kd.R_drew)); exact HO103.out))) (Kd.R_lt (by (with_reducible repeat (first | apply Kd.R_alloc | apply Kd.R_drewN | apply Kd.R_drew)); exact HO106.out))) (below_size (by repeat (first | (with_reducible first | exact HB.out | apply below_alloc | apply pw_below_drewN | apply below_drew1) | exact HB.out)))); have n3_ := Aside0.mk (below_step (by repeat (first | (with_reducible first | exact HB.out | apply below_alloc | apply pw_below_drewN | apply below_drew1) | exact HB.out)) hb); clear HO103; clear HO106; clear HB; have HO103 := n0_; have HO106 := n1_; have HO111 := n2_; have HB := n3_; clear n0_ n1_ n2_ n3_; (try clear hb); (try clear hb2); (try clear hk); (try clear hi); (try clear ho0)) | ((with_reducible refine gate_dst (N := 25) rfl ?_); (try (refine gate_guard (by rfl) ?_; dsimp only)); refine Kd.R_lit k47 _ 47 ?hg (N := 25) ?hd (xs := ([(⟨(⟨#[89]⟩ : ByteArray), 0⟩ : S47)] : List (S47))) (inner := [.string (⟨#[89]⟩ : ByteArray), .int .i64 0]) (ok := fun _ => True) (okp := fun _ => True) ?hr ?hp (fun _ hk => hk) trivial (Below.refl _ _) (Nat.le_refl _) (by simp) ?_; (case hd => rfl); (case hg => rfl); (case hr => first | (go_simp; done) | (go_simp; rfl)); (case hp => exact (Reps.c2 (show Kd.M k47 _ _ _ (⟨(⟨#[89]⟩ : ByteArray), 0⟩ : S47) [.string (⟨#[89]⟩ : ByteArray), .int .i64 0] from (k47_mkM _ _ _ (⟨(⟨#[89]⟩ : ByteArray), 0⟩ : S47) )) (Reps.none _ _))); intro v113 w80 ho81 hb hg_ hnew_; clear hg_ hnew_; (first | rw [← Ny112.out] at ho81 | (simp only [Int.reduceToNat] at ho81; rw [← Ny112.out] at ho81)); have n0_ := Aside0.mk (Kd.R_elder' (by (with_reducible repeat (first | apply Kd.R_alloc | apply Kd.R_drewN | apply Kd.R_drew)); exact HO103.out) (Kd.R_base ho81) hb); have n1_ := Aside0.mk (Kd.R_elder' (by (with_reducible repeat (first | apply Kd.R_alloc | apply Kd.R_drewN | apply Kd.R_drew)); exact HO106.out) (Kd.R_base ho81) hb); have n2_ := Aside0.mk (Kd.S_elder' (by (with_reducible repeat (first | apply Kd.S_alloc | apply Kd.S_drewN | apply Kd.S_drew)); exact HO111.out) (Kd.R_base ho81) hb); have n3_ := Aside0.mk (Kd.R_lower (Kd.R_new' (Kd.R_new' ho81 (Kd.R_lt (by (with_reducible repeat (first | apply Kd.R_alloc | apply Kd.R_drewN | apply Kd.R_drew)); exact HO103.out))) (Kd.R_lt (by (with_reducible repeat (first | apply Kd.R_alloc | apply Kd.R_drewN | apply Kd.R_drew)); exact HO106.out))) (below_size (by repeat (first | (with_reducible first | exact HB.out | apply below_alloc | apply pw_below_drewN | apply below_drew1) | exact HB.out)))); have n4_ := Aside0.mk (below_step (by repeat (first | (with_reducible first | exact HB.out | apply below_alloc | apply pw_below_drewN | apply below_drew1) | exact HB.out)) hb); clear HO103; clear HO106; clear HO111; clear HB; have HO103 := n0_; have HO106 := n1_; have HO111 := n2_; have HO114 := n3_; have HB := n4_; clear n0_ n1_ n2_ n3_ n4_; clear hb ho81; obtain ⟨Ao82, co82, eo82⟩ := Kd.R_slice HO114.out; subst eo82; obtain ⟨Ao83, co83, eo83⟩ := Kd.S_slice HO111.out; subst eo83) | ((with_reducible refine gate_callee (f := 14) rfl ?_); refine goesL_ (some 27) rfl rfl Try.func14 (by kernel_rfl) rfl #[.slice Ao82 y112.length co82, .slice Ao83 t107.length co83] rfl (by (try simp only [List.map_toArray, List.map_cons, List.map_nil]); first | done | rfl | (simp only [List.length_drop, List.length_take]; rfl)) ?_; (with_reducible refine (match_Fill.calls k _ _ y112 _ _ t107 t115 t116 _ ?side1 ?side2 ?side3 ?side4 A2.out).mono ?_); (case side1 => repeat (first | exact (Kd.R_reads' HO114.out).2.2 | (with_reducible refine Kd.C_alloc ?_ _) | (with_reducible refine Kd.C_drewN ?_ _) | (with_reducible refine Kd.C_drew ?_))); (case side2 => exact (Kd.R_reads' HO114.out).2.1); (case side3 => repeat (first | exact (Kd.S_reads' HO111.out).2.2 | (with_reducible refine Kd.C_alloc ?_ _) | (with_reducible refine Kd.C_drewN ?_ _) | (with_reducible refine Kd.C_drew ?_))); (case side4 => exact (Kd.S_reads' HO111.out).2.1); rintro e w84 ⟨v117, rfl, ho0, hb⟩; refine ⟨_, rfl, ?_⟩; have n0_ := Aside0.mk (Kd.R_elder' (by (with_reducible repeat (first | apply Kd.R_alloc | apply Kd.R_drewN | apply Kd.R_drew)); exact HO103.out) (Kd.R_base ho0) hb); have n1_ := Aside0.mk (Kd.R_elder' (by (with_reducible repeat (first | apply Kd.R_alloc | apply Kd.R_drewN | apply Kd.R_drew)); exact HO106.out) (Kd.R_base ho0) hb); have n2_ := Aside0.mk (Kd.S_elder' (by (with_reducible repeat (first | apply Kd.S_alloc | apply Kd.S_drewN | apply Kd.S_drew)); exact HO111.out) (Kd.R_base ho0) hb); have n3_ := Aside0.mk (Kd.R_elder' (by (with_reducible repeat (first | apply Kd.R_alloc | apply Kd.R_drewN | apply Kd.R_drew)); exact HO114.out) (Kd.R_base ho0) hb); have n4_ := Aside0.mk (Kd.R_lower (Kd.R_new' (Kd.R_new' (Kd.R_new' ho0 (Kd.R_lt (by (with_reducible repeat (first | apply Kd.R_alloc | apply Kd.R_drewN | apply Kd.R_drew)); exact HO103.out))) (Kd.R_lt (by (with_reducible repeat (first | apply Kd.R_alloc | apply Kd.R_drewN | apply Kd.R_drew)); exact HO106.out))) (Kd.R_lt (by (with_reducible repeat (first | apply Kd.R_alloc | apply Kd.R_drewN | apply Kd.R_drew)); exact HO114.out))) (below_size (by repeat (first | (with_reducible first | exact HB.out | apply below_alloc | apply pw_below_drewN | apply below_drew1) | exact HB.out)))); have n5_ := Aside0.mk (below_step (by repeat (first | (with_reducible first | exact HB.out | apply below_alloc | apply pw_below_drewN | apply below_drew1) | exact HB.out)) hb); clear HO103; clear HO106; clear HO111; clear HO114; clear HB; have HO103 := n0_; have HO106 := n1_; have HO111 := n2_; have HO114 := n3_; have HO118 := n4_; have HB := n5_; clear n0_ n1_ n2_ n3_ n4_ n5_; (try clear hb); (try clear hb2); (try clear hk); (try clear hi); (try clear ho0)))
      go_ret
      exact ⟨by first | rfl | (simp [errW_none, errW_some] <;> rfl) | (simp [*, errW_none, errW_some] <;> rfl), by repeat (first | (with_reducible first | exact HB.out | apply below_alloc | apply pw_below_drewN | apply below_drew1) | exact HB.out)⟩
  · replace c3 := Bool.eq_false_iff.mpr c3
    subst c3
    have H1 : (some false) = some r := by rw [if_neg (show ¬ (false = true) by decide)] at H; exact H
    clear H
    have H := H1
    clear H1
    obtain rfl := Option.some.inj H
    go_enter Try.func9, Try.ntmps9
    go_wp2_with (first | ((with_reducible refine gate_dst (N := 11) rfl ?_); (try (refine gate_guard (by rfl) ?_; dsimp only)); refine Kd.R_lit k47 _ 47 ?hg (N := 11) ?hd (xs := ([(⟨(⟨#[103]⟩ : ByteArray), 2⟩ : S47), (⟨(⟨#[88]⟩ : ByteArray), 0⟩ : S47), (⟨(⟨#[89]⟩ : ByteArray), 0⟩ : S47)] : List (S47))) (inner := [.string (⟨#[103]⟩ : ByteArray), .int .i64 2, .string (⟨#[88]⟩ : ByteArray), .int .i64 0, .string (⟨#[89]⟩ : ByteArray), .int .i64 0]) (ok := fun _ => True) (okp := fun _ => True) ?hr ?hp (fun _ hk => hk) trivial (Below.refl _ _) (Nat.le_refl _) (by simp) ?_; (case hd => rfl); (case hg => rfl); (case hr => first | (go_simp; done) | (go_simp; rfl)); (case hp => exact (Reps.c2 (show Kd.M k47 _ _ _ (⟨(⟨#[103]⟩ : ByteArray), 2⟩ : S47) [.string (⟨#[103]⟩ : ByteArray), .int .i64 2] from (k47_mkM _ _ _ (⟨(⟨#[103]⟩ : ByteArray), 2⟩ : S47) )) (Reps.c2 (show Kd.M k47 _ _ _ (⟨(⟨#[88]⟩ : ByteArray), 0⟩ : S47) [.string (⟨#[88]⟩ : ByteArray), .int .i64 0] from (k47_mkM _ _ _ (⟨(⟨#[88]⟩ : ByteArray), 0⟩ : S47) )) (Reps.c2 (show Kd.M k47 _ _ _ (⟨(⟨#[89]⟩ : ByteArray), 0⟩ : S47) [.string (⟨#[89]⟩ : ByteArray), .int .i64 0] from (k47_mkM _ _ _ (⟨(⟨#[89]⟩ : ByteArray), 0⟩ : S47) )) (Reps.none _ _))))); intro v102 w85 ho86 hb hg_ hnew_; clear hg_ hnew_; (first | rw [← Ny101.out] at ho86 | (simp only [Int.reduceToNat] at ho86; rw [← Ny101.out] at ho86)); have n0_ := Aside0.mk (Kd.R_lower ho86 (below_size (by repeat (first | (with_reducible first | exact HB.out | apply below_alloc | apply pw_below_drewN | apply below_drew1) | exact HB.out)))); have n1_ := Aside0.mk (below_step (by repeat (first | (with_reducible first | exact HB.out | apply below_alloc | apply pw_below_drewN | apply below_drew1) | exact HB.out)) hb); clear HB; have HO103 := n0_; have HB := n1_; clear n0_ n1_; clear hb ho86) | ((with_reducible refine gate_dst (N := 15) rfl ?_); (try (refine gate_guard (by rfl) ?_; dsimp only)); refine Kd.R_lit k47 _ 47 ?hg (N := 15) ?hd (xs := ([(⟨(⟨#[103]⟩ : ByteArray), 2⟩ : S47), (⟨(⟨#[97]⟩ : ByteArray), 0⟩ : S47), (⟨(⟨#[98]⟩ : ByteArray), 0⟩ : S47)] : List (S47))) (inner := [.string (⟨#[103]⟩ : ByteArray), .int .i64 2, .string (⟨#[97]⟩ : ByteArray), .int .i64 0, .string (⟨#[98]⟩ : ByteArray), .int .i64 0]) (ok := fun _ => True) (okp := fun _ => True) ?hr ?hp (fun _ hk => hk) trivial (Below.refl _ _) (Nat.le_refl _) (by simp) ?_; (case hd => rfl); (case hg => rfl); (case hr => first | (go_simp; done) | (go_simp; rfl)); (case hp => exact (Reps.c2 (show Kd.M k47 _ _ _ (⟨(⟨#[103]⟩ : ByteArray), 2⟩ : S47) [.string (⟨#[103]⟩ : ByteArray), .int .i64 2] from (k47_mkM _ _ _ (⟨(⟨#[103]⟩ : ByteArray), 2⟩ : S47) )) (Reps.c2 (show Kd.M k47 _ _ _ (⟨(⟨#[97]⟩ : ByteArray), 0⟩ : S47) [.string (⟨#[97]⟩ : ByteArray), .int .i64 0] from (k47_mkM _ _ _ (⟨(⟨#[97]⟩ : ByteArray), 0⟩ : S47) )) (Reps.c2 (show Kd.M k47 _ _ _ (⟨(⟨#[98]⟩ : ByteArray), 0⟩ : S47) [.string (⟨#[98]⟩ : ByteArray), .int .i64 0] from (k47_mkM _ _ _ (⟨(⟨#[98]⟩ : ByteArray), 0⟩ : S47) )) (Reps.none _ _))))); intro v105 w87 ho88 hb hg_ hnew_; clear hg_ hnew_; (first | rw [← Ny104.out] at ho88 | (simp only [Int.reduceToNat] at ho88; rw [← Ny104.out] at ho88)); have n0_ := Aside0.mk (Kd.R_elder' (by (with_reducible repeat (first | apply Kd.R_alloc | apply Kd.R_drewN | apply Kd.R_drew)); exact HO103.out) (Kd.R_base ho88) hb); have n1_ := Aside0.mk (Kd.R_lower (Kd.R_new' ho88 (Kd.R_lt (by (with_reducible repeat (first | apply Kd.R_alloc | apply Kd.R_drewN | apply Kd.R_drew)); exact HO103.out))) (below_size (by repeat (first | (with_reducible first | exact HB.out | apply below_alloc | apply pw_below_drewN | apply below_drew1) | exact HB.out)))); have n2_ := Aside0.mk (below_step (by repeat (first | (with_reducible first | exact HB.out | apply below_alloc | apply pw_below_drewN | apply below_drew1) | exact HB.out)) hb); clear HO103; clear HB; have HO103 := n0_; have HO106 := n1_; have HB := n2_; clear n0_ n1_ n2_; clear hb ho88; obtain ⟨Ao89, co89, eo89⟩ := Kd.R_slice HO103.out; subst eo89; obtain ⟨Ao90, co90, eo90⟩ := Kd.R_slice HO106.out; subst eo90) | ((with_reducible refine gate_callee (f := 10) rfl ?_); refine goesL_ (some 19) rfl rfl Try.func10 (by kernel_rfl) rfl #[.slice Ao89 y101.length co89, .slice Ao90 y104.length co90] rfl (by (try simp only [List.map_toArray, List.map_cons, List.map_nil]); first | done | rfl | (simp only [List.length_drop, List.length_take]; rfl)) ?_; (with_reducible refine (match_Match.calls k _ _ y101 _ _ y104 t107 false t109 _ ?side1 ?side2 ?side3 ?side4 A1.out).mono ?_); (case side1 => repeat (first | exact (Kd.R_reads' HO103.out).2.2 | (with_reducible refine Kd.C_alloc ?_ _) | (with_reducible refine Kd.C_drewN ?_ _) | (with_reducible refine Kd.C_drew ?_))); (case side2 => exact (Kd.R_reads' HO103.out).2.1); (case side3 => repeat (first | exact (Kd.R_reads' HO106.out).2.2 | (with_reducible refine Kd.C_alloc ?_ _) | (with_reducible refine Kd.C_drewN ?_ _) | (with_reducible refine Kd.C_drew ?_))); (case side4 => exact (Kd.R_reads' HO106.out).2.1); rintro e w91 ⟨v110, rfl, ho0, hb⟩; refine ⟨_, rfl, ?_⟩; have n0_ := Aside0.mk (Kd.R_below (by (with_reducible repeat (first | apply Kd.R_alloc | apply Kd.R_drewN | apply Kd.R_drew)); exact HO103.out) hb); have n1_ := Aside0.mk (Kd.R_below (by (with_reducible repeat (first | apply Kd.R_alloc | apply Kd.R_drewN | apply Kd.R_drew)); exact HO106.out) hb); have n2_ := Aside0.mk (Kd.S_lower (Kd.S_new' (Kd.S_new' ho0 (Kd.R_lt (by (with_reducible repeat (first | apply Kd.R_alloc | apply Kd.R_drewN | apply Kd.R_drew)); exact HO103.out))) (Kd.R_lt (by (with_reducible repeat (first | apply Kd.R_alloc | apply Kd.R_drewN | apply Kd.R_drew)); exact HO106.out))) (below_size (by repeat (first | (with_reducible first | exact HB.out | apply below_alloc | apply pw_below_drewN | apply below_drew1) | exact HB.out)))); have n3_ := Aside0.mk (below_step (by repeat (first | (with_reducible first | exact HB.out | apply below_alloc | apply pw_below_drewN | apply below_drew1) | exact HB.out)) hb); clear HO103; clear HO106; clear HB; have HO103 := n0_; have HO106 := n1_; have HO111 := n2_; have HB := n3_; clear n0_ n1_ n2_ n3_; (try clear hb); (try clear hb2); (try clear hk); (try clear hi); (try clear ho0)) | ((with_reducible refine gate_dst (N := 25) rfl ?_); (try (refine gate_guard (by rfl) ?_; dsimp only)); refine Kd.R_lit k47 _ 47 ?hg (N := 25) ?hd (xs := ([(⟨(⟨#[89]⟩ : ByteArray), 0⟩ : S47)] : List (S47))) (inner := [.string (⟨#[89]⟩ : ByteArray), .int .i64 0]) (ok := fun _ => True) (okp := fun _ => True) ?hr ?hp (fun _ hk => hk) trivial (Below.refl _ _) (Nat.le_refl _) (by simp) ?_; (case hd => rfl); (case hg => rfl); (case hr => first | (go_simp; done) | (go_simp; rfl)); (case hp => exact (Reps.c2 (show Kd.M k47 _ _ _ (⟨(⟨#[89]⟩ : ByteArray), 0⟩ : S47) [.string (⟨#[89]⟩ : ByteArray), .int .i64 0] from (k47_mkM _ _ _ (⟨(⟨#[89]⟩ : ByteArray), 0⟩ : S47) )) (Reps.none _ _))); intro v113 w92 ho93 hb hg_ hnew_; clear hg_ hnew_; (first | rw [← Ny112.out] at ho93 | (simp only [Int.reduceToNat] at ho93; rw [← Ny112.out] at ho93)); have n0_ := Aside0.mk (Kd.R_elder' (by (with_reducible repeat (first | apply Kd.R_alloc | apply Kd.R_drewN | apply Kd.R_drew)); exact HO103.out) (Kd.R_base ho93) hb); have n1_ := Aside0.mk (Kd.R_elder' (by (with_reducible repeat (first | apply Kd.R_alloc | apply Kd.R_drewN | apply Kd.R_drew)); exact HO106.out) (Kd.R_base ho93) hb); have n2_ := Aside0.mk (Kd.S_elder' (by (with_reducible repeat (first | apply Kd.S_alloc | apply Kd.S_drewN | apply Kd.S_drew)); exact HO111.out) (Kd.R_base ho93) hb); have n3_ := Aside0.mk (Kd.R_lower (Kd.R_new' (Kd.R_new' ho93 (Kd.R_lt (by (with_reducible repeat (first | apply Kd.R_alloc | apply Kd.R_drewN | apply Kd.R_drew)); exact HO103.out))) (Kd.R_lt (by (with_reducible repeat (first | apply Kd.R_alloc | apply Kd.R_drewN | apply Kd.R_drew)); exact HO106.out))) (below_size (by repeat (first | (with_reducible first | exact HB.out | apply below_alloc | apply pw_below_drewN | apply below_drew1) | exact HB.out)))); have n4_ := Aside0.mk (below_step (by repeat (first | (with_reducible first | exact HB.out | apply below_alloc | apply pw_below_drewN | apply below_drew1) | exact HB.out)) hb); clear HO103; clear HO106; clear HO111; clear HB; have HO103 := n0_; have HO106 := n1_; have HO111 := n2_; have HO114 := n3_; have HB := n4_; clear n0_ n1_ n2_ n3_ n4_; clear hb ho93; obtain ⟨Ao94, co94, eo94⟩ := Kd.R_slice HO114.out; subst eo94; obtain ⟨Ao95, co95, eo95⟩ := Kd.S_slice HO111.out; subst eo95) | ((with_reducible refine gate_callee (f := 14) rfl ?_); refine goesL_ (some 27) rfl rfl Try.func14 (by kernel_rfl) rfl #[.slice Ao94 y112.length co94, .slice Ao95 t107.length co95] rfl (by (try simp only [List.map_toArray, List.map_cons, List.map_nil]); first | done | rfl | (simp only [List.length_drop, List.length_take]; rfl)) ?_; (with_reducible refine (match_Fill.calls k _ _ y112 _ _ t107 t115 t116 _ ?side1 ?side2 ?side3 ?side4 A2.out).mono ?_); (case side1 => repeat (first | exact (Kd.R_reads' HO114.out).2.2 | (with_reducible refine Kd.C_alloc ?_ _) | (with_reducible refine Kd.C_drewN ?_ _) | (with_reducible refine Kd.C_drew ?_))); (case side2 => exact (Kd.R_reads' HO114.out).2.1); (case side3 => repeat (first | exact (Kd.S_reads' HO111.out).2.2 | (with_reducible refine Kd.C_alloc ?_ _) | (with_reducible refine Kd.C_drewN ?_ _) | (with_reducible refine Kd.C_drew ?_))); (case side4 => exact (Kd.S_reads' HO111.out).2.1); rintro e w96 ⟨v117, rfl, ho0, hb⟩; refine ⟨_, rfl, ?_⟩; have n0_ := Aside0.mk (Kd.R_elder' (by (with_reducible repeat (first | apply Kd.R_alloc | apply Kd.R_drewN | apply Kd.R_drew)); exact HO103.out) (Kd.R_base ho0) hb); have n1_ := Aside0.mk (Kd.R_elder' (by (with_reducible repeat (first | apply Kd.R_alloc | apply Kd.R_drewN | apply Kd.R_drew)); exact HO106.out) (Kd.R_base ho0) hb); have n2_ := Aside0.mk (Kd.S_elder' (by (with_reducible repeat (first | apply Kd.S_alloc | apply Kd.S_drewN | apply Kd.S_drew)); exact HO111.out) (Kd.R_base ho0) hb); have n3_ := Aside0.mk (Kd.R_elder' (by (with_reducible repeat (first | apply Kd.R_alloc | apply Kd.R_drewN | apply Kd.R_drew)); exact HO114.out) (Kd.R_base ho0) hb); have n4_ := Aside0.mk (Kd.R_lower (Kd.R_new' (Kd.R_new' (Kd.R_new' ho0 (Kd.R_lt (by (with_reducible repeat (first | apply Kd.R_alloc | apply Kd.R_drewN | apply Kd.R_drew)); exact HO103.out))) (Kd.R_lt (by (with_reducible repeat (first | apply Kd.R_alloc | apply Kd.R_drewN | apply Kd.R_drew)); exact HO106.out))) (Kd.R_lt (by (with_reducible repeat (first | apply Kd.R_alloc | apply Kd.R_drewN | apply Kd.R_drew)); exact HO114.out))) (below_size (by repeat (first | (with_reducible first | exact HB.out | apply below_alloc | apply pw_below_drewN | apply below_drew1) | exact HB.out)))); have n5_ := Aside0.mk (below_step (by repeat (first | (with_reducible first | exact HB.out | apply below_alloc | apply pw_below_drewN | apply below_drew1) | exact HB.out)) hb); clear HO103; clear HO106; clear HO111; clear HO114; clear HB; have HO103 := n0_; have HO106 := n1_; have HO111 := n2_; have HO114 := n3_; have HO118 := n4_; have HB := n5_; clear n0_ n1_ n2_ n3_ n4_ n5_; (try clear hb); (try clear hb2); (try clear hk); (try clear hi); (try clear ho0)))
    go_ret
    exact ⟨by first | rfl | (simp [errW_none, errW_some] <;> rfl) | (simp [*, errW_none, errW_some] <;> rfl), by repeat (first | (with_reducible first | exact HB.out | apply below_alloc | apply pw_below_drewN | apply below_drew1) | exact HB.out)⟩

end Go.Proofs.Ytlfhonekcmlomaa.P

-- ==== PF4
namespace Go.Proofs.Ytlfhonekcmlomaa.P
open Go.RowKit Go.Proofs.YtlfhonekcmlomaaW.PrintWords Go.Proofs.YtlfhonekcmlomaaW.PrintLast Go.Proofs.YtlfhonekcmlomaaW.PrintMore
attribute [local go_sem] max2_int min2_int max_two min_two max_three min_three max_four min_four   -- for this text's walks alone
set_option linter.unusedVariables false
set_option linter.unusedSimpArgs false

/-! ### aumbrylaw05_MatchFills: function 4 -/
def aumbrylaw05_MatchFills.f (k : Nat) (l0 : List (S47)) (l1 : List (S44)) : Option (Bool) := (aumbrylaw05_wakes.f k).bind fun t101 => (if t101 = true then ((aumbrylaw05_own.f l0).bind fun t102 => ((aumbryref05_Copy.f k l1).bind fun t105 => ((match_Fill.f k t102 t105).bind fun bt108 => ((aumbryref05_Fill.f k l0 l1).bind fun bt112 => ((aumbryref04_Same.f k bt108.1 bt112.1).bind fun t116 => (if t116 = true then (some (bt108.2 == bt112.2)) else (some false))))))) else (some false))
set_option maxHeartbeats 8000000 in
set_option maxRecDepth 100000 in
theorem aumbrylaw05_MatchFills.calls (k : Nat) (A0 : Option Addr) (c0 : Nat) (l0 : List (S47)) (A1 : Option Addr) (c1 : Nat) (l1 : List (S44)) (r : Bool) (w : World) (hr0 : Kd.C k47 w A0 l0.length l0) (hc0 : l0.length ≤ c0) (hr1 : Kd.C k44 w A1 l1.length l1) (hc1 : l1.length ≤ c1) (h : aumbrylaw05_MatchFills.f k l0 l1 = some r) :
    Calls Try.prog 4 #[.slice A0 l0.length c0, .slice A1 l1.length c1] w fun e w' => e = .returned (.bool r) ∧ Below w.heap.size w w' := by
  have HR0 := Aside0.mk hr0
  have HC0 := Aside0.mk hc0
  clear hr0 hc0
  have HR1 := Aside0.mk hr1
  have HC1 := Aside0.mk hc1
  clear hr1 hc1
  have HB := Aside0.mk (Below.refl w.heap.size w)
  have H : ((aumbrylaw05_wakes.f k).bind fun t101 => (if t101 = true then ((aumbrylaw05_own.f l0).bind fun t102 => ((aumbryref05_Copy.f k l1).bind fun t105 => ((match_Fill.f k t102 t105).bind fun bt108 => ((aumbryref05_Fill.f k l0 l1).bind fun bt112 => ((aumbryref04_Same.f k bt108.1 bt112.1).bind fun t116 => (if t116 = true then (some (bt108.2 == bt112.2)) else (some false))))))) else (some false))) = some r := h
  clear h
  replace H := Option.bind_eq_some_iff.mp H
  obtain ⟨t101, A30, H⟩ := H
  replace H : (if t101 = true then ((aumbrylaw05_own.f l0).bind fun t102 => ((aumbryref05_Copy.f k l1).bind fun t105 => ((match_Fill.f k t102 t105).bind fun bt108 => ((aumbryref05_Fill.f k l0 l1).bind fun bt112 => ((aumbryref04_Same.f k bt108.1 bt112.1).bind fun t116 => (if t116 = true then (some (bt108.2 == bt112.2)) else (some false))))))) else (some false)) = some r := H
  have A3 := Aside0.mk A30
  clear A30
  by_cases c4 : t101 = true
  · subst c4
    have H1 : ((aumbrylaw05_own.f l0).bind fun t102 => ((aumbryref05_Copy.f k l1).bind fun t105 => ((match_Fill.f k t102 t105).bind fun bt108 => ((aumbryref05_Fill.f k l0 l1).bind fun bt112 => ((aumbryref04_Same.f k bt108.1 bt112.1).bind fun t116 => (if t116 = true then (some (bt108.2 == bt112.2)) else (some false))))))) = some r := by rw [if_pos rfl] at H; exact H
    clear H
    have H := H1
    clear H1
    replace H := Option.bind_eq_some_iff.mp H
    obtain ⟨t102, A50, H⟩ := H
    replace H : ((aumbryref05_Copy.f k l1).bind fun t105 => ((match_Fill.f k t102 t105).bind fun bt108 => ((aumbryref05_Fill.f k l0 l1).bind fun bt112 => ((aumbryref04_Same.f k bt108.1 bt112.1).bind fun t116 => (if t116 = true then (some (bt108.2 == bt112.2)) else (some false)))))) = some r := H
    have A5 := Aside0.mk A50
    clear A50
    replace H := Option.bind_eq_some_iff.mp H
    obtain ⟨t105, A60, H⟩ := H
    replace H : ((match_Fill.f k t102 t105).bind fun bt108 => ((aumbryref05_Fill.f k l0 l1).bind fun bt112 => ((aumbryref04_Same.f k bt108.1 bt112.1).bind fun t116 => (if t116 = true then (some (bt108.2 == bt112.2)) else (some false))))) = some r := H
    have A6 := Aside0.mk A60
    clear A60
    replace H := Option.bind_eq_some_iff.mp H
    obtain ⟨⟨t108, t109⟩, A70, H⟩ := H
    replace H : ((aumbryref05_Fill.f k l0 l1).bind fun bt112 => ((aumbryref04_Same.f k t108 bt112.1).bind fun t116 => (if t116 = true then (some (t109 == bt112.2)) else (some false)))) = some r := H
    have A7 := Aside0.mk A70
    clear A70
    replace H := Option.bind_eq_some_iff.mp H
    obtain ⟨⟨t112, t113⟩, A80, H⟩ := H
    replace H : ((aumbryref04_Same.f k t108 t112).bind fun t116 => (if t116 = true then (some (t109 == t113)) else (some false))) = some r := H
    have A8 := Aside0.mk A80
    clear A80
    replace H := Option.bind_eq_some_iff.mp H
    obtain ⟨t116, A90, H⟩ := H
    replace H : (if t116 = true then (some (t109 == t113)) else (some false)) = some r := H
    have A9 := Aside0.mk A90
    clear A90
    by_cases c10 : t116 = true
    · subst c10
      have H1 : (some (t109 == t113)) = some r := by rw [if_pos rfl] at H; exact H
      clear H
      have H := H1
      clear H1
      obtain rfl := Option.some.inj H
      go_enter Try.func4, Try.ntmps4
      go_wp2_with (first | ((with_reducible refine gate_callee (f := 9) rfl ?_); refine goesL_ (some 9) rfl rfl Try.func9 (by kernel_rfl) rfl #[] rfl (by (try simp only [List.map_toArray, List.map_cons, List.map_nil]); first | done | rfl | (simp only [List.length_drop, List.length_take]; rfl)) ?_; (with_reducible refine (aumbrylaw05_wakes.calls k  true _ A3.out).mono ?_); rintro e w11 ⟨rfl, hb⟩; refine ⟨_, rfl, ?_⟩; have n0_ := Aside0.mk (below_step (by repeat (first | (with_reducible first | exact HB.out | apply below_alloc | apply pw_below_drewN | apply below_drew1) | exact HB.out)) hb); clear HB; have HB := n0_; clear n0_; (try clear hb); (try clear hb2); (try clear hk); (try clear hi)) | ((with_reducible refine gate_callee (f := 11) rfl ?_); refine goesL_ (some 13) rfl rfl Try.func11 (by kernel_rfl) rfl #[.slice A0 l0.length c0] rfl (by (try simp only [List.map_toArray, List.map_cons, List.map_nil]); first | done | rfl | (simp only [List.length_drop, List.length_take]; rfl)) ?_; (with_reducible refine (aumbrylaw05_own.calls _ _ l0 t102 _ ?side1 ?side2 A5.out).mono ?_); (case side1 => repeat (first | exact (Kd.C_below HR0.out HB.out) | (with_reducible refine Kd.C_alloc ?_ _) | (with_reducible refine Kd.C_drewN ?_ _) | (with_reducible refine Kd.C_drew ?_))); (case side2 => exact HC0.out); rintro e w12 ⟨v103, rfl, ho0, hb⟩; refine ⟨_, rfl, ?_⟩; have n0_ := Aside0.mk (Kd.R_lower ho0 (below_size (by repeat (first | (with_reducible first | exact HB.out | apply below_alloc | apply pw_below_drewN | apply below_drew1) | exact HB.out)))); have n1_ := Aside0.mk (below_step (by repeat (first | (with_reducible first | exact HB.out | apply below_alloc | apply pw_below_drewN | apply below_drew1) | exact HB.out)) hb); clear HB; have HO104 := n0_; have HB := n1_; clear n0_ n1_; (try clear hb); (try clear hb2); (try clear hk); (try clear hi); (try clear ho0)) | ((with_reducible refine gate_callee (f := 15) rfl ?_); refine goesL_ (some 15) rfl rfl Try.func15 (by kernel_rfl) rfl #[.slice A1 l1.length c1] rfl (by (try simp only [List.map_toArray, List.map_cons, List.map_nil]); first | done | rfl | (simp only [List.length_drop, List.length_take]; rfl)) ?_; (with_reducible refine (aumbryref05_Copy.calls k _ _ l1 t105 _ ?side1 ?side2 A6.out).mono ?_); (case side1 => repeat (first | exact (Kd.C_below HR1.out HB.out) | (with_reducible refine Kd.C_alloc ?_ _) | (with_reducible refine Kd.C_drewN ?_ _) | (with_reducible refine Kd.C_drew ?_))); (case side2 => exact HC1.out); rintro e w13 ⟨v106, rfl, ho0, hb⟩; refine ⟨_, rfl, ?_⟩; have n0_ := Aside0.mk (Kd.R_below (by (with_reducible repeat (first | apply Kd.R_alloc | apply Kd.R_drewN | apply Kd.R_drew)); exact HO104.out) hb); have n1_ := Aside0.mk (Kd.S_lower (Kd.S_new' ho0 (Kd.R_lt (by (with_reducible repeat (first | apply Kd.R_alloc | apply Kd.R_drewN | apply Kd.R_drew)); exact HO104.out))) (below_size (by repeat (first | (with_reducible first | exact HB.out | apply below_alloc | apply pw_below_drewN | apply below_drew1) | exact HB.out)))); have n2_ := Aside0.mk (below_step (by repeat (first | (with_reducible first | exact HB.out | apply below_alloc | apply pw_below_drewN | apply below_drew1) | exact HB.out)) hb); clear HO104; clear HB; have HO104 := n0_; have HO107 := n1_; have HB := n2_; clear n0_ n1_ n2_; (try clear hb); (try clear hb2); (try clear hk); (try clear hi); (try clear ho0); obtain ⟨Ao14, co14, eo14⟩ := Kd.R_slice HO104.out; subst eo14; obtain ⟨Ao15, co15, eo15⟩ := Kd.S_slice HO107.out; subst eo15) | ((with_reducible refine gate_callee (f := 14) rfl ?_); refine goesL_ (some 16) rfl rfl Try.func14 (by kernel_rfl) rfl #[.slice Ao14 t102.length co14, .slice Ao15 t105.length co15] rfl (by (try simp only [List.map_toArray, List.map_cons, List.map_nil]); first | done | rfl | (simp only [List.length_drop, List.length_take]; rfl)) ?_; (with_reducible refine (match_Fill.calls k _ _ t102 _ _ t105 t108 t109 _ ?side1 ?side2 ?side3 ?side4 A7.out).mono ?_); (case side1 => repeat (first | exact (Kd.R_reads' HO104.out).2.2 | (with_reducible refine Kd.C_alloc ?_ _) | (with_reducible refine Kd.C_drewN ?_ _) | (with_reducible refine Kd.C_drew ?_))); (case side2 => exact (Kd.R_reads' HO104.out).2.1); (case side3 => repeat (first | exact (Kd.S_reads' HO107.out).2.2 | (with_reducible refine Kd.C_alloc ?_ _) | (with_reducible refine Kd.C_drewN ?_ _) | (with_reducible refine Kd.C_drew ?_))); (case side4 => exact (Kd.S_reads' HO107.out).2.1); rintro e w16 ⟨v110, rfl, ho0, hb⟩; refine ⟨_, rfl, ?_⟩; have n0_ := Aside0.mk (Kd.R_elder' (by (with_reducible repeat (first | apply Kd.R_alloc | apply Kd.R_drewN | apply Kd.R_drew)); exact HO104.out) (Kd.R_base ho0) hb); have n1_ := Aside0.mk (Kd.S_elder' (by (with_reducible repeat (first | apply Kd.S_alloc | apply Kd.S_drewN | apply Kd.S_drew)); exact HO107.out) (Kd.R_base ho0) hb); have n2_ := Aside0.mk (Kd.R_lower (Kd.R_new' ho0 (Kd.R_lt (by (with_reducible repeat (first | apply Kd.R_alloc | apply Kd.R_drewN | apply Kd.R_drew)); exact HO104.out))) (below_size (by repeat (first | (with_reducible first | exact HB.out | apply below_alloc | apply pw_below_drewN | apply below_drew1) | exact HB.out)))); have n3_ := Aside0.mk (below_step (by repeat (first | (with_reducible first | exact HB.out | apply below_alloc | apply pw_below_drewN | apply below_drew1) | exact HB.out)) hb); clear HO104; clear HO107; clear HB; have HO104 := n0_; have HO107 := n1_; have HO111 := n2_; have HB := n3_; clear n0_ n1_ n2_ n3_; (try clear hb); (try clear hb2); (try clear hk); (try clear hi); (try clear ho0)) | ((with_reducible refine gate_callee (f := 16) rfl ?_); refine goesL_ (some 22) rfl rfl Try.func16 (by kernel_rfl) rfl #[.slice A0 l0.length c0, .slice A1 l1.length c1] rfl (by (try simp only [List.map_toArray, List.map_cons, List.map_nil]); first | done | rfl | (simp only [List.length_drop, List.length_take]; rfl)) ?_; (with_reducible refine (aumbryref05_Fill.calls k _ _ l0 _ _ l1 t112 t113 _ ?side1 ?side2 ?side3 ?side4 A8.out).mono ?_); (case side1 => repeat (first | exact (Kd.C_below HR0.out HB.out) | (with_reducible refine Kd.C_alloc ?_ _) | (with_reducible refine Kd.C_drewN ?_ _) | (with_reducible refine Kd.C_drew ?_))); (case side2 => exact HC0.out); (case side3 => repeat (first | exact (Kd.C_below HR1.out HB.out) | (with_reducible refine Kd.C_alloc ?_ _) | (with_reducible refine Kd.C_drewN ?_ _) | (with_reducible refine Kd.C_drew ?_))); (case side4 => exact HC1.out); rintro e w17 ⟨v114, rfl, ho0, hb⟩; refine ⟨_, rfl, ?_⟩; have n0_ := Aside0.mk (Kd.R_elder' (by (with_reducible repeat (first | apply Kd.R_alloc | apply Kd.R_drewN | apply Kd.R_drew)); exact HO104.out) (Kd.R_base ho0) hb); have n1_ := Aside0.mk (Kd.S_elder' (by (with_reducible repeat (first | apply Kd.S_alloc | apply Kd.S_drewN | apply Kd.S_drew)); exact HO107.out) (Kd.R_base ho0) hb); have n2_ := Aside0.mk (Kd.R_elder' (by (with_reducible repeat (first | apply Kd.R_alloc | apply Kd.R_drewN | apply Kd.R_drew)); exact HO111.out) (Kd.R_base ho0) hb); have n3_ := Aside0.mk (Kd.R_lower (Kd.R_new' (Kd.R_new' ho0 (Kd.R_lt (by (with_reducible repeat (first | apply Kd.R_alloc | apply Kd.R_drewN | apply Kd.R_drew)); exact HO104.out))) (Kd.R_lt (by (with_reducible repeat (first | apply Kd.R_alloc | apply Kd.R_drewN | apply Kd.R_drew)); exact HO111.out))) (below_size (by repeat (first | (with_reducible first | exact HB.out | apply below_alloc | apply pw_below_drewN | apply below_drew1) | exact HB.out)))); have n4_ := Aside0.mk (below_step (by repeat (first | (with_reducible first | exact HB.out | apply below_alloc | apply pw_below_drewN | apply below_drew1) | exact HB.out)) hb); clear HO104; clear HO107; clear HO111; clear HB; have HO104 := n0_; have HO107 := n1_; have HO111 := n2_; have HO115 := n3_; have HB := n4_; clear n0_ n1_ n2_ n3_ n4_; (try clear hb); (try clear hb2); (try clear hk); (try clear hi); (try clear ho0); obtain ⟨Ao18, co18, eo18⟩ := Kd.R_slice HO111.out; subst eo18; obtain ⟨Ao19, co19, eo19⟩ := Kd.R_slice HO115.out; subst eo19) | ((with_reducible refine gate_callee (f := 17) rfl ?_); refine goesL_ (some 27) rfl rfl Try.func17 (by kernel_rfl) rfl #[.slice Ao18 t108.length co18, .slice Ao19 t112.length co19] rfl (by (try simp only [List.map_toArray, List.map_cons, List.map_nil]); first | done | rfl | (simp only [List.length_drop, List.length_take]; rfl)) ?_; (with_reducible refine (aumbryref04_Same.calls k _ _ t108 _ _ t112 true _ ?side1 ?side2 ?side3 ?side4 A9.out).mono ?_); (case side1 => repeat (first | exact (Kd.R_reads' HO111.out).2.2 | (with_reducible refine Kd.C_alloc ?_ _) | (with_reducible refine Kd.C_drewN ?_ _) | (with_reducible refine Kd.C_drew ?_))); (case side2 => exact (Kd.R_reads' HO111.out).2.1); (case side3 => repeat (first | exact (Kd.R_reads' HO115.out).2.2 | (with_reducible refine Kd.C_alloc ?_ _) | (with_reducible refine Kd.C_drewN ?_ _) | (with_reducible refine Kd.C_drew ?_))); (case side4 => exact (Kd.R_reads' HO115.out).2.1); rintro e w' ⟨rfl, ⟨nd, rfl⟩⟩; refine ⟨_, rfl, ?_⟩))
      go_ret
      exact ⟨by first | rfl | (simp [errW_none, errW_some] <;> rfl) | (simp [*, errW_none, errW_some] <;> rfl), by repeat (first | (with_reducible first | exact HB.out | apply below_alloc | apply pw_below_drewN | apply below_drew1) | exact HB.out)⟩
    · replace c10 := Bool.eq_false_iff.mpr c10
      subst c10
      have H1 : (some false) = some r := by rw [if_neg (show ¬ (false = true) by decide)] at H; exact H
      clear H
      have H := H1
      clear H1
      obtain rfl := Option.some.inj H
      go_enter Try.func4, Try.ntmps4
      go_wp2_with (first | ((with_reducible refine gate_callee (f := 9) rfl ?_); refine goesL_ (some 9) rfl rfl Try.func9 (by kernel_rfl) rfl #[] rfl (by (try simp only [List.map_toArray, List.map_cons, List.map_nil]); first | done | rfl | (simp only [List.length_drop, List.length_take]; rfl)) ?_; (with_reducible refine (aumbrylaw05_wakes.calls k  true _ A3.out).mono ?_); rintro e w20 ⟨rfl, hb⟩; refine ⟨_, rfl, ?_⟩; have n0_ := Aside0.mk (below_step (by repeat (first | (with_reducible first | exact HB.out | apply below_alloc | apply pw_below_drewN | apply below_drew1) | exact HB.out)) hb); clear HB; have HB := n0_; clear n0_; (try clear hb); (try clear hb2); (try clear hk); (try clear hi)) | ((with_reducible refine gate_callee (f := 11) rfl ?_); refine goesL_ (some 13) rfl rfl Try.func11 (by kernel_rfl) rfl #[.slice A0 l0.length c0] rfl (by (try simp only [List.map_toArray, List.map_cons, List.map_nil]); first | done | rfl | (simp only [List.length_drop, List.length_take]; rfl)) ?_; (with_reducible refine (aumbrylaw05_own.calls _ _ l0 t102 _ ?side1 ?side2 A5.out).mono ?_); (case side1 => repeat (first | exact (Kd.C_below HR0.out HB.out) | (with_reducible refine Kd.C_alloc ?_ _) | (with_reducible refine Kd.C_drewN ?_ _) | (with_reducible refine Kd.C_drew ?_))); (case side2 => exact HC0.out); rintro e w21 ⟨v103, rfl, ho0, hb⟩; refine ⟨_, rfl, ?_⟩; have n0_ := Aside0.mk (Kd.R_lower ho0 (below_size (by repeat (first | (with_reducible first | exact HB.out | apply below_alloc | apply pw_below_drewN | apply below_drew1) | exact HB.out)))); have n1_ := Aside0.mk (below_step (by repeat (first | (with_reducible first | exact HB.out | apply below_alloc | apply pw_below_drewN | apply below_drew1) | exact HB.out)) hb); clear HB; have HO104 := n0_; have HB := n1_; clear n0_ n1_; (try clear hb); (try clear hb2); (try clear hk); (try clear hi); (try clear ho0)) | ((with_reducible refine gate_callee (f := 15) rfl ?_); refine goesL_ (some 15) rfl rfl Try.func15 (by kernel_rfl) rfl #[.slice A1 l1.length c1] rfl (by (try simp only [List.map_toArray, List.map_cons, List.map_nil]); first | done | rfl | (simp only [List.length_drop, List.length_take]; rfl)) ?_; (with_reducible refine (aumbryref05_Copy.calls k _ _ l1 t105 _ ?side1 ?side2 A6.out).mono ?_); (case side1 => repeat (first | exact (Kd.C_below HR1.out HB.out) | (with_reducible refine Kd.C_alloc ?_ _) | (with_reducible refine Kd.C_drewN ?_ _) | (with_reducible refine Kd.C_drew ?_))); (case side2 => exact HC1.out); rintro e w22 ⟨v106, rfl, ho0, hb⟩; refine ⟨_, rfl, ?_⟩; have n0_ := Aside0.mk (Kd.R_below (by (with_reducible repeat (first | apply Kd.R_alloc | apply Kd.R_drewN | apply Kd.R_drew)); exact HO104.out) hb); have n1_ := Aside0.mk (Kd.S_lower (Kd.S_new' ho0 (Kd.R_lt (by (with_reducible repeat (first | apply Kd.R_alloc | apply Kd.R_drewN | apply Kd.R_drew)); exact HO104.out))) (below_size (by repeat (first | (with_reducible first | exact HB.out | apply below_alloc | apply pw_below_drewN | apply below_drew1) | exact HB.out)))); have n2_ := Aside0.mk (below_step (by repeat (first | (with_reducible first | exact HB.out | apply below_alloc | apply pw_below_drewN | apply below_drew1) | exact HB.out)) hb); clear HO104; clear HB; have HO104 := n0_; have HO107 := n1_; have HB := n2_; clear n0_ n1_ n2_; (try clear hb); (try clear hb2); (try clear hk); (try clear hi); (try clear ho0); obtain ⟨Ao23, co23, eo23⟩ := Kd.R_slice HO104.out; subst eo23; obtain ⟨Ao24, co24, eo24⟩ := Kd.S_slice HO107.out; subst eo24) | ((with_reducible refine gate_callee (f := 14) rfl ?_); refine goesL_ (some 16) rfl rfl Try.func14 (by kernel_rfl) rfl #[.slice Ao23 t102.length co23, .slice Ao24 t105.length co24] rfl (by (try simp only [List.map_toArray, List.map_cons, List.map_nil]); first | done | rfl | (simp only [List.length_drop, List.length_take]; rfl)) ?_; (with_reducible refine (match_Fill.calls k _ _ t102 _ _ t105 t108 t109 _ ?side1 ?side2 ?side3 ?side4 A7.out).mono ?_); (case side1 => repeat (first | exact (Kd.R_reads' HO104.out).2.2 | (with_reducible refine Kd.C_alloc ?_ _) | (with_reducible refine Kd.C_drewN ?_ _) | (with_reducible refine Kd.C_drew ?_))); (case side2 => exact (Kd.R_reads' HO104.out).2.1); (case side3 => repeat (first | exact (Kd.S_reads' HO107.out).2.2 | (with_reducible refine Kd.C_alloc ?_ _) | (with_reducible refine Kd.C_drewN ?_ _) | (with_reducible refine Kd.C_drew ?_))); (case side4 => exact (Kd.S_reads' HO107.out).2.1); rintro e w25 ⟨v110, rfl, ho0, hb⟩; refine ⟨_, rfl, ?_⟩; have n0_ := Aside0.mk (Kd.R_elder' (by (with_reducible repeat (first | apply Kd.R_alloc | apply Kd.R_drewN | apply Kd.R_drew)); exact HO104.out) (Kd.R_base ho0) hb); have n1_ := Aside0.mk (Kd.S_elder' (by (with_reducible repeat (first | apply Kd.S_alloc | apply Kd.S_drewN | apply Kd.S_drew)); exact HO107.out) (Kd.R_base ho0) hb); have n2_ := Aside0.mk (Kd.R_lower (Kd.R_new' ho0 (Kd.R_lt (by (with_reducible repeat (first | apply Kd.R_alloc | apply Kd.R_drewN | apply Kd.R_drew)); exact HO104.out))) (below_size (by repeat (first | (with_reducible first | exact HB.out | apply below_alloc | apply pw_below_drewN | apply below_drew1) | exact HB.out)))); have n3_ := Aside0.mk (below_step (by repeat (first | (with_reducible first | exact HB.out | apply below_alloc | apply pw_below_drewN | apply below_drew1) | exact HB.out)) hb); clear HO104; clear HO107; clear HB; have HO104 := n0_; have HO107 := n1_; have HO111 := n2_; have HB := n3_; clear n0_ n1_ n2_ n3_; (try clear hb); (try clear hb2); (try clear hk); (try clear hi); (try clear ho0)) | ((with_reducible refine gate_callee (f := 16) rfl ?_); refine goesL_ (some 22) rfl rfl Try.func16 (by kernel_rfl) rfl #[.slice A0 l0.length c0, .slice A1 l1.length c1] rfl (by (try simp only [List.map_toArray, List.map_cons, List.map_nil]); first | done | rfl | (simp only [List.length_drop, List.length_take]; rfl)) ?_; (with_reducible refine (aumbryref05_Fill.calls k _ _ l0 _ _ l1 t112 t113 _ ?side1 ?side2 ?side3 ?side4 A8.out).mono ?_); (case side1 => repeat (first | exact (Kd.C_below HR0.out HB.out) | (with_reducible refine Kd.C_alloc ?_ _) | (with_reducible refine Kd.C_drewN ?_ _) | (with_reducible refine Kd.C_drew ?_))); (case side2 => exact HC0.out); (case side3 => repeat (first | exact (Kd.C_below HR1.out HB.out) | (with_reducible refine Kd.C_alloc ?_ _) | (with_reducible refine Kd.C_drewN ?_ _) | (with_reducible refine Kd.C_drew ?_))); (case side4 => exact HC1.out); rintro e w26 ⟨v114, rfl, ho0, hb⟩; refine ⟨_, rfl, ?_⟩; have n0_ := Aside0.mk (Kd.R_elder' (by (with_reducible repeat (first | apply Kd.R_alloc | apply Kd.R_drewN | apply Kd.R_drew)); exact HO104.out) (Kd.R_base ho0) hb); have n1_ := Aside0.mk (Kd.S_elder' (by (with_reducible repeat (first | apply Kd.S_alloc | apply Kd.S_drewN | apply Kd.S_drew)); exact HO107.out) (Kd.R_base ho0) hb); have n2_ := Aside0.mk (Kd.R_elder' (by (with_reducible repeat (first | apply Kd.R_alloc | apply Kd.R_drewN | apply Kd.R_drew)); exact HO111.out) (Kd.R_base ho0) hb); have n3_ := Aside0.mk (Kd.R_lower (Kd.R_new' (Kd.R_new' ho0 (Kd.R_lt (by (with_reducible repeat (first | apply Kd.R_alloc | apply Kd.R_drewN | apply Kd.R_drew)); exact HO104.out))) (Kd.R_lt (by (with_reducible repeat (first | apply Kd.R_alloc | apply Kd.R_drewN | apply Kd.R_drew)); exact HO111.out))) (below_size (by repeat (first | (with_reducible first | exact HB.out | apply below_alloc | apply pw_below_drewN | apply below_drew1) | exact HB.out)))); have n4_ := Aside0.mk (below_step (by repeat (first | (with_reducible first | exact HB.out | apply below_alloc | apply pw_below_drewN | apply below_drew1) | exact HB.out)) hb); clear HO104; clear HO107; clear HO111; clear HB; have HO104 := n0_; have HO107 := n1_; have HO111 := n2_; have HO115 := n3_; have HB := n4_; clear n0_ n1_ n2_ n3_ n4_; (try clear hb); (try clear hb2); (try clear hk); (try clear hi); (try clear ho0); obtain ⟨Ao27, co27, eo27⟩ := Kd.R_slice HO111.out; subst eo27; obtain ⟨Ao28, co28, eo28⟩ := Kd.R_slice HO115.out; subst eo28) | ((with_reducible refine gate_callee (f := 17) rfl ?_); refine goesL_ (some 27) rfl rfl Try.func17 (by kernel_rfl) rfl #[.slice Ao27 t108.length co27, .slice Ao28 t112.length co28] rfl (by (try simp only [List.map_toArray, List.map_cons, List.map_nil]); first | done | rfl | (simp only [List.length_drop, List.length_take]; rfl)) ?_; (with_reducible refine (aumbryref04_Same.calls k _ _ t108 _ _ t112 false _ ?side1 ?side2 ?side3 ?side4 A9.out).mono ?_); (case side1 => repeat (first | exact (Kd.R_reads' HO111.out).2.2 | (with_reducible refine Kd.C_alloc ?_ _) | (with_reducible refine Kd.C_drewN ?_ _) | (with_reducible refine Kd.C_drew ?_))); (case side2 => exact (Kd.R_reads' HO111.out).2.1); (case side3 => repeat (first | exact (Kd.R_reads' HO115.out).2.2 | (with_reducible refine Kd.C_alloc ?_ _) | (with_reducible refine Kd.C_drewN ?_ _) | (with_reducible refine Kd.C_drew ?_))); (case side4 => exact (Kd.R_reads' HO115.out).2.1); rintro e w' ⟨rfl, ⟨nd, rfl⟩⟩; refine ⟨_, rfl, ?_⟩))
      go_ret
      exact ⟨by first | rfl | (simp [errW_none, errW_some] <;> rfl) | (simp [*, errW_none, errW_some] <;> rfl), by repeat (first | (with_reducible first | exact HB.out | apply below_alloc | apply pw_below_drewN | apply below_drew1) | exact HB.out)⟩
  · replace c4 := Bool.eq_false_iff.mpr c4
    subst c4
    have H1 : (some false) = some r := by rw [if_neg (show ¬ (false = true) by decide)] at H; exact H
    clear H
    have H := H1
    clear H1
    obtain rfl := Option.some.inj H
    go_enter Try.func4, Try.ntmps4
    go_wp2_with (first | ((with_reducible refine gate_callee (f := 9) rfl ?_); refine goesL_ (some 9) rfl rfl Try.func9 (by kernel_rfl) rfl #[] rfl (by (try simp only [List.map_toArray, List.map_cons, List.map_nil]); first | done | rfl | (simp only [List.length_drop, List.length_take]; rfl)) ?_; (with_reducible refine (aumbrylaw05_wakes.calls k  false _ A3.out).mono ?_); rintro e w29 ⟨rfl, hb⟩; refine ⟨_, rfl, ?_⟩; have n0_ := Aside0.mk (below_step (by repeat (first | (with_reducible first | exact HB.out | apply below_alloc | apply pw_below_drewN | apply below_drew1) | exact HB.out)) hb); clear HB; have HB := n0_; clear n0_; (try clear hb); (try clear hb2); (try clear hk); (try clear hi)))
    go_ret
    exact ⟨by first | rfl | (simp [errW_none, errW_some] <;> rfl) | (simp [*, errW_none, errW_some] <;> rfl), by repeat (first | (with_reducible first | exact HB.out | apply below_alloc | apply pw_below_drewN | apply below_drew1) | exact HB.out)⟩

end Go.Proofs.Ytlfhonekcmlomaa.P

-- ==== Open
/- What came in and can be read as data, read as the print's kinds: for each kind one fact, put together by the types' shapes. -/
set_option linter.unusedVariables false
namespace Go.Proofs.Ytlfhonekcmlomaa.Open
open Go.RowKit Go.Proofs.YtlfhonekcmlomaaW.PrintWords Go.Proofs.Ytlfhonekcmlomaa.Rows

structure Opens {α : Type} (P : Program) (t : TypeId) (d : Kd α) (Sz : α → Prop) (Bk : α → Nat) : Prop where
  cells : P.cellsOf t = d.sz
  go : ∀ {H : Type} {enc : TypeId × Value → H} {w : World} {base : Nat} {spare : Nat → Bool} {held : Bool} {n : Nat} {cs : List Value} {x : DataW H × List MemPlace},
    DataW.trod enc P w base spare held n t cs = some x → (∀ m ∈ x.1.weights P t, m ≤ reachBytes) → ∃ v : α, d.K w v cs ∧ Sz v ∧ Bk v ≤ uptoBulk x.1

theorem opens_int {P : Program} {t : TypeId} {k : IntKind} (ht : P.underlying t = some (.int k)) (hc : P.cellsOf t = 1) : Opens P t (Kd.int k) (fun a => (Lit.int k a).wf = true) (fun _ => 1) := by
  refine ⟨hc, fun h _ => ?_⟩
  obtain ⟨a, rfl, rfl, hw⟩ := DataW.trod_int ht h
  exact ⟨a, rfl, hw, by simp [uptoBulk]⟩

theorem opens_string {P : Program} {t : TypeId} (ht : P.underlying t = some .string) (hc : P.cellsOf t = 1) : Opens P t Kd.string (fun s => s.size ≤ 140737488351232) (fun s => s.size + 1) := by
  refine ⟨hc, fun h hw => ?_⟩
  obtain ⟨a, rfl, rfl, hs⟩ := DataW.trod_string ht h
  have hl : a.data.toList.length = a.size := data_length a
  refine ⟨a, rfl, ?_, ?_⟩
  · have := hw a.data.toList.length (by simp [DataW.weights])
    rw [hl] at this
    exact this
  · simp only [uptoBulk]
    omega

theorem mem_weightsAll {H : Type} {P : Program} {e : TypeId} {d : DataW H} : ∀ {l : List (DataW H)}, d ∈ l → ∀ {m : Nat}, m ∈ d.weights P e → m ∈ DataW.weightsAll P e l
  | a :: l, h, m, hm => by
    simp only [DataW.weightsAll, List.mem_append]
    rcases List.mem_cons.1 h with rfl | h
    · exact .inl hm
    · exact .inr (mem_weightsAll h hm)
  | [], h, _, _ => by cases h

def bulkAll {α : Type} (Bk : α → Nat) (l : List α) : Nat := (l.map Bk).sum

theorem bulk_all_le {H α : Type} (Bk : α → Nat) : ∀ (xs : List α) (ds : List (DataW H)), xs.length = ds.length → (∀ (i : Nat) x d, xs[i]? = some x → ds[i]? = some d → Bk x ≤ uptoBulk d) → bulkAll Bk xs ≤ uptoBulkAll ds
  | [], [], _, _ => by simp [bulkAll, uptoBulkAll]
  | x :: xs, d :: ds, hl, h => by
    have h0 := h 0 x d rfl rfl
    have h1 := bulk_all_le Bk xs ds (by simpa using hl) (fun i x' d' hx hd => h (i + 1) x' d' (by simpa using hx) (by simpa using hd))
    simp only [bulkAll, uptoBulkAll, List.map_cons, List.sum_cons] at h1 ⊢
    omega
  | [], _ :: _, hl, _ => by simp at hl
  | _ :: _, [], hl, _ => by simp at hl

theorem opens_slice {α : Type} {P : Program} {t e : TypeId} {d : Kd α} {Sz : α → Prop} {Bk : α → Nat} {b : Nat} (ht : P.underlying t = some (.slice e)) (hc : P.cellsOf t = 1) (hb : P.bytesOf e = b) (ho : Opens P e d Sz Bk) :
    Opens P t (Kd.slice e d) (fun l => l.length * b ≤ 140737488351232 ∧ ∀ x ∈ l, Sz x) (fun l => bulkAll Bk l + 1) := by
  refine ⟨hc, ?_⟩
  intro H enc w base spare held n cs x h hw
  rcases Go.Deep.open_slice ht h with ⟨rfl, rfl⟩ | ⟨a, len, cap, m, n', D, Pl, rfl, _, hl, hm, hmm, rfl, hx⟩
  · exact ⟨[], ⟨none, 0, rfl, Nat.le_refl _, Kd.C_nil d w⟩, ⟨by simp, by simp⟩, by simp [bulkAll, uptoBulk]⟩
  · have hlm : len ≤ m := by rw [hmm]; split <;> omega
    have hel : ∀ i, i < len → ∃ v : α, (∃ cs', w.cells? base (a.add (i * P.cellsOf e)) (P.cellsOf e) = some cs' ∧ d.K w v cs') ∧ Sz v ∧ Bk v ≤ uptoBulk (D i) := by
      intro i hi
      obtain ⟨cs', h1, h2⟩ := hx i (by omega)
      obtain ⟨v, hv, hs, hbk⟩ := ho.go h2 (fun m' hm' => hw m' (by
        simp only [DataW.weights, ht, List.mem_cons, List.mem_append]
        exact .inr (.inl (mem_weightsAll (List.mem_map.2 ⟨i, List.mem_range.2 hi, rfl⟩) hm'))))
      exact ⟨v, ⟨cs', h1, hv⟩, hs, hbk⟩
    have hex : ∃ l : List α, l.length = len ∧ ∀ (i : Nat) v, l[i]? = some v → (∃ cs', w.cells? base (a.add (i * P.cellsOf e)) (P.cellsOf e) = some cs' ∧ d.K w v cs') ∧ Sz v ∧ Bk v ≤ uptoBulk (D i) := by
      clear hx hw h hmm hlm hl hm
      induction len with
      | zero => exact ⟨[], rfl, fun i v hv => by simp at hv⟩
      | succ k ih =>
        obtain ⟨l, h1, h2⟩ := ih (fun i hi => hel i (by omega))
        obtain ⟨v, hv⟩ := hel k (by omega)
        refine ⟨l ++ [v], by simp [h1], fun i u hu => ?_⟩
        by_cases hi : i < l.length
        · rw [List.getElem?_append_left hi] at hu
          exact h2 i u hu
        · have hik : i = l.length := by
            have := (List.getElem?_eq_some_iff.1 hu).1
            simp at this
            omega
          subst hik
          simp at hu
          subst hu
          rw [h1]
          exact hv
    obtain ⟨l, hll, hlv⟩ := hex
    subst hll
    refine ⟨l, ⟨some a, cap, rfl, hl, rfl, ?_, fun hp => ⟨a, rfl, fun j v hj => ?_⟩⟩, ⟨?_, ?_⟩, ?_⟩
    · have : maxLen ≤ 9223372036854775807 := by decide
      omega
    · obtain ⟨⟨cs', h1, h2⟩, _, _⟩ := hlv j v hj
      refine ⟨cs', d.K_len h2, h2, fun i u hu => ?_⟩
      obtain ⟨_, hlen, hcell⟩ := World.cells?_some h1
      have hi : i < cs'.length := (List.getElem?_eq_some_iff.1 hu).1
      have hsz := d.K_len h2
      rw [ho.cells] at hcell hlen
      have := hcell i (by omega)
      rw [hu] at this
      rw [← this, add_add]
    · have := hw ((((List.range l.length).map D).length + ((List.range (m - l.length)).map fun j => D (l.length + j)).length) * P.bytesOf e) (by simp [DataW.weights, ht])
      simp only [List.length_map, List.length_range] at this
      rw [hb] at this
      have h3 : reachBytes = 140737488351232 := by decide
      rw [h3] at this
      have h4 : l.length * b ≤ (l.length + (m - l.length)) * b := Nat.mul_le_mul_right _ (by omega)
      omega
    · intro v hv
      obtain ⟨i, hi, rfl⟩ := List.mem_iff_getElem.1 hv
      exact (hlv i _ (List.getElem?_eq_getElem hi)).2.1
    · have := bulk_all_le Bk l ((List.range l.length).map D) (by simp) (fun i v dd hv hd => by
        have hi : i < l.length := (List.getElem?_eq_some_iff.1 hv).1
        simp [hi] at hd
        rw [← hd]
        exact (hlv i v hv).2.2)
      simp only [uptoBulk]
      omega

/-! Structs: the fields, one behind the other. -/
def offs (P : Program) : List TypeId → Nat → Nat
  | [], _ => 0
  | _, 0 => 0
  | t :: ts, i + 1 => P.cellsOf t + offs P ts i

structure OpensF {α : Type} (P : Program) (ts : List TypeId) (d : Kd α) (Sz : α → Prop) (Bk : α → Nat) : Prop where
  cells : (ts.map P.cellsOf).sum = d.sz
  go : ∀ {H : Type} {enc : TypeId × Value → H} {w : World} {base : Nat} {spare : Nat → Bool} {held : Bool} {n : Nat} {cs : List Value} {xs : List (DataW H × List MemPlace)},
    cs.length = d.sz → xs.length = ts.length → (∀ (i : Nat) t, ts[i]? = some t → DataW.trod enc P w base spare held n t ((cs.drop (offs P ts i)).take (P.cellsOf t)) = xs[i]?) →
    (∀ m ∈ DataW.weightsEach P ts (xs.map (·.1)), m ≤ reachBytes) → ∃ v : α, d.K w v cs ∧ Sz v ∧ Bk v ≤ uptoBulkAll (xs.map (·.1))

theorem opensF_one {α : Type} {P : Program} {t : TypeId} {d : Kd α} {Sz : α → Prop} {Bk : α → Nat} (ho : Opens P t d Sz Bk) : OpensF P [t] d Sz Bk := by
  refine ⟨by simp [ho.cells], fun {H enc w base spare held n cs xs} hl hx h hw => ?_⟩
  match xs, hx with
  | [y], _ =>
    have h0 := h 0 t rfl
    rw [show offs P [t] 0 = 0 from rfl, List.drop_zero, List.take_of_length_le (by rw [ho.cells]; omega)] at h0
    obtain ⟨v, h1, h2, h3⟩ := ho.go h0 (fun m hm => hw m (by simp [DataW.weightsEach, hm]))
    exact ⟨v, h1, h2, by simpa [uptoBulkAll] using h3⟩

theorem opensF_cons {α β : Type} {P : Program} {t : TypeId} {ts : List TypeId} {d : Kd α} {ds : Kd β} {Sz : α → Prop} {Bk : α → Nat} {Szs : β → Prop} {Bks : β → Nat} (ho : Opens P t d Sz Bk) (hs : OpensF P ts ds Szs Bks) :
    OpensF P (t :: ts) (Kd.pair d ds) (fun x => Sz x.1 ∧ Szs x.2) (fun x => Bk x.1 + Bks x.2) := by
  refine ⟨by simp [ho.cells, hs.cells, Kd.pair], fun {H enc w base spare held n cs xs} hl hx h hw => ?_⟩
  match xs, hx with
  | y :: ys, hx =>
    have hl' : cs.length = d.sz + ds.sz := hl
    have h0 := h 0 t rfl
    rw [show offs P (t :: ts) 0 = 0 from rfl, List.drop_zero, ho.cells] at h0
    obtain ⟨v, h1, h2, h3⟩ := ho.go h0 (fun m hm => hw m (by simp [DataW.weightsEach, hm]))
    obtain ⟨u, g1, g2, g3⟩ := hs.go (cs := cs.drop d.sz) (xs := ys) (enc := enc) (w := w) (base := base) (spare := spare) (held := held) (n := n) (by rw [List.length_drop]; omega) (by simpa using hx) (fun i t' ht' => by
      have := h (i + 1) t' (by simpa using ht')
      rw [show offs P (t :: ts) (i + 1) = P.cellsOf t + offs P ts i from rfl, ho.cells] at this
      rw [List.drop_drop]
      simpa using this) (fun m hm => hw m (by simp only [List.map_cons, DataW.weightsEach, List.mem_append]; exact .inr hm))
    refine ⟨(v, u), ⟨cs.take d.sz, cs.drop d.sz, (List.take_append_drop _ _).symm, h1, g1⟩, ⟨h2, g2⟩, ?_⟩
    simp only [List.map_cons, uptoBulkAll]
    omega

theorem opens_struct {α β : Type} {P : Program} {t : TypeId} {fs : Array Field} {ts : List TypeId} {d : Kd α} {f : β → α} {Sz : α → Prop} {Bk : α → Nat} (ht : P.underlying t = some (.struct fs)) (hts : fs.toList.map (·.type) = ts)
    (hoff : ∀ (i : Nat) fl, fs[i]? = some fl → fl.offset = offs P ts i) (hc : P.cellsOf t = d.sz) (ho : OpensF P ts d Sz Bk) (g : α → β) (hg : ∀ v, f (g v) = v) :
    Opens P t (Kd.iso d f) (fun x => Sz (f x)) (fun x => Bk (f x) + 1) := by
  refine ⟨hc, fun {H enc w base spare held n cs x} h hw => ?_⟩
  obtain ⟨xs, n', _, rfl, hl, hlen, hf⟩ := DataW.trod_struct ht h
  have hlt : ts.length = fs.size := by rw [← hts]; simp
  obtain ⟨v, h1, h2, h3⟩ := ho.go (cs := cs) (xs := xs) (enc := enc) (w := w) (base := base) (spare := spare) (held := held) (n := n') (by rw [hl, hc]) (by omega) (fun i t' ht' => by
    have hi : i < fs.size := by rw [← hlt]; exact (List.getElem?_eq_some_iff.1 ht').1
    have hfi : fs[i]? = some fs[i] := Array.getElem?_eq_getElem hi
    have := hf i fs[i] hfi
    rw [hoff i _ hfi] at this
    have he : fs[i].type = t' := by
      rw [← hts, List.getElem?_map, Array.getElem?_toList, hfi] at ht'
      simpa using ht'
    rw [he] at this
    exact this) (fun m hm => hw m (by simp only [DataW.weights, ht, hts]; exact hm))
  exact ⟨g v, by show d.K w (f (g v)) cs; rw [hg]; exact h1, by rw [hg]; exact h2, by rw [hg]; simp only [uptoBulk]; omega⟩

end Go.Proofs.Ytlfhonekcmlomaa.Open

-- ==== PO
set_option linter.unusedVariables false
namespace Go.Proofs.Ytlfhonekcmlomaa.P
open Go.RowKit Go.Proofs.YtlfhonekcmlomaaW.PrintWords Go.Proofs.Ytlfhonekcmlomaa.Open
def sz9 (s : ByteArray) : Prop := s.size ≤ 140737488351232
def bk9 (s : ByteArray) : Nat := s.size + 1
theorem op9 : Opens Try.prog 9 Kd.string sz9 bk9 := opens_string Try.underlying9 (by kernel_rfl)
def sz3 (a : Int) : Prop := (Lit.int .i64 a).wf = true
def bk3 (_ : Int) : Nat := 1
theorem op3 : Opens Try.prog 3 (Kd.int .i64) sz3 bk3 := opens_int Try.underlying3 (by kernel_rfl)
def sz47 (x : S47) : Prop := sz9 x.f0 ∧ sz3 x.f1
def bk47 (x : S47) : Nat := (bk9 x.f0 + bk3 x.f1) + 1
theorem op47 : Opens Try.prog 47 k47 sz47 bk47 := opens_struct (P := Try.prog) (ts := [9, 3]) (f := fun x : S47 => (x.f0, x.f1)) Try.underlying47 (by kernel_rfl) (fun i fl h => by
    match i, h with
    | 0, h => obtain rfl := Option.some.inj h; show (0 : Nat) = offs Try.prog [9, 3] 0; kernel_rfl
    | 1, h => obtain rfl := Option.some.inj h; show (1 : Nat) = offs Try.prog [9, 3] 1; kernel_rfl
    | i + 2, h => simp at h) (by kernel_rfl) (opensF_cons op9 (opensF_one op3)) (fun x => ⟨x.1, x.2⟩) (fun _ => rfl)
def sz23 (l : List (S47)) : Prop := l.length * 24 ≤ 140737488351232 ∧ ∀ x ∈ l, sz47 x
def bk23 (l : List (S47)) : Nat := bulkAll bk47 l + 1
theorem op23 : Opens Try.prog 23 (Kd.slice 47 k47) sz23 bk23 := opens_slice Try.underlying23 (by kernel_rfl) (by kernel_rfl) op47
def sz44 (x : S44) : Prop := sz9 x.f0 ∧ sz23 x.f1
def bk44 (x : S44) : Nat := (bk9 x.f0 + bk23 x.f1) + 1
theorem op44 : Opens Try.prog 44 k44 sz44 bk44 := opens_struct (P := Try.prog) (ts := [9, 23]) (f := fun x : S44 => (x.f0, x.f1)) Try.underlying44 (by kernel_rfl) (fun i fl h => by
    match i, h with
    | 0, h => obtain rfl := Option.some.inj h; show (0 : Nat) = offs Try.prog [9, 23] 0; kernel_rfl
    | 1, h => obtain rfl := Option.some.inj h; show (1 : Nat) = offs Try.prog [9, 23] 1; kernel_rfl
    | i + 2, h => simp at h) (by kernel_rfl) (opensF_cons op9 (opensF_one op23)) (fun x => ⟨x.1, x.2⟩) (fun _ => rfl)
def sz25 (l : List (S44)) : Prop := l.length * 40 ≤ 140737488351232 ∧ ∀ x ∈ l, sz44 x
def bk25 (l : List (S44)) : Nat := bulkAll bk44 l + 1
theorem op25 : Opens Try.prog 25 (Kd.slice 44 k44) sz25 bk25 := opens_slice Try.underlying25 (by kernel_rfl) (by kernel_rfl) op44
end Go.Proofs.Ytlfhonekcmlomaa.P

-- ==== PS4
namespace Go.Proofs.Ytlfhonekcmlomaa.P
open Go.RowKit Go.Proofs.YtlfhonekcmlomaaW.PrintWords
def aumbrylaw05_MatchFills.Pure : Prop := ∀ (l0 : List (S47)) (l1 : List (S44)), sz23 l0 → sz25 l1 → ∃ k, aumbrylaw05_MatchFills.f k l0 l1 = some true
end Go.Proofs.Ytlfhonekcmlomaa.P

-- ==== PLa
/- Plain laws, part a: what kind a text is: the program's way and the document's way come to one function. -/
namespace Go.Proofs.Ytlfhonekcmlomaa.P
open Go.RowKit Go.Proofs.YtlfhonekcmlomaaW.PrintWords
set_option linter.unusedVariables false
set_option linter.unusedSimpArgs false

theorem wrap_up {i : Int} (h0 : 0 ≤ i) (h : i < 9223372036854775807) : wrap64 (i + 1) = i + 1 := by
  unfold wrap64
  omega
theorem wrap_id {i : Int} (h0 : -9223372036854775808 ≤ i) (h : i ≤ 9223372036854775807) : wrap64 i = i := by
  unfold wrap64
  omega

theorem evIfp {α : Type} {c : Prop} [Decidable c] {f g : Nat → Option α} {r : α} (h : c) (hf : Ev f r) : Ev (fun k => if c then f k else g k) r :=
  Ev.congr (fun _ => if_pos h) hf
theorem evIfn {α : Type} {c : Prop} [Decidable c] {f g : Nat → Option α} {r : α} (h : ¬ c) (hf : Ev g r) : Ev (fun k => if c then f k else g k) r :=
  Ev.congr (fun _ => if_neg h) hf
theorem evIs {α : Type} {x : Option α} {a : α} (h : x = some a) : Ev (fun _ => x) a := ⟨0, fun _ _ => h⟩

def lowB (s : ByteArray) (i : Int) : Bool := (decide (97 ≤ bt s i) && decide (bt s i ≤ 122)) || (decide (48 ≤ bt s i) && decide (bt s i ≤ 57) && decide (0 < i))
def upB (s : ByteArray) (i : Int) : Bool := (decide (65 ≤ bt s i) && decide (bt s i ≤ 90)) || (decide (48 ≤ bt s i) && decide (bt s i ≤ 57) && decide (0 < i))
/-- p holds at i, i + 1, .. (d places). -/
def allN (p : Int → Bool) : Nat → Int → Bool
  | 0, _ => true
  | d + 1, i => p i && allN p d (i + 1)
theorem allN_congr {p q : Int → Bool} : ∀ (d : Nat) (i : Int), (∀ j, i ≤ j → j < i + d → p j = q j) → allN p d i = allN q d i
  | 0, _, _ => rfl
  | d + 1, i, h => by
    simp only [allN]
    rw [h i (Int.le_refl _) (by omega), allN_congr d (i + 1) (fun j h1 h2 => h j (by omega) (by omega))]
def kindS (s : ByteArray) : Int :=
  if s.size < 1 ∨ 8 < s.size then 0 else if allN (lowB s) s.size 0 = true then 1 else if allN (upB s) s.size 0 = true then 2 else 0

theorem kindS_bad {s : ByteArray} (h : s.size < 1 ∨ 8 < s.size) : kindS s = 0 := by
  unfold kindS
  exact if_pos h
theorem kindS_good {s : ByteArray} (h1 : 1 ≤ s.size) (h8 : s.size ≤ 8) : kindS s = (if allN (lowB s) s.size 0 = true then 1 else if allN (upB s) s.size 0 = true then 2 else 0) := by
  unfold kindS
  exact if_neg (by omega)
theorem kindS_size {s : ByteArray} (h : kindS s ≠ 0) : 1 ≤ s.size ∧ s.size ≤ 8 := by
  unfold kindS at h
  split at h
  · exact absurd rfl h
  · omega

/-! ### the document's -/
theorem refKind_step (k : Nat) (s : ByteArray) (a b : Bool) (i : Int) (h0 : 0 ≤ i) (h1 : i < (s.size : Int)) :
    aumbryref03_Kind.l0 (k + 1) s a b i = aumbryref03_Kind.l0 k s (a && lowB s i) (b && upB s i) (wrap64 (i + 1)) := by
  simp only [aumbryref03_Kind.l0]
  rw [if_pos h1, if_pos h0]
  unfold lowB upB
  generalize bt s i = c
  by_cases c1 : c ≥ 48 <;> by_cases c2 : c ≤ 57 <;> by_cases c3 : c ≥ 97 <;> by_cases c4 : c ≤ 122 <;> by_cases c5 : c ≥ 65 <;> by_cases c6 : c ≤ 90 <;> first | (exfalso; omega) | (cases a <;> cases b <;> simp [c1, c2, c3, c4, c5, c6])
theorem refKind_end (k : Nat) (s : ByteArray) (a b : Bool) (i : Int) (h1 : ¬ i < (s.size : Int)) :
    aumbryref03_Kind.l0 (k + 1) s a b i = some (if a = true then 1 else if b = true then 2 else 0) := by
  simp only [aumbryref03_Kind.l0]
  rw [if_neg h1]
  cases a <;> cases b <;> rfl
theorem refKind_loop (s : ByteArray) (hs : s.size ≤ 8) : ∀ (d : Nat) (k : Nat) (a b : Bool) (i : Int), 0 ≤ i → (s.size : Int) - i = d → d < k →
    aumbryref03_Kind.l0 k s a b i = some (if (a && allN (lowB s) d i) = true then 1 else if (b && allN (upB s) d i) = true then 2 else 0)
  | 0, k, a, b, i, h0, hd, hk => by
    obtain ⟨k, rfl⟩ : ∃ m, k = m + 1 := ⟨k - 1, by omega⟩
    rw [refKind_end k s a b i (by omega)]
    simp [allN]
  | d + 1, k, a, b, i, h0, hd, hk => by
    obtain ⟨k, rfl⟩ : ∃ m, k = m + 1 := ⟨k - 1, by omega⟩
    rw [refKind_step k s a b i h0 (by omega), wrap_up h0 (by omega), refKind_loop s hs d k _ _ (i + 1) (by omega) (by omega) (by omega)]
    simp [allN, Bool.and_assoc]
theorem ev_refKind (s : ByteArray) : Ev (fun k => aumbryref03_Kind.f k s) (kindS s) := by
  refine ⟨12, fun k hk => ?_⟩
  show aumbryref03_Kind.f k s = _
  unfold aumbryref03_Kind.f
  obtain ⟨k, rfl⟩ : ∃ m, k = m + 1 := ⟨k - 1, by omega⟩
  by_cases h1 : (s.size : Int) < 1
  · rw [if_pos h1]
    simp [aumbryref03_Kind.j0, kindS_bad (s := s) (.inl (by omega))]
  · rw [if_neg h1]
    simp only [aumbryref03_Kind.j0]
    by_cases h2 : (s.size : Int) > 8
    · rw [if_pos (by simpa using h2), kindS_bad (s := s) (.inr (by omega))]
    · rw [kindS_good (s := s) (by omega) (by omega), if_neg (by simpa using h2), refKind_loop s (by omega) s.size k true true 0 (by omega) (by omega) (by omega)]
      simp

/-! ### the program's -/
def signS (c : Int) : Int × Int := if 97 ≤ c ∧ c ≤ 122 then (1, 1) else if 65 ≤ c ∧ c ≤ 90 then (2, 2) else if 48 ≤ c ∧ c ≤ 57 then (0, 3) else (0, 0)
theorem sign_at (c : Int) (k : Nat) (hk : 2 ≤ k) : name_sign.f k c = some (signS c) := by
  obtain ⟨k, rfl⟩ : ∃ m, k = m + 2 := ⟨k - 2, by omega⟩
  unfold name_sign.f signS
  by_cases c1 : c ≥ 48 <;> by_cases c2 : c ≤ 57 <;> by_cases c3 : c ≥ 97 <;> by_cases c4 : c ≤ 122 <;> by_cases c5 : c ≥ 65 <;> by_cases c6 : c ≤ 90 <;> first | (exfalso; omega) | (simp [name_sign.j0, name_sign.j1, c1, c2, c3, c4, c5, c6])
theorem bits_and_ (a b : Int) (ha : a = 0 ∨ a = 1 ∨ a = 2 ∨ a = 3) (hb : b = 0 ∨ b = 1 ∨ b = 2) : (Go.bits .and .i64 a b = 0) ↔ (b = 0 ∨ (b = 1 ∧ (a = 0 ∨ a = 2)) ∨ (b = 2 ∧ (a = 0 ∨ a = 1))) := by
  rcases ha with rfl | rfl | rfl | rfl <;> rcases hb with rfl | rfl | rfl <;> decide
def goesB (s : ByteArray) (b : Int) (i : Int) : Bool := decide (¬ (Go.bits .and .i64 (signS (bt s i)).2 b = 0))
theorem kind_loop (s : ByteArray) (b : Int) (hs : s.size ≤ 8) : ∀ (d : Nat) (k : Nat) (i : Int), 0 ≤ i → (s.size : Int) - i = d → d + 2 < k →
    name_Kind.l0 k s b (s.size : Int) i = some (if allN (goesB s b) d i = true then b else 0)
  | 0, k, i, h0, hd, hk => by
    obtain ⟨k, rfl⟩ : ∃ m, k = m + 1 := ⟨k - 1, by omega⟩
    simp only [name_Kind.l0]
    rw [if_neg (by omega)]
    simp [allN]
  | d + 1, k, i, h0, hd, hk => by
    obtain ⟨k, rfl⟩ : ∃ m, k = m + 1 := ⟨k - 1, by omega⟩
    simp only [name_Kind.l0]
    rw [if_pos (by omega), if_pos h0, if_pos (by omega), sign_at _ _ (by omega)]
    simp only [Option.bind_some]
    by_cases hg : Go.bits .and .i64 (signS (bt s i)).2 b = 0
    · rw [if_pos hg]
      simp [allN, goesB, hg]
    · rw [if_neg hg, wrap_up h0 (by omega), kind_loop s b hs d k (i + 1) (by omega) (by omega) (by omega)]
      simp [allN, goesB, hg]
theorem signS_two (c : Int) : (signS c).2 = 0 ∨ (signS c).2 = 1 ∨ (signS c).2 = 2 ∨ (signS c).2 = 3 := by
  unfold signS
  repeat' split
  all_goals simp
theorem goes_one (s : ByteArray) (i : Int) (hi : 0 < i) : goesB s 1 i = lowB s i := by
  have h := bits_and_ (signS (bt s i)).2 1 (signS_two _) (by simp)
  unfold goesB lowB
  rw [Bool.eq_iff_iff]
  simp only [decide_eq_true_eq, h, Bool.or_eq_true, Bool.and_eq_true]
  unfold signS
  repeat' split
  all_goals simp
  all_goals omega
theorem goes_two (s : ByteArray) (i : Int) (hi : 0 < i) : goesB s 2 i = upB s i := by
  have h := bits_and_ (signS (bt s i)).2 2 (signS_two _) (by simp)
  unfold goesB upB
  rw [Bool.eq_iff_iff]
  simp only [decide_eq_true_eq, h, Bool.or_eq_true, Bool.and_eq_true]
  unfold signS
  repeat' split
  all_goals simp
  all_goals omega
theorem kind_eq (s : ByteArray) (h1 : 1 ≤ s.size) (h8 : s.size ≤ 8) : (if allN (goesB s (signS (bt s 0)).1) s.size 0 = true then (signS (bt s 0)).1 else 0) = kindS s := by
  rw [kindS_good h1 h8]
  obtain ⟨n, hn⟩ : ∃ n, s.size = n + 1 := ⟨s.size - 1, by omega⟩
  have e1 : allN (goesB s 1) n (0 + 1) = allN (lowB s) n (0 + 1) := allN_congr _ _ (fun j h1 _ => goes_one s j (by omega))
  have e2 : allN (goesB s 2) n (0 + 1) = allN (upB s) n (0 + 1) := allN_congr _ _ (fun j h1 _ => goes_two s j (by omega))
  by_cases hl : 97 ≤ bt s 0 ∧ bt s 0 ≤ 122
  · have hs : signS (bt s 0) = (1, 1) := by unfold signS; rw [if_pos hl]
    have g0 : goesB s 1 0 = true := by unfold goesB; rw [hs]; decide
    have l0 : lowB s 0 = true := by unfold lowB; simp [hl]
    have u0 : upB s 0 = false := by unfold upB; simp; omega
    simp only [hn, hs, allN, e1, g0, l0, u0, Bool.true_and, Bool.false_and]
    split <;> simp
  · by_cases hu : 65 ≤ bt s 0 ∧ bt s 0 ≤ 90
    · have hs : signS (bt s 0) = (2, 2) := by unfold signS; rw [if_neg hl, if_pos hu]
      have g0 : goesB s 2 0 = true := by unfold goesB; rw [hs]; decide
      have l0 : lowB s 0 = false := by unfold lowB; simp; omega
      have u0 : upB s 0 = true := by unfold upB; simp [hu]
      simp only [hn, hs, allN, e2, g0, l0, u0, Bool.true_and, Bool.false_and]
      simp
    · have hs : (signS (bt s 0)).1 = 0 := by unfold signS; rw [if_neg hl, if_neg hu]; split <;> rfl
      have l0 : lowB s 0 = false := by unfold lowB; simp; omega
      have u0 : upB s 0 = false := by unfold upB; simp; omega
      simp only [hn, hs, allN, l0, u0, Bool.true_and, Bool.false_and]
      simp
theorem toList_nil (s : ByteArray) : s.toList = ([] : List UInt8) ↔ s.size = 0 := by
  rw [ByteArray.toList_eq]
  constructor
  · intro h
    have := congrArg List.length h
    simpa [data_length] using this
  · intro h
    apply List.eq_nil_of_length_eq_zero
    rw [data_length]
    exact h
theorem ev_kind (s : ByteArray) : Ev (fun k => name_Kind.f k s) (kindS s) := by
  refine ⟨16, fun k hk => ?_⟩
  show name_Kind.f k s = _
  unfold name_Kind.f
  obtain ⟨k, rfl⟩ : ∃ m, k = m + 1 := ⟨k - 1, by omega⟩
  by_cases h1 : s.toList = ([] : List UInt8)
  · rw [if_pos h1]
    have := (toList_nil s).1 h1
    simp [name_Kind.j0, kindS_bad (s := s) (.inl (by omega))]
  · have h1' : s.size ≠ 0 := fun h => h1 ((toList_nil s).2 h)
    rw [if_neg h1]
    simp only [name_Kind.j0]
    by_cases h2 : (s.size : Int) > 8
    · rw [if_pos (by simpa using h2), kindS_bad (s := s) (.inr (by omega))]
    · rw [if_neg (by simpa using h2), if_pos (by omega), sign_at _ _ (by omega)]
      simp only [Option.bind_some]
      rw [kind_loop s _ (by omega) s.size k 0 (by omega) (by omega) (by omega), kind_eq s (by omega) (by omega)]
end Go.Proofs.Ytlfhonekcmlomaa.P

-- ==== PLb
/- Plain laws, part b: a list of cells as terms one behind the other; whether it is a term (both ways come to one function). -/
namespace Go.Proofs.Ytlfhonekcmlomaa.P
open Go.RowKit Go.Proofs.YtlfhonekcmlomaaW.PrintWords
set_option linter.unusedVariables false
set_option linter.unusedSimpArgs false

abbrev Cel := S47
instance celEq : DecidableEq Cel := fun a b =>
  if h : a.f0 = b.f0 ∧ a.f1 = b.f1 then isTrue (by cases a; cases b; simp only at h; rw [h.1, h.2]) else isFalse (fun e => h (by rw [e]; exact ⟨rfl, rfl⟩))
theorem drop_cons {α : Type} {t : List α} {n : Nat} {c : α} {s : List α} (h : t.drop n = c :: s) : n < t.length ∧ (∀ d, t.getD n d = c) ∧ t.drop (n + 1) = s := by
  have h1 : n < t.length := by
    rcases Nat.lt_or_ge n t.length with h1 | h1
    · exact h1
    · rw [List.drop_eq_nil_of_le h1] at h
      cases h
  rw [List.drop_eq_getElem_cons h1] at h
  injection h with h2 h3
  exact ⟨h1, fun d => by rw [List.getD_eq_getElem?_getD, List.getElem?_eq_getElem h1]; exact h2, h3⟩
theorem drop_nil_len {α : Type} {t : List α} {n : Nat} (hn : n ≤ t.length) (h : t.drop n = []) : n = t.length := by
  have := congrArg List.length h
  simp at this
  omega
theorem rd_cel {t : List Cel} {n : Nat} {c : Cel} {s : List Cel} (h : t.drop n = c :: s) : rd_T47 t (n : Int) = c := by
  unfold rd_T47
  exact (drop_cons h).2.1 _

def ar (c : Cel) : Nat := c.f1.toNat
def cellErr (c : Cel) : Int := if kindS c.f0 = 0 then 4 else if c.f1 < 0 then 5 else if c.f1 > 4 then 5 else if kindS c.f0 = 2 then (if c.f1 > 0 then 5 else 0) else 0
def errs : List Cel → Int
  | [] => 0
  | c :: l => if cellErr c = 0 then errs l else cellErr c
/-- What is left behind the first n terms. -/
def segN : List Cel → Nat → Option (List Cel)
  | l, 0 => some l
  | [], _ + 1 => none
  | c :: l, n + 1 => segN l (n + ar c)
def checkS (t : List Cel) : Int := if t.length > 64 then 6 else if errs t = 0 then (if segN t 1 = some [] then 0 else 3) else errs t

theorem segN_zero (l : List Cel) : segN l 0 = some l := by cases l <;> rfl
theorem segN_add : ∀ (l : List Cel) (a b : Nat), segN l (a + b) = (segN l a).bind fun r => segN r b
  | l, 0, b => by rw [segN_zero]; simp
  | [], a + 1, b => by rw [show a + 1 + b = (a + b) + 1 by omega]; rfl
  | c :: l, a + 1, b => by
    rw [show a + 1 + b = (a + b) + 1 by omega]
    show segN l (a + b + ar c) = (segN l (a + ar c)).bind _
    rw [show a + b + ar c = (a + ar c) + b by omega]
    exact segN_add l (a + ar c) b
theorem segN_len : ∀ {l r : List Cel} {n : Nat}, segN l n = some r → r.length ≤ l.length ∧ (0 < n → r.length < l.length)
  | l, r, 0, h => by
    rw [segN_zero] at h
    injection h with h
    subst h
    exact ⟨Nat.le_refl _, fun h => absurd h (by omega)⟩
  | [], r, n + 1, h => by cases h
  | c :: l, r, n + 1, h => by
    have := (segN_len (l := l) (r := r) (n := n + ar c) h).1
    simp only [List.length_cons]
    exact ⟨by omega, fun _ => by omega⟩
theorem segN_suffix : ∀ {l r : List Cel} {n : Nat}, segN l n = some r → ∃ m, m ≤ l.length ∧ l.drop m = r
  | l, r, 0, h => by
    rw [segN_zero] at h
    injection h with h
    exact ⟨0, by omega, h⟩
  | [], r, n + 1, h => by cases h
  | c :: l, r, n + 1, h => by
    obtain ⟨m, h1, h2⟩ := segN_suffix (l := l) (r := r) (n := n + ar c) h
    exact ⟨m + 1, by simp; omega, h2⟩

/-- What the cells of a term that is right are. -/
structure Okc (c : Cel) : Prop where
  kind : kindS c.f0 ≠ 0
  lo : 0 ≤ c.f1
  hi : c.f1 ≤ 4
  var : kindS c.f0 = 2 → c.f1 = 0
theorem okc_of {c : Cel} (h : cellErr c = 0) : Okc c := by
  unfold cellErr at h
  by_cases h1 : kindS c.f0 = 0
  · rw [if_pos h1] at h; cases h
  · rw [if_neg h1] at h
    by_cases h2 : c.f1 < 0
    · rw [if_pos h2] at h; cases h
    · rw [if_neg h2] at h
      by_cases h3 : c.f1 > 4
      · rw [if_pos h3] at h; cases h
      · rw [if_neg h3] at h
        refine ⟨h1, by omega, by omega, fun hk => ?_⟩
        rw [if_pos hk] at h
        by_cases h4 : c.f1 > 0
        · rw [if_pos h4] at h; cases h
        · omega
theorem errs_ok : ∀ {l : List Cel}, errs l = 0 → ∀ c ∈ l, Okc c
  | [], _, _, h => by cases h
  | a :: l, h, c, hc => by
    unfold errs at h
    by_cases h1 : cellErr a = 0
    · rw [if_pos h1] at h
      rcases List.mem_cons.1 hc with rfl | hc
      · exact okc_of h1
      · exact errs_ok h c hc
    · rw [if_neg h1] at h
      exact absurd h h1
/-! ### the program's: behind, Check -/
theorem ev_cell (c : Cel) : Ev (fun k => term_cell.f k c.f0 c.f1) (cellErr c) := by
  unfold term_cell.f
  refine Ev.bind (ev_kind c.f0) ?_
  refine Ev.congr (f := fun _ => some (cellErr c)) (fun k => ?_) (Ev.now _)
  unfold cellErr
  simp only [apply_ite some]
/-- The place behind n terms that begin at 'at'; -1: they have no end. -/
def behS (t : List Cel) (a n : Nat) : Int := match segN (t.drop a) n with
  | none => -1
  | some r => ((t.length - r.length : Nat) : Int)
theorem ev_behind_loop (t : List Cel) (ht : t.length ≤ 64) (hok : ∀ c ∈ t, Okc c) : ∀ (s : List Cel) (a n : Nat), a ≤ t.length → t.drop a = s → n ≤ 1 + 4 * a →
    Ev (fun k => term_behind.l0 k t (a : Int) (n : Int)) (behS t a n)
  | s, a, 0, ha, hs, hn => by
    refine Ev.step (f := fun _ => some (a : Int)) (fun k => by simp only [term_behind.l0]; rw [if_neg (by omega)]) ?_
    have : behS t a 0 = (a : Int) := by
      unfold behS
      rw [segN_zero]
      simp only [List.length_drop]
      omega
    rw [this]
    exact Ev.now _
  | [], a, n + 1, ha, hs, hn => by
    have hl := drop_nil_len ha hs
    refine Ev.step (f := fun _ => some (-1 : Int)) (fun k => by simp only [term_behind.l0]; rw [if_pos (by omega), if_pos (by omega)]) ?_
    have : behS t a (n + 1) = -1 := by
      unfold behS
      rw [hs]
      rfl
    rw [this]
    exact Ev.now _
  | c :: s, a, n + 1, ha, hs, hn => by
    obtain ⟨h1, h2, h3⟩ := drop_cons hs
    have hc : Okc c := hok c (List.mem_of_mem_drop (hs ▸ List.mem_cons_self ..))
    have har : (ar c : Int) = c.f1 := by unfold ar; have := hc.lo; omega
    have hh := hc.hi
    have hl0 := hc.lo
    refine Ev.step (f := fun k => term_behind.l0 k t ((a + 1 : Nat) : Int) ((n + ar c : Nat) : Int)) (fun k => ?_) ?_
    · simp only [term_behind.l0]
      rw [if_pos (by omega), if_neg (by omega), if_pos (by omega), if_pos (by omega), rd_cel hs, wrap_up (by omega) (by omega)]
      have e : wrap64 (((n + 1 : Nat) : Int) + wrap64 (c.f1 - 1)) = ((n + ar c : Nat) : Int) := by
        rw [wrap_id (i := c.f1 - 1) (by omega) (by omega), wrap_id (by omega) (by omega)]
        omega
      rw [e]
      rfl
    · have : behS t a (n + 1) = behS t (a + 1) (n + ar c) := by
        unfold behS
        rw [hs, h3]
        rfl
      rw [this]
      exact ev_behind_loop t ht hok s (a + 1) (n + ar c) (by omega) h3 (by omega)
theorem ev_behind (t : List Cel) (ht : t.length ≤ 64) (hok : ∀ c ∈ t, Okc c) (a : Nat) (ha : a ≤ t.length) : Ev (fun k => term_behind.f k t (a : Int)) (behS t a 1) := by
  unfold term_behind.f
  exact ev_behind_loop t ht hok _ a 1 ha rfl (by omega)
theorem behS_whole (t : List Cel) : (behS t 0 1 = (t.length : Int)) ↔ segN t 1 = some [] := by
  unfold behS
  rw [List.drop_zero]
  cases h : segN t 1 with
  | none => simp
  | some r =>
    have := segN_len h
    simp only [Option.some.injEq]
    constructor
    · intro h1
      apply List.eq_nil_of_length_eq_zero
      omega
    · rintro rfl
      simp
theorem ev_check_loop (t : List Cel) (ht : t.length ≤ 64) : ∀ (s : List Cel) (a : Nat), a ≤ t.length → t.drop a = s → (∀ c ∈ t.take a, Okc c) →
    Ev (fun k => term_Check.l0 k t t (t.length : Int) (a : Int)) (if errs s = 0 then (if segN t 1 = some [] then 0 else 3) else errs s)
  | [], a, ha, hs, hok => by
    have hl := drop_nil_len ha hs
    rw [hl, List.take_length] at hok
    refine Ev.step (f := fun k => (term_behind.f k t 0).bind fun r => (if r = (t.length : Int) then (some 0) else (some 3))) (fun k => by simp only [term_Check.l0]; rw [if_neg (by omega)]) ?_
    refine Ev.bind (ev_behind t ht hok 0 (by omega)) ?_
    refine Ev.congr (f := fun _ => some (if segN t 1 = some [] then 0 else 3)) (fun k => ?_) (Ev.now _)
    by_cases h : segN t 1 = some []
    · rw [if_pos ((behS_whole t).2 h), if_pos h]
    · rw [if_neg (fun h' => h ((behS_whole t).1 h')), if_neg h]
  | c :: s, a, ha, hs, hok => by
    obtain ⟨h1, h2, h3⟩ := drop_cons hs
    refine Ev.step (f := fun k => (term_cell.f k c.f0 c.f1).bind fun e => (if e = 0 then (term_Check.l0 k t t (t.length : Int) ((a + 1 : Nat) : Int)) else (some e))) (fun k => ?_) ?_
    · simp only [term_Check.l0]
      rw [if_pos (by omega), if_pos (by omega), if_pos (by omega), rd_cel hs, wrap_up (by omega) (by omega)]
      rfl
    · refine Ev.bind (ev_cell c) ?_
      by_cases he : cellErr c = 0
      · refine Ev.congr (f := fun k => term_Check.l0 k t t (t.length : Int) ((a + 1 : Nat) : Int)) (fun k => by rw [if_pos he]) ?_
        have : errs (c :: s) = errs s := by simp only [errs]; rw [if_pos he]
        rw [this]
        refine ev_check_loop t ht s (a + 1) (by omega) h3 (fun x hx => ?_)
        rw [List.take_succ_eq_append_getElem h1] at hx
        rcases List.mem_append.1 hx with hx | hx
        · exact hok x hx
        · have hce : t[a] = c := by have := h2 c; rw [List.getD_eq_getElem?_getD, List.getElem?_eq_getElem h1] at this; exact this
          rw [List.mem_singleton.1 hx, hce]
          exact okc_of he
      · refine Ev.congr (f := fun _ => some (cellErr c)) (fun k => by rw [if_neg he]) ?_
        have : errs (c :: s) = cellErr c := by simp only [errs]; rw [if_neg he]
        rw [this, if_neg he]
        exact Ev.now _
theorem ev_check (t : List Cel) : Ev (fun k => term_Check.f k t) (checkS t) := by
  unfold term_Check.f checkS
  by_cases h : t.length > 64
  · rw [if_pos h]
    exact Ev.congr (f := fun _ => some 6) (fun k => if_pos (by omega)) (Ev.now _)
  · rw [if_neg h]
    exact Ev.congr (f := fun k => term_Check.l0 k t t (t.length : Int) ((0 : Nat) : Int)) (fun k => if_neg (by omega)) (ev_check_loop t (by omega) t 0 (by omega) rfl (by simp))

/-! ### the document's: Behind, Check -/
theorem ev_refBehind_at : ∀ (d : Nat) (t : List Cel) (ht : t.length ≤ 64) (hok : ∀ c ∈ t, Okc c) (a : Nat), t.length - a = d → a ≤ t.length → Ev (fun k => aumbryref04_Behind.f k t (a : Int)) (behS t a 1) := by
  intro d
  induction d using Nat.strongRecOn with
  | _ d ih =>
  intro t ht hok a hd ha
  rcases hs : t.drop a with _ | ⟨c, s⟩
  · have hl := drop_nil_len ha hs
    refine Ev.step (f := fun k => aumbryref04_Behind.j0 k t (a : Int) true) (fun k => by simp only [aumbryref04_Behind.f]; rw [if_neg (by omega)]; congr 1; simp; omega) ?_
    refine Ev.step (f := fun k => some (-1)) (fun k => by simp only [aumbryref04_Behind.j0]; rfl) ?_
    have : behS t a 1 = -1 := by
      unfold behS
      rw [hs]
      rfl
    rw [this]
    exact Ev.now _
  · obtain ⟨h1, h2, h3⟩ := drop_cons hs
    have hc : Okc c := hok c (List.mem_of_mem_drop (hs ▸ List.mem_cons_self ..))
    have har : (ar c : Int) = c.f1 := by unfold ar; have := hc.lo; omega
    have hh := hc.hi
    have hl0 := hc.lo
    refine Ev.step (f := fun k => aumbryref04_Behind.j0 k t (a : Int) false) (fun k => by simp only [aumbryref04_Behind.f]; rw [if_neg (by omega)]; congr 1; simp; omega) ?_
    refine Ev.step (f := fun k => aumbryref04_Behind.l0 k t ((a + 1 : Nat) : Int) (ar c : Int) 0) (fun k => by
      simp only [aumbryref04_Behind.j0]
      rw [if_neg (by simp), if_pos (by omega), if_pos (by omega), rd_cel hs, wrap_up (by omega) (by omega), har]
      rfl) ?_
    have loop : ∀ (m : Nat) (b i : Nat), t.length - b < d → b ≤ t.length → i + m = ar c → Ev (fun k => aumbryref04_Behind.l0 k t (b : Int) (ar c : Int) (i : Int)) (behS t b m) := by
      intro m
      induction m with
      | zero =>
        intro b i hb hbl hi
        refine Ev.step (f := fun _ => some (b : Int)) (fun k => by simp only [aumbryref04_Behind.l0]; rw [if_neg (by omega)]) ?_
        have : behS t b 0 = (b : Int) := by
          unfold behS
          rw [segN_zero]
          simp only [List.length_drop]
          omega
        rw [this]
        exact Ev.now _
      | succ m ihm =>
        intro b i hb hbl hi
        refine Ev.step (f := fun k => (aumbryref04_Behind.f k t (b : Int)).bind fun r => aumbryref04_Behind.l0 k t r (ar c : Int) ((i + 1 : Nat) : Int)) (fun k => by
          simp only [aumbryref04_Behind.l0]
          rw [if_pos (by omega), if_pos (by omega), wrap_up (by omega) (by omega)]
          rfl) ?_
        refine Ev.bind (ih _ hb t ht hok b rfl hbl) ?_
        have hadd : segN (t.drop b) (m + 1) = (segN (t.drop b) 1).bind fun r => segN r m := by rw [show m + 1 = 1 + m by omega]; exact segN_add _ _ _
        cases hr : segN (t.drop b) 1 with
        | none =>
          have e1 : behS t b 1 = -1 := by unfold behS; rw [hr]
          have e2 : behS t b (m + 1) = -1 := by unfold behS; rw [hadd, hr]; rfl
          rw [e1, e2]
          refine Ev.step (f := fun _ => some (-1 : Int)) (fun k => ?_) (Ev.now _)
          simp only [aumbryref04_Behind.l0]
          split <;> simp
        | some r =>
          obtain ⟨q, hq1, hq2⟩ := segN_suffix hr
          rw [List.drop_drop] at hq2
          have hlen := segN_len hr
          simp only [List.length_drop] at hlen hq1
          have hrl : r.length = t.length - (b + q) := by rw [← hq2, List.length_drop]
          have e1 : behS t b 1 = ((b + q : Nat) : Int) := by unfold behS; rw [hr]; simp only; omega
          have e2 : behS t b (m + 1) = behS t (b + q) m := by unfold behS; rw [hadd, hr, hq2]; rfl
          rw [e1, e2]
          exact ihm (b + q) (i + 1) (by omega) (by omega) (by omega)
    have : behS t a 1 = behS t (a + 1) (ar c) := by
      unfold behS
      rw [hs, h3]
      show (match segN s (0 + ar c) with | none => (-1 : Int) | some r => _) = _
      rw [Nat.zero_add]
    rw [this]
    exact loop (ar c) (a + 1) 0 (by omega) (by omega) (by omega)
theorem ev_refBehind (t : List Cel) (ht : t.length ≤ 64) (hok : ∀ c ∈ t, Okc c) (a : Nat) (ha : a ≤ t.length) : Ev (fun k => aumbryref04_Behind.f k t (a : Int)) (behS t a 1) := ev_refBehind_at _ t ht hok a rfl ha
theorem ev_refCheck_loop (t : List Cel) (ht : t.length ≤ 64) : ∀ (s : List Cel) (a : Nat), a ≤ t.length → t.drop a = s → (∀ c ∈ t.take a, Okc c) →
    Ev (fun k => aumbryref04_Check.l0 k t (t.length : Int) (a : Int)) (if errs s = 0 then (if segN t 1 = some [] then 0 else 3) else errs s)
  | [], a, ha, hs, hok => by
    have hl := drop_nil_len ha hs
    rw [hl, List.take_length] at hok
    refine Ev.step (f := fun k => (aumbryref04_Behind.f k t 0).bind fun r => (if r = (t.length : Int) then (some 0) else (some 3))) (fun k => by simp only [aumbryref04_Check.l0]; rw [if_neg (by omega)]) ?_
    refine Ev.bind (ev_refBehind t ht hok 0 (by omega)) ?_
    refine Ev.congr (f := fun _ => some (if segN t 1 = some [] then 0 else 3)) (fun k => ?_) (Ev.now _)
    by_cases h : segN t 1 = some []
    · rw [if_pos ((behS_whole t).2 h), if_pos h]
    · rw [if_neg (fun h' => h ((behS_whole t).1 h')), if_neg h]
  | c :: s, a, ha, hs, hok => by
    obtain ⟨h1, h2, h3⟩ := drop_cons hs
    refine Ev.step (f := fun k => (aumbryref03_Kind.f k c.f0).bind fun e => (if e = 0 then (some 4) else (if c.f1 < 0 then (some 5) else (if c.f1 > 4 then (some 5) else (if e = 2 then (if c.f1 = 0 then (aumbryref04_Check.l0 k t (t.length : Int) ((a + 1 : Nat) : Int)) else (some 5)) else (aumbryref04_Check.l0 k t (t.length : Int) ((a + 1 : Nat) : Int))))))) (fun k => ?_) ?_
    · simp only [aumbryref04_Check.l0]
      rw [if_pos (by omega), if_pos (by omega), if_pos (by omega), rd_cel hs, wrap_up (by omega) (by omega)]
      rfl
    · refine Ev.bind (ev_refKind c.f0) ?_
      by_cases he : cellErr c = 0
      · have ho := okc_of he
        have h4 := ho.hi
        have h0 := ho.lo
        refine Ev.congr (f := fun k => aumbryref04_Check.l0 k t (t.length : Int) ((a + 1 : Nat) : Int)) (fun k => ?_) ?_
        · rw [if_neg ho.kind, if_neg (by omega), if_neg (by omega)]
          by_cases hv : kindS c.f0 = 2
          · rw [if_pos hv, if_pos (ho.var hv)]
          · rw [if_neg hv]
        have : errs (c :: s) = errs s := by simp only [errs]; rw [if_pos he]
        rw [this]
        refine ev_refCheck_loop t ht s (a + 1) (by omega) h3 (fun x hx => ?_)
        rw [List.take_succ_eq_append_getElem h1] at hx
        rcases List.mem_append.1 hx with hx | hx
        · exact hok x hx
        · have hce : t[a] = c := by have := h2 c; rw [List.getD_eq_getElem?_getD, List.getElem?_eq_getElem h1] at this; exact this
          rw [List.mem_singleton.1 hx, hce]
          exact ho
      · refine Ev.congr (f := fun _ => some (cellErr c)) (fun k => ?_) ?_
        · unfold cellErr at he ⊢
          by_cases e1 : kindS c.f0 = 0
          · rw [if_pos e1, if_pos e1]
          · rw [if_neg e1] at he
            rw [if_neg e1, if_neg e1]
            by_cases e2 : c.f1 < 0
            · rw [if_pos e2, if_pos e2]
            · rw [if_neg e2] at he
              rw [if_neg e2, if_neg e2]
              by_cases e3 : c.f1 > 4
              · rw [if_pos e3, if_pos e3]
              · rw [if_neg e3] at he
                rw [if_neg e3, if_neg e3]
                by_cases e4 : kindS c.f0 = 2
                · rw [if_pos e4] at he
                  rw [if_pos e4, if_pos e4]
                  by_cases e5 : c.f1 > 0
                  · rw [if_pos e5, if_neg (by omega)]
                  · rw [if_neg e5] at he
                    exact absurd rfl he
                · rw [if_neg e4] at he
                  exact absurd rfl he
        · have : errs (c :: s) = cellErr c := by simp only [errs]; rw [if_neg he]
          rw [this, if_neg he]
          exact Ev.now _
theorem ev_refCheck (t : List Cel) : Ev (fun k => aumbryref04_Check.f k t) (checkS t) := by
  unfold aumbryref04_Check.f checkS
  by_cases h : t.length > 64
  · rw [if_pos h]
    exact Ev.congr (f := fun _ => some 6) (fun k => if_pos (by omega)) (Ev.now _)
  · rw [if_neg h]
    exact Ev.congr (f := fun k => aumbryref04_Check.l0 k t (t.length : Int) ((0 : Nat) : Int)) (fun k => if_neg (by omega)) (ev_refCheck_loop t (by omega) t 0 (by omega) rfl (by simp))
end Go.Proofs.Ytlfhonekcmlomaa.P
