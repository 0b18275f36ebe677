/- MatchFilled: the law answers true at every input that the given row speaks of. Conditions: those of the given row, none besides. (Part 2 of 3; written by programs of this session, which drive the kit's print, and by hand.) -/
import Derived.Test.YtlfhonekcmlomaaZMatchFilled0
-- ==== PF14
namespace Go.Proofs.Ytlfhonekcmlomaa.P
open Go.RowKit Go.Proofs.YtlfhonekcmlomaaW.PrintWords Go.Proofs.YtlfhonekcmlomaaW.PrintLast Go.Proofs.YtlfhonekcmlomaaW.PrintMore
attribute [local go_sem] max2_int min2_int max_two min_two max_three min_three max_four min_four   -- for this text's walks alone
set_option linter.unusedVariables false
set_option linter.unusedSimpArgs false

/-! ### match_Fill: function 14 -/
mutual
def match_Fill.l0 : Nat → List (S47) → List (S44) → List (S47) → List (S44) → Int → Int → Option ((List (S47)) × Int)
  | 0, _, _, _, _, _, _ => none
  | k + 1, x0, x1, x7, x24, x25, x26 => if x26 < x25 then (if 0 ≤ x26 then (if x26 < (x24.length : Int) then ((name_Kind.f k ((rd_T44 x24 x26).f0)).bind fun t107 => (if t107 = 2 then (if ((rd_T44 x24 x26).f0).size ≤ 9223372036854775807 then (if mapHas x7 ((rd_T44 x24 x26).f0) = true then (some (([] : List (S47)), 9)) else ((term_Check.f k ((rd_T44 x24 x26).f1)).bind fun t108 => (if t108 = 0 then (if x7.length < 9223372036854775807 ∧ ((rd_T44 x24 x26).f0).size ≤ 9223372036854775807 ∧ 0 ≤ x26 ∧ x26 ≤ 9223372036854775807 then (match_Fill.l0 k x0 x1 (mapPut x7 ((rd_T44 x24 x26).f0) x26) x24 x25 (wrap64 (x26 + 1))) else (none)) else (some (([] : List (S47)), t108))))) else (none)) else (some (([] : List (S47)), 4)))) else (none)) else (none)) else (match_Fill.l1 k x1 x7 ([] : List (S47)) x0 (x0.length : Int) 0)
def match_Fill.l1 : Nat → List (S44) → List (S47) → List (S47) → List (S47) → Int → Int → Option ((List (S47)) × Int)
  | 0, _, _, _, _, _, _ => none
  | k + 1, x1, x7, x13, x54, x55, x56 => if x56 < x55 then (if 0 ≤ x56 then (if x56 < (x54.length : Int) then (if ((rd_T47 x54 x56).f0).size ≤ 9223372036854775807 then ((match_variable.f k ((rd_T47 x54 x56).f0) ((rd_T47 x54 x56).f1)).bind fun t114 => (if t114 = true then (if (mapHas x7 ((rd_T47 x54 x56).f0) = true) then (if 0 ≤ (mapAt x7 ((rd_T47 x54 x56).f0)) then (if (mapAt x7 ((rd_T47 x54 x56).f0)) < (x1.length : Int) then (if x13.length + ((rd_T44 x1 (mapAt x7 ((rd_T47 x54 x56).f0))).f1).length < 5864062014805 then (match_Fill.l1 k x1 x7 (x13 ++ ((rd_T44 x1 (mapAt x7 ((rd_T47 x54 x56).f0))).f1)) x54 x55 (wrap64 (x56 + 1))) else (none)) else (none)) else (none)) else (some (([] : List (S47)), 7))) else (if x13.length < 5864062014805 then (match_Fill.l1 k x1 x7 (x13 ++ [(⟨(rd_T47 x54 x56).f0, (rd_T47 x54 x56).f1⟩ : S47)]) x54 x55 (wrap64 (x56 + 1))) else (none)))) else (none)) else (none)) else (none)) else (if (x13.length : Int) > 64 then (some (([] : List (S47)), 6)) else (some (x13, 0)))
end
def match_Fill.f (k : Nat) (l0 : List (S47)) (l1 : List (S44)) : Option ((List (S47)) × Int) := (term_Check.f k l0).bind fun t101 => (if t101 = 0 then (match_Fill.l0 k l0 l1 (([] : List (S47))) l1 (l1.length : Int) 0) else (some (([] : List (S47)), t101)))
theorem match_Fill.mono_l : ∀ k, (∀ y0 y1 y2 y3 y4 y5, LeO (match_Fill.l0 k y0 y1 y2 y3 y4 y5) (match_Fill.l0 (k + 1) y0 y1 y2 y3 y4 y5)) ∧ (∀ y0 y1 y2 y3 y4 y5, LeO (match_Fill.l1 k y0 y1 y2 y3 y4 y5) (match_Fill.l1 (k + 1) y0 y1 y2 y3 y4 y5))
  | 0 => ⟨fun _ _ _ _ _ _ r h => by simp [match_Fill.l0] at h, fun _ _ _ _ _ _ r h => by simp [match_Fill.l1] at h⟩
  | k + 1 => by
    obtain ⟨ih0, ih1⟩ := match_Fill.mono_l k
    refine ⟨?_, ?_⟩
    · intro y0 y1 y2 y3 y4 y5
      unfold match_Fill.l0
      repeat' first
      | (with_reducible exact ih0 _ _ _ _ _ _)
      | (with_reducible exact ih1 _ _ _ _ _ _)
      | (with_reducible exact match_variable.mono _ _ _)
      | (with_reducible exact name_Kind.mono _ _)
      | (with_reducible exact term_Check.mono _ _)
      | (with_reducible exact LeO.refl _)
      | (with_reducible exact LeO.none _)
      | (with_reducible refine LeO.ite ?_ ?_)
      | (with_reducible refine LeO.bind ?_ (fun _ => ?_))
      | exact ih0 _ _ _ _ _ _
      | exact ih1 _ _ _ _ _ _
      | exact match_variable.mono _ _ _
      | exact name_Kind.mono _ _
      | exact term_Check.mono _ _
      | exact LeO.none _
      | refine LeO.ite ?_ ?_
      | refine LeO.bind ?_ (fun _ => ?_)
    · intro y0 y1 y2 y3 y4 y5
      unfold match_Fill.l1
      repeat' first
      | (with_reducible exact ih0 _ _ _ _ _ _)
      | (with_reducible exact ih1 _ _ _ _ _ _)
      | (with_reducible exact match_variable.mono _ _ _)
      | (with_reducible exact name_Kind.mono _ _)
      | (with_reducible exact term_Check.mono _ _)
      | (with_reducible exact LeO.refl _)
      | (with_reducible exact LeO.none _)
      | (with_reducible refine LeO.ite ?_ ?_)
      | (with_reducible refine LeO.bind ?_ (fun _ => ?_))
      | exact ih0 _ _ _ _ _ _
      | exact ih1 _ _ _ _ _ _
      | exact match_variable.mono _ _ _
      | exact name_Kind.mono _ _
      | exact term_Check.mono _ _
      | exact LeO.none _
      | refine LeO.ite ?_ ?_
      | refine LeO.bind ?_ (fun _ => ?_)
theorem match_Fill.mono : ∀ a0 a1 k, LeO (match_Fill.f k a0 a1) (match_Fill.f (k + 1) a0 a1) := by
  intro a0 a1 k
  obtain ⟨ih0, ih1⟩ := match_Fill.mono_l k
  unfold match_Fill.f
  repeat' first
      | (with_reducible exact ih0 _ _ _ _ _ _)
      | (with_reducible exact ih1 _ _ _ _ _ _)
      | (with_reducible exact match_variable.mono _ _ _)
      | (with_reducible exact name_Kind.mono _ _)
      | (with_reducible exact term_Check.mono _ _)
      | (with_reducible exact LeO.refl _)
      | (with_reducible exact LeO.none _)
      | (with_reducible refine LeO.ite ?_ ?_)
      | (with_reducible refine LeO.bind ?_ (fun _ => ?_))
      | exact ih0 _ _ _ _ _ _
      | exact ih1 _ _ _ _ _ _
      | exact match_variable.mono _ _ _
      | exact name_Kind.mono _ _
      | exact term_Check.mono _ _
      | exact LeO.none _
      | refine LeO.ite ?_ ?_
      | refine LeO.bind ?_ (fun _ => ?_)
set_option maxHeartbeats 8000000 in
set_option maxRecDepth 100000 in
theorem match_Fill.calls (k : Nat) (A0 : Option Addr) (c0 : Nat) (l0 : List (S47)) (A1 : Option Addr) (c1 : Nat) (l1 : List (S44)) (r1 : List (S47)) (r2 : Int) (w : World) (hr0 : Kd.C k47 w A0 l0.length l0) (hc0 : l0.length ≤ c0) (hr1 : Kd.C k44 w A1 l1.length l1) (hc1 : l1.length ≤ c1) (h : match_Fill.f k l0 l1 = some (r1, r2)) :
    Calls Try.prog 14 #[.slice A0 l0.length c0, .slice A1 l1.length c1] w fun e w' => ∃ v0_ : Value, e = .returned (.tuple #[v0_, .int .i64 r2]) ∧ Kd.R k47 47 w' w.heap.size (fun _ => True) v0_ r1 ∧ Below w.heap.size w w' := by
  have hu44 := Try.underlying44
  have hu47 := Try.underlying47
  have HR0 := Aside0.mk hr0
  have HC0 := Aside0.mk hc0
  clear hr0 hc0
  have HR1 := Aside0.mk hr1
  have HC1 := Aside0.mk hc1
  clear hr1 hc1
  have HB := Aside0.mk (Below.refl w.heap.size w)
  have H : ((term_Check.f k l0).bind fun t101 => (if t101 = 0 then (match_Fill.l0 k l0 l1 (([] : List (S47))) l1 (l1.length : Int) 0) else (some (([] : List (S47)), t101)))) = some (r1, r2) := h
  clear h
  replace H := Option.bind_eq_some_iff.mp H
  obtain ⟨t101, A30, H⟩ := H
  replace H : (if t101 = 0 then (match_Fill.l0 k l0 l1 (([] : List (S47))) l1 (l1.length : Int) 0) else (some (([] : List (S47)), t101))) = some (r1, r2) := H
  have A3 := Aside0.mk A30
  clear A30
  by_cases c4 : t101 = 0
  · rw [if_pos c4] at H
    have c4b0 : (t101 == 0) = true := beq_iff_eq.mpr c4
    have c4b1 : (t101 != 0) = false := bne_eq_false_iff_eq.mpr c4
    clear c4
    obtain ⟨y102, hy102⟩ : ∃ y_ : List (S47), y_ = (([] : List (S47))) := ⟨_, rfl⟩
    replace H : (match_Fill.l0 k l0 l1 y102 l1 (l1.length : Int) 0) = some (r1, r2) := by first | (rw [hy102]; with_reducible exact H) | (have H2_ := (Option.bind_some _ _).symm.trans H; rw [hy102]; with_reducible exact H2_) | (have H2_ := (Option.bind_some _ _).symm.trans H; with_reducible exact H2_) | with_reducible exact H | (rw [hy102]; exact H) | exact H
    have Ny102 := Aside0.mk hy102
    clear hy102
    have H' := Aside0.mk H
    clear H
    go_enter Try.func14, Try.ntmps14
    go_wp2_with (first | ((with_reducible refine gate_callee (f := 20) rfl ?_); refine goesL_ (some 19) rfl rfl Try.func20 (by kernel_rfl) rfl #[.slice A0 l0.length c0] rfl (by (try simp only [List.map_toArray, List.map_cons, List.map_nil]); first | done | rfl | (simp only [List.length_drop, List.length_take]; rfl)) ?_; (with_reducible refine (term_Check.calls k _ _ l0 t101 _ ?side1 ?side2 A3.out).mono ?_); (case side1 => repeat (first | exact HR0.out | (with_reducible refine Kd.C_alloc ?_ _) | (with_reducible refine Kd.C_drewN ?_ _) | (with_reducible refine Kd.C_drew ?_))); (case side2 => exact HC0.out); rintro e w5 ⟨rfl, hb⟩; refine ⟨_, rfl, ?_⟩; have n0_ := Aside0.mk (below_step (by repeat (first | (with_reducible first | exact HB.out | apply below_alloc | apply pw_below_drewN | apply below_drew1) | exact HB.out)) hb); clear HB; have HB := n0_; clear n0_; (try clear hb); (try clear hb2); (try clear hk); (try clear hi)) | ((with_reducible refine gate_dst (N := 23) rfl ?_); refine Kd.P_make k47 (N := 23) rfl rfl rfl ?_; intro v103 w6 ho7 hb; rw [← Ny102.out] at ho7; have n0_ := Aside0.mk (Kd.P_lower ho7 (below_size (by repeat (first | (with_reducible first | exact HB.out | apply below_alloc | apply pw_below_drewN | apply below_drew1) | exact HB.out)))); have n1_ := Aside0.mk (below_step (by repeat (first | (with_reducible first | exact HB.out | apply below_alloc | apply pw_below_drewN | apply below_drew1) | exact HB.out)) hb); clear HB; have HO104 := n0_; have HB := n1_; clear n0_ n1_; clear hb ho7))
    go_loopg [26] k (fun kq v26 w' => ∃ (x7_1 : List (S47)) (x26_1 : Int), v26 = .int .i64 x26_1 ∧ Aside0 (match_Fill.l0 kq l0 l1 x7_1 l1 (l1.length : Int) x26_1 = some (r1, r2)) ∧ Aside0 (kq ≤ k) ∧ Aside0 (Kd.P k47 51 w' w.heap.size (fun _ => True) v103 x7_1) ∧ Aside0 (Below w.heap.size w w'))
    case atStart => exact ⟨(y102), (0), (by first | rfl | (simp; done) | (simp [*]; done)), H', ⟨Nat.le_refl _⟩, ⟨by (with_reducible repeat (first | apply Kd.P_alloc | apply Kd.P_drewN | apply Kd.P_drew)); exact HO104.out⟩, ⟨by repeat (first | (with_reducible first | exact HB.out | apply below_alloc | apply pw_below_drewN | apply below_drew1) | exact HB.out)⟩⟩
    case round =>
      clear H'
      try clear c1
      try clear c2
      try clear p2
      try clear c4
      try clear c4b0
      try clear c4b1
      obtain ⟨x7_1, x26_1, rfl, HA, HK1, HO_7, HB⟩ := hrel
      cases gk with
      | zero => exact absurd HA.out (by simp [match_Fill.l0])
      | succ k1 =>
        have H := HA.out
        clear HA
        simp only [match_Fill.l0] at H
        by_cases c8 : x26_1 < (l1.length : Int)
        · rw [if_pos c8] at H
          have c8b0 : decide (x26_1 < (l1.length : Int)) = true := decide_eq_true c8
          clear c8
          by_cases c9 : 0 ≤ x26_1
          · rw [if_pos c9] at H
            have c9b0 : decide (0 ≤ x26_1) = true := decide_eq_true c9
            clear c9
            by_cases c10 : x26_1 < (l1.length : Int)
            · rw [if_pos c10] at H
              have c10b0 : decide (x26_1 < (l1.length : Int)) = true := decide_eq_true c10
              clear c10
              replace H := Option.bind_eq_some_iff.mp H
              obtain ⟨t107, A110, H⟩ := H
              replace H : (if t107 = 2 then (if ((rd_T44 l1 x26_1).f0).size ≤ 9223372036854775807 then (if mapHas x7_1 ((rd_T44 l1 x26_1).f0) = true then (some (([] : List (S47)), 9)) else ((term_Check.f k1 ((rd_T44 l1 x26_1).f1)).bind fun t108 => (if t108 = 0 then (if x7_1.length < 9223372036854775807 ∧ ((rd_T44 l1 x26_1).f0).size ≤ 9223372036854775807 ∧ 0 ≤ x26_1 ∧ x26_1 ≤ 9223372036854775807 then (match_Fill.l0 k1 l0 l1 (mapPut x7_1 ((rd_T44 l1 x26_1).f0) x26_1) l1 (l1.length : Int) (wrap64 (x26_1 + 1))) else (none)) else (some (([] : List (S47)), t108))))) else (none)) else (some (([] : List (S47)), 4))) = some (r1, r2) := H
              have A11 := Aside0.mk A110
              clear A110
              by_cases c12 : t107 = 2
              · rw [if_pos c12] at H
                have c12b0 : (t107 == 2) = true := beq_iff_eq.mpr c12
                have c12b1 : (t107 != 2) = false := bne_eq_false_iff_eq.mpr c12
                clear c12
                by_cases c13 : ((rd_T44 l1 x26_1).f0).size ≤ 9223372036854775807
                · rw [if_pos c13] at H
                  have LMc13 := Aside0.mk c13
                  clear c13
                  by_cases c14 : mapHas x7_1 ((rd_T44 l1 x26_1).f0) = true
                  · rw [if_pos c14] at H
                    have c14b0 : mapHas x7_1 ((rd_T44 l1 x26_1).f0) = true := c14
                    clear c14
                    simp only [Option.some.injEq, Prod.mk.injEq] at H
                    obtain ⟨rfl, rfl⟩ := H
                    have p105 : 0 ≤ (x26_1 : Int) := of_decide_eq_true (by first | (with_reducible assumption) | assumption)
                    have q105 : x26_1 < (l1.length : Int) := of_decide_eq_true (by first | (with_reducible assumption) | assumption)
                    obtain ⟨ad105, A105_1, c105_1, e105, hx105_0, hx105_1, hl105_1, hi105_1⟩ := at_T44 HR1.out x26_1 p105 q105
                    cases e105
                    replace hx105_0 := (HB.out.cell (World.block_lt_of_cell? w _ hx105_0)).trans hx105_0
                    replace hx105_1 := (HB.out.cell (World.block_lt_of_cell? w _ hx105_1)).trans hx105_1
                    have HR105_1 := Aside0.mk hi105_1
                    have HC105_1 := Aside0.mk hl105_1
                    clear hi105_1 hl105_1
                    replace p105 := eq_true p105
                    replace q105 := eq_true q105
                    go_wp2_with (first | ((with_reducible refine gate_dst (N := 9) rfl ?_); refine box_event ?hg (N := 9) ?hd (cs := #[.string (⟨#[]⟩ : ByteArray), .slice none 0 0]) (t := 44) ?hr ?_; (case hd => rfl); (case hg => rfl); (case hr => first | (go_simp; done) | (go_simp; rfl)); intro gb106 hg w15 hbox hb; have n0_ := Aside0.mk (Kd.P_below (by (with_reducible repeat (first | apply Kd.P_alloc | apply Kd.P_drewN | apply Kd.P_drew)); exact HO_7.out) hb); have n1_ := Aside0.mk (below_step (by repeat (first | (with_reducible first | exact HB.out | apply below_alloc | apply pw_below_drewN | apply below_drew1) | exact HB.out)) hb); have n2_ := Aside0.mk (hbox); have n3_ := Aside0.mk ((by rw [hg]; exact (below_size (by repeat (first | (with_reducible first | exact HB.out | apply below_alloc | apply pw_below_drewN | apply below_drew1) | exact HB.out))) : w.heap.size ≤ gb106)); have n4_ := Aside0.mk ((by rw [hg]; exact (below_size (by repeat (first | (with_reducible first | exact HB.out | apply below_alloc | apply pw_below_drewN | apply below_drew1) | exact HB.out))) : w.heap.size ≤ gb106)); clear HO_7; clear HB; have HO_7 := n0_; have HB := n1_; have BK106 := n2_; have GW106 := n3_; have GE106 := n4_; clear n0_ n1_ n2_ n3_ n4_; clear hb hbox hg; have hcz16_0 : w15.cell? ⟨gb106, 0, none⟩ = some (.string (⟨#[]⟩ : ByteArray)) := (blk_cell BK106.out 0).trans rfl; have hcz16_1 : w15.cell? ⟨gb106, 1, none⟩ = some (.slice none 0 0) := (blk_cell BK106.out 1).trans rfl; have hfz16_0 := blk_frozen BK106.out 0; have hfz16_1 := blk_frozen BK106.out 1) | ((with_reducible refine gate_callee (f := 28) rfl ?_); refine goesL_ (some 33) rfl rfl Try.func28 (by kernel_rfl) rfl #[.string ((rd_T44 l1 x26_1).f0)] rfl (by (try simp only [List.map_toArray, List.map_cons, List.map_nil]); first | done | rfl | (simp only [List.length_drop, List.length_take]; rfl)) ?_; (with_reducible refine (name_Kind.calls k1 ((rd_T44 l1 x26_1).f0) t107 _ A11.out).mono ?_); rintro e w' ⟨rfl, ⟨nd, rfl⟩⟩; refine ⟨_, rfl, ?_⟩) | ((with_reducible refine gate_dst (N := 39) rfl ?_); refine Kd.P_look (v := v103) (m := x7_1) (s := ((rd_T44 l1 x26_1).f0)) rfl rfl rfl rfl LMc13.out (by (with_reducible repeat (first | apply Kd.P_alloc | apply Kd.P_drewN | apply Kd.P_drew)); exact (Kd.P_mono (Kd.P_far (p := ⟨gb106, 1, none⟩) (Kd.P_far (p := ⟨gb106, 0, none⟩) (Kd.P_types HO_7.out BK106.out (by decide)) (fun _ hk => hk.2) (.string ((rd_T44 l1 x26_1).f0))) (fun _ hk => hk.2) (.slice A105_1 ((rd_T44 l1 x26_1).f1).length c105_1)) (fun _ h_ => h_.1))) ?_))
                    go_ret2
                    exact ⟨_, by first | rfl | (simp [errW_none, errW_some] <;> rfl) | (simp [*, errW_none, errW_some] <;> rfl), by first | exact Kd.R_nil _ _ _ _ _ | exact Kd.N_nil _ _ _ _ _ | exact Kd.V_nil _ _ _ _ _ | exact Kd.Q_nil _ _ _ _ _ | exact Kd.S_nil _ _ _ _ _, by repeat (first | (with_reducible first | exact HB.out | apply below_alloc | apply pw_below_drewN | apply below_drew1 | refine below_set ?_ GE106.out) | exact HB.out)⟩
                  · rw [if_neg c14] at H
                    have c14b0 : mapHas x7_1 ((rd_T44 l1 x26_1).f0) = false := by simpa using c14
                    clear c14
                    replace H := Option.bind_eq_some_iff.mp H
                    obtain ⟨t108, A170, H⟩ := H
                    replace H : (if t108 = 0 then (if x7_1.length < 9223372036854775807 ∧ ((rd_T44 l1 x26_1).f0).size ≤ 9223372036854775807 ∧ 0 ≤ x26_1 ∧ x26_1 ≤ 9223372036854775807 then (match_Fill.l0 k1 l0 l1 (mapPut x7_1 ((rd_T44 l1 x26_1).f0) x26_1) l1 (l1.length : Int) (wrap64 (x26_1 + 1))) else (none)) else (some (([] : List (S47)), t108))) = some (r1, r2) := H
                    have A17 := Aside0.mk A170
                    clear A170
                    by_cases c18 : t108 = 0
                    · rw [if_pos c18] at H
                      have c18b0 : (t108 == 0) = true := beq_iff_eq.mpr c18
                      have c18b1 : (t108 != 0) = false := bne_eq_false_iff_eq.mpr c18
                      clear c18
                      by_cases c19 : x7_1.length < 9223372036854775807 ∧ ((rd_T44 l1 x26_1).f0).size ≤ 9223372036854775807 ∧ 0 ≤ x26_1 ∧ x26_1 ≤ 9223372036854775807
                      · rw [if_pos c19] at H
                        have LMc19 := Aside0.mk c19
                        clear c19
                        obtain ⟨y109, hy109⟩ : ∃ y_ : List (S47), y_ = (mapPut x7_1 ((rd_T44 l1 x26_1).f0) x26_1) := ⟨_, rfl⟩
                        replace H : (match_Fill.l0 k1 l0 l1 y109 l1 (l1.length : Int) (wrap64 (x26_1 + 1))) = some (r1, r2) := by first | (rw [hy109]; with_reducible exact H) | (have H2_ := (Option.bind_some _ _).symm.trans H; rw [hy109]; with_reducible exact H2_) | (have H2_ := (Option.bind_some _ _).symm.trans H; with_reducible exact H2_) | with_reducible exact H | (rw [hy109]; exact H) | exact H
                        have Ny109 := Aside0.mk hy109
                        clear hy109
                        have H' := Aside0.mk H
                        clear H
                        have p105 : 0 ≤ (x26_1 : Int) := of_decide_eq_true (by first | (with_reducible assumption) | assumption)
                        have q105 : x26_1 < (l1.length : Int) := of_decide_eq_true (by first | (with_reducible assumption) | assumption)
                        obtain ⟨ad105, A105_1, c105_1, e105, hx105_0, hx105_1, hl105_1, hi105_1⟩ := at_T44 HR1.out x26_1 p105 q105
                        cases e105
                        replace hx105_0 := (HB.out.cell (World.block_lt_of_cell? w _ hx105_0)).trans hx105_0
                        replace hx105_1 := (HB.out.cell (World.block_lt_of_cell? w _ hx105_1)).trans hx105_1
                        have HR105_1 := Aside0.mk hi105_1
                        have HC105_1 := Aside0.mk hl105_1
                        clear hi105_1 hl105_1
                        replace p105 := eq_true p105
                        replace q105 := eq_true q105
                        go_wp2_with (first | ((with_reducible refine gate_dst (N := 9) rfl ?_); refine box_event ?hg (N := 9) ?hd (cs := #[.string (⟨#[]⟩ : ByteArray), .slice none 0 0]) (t := 44) ?hr ?_; (case hd => rfl); (case hg => rfl); (case hr => first | (go_simp; done) | (go_simp; rfl)); intro gb106 hg w20 hbox hb; have n0_ := Aside0.mk (Kd.P_below (by (with_reducible repeat (first | apply Kd.P_alloc | apply Kd.P_drewN | apply Kd.P_drew)); exact HO_7.out) hb); have n1_ := Aside0.mk (below_step (by repeat (first | (with_reducible first | exact HB.out | apply below_alloc | apply pw_below_drewN | apply below_drew1) | exact HB.out)) hb); have n2_ := Aside0.mk (hbox); have n3_ := Aside0.mk ((by rw [hg]; exact (below_size (by repeat (first | (with_reducible first | exact HB.out | apply below_alloc | apply pw_below_drewN | apply below_drew1) | exact HB.out))) : w.heap.size ≤ gb106)); have n4_ := Aside0.mk ((by rw [hg]; exact (below_size (by repeat (first | (with_reducible first | exact HB.out | apply below_alloc | apply pw_below_drewN | apply below_drew1) | exact HB.out))) : w.heap.size ≤ gb106)); clear HO_7; clear HB; have HO_7 := n0_; have HB := n1_; have BK106 := n2_; have GW106 := n3_; have GE106 := n4_; clear n0_ n1_ n2_ n3_ n4_; clear hb hbox hg; have hcz21_0 : w20.cell? ⟨gb106, 0, none⟩ = some (.string (⟨#[]⟩ : ByteArray)) := (blk_cell BK106.out 0).trans rfl; have hcz21_1 : w20.cell? ⟨gb106, 1, none⟩ = some (.slice none 0 0) := (blk_cell BK106.out 1).trans rfl; have hfz21_0 := blk_frozen BK106.out 0; have hfz21_1 := blk_frozen BK106.out 1) | ((with_reducible refine gate_callee (f := 28) rfl ?_); refine goesL_ (some 33) rfl rfl Try.func28 (by kernel_rfl) rfl #[.string ((rd_T44 l1 x26_1).f0)] rfl (by (try simp only [List.map_toArray, List.map_cons, List.map_nil]); first | done | rfl | (simp only [List.length_drop, List.length_take]; rfl)) ?_; (with_reducible refine (name_Kind.calls k1 ((rd_T44 l1 x26_1).f0) t107 _ A11.out).mono ?_); rintro e w' ⟨rfl, ⟨nd, rfl⟩⟩; refine ⟨_, rfl, ?_⟩) | ((with_reducible refine gate_dst (N := 39) rfl ?_); refine Kd.P_look (v := v103) (m := x7_1) (s := ((rd_T44 l1 x26_1).f0)) rfl rfl rfl rfl LMc13.out (by (with_reducible repeat (first | apply Kd.P_alloc | apply Kd.P_drewN | apply Kd.P_drew)); exact (Kd.P_mono (Kd.P_far (p := ⟨gb106, 1, none⟩) (Kd.P_far (p := ⟨gb106, 0, none⟩) (Kd.P_types HO_7.out BK106.out (by decide)) (fun _ hk => hk.2) (.string ((rd_T44 l1 x26_1).f0))) (fun _ hk => hk.2) (.slice A105_1 ((rd_T44 l1 x26_1).f1).length c105_1)) (fun _ h_ => h_.1))) ?_) | ((with_reducible refine gate_callee (f := 20) rfl ?_); refine goesL_ (some 45) rfl rfl Try.func20 (by kernel_rfl) rfl #[.slice A105_1 ((rd_T44 l1 x26_1).f1).length c105_1] rfl (by (try simp only [List.map_toArray, List.map_cons, List.map_nil]); first | done | rfl | (simp only [List.length_drop, List.length_take]; rfl)) ?_; (with_reducible refine (term_Check.calls k1 _ _ ((rd_T44 l1 x26_1).f1) t108 _ ?side1 ?side2 A17.out).mono ?_); (case side1 => exact Kd.C_below HR105_1.out (by repeat (first | (with_reducible first | exact HB.out | apply below_alloc | apply pw_below_drewN | apply below_drew1 | refine below_set ?_ GE106.out) | exact HB.out))); (case side2 => exact HC105_1.out); rintro e w22 ⟨rfl, hb⟩; refine ⟨_, rfl, ?_⟩; have n0_ := Aside0.mk (Kd.P_below (by (with_reducible repeat (first | apply Kd.P_alloc | apply Kd.P_drewN | apply Kd.P_drew)); exact (Kd.P_mono (Kd.P_far (p := ⟨gb106, 1, none⟩) (Kd.P_far (p := ⟨gb106, 0, none⟩) (Kd.P_types HO_7.out BK106.out (by decide)) (fun _ hk => hk.2) (.string ((rd_T44 l1 x26_1).f0))) (fun _ hk => hk.2) (.slice A105_1 ((rd_T44 l1 x26_1).f1).length c105_1)) (fun _ h_ => h_.1))) hb); have n1_ := Aside0.mk (blk_below (g := gb106) (o := .cells #[.string ((rd_T44 l1 x26_1).f0), .slice A105_1 ((rd_T44 l1 x26_1).f1).length c105_1] 44 (0, 0)) (by (with_reducible repeat (first | refine blk_drewN ?_ _ | refine blk_drew ?_ | refine blk_alloc ?_ _)); refine blk_put (cs := #[.string ((rd_T44 l1 x26_1).f0), .slice none 0 0]) ?_ 1 _ rfl; (with_reducible repeat (first | refine blk_drewN ?_ _ | refine blk_drew ?_ | refine blk_alloc ?_ _)); refine blk_put (cs := #[.string (⟨#[]⟩ : ByteArray), .slice none 0 0]) ?_ 0 _ rfl; (with_reducible repeat (first | refine blk_drewN ?_ _ | refine blk_drew ?_ | refine blk_alloc ?_ _)); exact BK106.out) hb); have n2_ := Aside0.mk (below_step (by repeat (first | (with_reducible first | exact HB.out | apply below_alloc | apply pw_below_drewN | apply below_drew1 | refine below_set ?_ GE106.out) | exact HB.out)) hb); clear HO_7; clear BK106; clear HB; have HO_7 := n0_; have BK106 := n1_; have HB := n2_; clear n0_ n1_ n2_; (try clear hb); (try clear hb2); (try clear hk); (try clear hi); have hcz23_0 : w22.cell? ⟨gb106, 0, none⟩ = some (.string ((rd_T44 l1 x26_1).f0)) := (blk_cell BK106.out 0).trans rfl; have hcz23_1 : w22.cell? ⟨gb106, 1, none⟩ = some (.slice A105_1 ((rd_T44 l1 x26_1).f1).length c105_1) := (blk_cell BK106.out 1).trans rfl; have hfz23_0 := blk_frozen BK106.out 0; have hfz23_1 := blk_frozen BK106.out 1) | (at_mapUpdate; refine Kd.P_put (v := v103) (m := x7_1) (s := ((rd_T44 l1 x26_1).f0)) (n := x26_1) rfl rfl rfl rfl rfl LMc19.out (by (with_reducible repeat (first | apply Kd.P_alloc | apply Kd.P_drewN | apply Kd.P_drew)); exact HO_7.out) ?_; intro w24 ho hm; rw [← Ny109.out] at ho; have n0_ := Aside0.mk (blk_mapped (g := gb106) (o := .cells #[.string ((rd_T44 l1 x26_1).f0), .slice A105_1 ((rd_T44 l1 x26_1).f1).length c105_1] 44 (0, 0)) (by (with_reducible repeat (first | refine blk_drewN ?_ _ | refine blk_drew ?_ | refine blk_alloc ?_ _)); exact BK106.out) hm); have n1_ := Aside0.mk (below_mapped (by repeat (first | (with_reducible first | exact HB.out | apply below_alloc | apply pw_below_drewN | apply below_drew1 | refine below_set ?_ GE106.out) | exact HB.out)) hm); have n2_ := Aside0.mk (ho); clear BK106; clear HB; clear HO_7; have BK106 := n0_; have HB := n1_; have HO_7 := n2_; clear n0_ n1_ n2_; clear ho hm))
                        go_roundg k1
                        case measure => have := HK1.out; omega
                        case rel => exact ⟨(y109), (wrap64 (x26_1 + 1)), (by first | rfl | (simp; done) | (simp [*]; done)), H', ⟨by have := HK1.out; omega⟩, ⟨by (with_reducible repeat (first | apply Kd.P_alloc | apply Kd.P_drewN | apply Kd.P_drew)); exact HO_7.out⟩, ⟨by repeat (first | (with_reducible first | exact HB.out | apply below_alloc | apply pw_below_drewN | apply below_drew1 | refine below_set ?_ GE106.out) | exact HB.out)⟩⟩
                      · rw [if_neg c19] at H
                        exact absurd H (by simp)
                    · rw [if_neg c18] at H
                      have c18b0 : (t108 == 0) = false := beq_eq_false_iff_ne.mpr c18
                      have c18b1 : (t108 != 0) = true := bne_iff_ne.mpr c18
                      simp only [Option.some.injEq, Prod.mk.injEq] at H
                      obtain ⟨rfl, rfl⟩ := H
                      have p105 : 0 ≤ (x26_1 : Int) := of_decide_eq_true (by first | (with_reducible assumption) | assumption)
                      have q105 : x26_1 < (l1.length : Int) := of_decide_eq_true (by first | (with_reducible assumption) | assumption)
                      obtain ⟨ad105, A105_1, c105_1, e105, hx105_0, hx105_1, hl105_1, hi105_1⟩ := at_T44 HR1.out x26_1 p105 q105
                      cases e105
                      replace hx105_0 := (HB.out.cell (World.block_lt_of_cell? w _ hx105_0)).trans hx105_0
                      replace hx105_1 := (HB.out.cell (World.block_lt_of_cell? w _ hx105_1)).trans hx105_1
                      have HR105_1 := Aside0.mk hi105_1
                      have HC105_1 := Aside0.mk hl105_1
                      clear hi105_1 hl105_1
                      replace p105 := eq_true p105
                      replace q105 := eq_true q105
                      go_wp2_with (first | ((with_reducible refine gate_dst (N := 9) rfl ?_); refine box_event ?hg (N := 9) ?hd (cs := #[.string (⟨#[]⟩ : ByteArray), .slice none 0 0]) (t := 44) ?hr ?_; (case hd => rfl); (case hg => rfl); (case hr => first | (go_simp; done) | (go_simp; rfl)); intro gb106 hg w25 hbox hb; have n0_ := Aside0.mk (Kd.P_below (by (with_reducible repeat (first | apply Kd.P_alloc | apply Kd.P_drewN | apply Kd.P_drew)); exact HO_7.out) hb); have n1_ := Aside0.mk (below_step (by repeat (first | (with_reducible first | exact HB.out | apply below_alloc | apply pw_below_drewN | apply below_drew1) | exact HB.out)) hb); have n2_ := Aside0.mk (hbox); have n3_ := Aside0.mk ((by rw [hg]; exact (below_size (by repeat (first | (with_reducible first | exact HB.out | apply below_alloc | apply pw_below_drewN | apply below_drew1) | exact HB.out))) : w.heap.size ≤ gb106)); have n4_ := Aside0.mk ((by rw [hg]; exact (below_size (by repeat (first | (with_reducible first | exact HB.out | apply below_alloc | apply pw_below_drewN | apply below_drew1) | exact HB.out))) : w.heap.size ≤ gb106)); clear HO_7; clear HB; have HO_7 := n0_; have HB := n1_; have BK106 := n2_; have GW106 := n3_; have GE106 := n4_; clear n0_ n1_ n2_ n3_ n4_; clear hb hbox hg; have hcz26_0 : w25.cell? ⟨gb106, 0, none⟩ = some (.string (⟨#[]⟩ : ByteArray)) := (blk_cell BK106.out 0).trans rfl; have hcz26_1 : w25.cell? ⟨gb106, 1, none⟩ = some (.slice none 0 0) := (blk_cell BK106.out 1).trans rfl; have hfz26_0 := blk_frozen BK106.out 0; have hfz26_1 := blk_frozen BK106.out 1) | ((with_reducible refine gate_callee (f := 28) rfl ?_); refine goesL_ (some 33) rfl rfl Try.func28 (by kernel_rfl) rfl #[.string ((rd_T44 l1 x26_1).f0)] rfl (by (try simp only [List.map_toArray, List.map_cons, List.map_nil]); first | done | rfl | (simp only [List.length_drop, List.length_take]; rfl)) ?_; (with_reducible refine (name_Kind.calls k1 ((rd_T44 l1 x26_1).f0) t107 _ A11.out).mono ?_); rintro e w' ⟨rfl, ⟨nd, rfl⟩⟩; refine ⟨_, rfl, ?_⟩) | ((with_reducible refine gate_dst (N := 39) rfl ?_); refine Kd.P_look (v := v103) (m := x7_1) (s := ((rd_T44 l1 x26_1).f0)) rfl rfl rfl rfl LMc13.out (by (with_reducible repeat (first | apply Kd.P_alloc | apply Kd.P_drewN | apply Kd.P_drew)); exact (Kd.P_mono (Kd.P_far (p := ⟨gb106, 1, none⟩) (Kd.P_far (p := ⟨gb106, 0, none⟩) (Kd.P_types HO_7.out BK106.out (by decide)) (fun _ hk => hk.2) (.string ((rd_T44 l1 x26_1).f0))) (fun _ hk => hk.2) (.slice A105_1 ((rd_T44 l1 x26_1).f1).length c105_1)) (fun _ h_ => h_.1))) ?_) | ((with_reducible refine gate_callee (f := 20) rfl ?_); refine goesL_ (some 45) rfl rfl Try.func20 (by kernel_rfl) rfl #[.slice A105_1 ((rd_T44 l1 x26_1).f1).length c105_1] rfl (by (try simp only [List.map_toArray, List.map_cons, List.map_nil]); first | done | rfl | (simp only [List.length_drop, List.length_take]; rfl)) ?_; (with_reducible refine (term_Check.calls k1 _ _ ((rd_T44 l1 x26_1).f1) t108 _ ?side1 ?side2 A17.out).mono ?_); (case side1 => exact Kd.C_below HR105_1.out (by repeat (first | (with_reducible first | exact HB.out | apply below_alloc | apply pw_below_drewN | apply below_drew1 | refine below_set ?_ GE106.out) | exact HB.out))); (case side2 => exact HC105_1.out); rintro e w27 ⟨rfl, hb⟩; refine ⟨_, rfl, ?_⟩; have n0_ := Aside0.mk (Kd.P_below (by (with_reducible repeat (first | apply Kd.P_alloc | apply Kd.P_drewN | apply Kd.P_drew)); exact (Kd.P_mono (Kd.P_far (p := ⟨gb106, 1, none⟩) (Kd.P_far (p := ⟨gb106, 0, none⟩) (Kd.P_types HO_7.out BK106.out (by decide)) (fun _ hk => hk.2) (.string ((rd_T44 l1 x26_1).f0))) (fun _ hk => hk.2) (.slice A105_1 ((rd_T44 l1 x26_1).f1).length c105_1)) (fun _ h_ => h_.1))) hb); have n1_ := Aside0.mk (blk_below (g := gb106) (o := .cells #[.string ((rd_T44 l1 x26_1).f0), .slice A105_1 ((rd_T44 l1 x26_1).f1).length c105_1] 44 (0, 0)) (by (with_reducible repeat (first | refine blk_drewN ?_ _ | refine blk_drew ?_ | refine blk_alloc ?_ _)); refine blk_put (cs := #[.string ((rd_T44 l1 x26_1).f0), .slice none 0 0]) ?_ 1 _ rfl; (with_reducible repeat (first | refine blk_drewN ?_ _ | refine blk_drew ?_ | refine blk_alloc ?_ _)); refine blk_put (cs := #[.string (⟨#[]⟩ : ByteArray), .slice none 0 0]) ?_ 0 _ rfl; (with_reducible repeat (first | refine blk_drewN ?_ _ | refine blk_drew ?_ | refine blk_alloc ?_ _)); exact BK106.out) hb); have n2_ := Aside0.mk (below_step (by repeat (first | (with_reducible first | exact HB.out | apply below_alloc | apply pw_below_drewN | apply below_drew1 | refine below_set ?_ GE106.out) | exact HB.out)) hb); clear HO_7; clear BK106; clear HB; have HO_7 := n0_; have BK106 := n1_; have HB := n2_; clear n0_ n1_ n2_; (try clear hb); (try clear hb2); (try clear hk); (try clear hi)))
                      go_ret2
                      exact ⟨_, by first | rfl | (simp [errW_none, errW_some] <;> rfl) | (simp [*, errW_none, errW_some] <;> rfl), by first | exact Kd.R_nil _ _ _ _ _ | exact Kd.N_nil _ _ _ _ _ | exact Kd.V_nil _ _ _ _ _ | exact Kd.Q_nil _ _ _ _ _ | exact Kd.S_nil _ _ _ _ _, by repeat (first | (with_reducible first | exact HB.out | apply below_alloc | apply pw_below_drewN | apply below_drew1 | refine below_set ?_ GE106.out) | exact HB.out)⟩
                · rw [if_neg c13] at H
                  exact absurd H (by simp)
              · rw [if_neg c12] at H
                have c12b0 : (t107 == 2) = false := beq_eq_false_iff_ne.mpr c12
                have c12b1 : (t107 != 2) = true := bne_iff_ne.mpr c12
                simp only [Option.some.injEq, Prod.mk.injEq] at H
                obtain ⟨rfl, rfl⟩ := H
                have p105 : 0 ≤ (x26_1 : Int) := of_decide_eq_true (by first | (with_reducible assumption) | assumption)
                have q105 : x26_1 < (l1.length : Int) := of_decide_eq_true (by first | (with_reducible assumption) | assumption)
                obtain ⟨ad105, A105_1, c105_1, e105, hx105_0, hx105_1, hl105_1, hi105_1⟩ := at_T44 HR1.out x26_1 p105 q105
                cases e105
                replace hx105_0 := (HB.out.cell (World.block_lt_of_cell? w _ hx105_0)).trans hx105_0
                replace hx105_1 := (HB.out.cell (World.block_lt_of_cell? w _ hx105_1)).trans hx105_1
                have HR105_1 := Aside0.mk hi105_1
                have HC105_1 := Aside0.mk hl105_1
                clear hi105_1 hl105_1
                replace p105 := eq_true p105
                replace q105 := eq_true q105
                go_wp2_with (first | ((with_reducible refine gate_dst (N := 9) rfl ?_); refine box_event ?hg (N := 9) ?hd (cs := #[.string (⟨#[]⟩ : ByteArray), .slice none 0 0]) (t := 44) ?hr ?_; (case hd => rfl); (case hg => rfl); (case hr => first | (go_simp; done) | (go_simp; rfl)); intro gb106 hg w28 hbox hb; have n0_ := Aside0.mk (Kd.P_below (by (with_reducible repeat (first | apply Kd.P_alloc | apply Kd.P_drewN | apply Kd.P_drew)); exact HO_7.out) hb); have n1_ := Aside0.mk (below_step (by repeat (first | (with_reducible first | exact HB.out | apply below_alloc | apply pw_below_drewN | apply below_drew1) | exact HB.out)) hb); have n2_ := Aside0.mk (hbox); have n3_ := Aside0.mk ((by rw [hg]; exact (below_size (by repeat (first | (with_reducible first | exact HB.out | apply below_alloc | apply pw_below_drewN | apply below_drew1) | exact HB.out))) : w.heap.size ≤ gb106)); have n4_ := Aside0.mk ((by rw [hg]; exact (below_size (by repeat (first | (with_reducible first | exact HB.out | apply below_alloc | apply pw_below_drewN | apply below_drew1) | exact HB.out))) : w.heap.size ≤ gb106)); clear HO_7; clear HB; have HO_7 := n0_; have HB := n1_; have BK106 := n2_; have GW106 := n3_; have GE106 := n4_; clear n0_ n1_ n2_ n3_ n4_; clear hb hbox hg; have hcz29_0 : w28.cell? ⟨gb106, 0, none⟩ = some (.string (⟨#[]⟩ : ByteArray)) := (blk_cell BK106.out 0).trans rfl; have hcz29_1 : w28.cell? ⟨gb106, 1, none⟩ = some (.slice none 0 0) := (blk_cell BK106.out 1).trans rfl; have hfz29_0 := blk_frozen BK106.out 0; have hfz29_1 := blk_frozen BK106.out 1) | ((with_reducible refine gate_callee (f := 28) rfl ?_); refine goesL_ (some 33) rfl rfl Try.func28 (by kernel_rfl) rfl #[.string ((rd_T44 l1 x26_1).f0)] rfl (by (try simp only [List.map_toArray, List.map_cons, List.map_nil]); first | done | rfl | (simp only [List.length_drop, List.length_take]; rfl)) ?_; (with_reducible refine (name_Kind.calls k1 ((rd_T44 l1 x26_1).f0) t107 _ A11.out).mono ?_); rintro e w' ⟨rfl, ⟨nd, rfl⟩⟩; refine ⟨_, rfl, ?_⟩))
                go_ret2
                exact ⟨_, by first | rfl | (simp [errW_none, errW_some] <;> rfl) | (simp [*, errW_none, errW_some] <;> rfl), by first | exact Kd.R_nil _ _ _ _ _ | exact Kd.N_nil _ _ _ _ _ | exact Kd.V_nil _ _ _ _ _ | exact Kd.Q_nil _ _ _ _ _ | exact Kd.S_nil _ _ _ _ _, by repeat (first | (with_reducible first | exact HB.out | apply below_alloc | apply pw_below_drewN | apply below_drew1 | refine below_set ?_ GE106.out) | exact HB.out)⟩
            · rw [if_neg c10] at H
              exact absurd H (by simp)
          · rw [if_neg c9] at H
            exact absurd H (by simp)
        · rw [if_neg c8] at H
          have c8b0 : decide (x26_1 < (l1.length : Int)) = false := decide_eq_false c8
          clear c8
          have H' := Aside0.mk H
          clear H
          go_wp2
          go_loopg [13, 56] k1 (fun kq v13 v56 w' => ∃ (x13_2 : List (S47)) (x56_2 : Int), v56 = .int .i64 x56_2 ∧ Aside0 (match_Fill.l1 kq l1 x7_1 x13_2 l0 (l0.length : Int) x56_2 = some (r1, r2)) ∧ Aside0 (kq ≤ k1) ∧ Aside0 (Kd.P k47 51 w' w.heap.size (fun _ => True) v103 x7_1) ∧ Aside0 (Kd.R k47 47 w' w.heap.size (fun _ => True) v13 x13_2) ∧ Aside0 (Below w.heap.size w w'))
          case atStart => exact ⟨(([] : List (S47))), (0), (by first | rfl | (simp; done) | (simp [*]; done)), H', ⟨Nat.le_refl _⟩, ⟨by (with_reducible repeat (first | apply Kd.P_alloc | apply Kd.P_drewN | apply Kd.P_drew)); exact HO_7.out⟩, ⟨by first | exact Kd.R_nil _ _ _ _ _ | exact Kd.N_nil _ _ _ _ _ | exact Kd.V_nil _ _ _ _ _ | exact Kd.Q_nil _ _ _ _ _ | exact Kd.S_nil _ _ _ _ _⟩, ⟨by repeat (first | (with_reducible first | exact HB.out | apply below_alloc | apply pw_below_drewN | apply below_drew1) | exact HB.out)⟩⟩
          case round =>
            clear H'
            try clear c1
            try clear p1
            try clear q1
            try clear hx1
            try clear c2
            try clear p2
            try clear c4
            try clear c4b0
            try clear c4b1
            try clear p6
            try clear c8
            try clear c8b0
            try clear c9
            try clear c9b0
            try clear c10
            try clear c10b0
            try clear p10
            try clear q10
            try clear hx10
            try clear c12
            try clear c12b0
            try clear c12b1
            try clear c13
            try clear c14
            try clear c14b0
            try clear c18
            try clear c18b0
            try clear c18b1
            try clear c19
            try clear c20
            try clear c28
            try clear hcz16_0
            try clear hcz16_1
            try clear hcz21_0
            try clear hcz21_1
            try clear hcz23_0
            try clear hcz23_1
            try clear hcz26_0
            try clear hcz26_1
            try clear hcz29_0
            try clear hcz29_1
            try clear hfz16_0
            try clear hfz16_1
            try clear hfz21_0
            try clear hfz21_1
            try clear hfz23_0
            try clear hfz23_1
            try clear hfz26_0
            try clear hfz26_1
            try clear hfz29_0
            try clear hfz29_1
            try clear hx105_0
            try clear hx105_1
            try clear p105
            try clear p2
            try clear q105
            obtain ⟨x13_2, x56_2, rfl, HA, HK2, HO_7, HO_13, HB⟩ := hrel
            cases gk with
            | zero => exact absurd HA.out (by simp [match_Fill.l1])
            | succ k2 =>
              have H := HA.out
              clear HA
              simp only [match_Fill.l1] at H
              by_cases c30 : x56_2 < (l0.length : Int)
              · rw [if_pos c30] at H
                have c30b0 : decide (x56_2 < (l0.length : Int)) = true := decide_eq_true c30
                clear c30
                by_cases c31 : 0 ≤ x56_2
                · rw [if_pos c31] at H
                  have c31b0 : decide (0 ≤ x56_2) = true := decide_eq_true c31
                  clear c31
                  by_cases c32 : x56_2 < (l0.length : Int)
                  · rw [if_pos c32] at H
                    have c32b0 : decide (x56_2 < (l0.length : Int)) = true := decide_eq_true c32
                    clear c32
                    by_cases c33 : ((rd_T47 l0 x56_2).f0).size ≤ 9223372036854775807
                    · rw [if_pos c33] at H
                      have LMc33 := Aside0.mk c33
                      clear c33
                      replace H := Option.bind_eq_some_iff.mp H
                      obtain ⟨t114, A340, H⟩ := H
                      replace H : (if t114 = true then (if (mapHas x7_1 ((rd_T47 l0 x56_2).f0) = true) then (if 0 ≤ (mapAt x7_1 ((rd_T47 l0 x56_2).f0)) then (if (mapAt x7_1 ((rd_T47 l0 x56_2).f0)) < (l1.length : Int) then (if x13_2.length + ((rd_T44 l1 (mapAt x7_1 ((rd_T47 l0 x56_2).f0))).f1).length < 5864062014805 then (match_Fill.l1 k2 l1 x7_1 (x13_2 ++ ((rd_T44 l1 (mapAt x7_1 ((rd_T47 l0 x56_2).f0))).f1)) l0 (l0.length : Int) (wrap64 (x56_2 + 1))) else (none)) else (none)) else (none)) else (some (([] : List (S47)), 7))) else (if x13_2.length < 5864062014805 then (match_Fill.l1 k2 l1 x7_1 (x13_2 ++ [(⟨(rd_T47 l0 x56_2).f0, (rd_T47 l0 x56_2).f1⟩ : S47)]) l0 (l0.length : Int) (wrap64 (x56_2 + 1))) else (none))) = some (r1, r2) := H
                      have A34 := Aside0.mk A340
                      clear A340
                      by_cases c35 : t114 = true
                      · subst c35
                        have H1 : (if (mapHas x7_1 ((rd_T47 l0 x56_2).f0) = true) then (if 0 ≤ (mapAt x7_1 ((rd_T47 l0 x56_2).f0)) then (if (mapAt x7_1 ((rd_T47 l0 x56_2).f0)) < (l1.length : Int) then (if x13_2.length + ((rd_T44 l1 (mapAt x7_1 ((rd_T47 l0 x56_2).f0))).f1).length < 5864062014805 then (match_Fill.l1 k2 l1 x7_1 (x13_2 ++ ((rd_T44 l1 (mapAt x7_1 ((rd_T47 l0 x56_2).f0))).f1)) l0 (l0.length : Int) (wrap64 (x56_2 + 1))) else (none)) else (none)) else (none)) else (some (([] : List (S47)), 7))) = some (r1, r2) := by rw [if_pos rfl] at H; exact H
                        clear H
                        have H := H1
                        clear H1
                        by_cases c36 : (mapHas x7_1 ((rd_T47 l0 x56_2).f0) = true)
                        · rw [if_pos c36] at H
                          have c36b0 : mapHas x7_1 ((rd_T47 l0 x56_2).f0) = true := c36
                          clear c36
                          by_cases c37 : 0 ≤ (mapAt x7_1 ((rd_T47 l0 x56_2).f0))
                          · rw [if_pos c37] at H
                            have c37b0 : decide (0 ≤ (mapAt x7_1 ((rd_T47 l0 x56_2).f0))) = true := decide_eq_true c37
                            clear c37
                            by_cases c38 : (mapAt x7_1 ((rd_T47 l0 x56_2).f0)) < (l1.length : Int)
                            · rw [if_pos c38] at H
                              have c38b0 : decide ((mapAt x7_1 ((rd_T47 l0 x56_2).f0)) < (l1.length : Int)) = true := decide_eq_true c38
                              clear c38
                              by_cases c39 : x13_2.length + ((rd_T44 l1 (mapAt x7_1 ((rd_T47 l0 x56_2).f0))).f1).length < 5864062014805
                              · rw [if_pos c39] at H
                                have LMc39 := Aside0.mk c39
                                clear c39
                                obtain ⟨y116, hy116⟩ : ∃ y_ : List (S47), y_ = (x13_2 ++ ((rd_T44 l1 (mapAt x7_1 ((rd_T47 l0 x56_2).f0))).f1)) := ⟨_, rfl⟩
                                replace H : (match_Fill.l1 k2 l1 x7_1 y116 l0 (l0.length : Int) (wrap64 (x56_2 + 1))) = some (r1, r2) := by first | (rw [hy116]; with_reducible exact H) | (have H2_ := (Option.bind_some _ _).symm.trans H; rw [hy116]; with_reducible exact H2_) | (have H2_ := (Option.bind_some _ _).symm.trans H; with_reducible exact H2_) | with_reducible exact H | (rw [hy116]; exact H) | exact H
                                have Ny116 := Aside0.mk hy116
                                clear hy116
                                have H' := Aside0.mk H
                                clear H
                                have p112 : 0 ≤ (x56_2 : Int) := of_decide_eq_true (by first | (with_reducible assumption) | assumption)
                                have q112 : x56_2 < (l0.length : Int) := of_decide_eq_true (by first | (with_reducible assumption) | assumption)
                                obtain ⟨ad112, e112, hx112_0, hx112_1⟩ := at_T47 HR0.out x56_2 p112 q112
                                cases e112
                                replace hx112_0 := (HB.out.cell (World.block_lt_of_cell? w _ hx112_0)).trans hx112_0
                                replace hx112_1 := (HB.out.cell (World.block_lt_of_cell? w _ hx112_1)).trans hx112_1
                                replace p112 := eq_true p112
                                replace q112 := eq_true q112
                                go_wp2_with (first | ((with_reducible refine gate_dst (N := 15) rfl ?_); refine box_event ?hg (N := 15) ?hd (cs := #[.string (⟨#[]⟩ : ByteArray), .int .i64 0]) (t := 47) ?hr ?_; (case hd => rfl); (case hg => rfl); (case hr => first | (go_simp; done) | (go_simp; rfl)); intro gb113 hg w40 hbox hb; have n0_ := Aside0.mk (Kd.P_below (by (with_reducible repeat (first | apply Kd.P_alloc | apply Kd.P_drewN | apply Kd.P_drew)); exact HO_7.out) hb); have n1_ := Aside0.mk (Kd.R_below (Kd.R_elderB (by (with_reducible repeat (first | apply Kd.R_alloc | apply Kd.R_drewN | apply Kd.R_drew)); exact HO_13.out) gb113 (Nat.le_of_eq hg.symm)) hb); have n2_ := Aside0.mk (below_step (by repeat (first | (with_reducible first | exact HB.out | apply below_alloc | apply pw_below_drewN | apply below_drew1) | exact HB.out)) hb); have n3_ := Aside0.mk (hbox); have n4_ := Aside0.mk ((by rw [hg]; exact (below_size (by repeat (first | (with_reducible first | exact HB.out | apply below_alloc | apply pw_below_drewN | apply below_drew1) | exact HB.out))) : w.heap.size ≤ gb113)); have n5_ := Aside0.mk ((by rw [hg]; exact (below_size (by repeat (first | (with_reducible first | exact HB.out | apply below_alloc | apply pw_below_drewN | apply below_drew1) | exact HB.out))) : w.heap.size ≤ gb113)); clear HO_7; clear HO_13; clear HB; have HO_7 := n0_; have HO_13 := n1_; have HB := n2_; have BK113 := n3_; have GW113 := n4_; have GE113 := n5_; clear n0_ n1_ n2_ n3_ n4_ n5_; clear hb hbox hg; have hcz41_0 : w40.cell? ⟨gb113, 0, none⟩ = some (.string (⟨#[]⟩ : ByteArray)) := (blk_cell BK113.out 0).trans rfl; have hcz41_1 : w40.cell? ⟨gb113, 1, none⟩ = some (.int .i64 0) := (blk_cell BK113.out 1).trans rfl; have hfz41_0 := blk_frozen BK113.out 0; have hfz41_1 := blk_frozen BK113.out 1) | ((with_reducible refine gate_dst (N := 64) rfl ?_); refine Kd.P_look (v := v103) (m := x7_1) (s := ((rd_T47 l0 x56_2).f0)) rfl rfl rfl rfl LMc33.out (by (with_reducible repeat (first | apply Kd.P_alloc | apply Kd.P_drewN | apply Kd.P_drew)); exact (Kd.P_mono (Kd.P_far (p := ⟨gb113, 1, none⟩) (Kd.P_far (p := ⟨gb113, 0, none⟩) (Kd.P_types HO_7.out BK113.out (by decide)) (fun _ hk => hk.2) (.string ((rd_T47 l0 x56_2).f0))) (fun _ hk => hk.2) (.int .i64 ((rd_T47 l0 x56_2).f1))) (fun _ h_ => h_.1))) ?_) | ((with_reducible refine gate_callee (f := 21) rfl ?_); refine goesL_ (some 76) rfl rfl Try.func21 (by kernel_rfl) rfl #[.agg #[.string ((rd_T47 l0 x56_2).f0), .int .i64 ((rd_T47 l0 x56_2).f1)]] rfl (by (try simp only [List.map_toArray, List.map_cons, List.map_nil]); first | done | rfl | (simp only [List.length_drop, List.length_take]; rfl)) ?_; (with_reducible refine (match_variable.calls k2 ((rd_T47 l0 x56_2).f0) ((rd_T47 l0 x56_2).f1) true _ A34.out).mono ?_); rintro e w42 ⟨rfl, hb⟩; refine ⟨_, rfl, ?_⟩; have n0_ := Aside0.mk (Kd.P_below (by (with_reducible repeat (first | apply Kd.P_alloc | apply Kd.P_drewN | apply Kd.P_drew)); exact (Kd.P_mono (Kd.P_far (p := ⟨gb113, 1, none⟩) (Kd.P_far (p := ⟨gb113, 0, none⟩) (Kd.P_types HO_7.out BK113.out (by decide)) (fun _ hk => hk.2) (.string ((rd_T47 l0 x56_2).f0))) (fun _ hk => hk.2) (.int .i64 ((rd_T47 l0 x56_2).f1))) (fun _ h_ => h_.1))) hb); have n1_ := Aside0.mk (Kd.R_below (by (with_reducible repeat (first | apply Kd.R_alloc | apply Kd.R_drewN | apply Kd.R_drew)); exact (Kd.R_mono (Kd.R_far (p := ⟨gb113, 1, none⟩) (Kd.R_far (p := ⟨gb113, 0, none⟩) (Kd.R_mono HO_13.out (fun k_ hk => (⟨hk, hk.2⟩ : _ ∧ k_ ≠ gb113))) (fun _ hk => hk.2) (.string ((rd_T47 l0 x56_2).f0))) (fun _ hk => hk.2) (.int .i64 ((rd_T47 l0 x56_2).f1))) (fun _ h_ => h_.1))) hb); have n2_ := Aside0.mk (blk_below (g := gb113) (o := .cells #[.string ((rd_T47 l0 x56_2).f0), .int .i64 ((rd_T47 l0 x56_2).f1)] 47 (0, 0)) (by (with_reducible repeat (first | refine blk_drewN ?_ _ | refine blk_drew ?_ | refine blk_alloc ?_ _)); refine blk_put (cs := #[.string ((rd_T47 l0 x56_2).f0), .int .i64 0]) ?_ 1 _ rfl; (with_reducible repeat (first | refine blk_drewN ?_ _ | refine blk_drew ?_ | refine blk_alloc ?_ _)); refine blk_put (cs := #[.string (⟨#[]⟩ : ByteArray), .int .i64 0]) ?_ 0 _ rfl; (with_reducible repeat (first | refine blk_drewN ?_ _ | refine blk_drew ?_ | refine blk_alloc ?_ _)); exact BK113.out) hb); have n3_ := Aside0.mk (below_step (by repeat (first | (with_reducible first | exact HB.out | apply below_alloc | apply pw_below_drewN | apply below_drew1 | refine below_set ?_ GE113.out) | exact HB.out)) hb); clear HO_7; clear HO_13; clear BK113; clear HB; have HO_7 := n0_; have HO_13 := n1_; have BK113 := n2_; have HB := n3_; clear n0_ n1_ n2_ n3_; (try clear hb); (try clear hb2); (try clear hk); (try clear hi); have p115 : 0 ≤ ((mapAt x7_1 ((rd_T47 l0 x56_2).f0)) : Int) := of_decide_eq_true (by first | (with_reducible assumption) | assumption); have q115 : (mapAt x7_1 ((rd_T47 l0 x56_2).f0)) < (l1.length : Int) := of_decide_eq_true (by first | (with_reducible assumption) | assumption); obtain ⟨ad115, A115_1, c115_1, e115, hx115_0, hx115_1, hl115_1, hi115_1⟩ := at_T44 HR1.out (mapAt x7_1 ((rd_T47 l0 x56_2).f0)) p115 q115; cases e115; replace hx115_0 := (HB.out.cell (World.block_lt_of_cell? w _ hx115_0)).trans hx115_0; replace hx115_1 := (HB.out.cell (World.block_lt_of_cell? w _ hx115_1)).trans hx115_1; have HR115_1 := Aside0.mk hi115_1; have HC115_1 := Aside0.mk hl115_1; clear hi115_1 hl115_1; replace p115 := eq_true p115; replace q115 := eq_true q115) | ((with_reducible refine gate_builtin (b := .append) (xs := #[.tmp 67, .tmp 72]) rfl ?_); at_builtin; refine Kd.R_append_rows k47 (w0 := w) w.heap.size rfl (.tmp 67) (.tmp 72) 23 47 (.agg #[(.string ⟨#[]⟩), (.int .i64 0)]) 24 rfl Try.underlying23 info47 rfl (by decide) (by omega) u13 x13_2 ((rd_T44 l1 (mapAt x7_1 ((rd_T47 l0 x56_2).f0))).f1) _ _ _ (fun k_ => k_ ≠ gb113) (fun _ => False) rfl rfl ?aO ?aR (fun _ _ h => h) (fun _ h => h.elim) ?aF ?aB ?aS ?aL ?_; (case aR => repeat (first | exact (Kd.C_below HR115_1.out HB.out) | (with_reducible refine Kd.C_alloc ?_ _) | (with_reducible refine Kd.C_drewN ?_ _) | (with_reducible refine Kd.C_drew ?_))); (case aB => exact (by repeat (first | (with_reducible first | exact HB.out | apply below_alloc | apply pw_below_drewN | apply below_drew1 | refine below_set ?_ GE113.out) | exact HB.out))); (case aF => exact (fun k_ hk => Kd.freshB (g := gb113) (o := .cells #[.string ((rd_T47 l0 x56_2).f0), .int .i64 ((rd_T47 l0 x56_2).f1)] 47 (0, 0)) (by (with_reducible repeat (first | refine blk_drewN ?_ _ | refine blk_drew ?_ | refine blk_alloc ?_ _)); exact BK113.out) k_ hk)); (case aO => exact (by (with_reducible repeat (first | apply Kd.R_alloc | apply Kd.R_drewN | apply Kd.R_drew)); exact Kd.R_mono HO_13.out (fun _ hk => hk.2))); (case aS => exact (below_size (by repeat (first | (with_reducible first | exact HB.out | apply below_alloc | apply pw_below_drewN | apply below_drew1 | refine below_set ?_ GE113.out) | exact HB.out)))); (case aL => have := LMc39.out; omega); intro v117 w43 ho hb hg hat; rw [← Ny116.out] at ho; have n0_ := Aside0.mk (Kd.P_over' (by (with_reducible repeat (first | apply Kd.P_alloc | apply Kd.P_drewN | apply Kd.P_drew)); exact HO_7.out) (Kd.R_typed (by (with_reducible repeat (first | apply Kd.R_alloc | apply Kd.R_drewN | apply Kd.R_drew)); exact HO_13.out)) (by decide) hg); have n1_ := Aside0.mk (blk_grown (g := gb113) (o := .cells #[.string ((rd_T47 l0 x56_2).f0), .int .i64 ((rd_T47 l0 x56_2).f1)] 47 (0, 0)) (by (with_reducible repeat (first | refine blk_drewN ?_ _ | refine blk_drew ?_ | refine blk_alloc ?_ _)); exact BK113.out) hg (Kd.R_away HO_13.out (fun _ hk => hk.2))); have n2_ := Aside0.mk (hb); have n3_ := Aside0.mk (ho); clear HO_7; clear BK113; clear HB; clear HO_13; have HO_7 := n0_; have BK113 := n1_; have HB := n2_; have HO118 := n3_; clear n0_ n1_ n2_ n3_; clear ho hb hg hat))
                                go_roundg k2
                                case measure => have := HK1.out; have := HK2.out; omega
                                case rel => exact ⟨(y116), (wrap64 (x56_2 + 1)), (by first | rfl | (simp; done) | (simp [*]; done)), H', ⟨by have := HK1.out; have := HK2.out; omega⟩, ⟨by (with_reducible repeat (first | apply Kd.P_alloc | apply Kd.P_drewN | apply Kd.P_drew)); exact HO_7.out⟩, ⟨by (with_reducible repeat (first | apply Kd.R_alloc | apply Kd.R_drewN | apply Kd.R_drew)); exact Kd.R_mono HO118.out (fun _ hk => trivial)⟩, ⟨by repeat (first | (with_reducible first | exact HB.out | apply below_alloc | apply pw_below_drewN | apply below_drew1 | refine below_set ?_ GE113.out) | exact HB.out)⟩⟩
                              · rw [if_neg c39] at H
                                exact absurd H (by simp)
                            · rw [if_neg c38] at H
                              exact absurd H (by simp)
                          · rw [if_neg c37] at H
                            exact absurd H (by simp)
                        · rw [if_neg c36] at H
                          have c36b0 : mapHas x7_1 ((rd_T47 l0 x56_2).f0) = false := by simpa using c36
                          clear c36
                          simp only [Option.some.injEq, Prod.mk.injEq] at H
                          obtain ⟨rfl, rfl⟩ := H
                          have p112 : 0 ≤ (x56_2 : Int) := of_decide_eq_true (by first | (with_reducible assumption) | assumption)
                          have q112 : x56_2 < (l0.length : Int) := of_decide_eq_true (by first | (with_reducible assumption) | assumption)
                          obtain ⟨ad112, e112, hx112_0, hx112_1⟩ := at_T47 HR0.out x56_2 p112 q112
                          cases e112
                          replace hx112_0 := (HB.out.cell (World.block_lt_of_cell? w _ hx112_0)).trans hx112_0
                          replace hx112_1 := (HB.out.cell (World.block_lt_of_cell? w _ hx112_1)).trans hx112_1
                          replace p112 := eq_true p112
                          replace q112 := eq_true q112
                          go_wp2_with (first | ((with_reducible refine gate_dst (N := 15) rfl ?_); refine box_event ?hg (N := 15) ?hd (cs := #[.string (⟨#[]⟩ : ByteArray), .int .i64 0]) (t := 47) ?hr ?_; (case hd => rfl); (case hg => rfl); (case hr => first | (go_simp; done) | (go_simp; rfl)); intro gb113 hg w44 hbox hb; have n0_ := Aside0.mk (Kd.P_below (by (with_reducible repeat (first | apply Kd.P_alloc | apply Kd.P_drewN | apply Kd.P_drew)); exact HO_7.out) hb); have n1_ := Aside0.mk (Kd.R_below (Kd.R_elderB (by (with_reducible repeat (first | apply Kd.R_alloc | apply Kd.R_drewN | apply Kd.R_drew)); exact HO_13.out) gb113 (Nat.le_of_eq hg.symm)) hb); have n2_ := Aside0.mk (below_step (by repeat (first | (with_reducible first | exact HB.out | apply below_alloc | apply pw_below_drewN | apply below_drew1) | exact HB.out)) hb); have n3_ := Aside0.mk (hbox); have n4_ := Aside0.mk ((by rw [hg]; exact (below_size (by repeat (first | (with_reducible first | exact HB.out | apply below_alloc | apply pw_below_drewN | apply below_drew1) | exact HB.out))) : w.heap.size ≤ gb113)); have n5_ := Aside0.mk ((by rw [hg]; exact (below_size (by repeat (first | (with_reducible first | exact HB.out | apply below_alloc | apply pw_below_drewN | apply below_drew1) | exact HB.out))) : w.heap.size ≤ gb113)); clear HO_7; clear HO_13; clear HB; have HO_7 := n0_; have HO_13 := n1_; have HB := n2_; have BK113 := n3_; have GW113 := n4_; have GE113 := n5_; clear n0_ n1_ n2_ n3_ n4_ n5_; clear hb hbox hg; have hcz45_0 : w44.cell? ⟨gb113, 0, none⟩ = some (.string (⟨#[]⟩ : ByteArray)) := (blk_cell BK113.out 0).trans rfl; have hcz45_1 : w44.cell? ⟨gb113, 1, none⟩ = some (.int .i64 0) := (blk_cell BK113.out 1).trans rfl; have hfz45_0 := blk_frozen BK113.out 0; have hfz45_1 := blk_frozen BK113.out 1) | ((with_reducible refine gate_dst (N := 64) rfl ?_); refine Kd.P_look (v := v103) (m := x7_1) (s := ((rd_T47 l0 x56_2).f0)) rfl rfl rfl rfl LMc33.out (by (with_reducible repeat (first | apply Kd.P_alloc | apply Kd.P_drewN | apply Kd.P_drew)); exact (Kd.P_mono (Kd.P_far (p := ⟨gb113, 1, none⟩) (Kd.P_far (p := ⟨gb113, 0, none⟩) (Kd.P_types HO_7.out BK113.out (by decide)) (fun _ hk => hk.2) (.string ((rd_T47 l0 x56_2).f0))) (fun _ hk => hk.2) (.int .i64 ((rd_T47 l0 x56_2).f1))) (fun _ h_ => h_.1))) ?_) | ((with_reducible refine gate_callee (f := 21) rfl ?_); refine goesL_ (some 76) rfl rfl Try.func21 (by kernel_rfl) rfl #[.agg #[.string ((rd_T47 l0 x56_2).f0), .int .i64 ((rd_T47 l0 x56_2).f1)]] rfl (by (try simp only [List.map_toArray, List.map_cons, List.map_nil]); first | done | rfl | (simp only [List.length_drop, List.length_take]; rfl)) ?_; (with_reducible refine (match_variable.calls k2 ((rd_T47 l0 x56_2).f0) ((rd_T47 l0 x56_2).f1) true _ A34.out).mono ?_); rintro e w46 ⟨rfl, hb⟩; refine ⟨_, rfl, ?_⟩; have n0_ := Aside0.mk (Kd.P_below (by (with_reducible repeat (first | apply Kd.P_alloc | apply Kd.P_drewN | apply Kd.P_drew)); exact (Kd.P_mono (Kd.P_far (p := ⟨gb113, 1, none⟩) (Kd.P_far (p := ⟨gb113, 0, none⟩) (Kd.P_types HO_7.out BK113.out (by decide)) (fun _ hk => hk.2) (.string ((rd_T47 l0 x56_2).f0))) (fun _ hk => hk.2) (.int .i64 ((rd_T47 l0 x56_2).f1))) (fun _ h_ => h_.1))) hb); have n1_ := Aside0.mk (Kd.R_below (by (with_reducible repeat (first | apply Kd.R_alloc | apply Kd.R_drewN | apply Kd.R_drew)); exact (Kd.R_mono (Kd.R_far (p := ⟨gb113, 1, none⟩) (Kd.R_far (p := ⟨gb113, 0, none⟩) (Kd.R_mono HO_13.out (fun k_ hk => (⟨hk, hk.2⟩ : _ ∧ k_ ≠ gb113))) (fun _ hk => hk.2) (.string ((rd_T47 l0 x56_2).f0))) (fun _ hk => hk.2) (.int .i64 ((rd_T47 l0 x56_2).f1))) (fun _ h_ => h_.1))) hb); have n2_ := Aside0.mk (blk_below (g := gb113) (o := .cells #[.string ((rd_T47 l0 x56_2).f0), .int .i64 ((rd_T47 l0 x56_2).f1)] 47 (0, 0)) (by (with_reducible repeat (first | refine blk_drewN ?_ _ | refine blk_drew ?_ | refine blk_alloc ?_ _)); refine blk_put (cs := #[.string ((rd_T47 l0 x56_2).f0), .int .i64 0]) ?_ 1 _ rfl; (with_reducible repeat (first | refine blk_drewN ?_ _ | refine blk_drew ?_ | refine blk_alloc ?_ _)); refine blk_put (cs := #[.string (⟨#[]⟩ : ByteArray), .int .i64 0]) ?_ 0 _ rfl; (with_reducible repeat (first | refine blk_drewN ?_ _ | refine blk_drew ?_ | refine blk_alloc ?_ _)); exact BK113.out) hb); have n3_ := Aside0.mk (below_step (by repeat (first | (with_reducible first | exact HB.out | apply below_alloc | apply pw_below_drewN | apply below_drew1 | refine below_set ?_ GE113.out) | exact HB.out)) hb); clear HO_7; clear HO_13; clear BK113; clear HB; have HO_7 := n0_; have HO_13 := n1_; have BK113 := n2_; have HB := n3_; clear n0_ n1_ n2_ n3_; (try clear hb); (try clear hb2); (try clear hk); (try clear hi)))
                          go_ret2
                          exact ⟨_, by first | rfl | (simp [errW_none, errW_some] <;> rfl) | (simp [*, errW_none, errW_some] <;> rfl), by first | exact Kd.R_nil _ _ _ _ _ | exact Kd.N_nil _ _ _ _ _ | exact Kd.V_nil _ _ _ _ _ | exact Kd.Q_nil _ _ _ _ _ | exact Kd.S_nil _ _ _ _ _, by repeat (first | (with_reducible first | exact HB.out | apply below_alloc | apply pw_below_drewN | apply below_drew1 | refine below_set ?_ GE113.out) | exact HB.out)⟩
                      · replace c35 := Bool.eq_false_iff.mpr c35
                        subst c35
                        have H1 : (if x13_2.length < 5864062014805 then (match_Fill.l1 k2 l1 x7_1 (x13_2 ++ [(⟨(rd_T47 l0 x56_2).f0, (rd_T47 l0 x56_2).f1⟩ : S47)]) l0 (l0.length : Int) (wrap64 (x56_2 + 1))) else (none)) = some (r1, r2) := by rw [if_neg (show ¬ (false = true) by decide)] at H; exact H
                        clear H
                        have H := H1
                        clear H1
                        by_cases c47 : x13_2.length < 5864062014805
                        · rw [if_pos c47] at H
                          have LMc47 := Aside0.mk c47
                          clear c47
                          obtain ⟨y119, hy119⟩ : ∃ y_ : List (S47), y_ = (x13_2 ++ [(⟨(rd_T47 l0 x56_2).f0, (rd_T47 l0 x56_2).f1⟩ : S47)]) := ⟨_, rfl⟩
                          replace H : (match_Fill.l1 k2 l1 x7_1 y119 l0 (l0.length : Int) (wrap64 (x56_2 + 1))) = some (r1, r2) := by first | (rw [hy119]; with_reducible exact H) | (have H2_ := (Option.bind_some _ _).symm.trans H; rw [hy119]; with_reducible exact H2_) | (have H2_ := (Option.bind_some _ _).symm.trans H; with_reducible exact H2_) | with_reducible exact H | (rw [hy119]; exact H) | exact H
                          have Ny119 := Aside0.mk hy119
                          clear hy119
                          have H' := Aside0.mk H
                          clear H
                          have p112 : 0 ≤ (x56_2 : Int) := of_decide_eq_true (by first | (with_reducible assumption) | assumption)
                          have q112 : x56_2 < (l0.length : Int) := of_decide_eq_true (by first | (with_reducible assumption) | assumption)
                          obtain ⟨ad112, e112, hx112_0, hx112_1⟩ := at_T47 HR0.out x56_2 p112 q112
                          cases e112
                          replace hx112_0 := (HB.out.cell (World.block_lt_of_cell? w _ hx112_0)).trans hx112_0
                          replace hx112_1 := (HB.out.cell (World.block_lt_of_cell? w _ hx112_1)).trans hx112_1
                          replace p112 := eq_true p112
                          replace q112 := eq_true q112
                          go_wp2_with (first | ((with_reducible refine gate_dst (N := 15) rfl ?_); refine box_event ?hg (N := 15) ?hd (cs := #[.string (⟨#[]⟩ : ByteArray), .int .i64 0]) (t := 47) ?hr ?_; (case hd => rfl); (case hg => rfl); (case hr => first | (go_simp; done) | (go_simp; rfl)); intro gb113 hg w48 hbox hb; have n0_ := Aside0.mk (Kd.P_below (by (with_reducible repeat (first | apply Kd.P_alloc | apply Kd.P_drewN | apply Kd.P_drew)); exact HO_7.out) hb); have n1_ := Aside0.mk (Kd.R_below (Kd.R_elderB (by (with_reducible repeat (first | apply Kd.R_alloc | apply Kd.R_drewN | apply Kd.R_drew)); exact HO_13.out) gb113 (Nat.le_of_eq hg.symm)) hb); have n2_ := Aside0.mk (below_step (by repeat (first | (with_reducible first | exact HB.out | apply below_alloc | apply pw_below_drewN | apply below_drew1) | exact HB.out)) hb); have n3_ := Aside0.mk (hbox); have n4_ := Aside0.mk ((by rw [hg]; exact (below_size (by repeat (first | (with_reducible first | exact HB.out | apply below_alloc | apply pw_below_drewN | apply below_drew1) | exact HB.out))) : w.heap.size ≤ gb113)); have n5_ := Aside0.mk ((by rw [hg]; exact (below_size (by repeat (first | (with_reducible first | exact HB.out | apply below_alloc | apply pw_below_drewN | apply below_drew1) | exact HB.out))) : w.heap.size ≤ gb113)); clear HO_7; clear HO_13; clear HB; have HO_7 := n0_; have HO_13 := n1_; have HB := n2_; have BK113 := n3_; have GW113 := n4_; have GE113 := n5_; clear n0_ n1_ n2_ n3_ n4_ n5_; clear hb hbox hg; have hcz49_0 : w48.cell? ⟨gb113, 0, none⟩ = some (.string (⟨#[]⟩ : ByteArray)) := (blk_cell BK113.out 0).trans rfl; have hcz49_1 : w48.cell? ⟨gb113, 1, none⟩ = some (.int .i64 0) := (blk_cell BK113.out 1).trans rfl; have hfz49_0 := blk_frozen BK113.out 0; have hfz49_1 := blk_frozen BK113.out 1) | ((with_reducible refine gate_dst (N := 64) rfl ?_); refine Kd.P_look (v := v103) (m := x7_1) (s := ((rd_T47 l0 x56_2).f0)) rfl rfl rfl rfl LMc33.out (by (with_reducible repeat (first | apply Kd.P_alloc | apply Kd.P_drewN | apply Kd.P_drew)); exact (Kd.P_mono (Kd.P_far (p := ⟨gb113, 1, none⟩) (Kd.P_far (p := ⟨gb113, 0, none⟩) (Kd.P_types HO_7.out BK113.out (by decide)) (fun _ hk => hk.2) (.string ((rd_T47 l0 x56_2).f0))) (fun _ hk => hk.2) (.int .i64 ((rd_T47 l0 x56_2).f1))) (fun _ h_ => h_.1))) ?_) | ((with_reducible refine gate_callee (f := 21) rfl ?_); refine goesL_ (some 76) rfl rfl Try.func21 (by kernel_rfl) rfl #[.agg #[.string ((rd_T47 l0 x56_2).f0), .int .i64 ((rd_T47 l0 x56_2).f1)]] rfl (by (try simp only [List.map_toArray, List.map_cons, List.map_nil]); first | done | rfl | (simp only [List.length_drop, List.length_take]; rfl)) ?_; (with_reducible refine (match_variable.calls k2 ((rd_T47 l0 x56_2).f0) ((rd_T47 l0 x56_2).f1) false _ A34.out).mono ?_); rintro e w50 ⟨rfl, hb⟩; refine ⟨_, rfl, ?_⟩; have n0_ := Aside0.mk (Kd.P_below (by (with_reducible repeat (first | apply Kd.P_alloc | apply Kd.P_drewN | apply Kd.P_drew)); exact (Kd.P_mono (Kd.P_far (p := ⟨gb113, 1, none⟩) (Kd.P_far (p := ⟨gb113, 0, none⟩) (Kd.P_types HO_7.out BK113.out (by decide)) (fun _ hk => hk.2) (.string ((rd_T47 l0 x56_2).f0))) (fun _ hk => hk.2) (.int .i64 ((rd_T47 l0 x56_2).f1))) (fun _ h_ => h_.1))) hb); have n1_ := Aside0.mk (Kd.R_below (by (with_reducible repeat (first | apply Kd.R_alloc | apply Kd.R_drewN | apply Kd.R_drew)); exact (Kd.R_mono (Kd.R_far (p := ⟨gb113, 1, none⟩) (Kd.R_far (p := ⟨gb113, 0, none⟩) (Kd.R_mono HO_13.out (fun k_ hk => (⟨hk, hk.2⟩ : _ ∧ k_ ≠ gb113))) (fun _ hk => hk.2) (.string ((rd_T47 l0 x56_2).f0))) (fun _ hk => hk.2) (.int .i64 ((rd_T47 l0 x56_2).f1))) (fun _ h_ => h_.1))) hb); have n2_ := Aside0.mk (blk_below (g := gb113) (o := .cells #[.string ((rd_T47 l0 x56_2).f0), .int .i64 ((rd_T47 l0 x56_2).f1)] 47 (0, 0)) (by (with_reducible repeat (first | refine blk_drewN ?_ _ | refine blk_drew ?_ | refine blk_alloc ?_ _)); refine blk_put (cs := #[.string ((rd_T47 l0 x56_2).f0), .int .i64 0]) ?_ 1 _ rfl; (with_reducible repeat (first | refine blk_drewN ?_ _ | refine blk_drew ?_ | refine blk_alloc ?_ _)); refine blk_put (cs := #[.string (⟨#[]⟩ : ByteArray), .int .i64 0]) ?_ 0 _ rfl; (with_reducible repeat (first | refine blk_drewN ?_ _ | refine blk_drew ?_ | refine blk_alloc ?_ _)); exact BK113.out) hb); have n3_ := Aside0.mk (below_step (by repeat (first | (with_reducible first | exact HB.out | apply below_alloc | apply pw_below_drewN | apply below_drew1 | refine below_set ?_ GE113.out) | exact HB.out)) hb); clear HO_7; clear HO_13; clear BK113; clear HB; have HO_7 := n0_; have HO_13 := n1_; have BK113 := n2_; have HB := n3_; clear n0_ n1_ n2_ n3_; (try clear hb); (try clear hb2); (try clear hk); (try clear hi); have hcz51_0 : w50.cell? ⟨gb113, 0, none⟩ = some (.string ((rd_T47 l0 x56_2).f0)) := (blk_cell BK113.out 0).trans rfl; have hcz51_1 : w50.cell? ⟨gb113, 1, none⟩ = some (.int .i64 ((rd_T47 l0 x56_2).f1)) := (blk_cell BK113.out 1).trans rfl; have hfz51_0 := blk_frozen BK113.out 0; have hfz51_1 := blk_frozen BK113.out 1) | ((with_reducible refine gate_builtin (b := .append) (xs := #[.tmp 78, .tmp 80]) rfl ?_); at_builtin; refine Kd.R_append k47 (w0 := w) w.heap.size rfl (.tmp 78) (.tmp 80) 23 47 (.agg #[(.string ⟨#[]⟩), (.int .i64 0)]) 24 rfl Try.underlying23 info47 rfl (by decide) (by omega) u13 x13_2 (⟨(rd_T47 l0 x56_2).f0, (rd_T47 l0 x56_2).f1⟩ : S47) [.string ((rd_T47 l0 x56_2).f0), .int .i64 ((rd_T47 l0 x56_2).f1)] (fun k_ => k_ ≠ gb113) (fun _ => False) rfl rfl ?aP (fun _ hk => hk.elim) ?aF ?aO ?aB ?aS ?aL ?_; (case aP => exact k47_mkM _ _ _ (⟨(rd_T47 l0 x56_2).f0, (rd_T47 l0 x56_2).f1⟩ : S47)); (case aB => exact (by repeat (first | (with_reducible first | exact HB.out | apply below_alloc | apply pw_below_drewN | apply below_drew1 | refine below_set ?_ GE113.out) | exact HB.out))); (case aF => exact (fun k_ hk => Kd.freshB (g := gb113) (o := .cells #[.string ((rd_T47 l0 x56_2).f0), .int .i64 ((rd_T47 l0 x56_2).f1)] 47 (0, 0)) (by (with_reducible repeat (first | refine blk_drewN ?_ _ | refine blk_drew ?_ | refine blk_alloc ?_ _)); exact BK113.out) k_ hk)); (case aO => exact (by (with_reducible repeat (first | apply Kd.R_alloc | apply Kd.R_drewN | apply Kd.R_drew)); exact Kd.R_mono HO_13.out (fun _ hk => hk.2))); (case aS => exact (below_size (by repeat (first | (with_reducible first | exact HB.out | apply below_alloc | apply pw_below_drewN | apply below_drew1 | refine below_set ?_ GE113.out) | exact HB.out)))); (case aL => have := LMc47.out; omega); intro v120 w52 ho hb hg hat; rw [← Ny119.out] at ho; have n0_ := Aside0.mk (Kd.P_over' (by (with_reducible repeat (first | apply Kd.P_alloc | apply Kd.P_drewN | apply Kd.P_drew)); exact HO_7.out) (Kd.R_typed (by (with_reducible repeat (first | apply Kd.R_alloc | apply Kd.R_drewN | apply Kd.R_drew)); exact HO_13.out)) (by decide) hg); have n1_ := Aside0.mk (blk_grown (g := gb113) (o := .cells #[.string ((rd_T47 l0 x56_2).f0), .int .i64 ((rd_T47 l0 x56_2).f1)] 47 (0, 0)) (by (with_reducible repeat (first | refine blk_drewN ?_ _ | refine blk_drew ?_ | refine blk_alloc ?_ _)); exact BK113.out) hg (Kd.R_away HO_13.out (fun _ hk => hk.2))); have n2_ := Aside0.mk (hb); have n3_ := Aside0.mk (ho); clear HO_7; clear BK113; clear HB; clear HO_13; have HO_7 := n0_; have BK113 := n1_; have HB := n2_; have HO121 := n3_; clear n0_ n1_ n2_ n3_; clear ho hb hg hat))
                          go_roundg k2
                          case measure => have := HK1.out; have := HK2.out; omega
                          case rel => exact ⟨(y119), (wrap64 (x56_2 + 1)), (by first | rfl | (simp; done) | (simp [*]; done)), H', ⟨by have := HK1.out; have := HK2.out; omega⟩, ⟨by (with_reducible repeat (first | apply Kd.P_alloc | apply Kd.P_drewN | apply Kd.P_drew)); exact HO_7.out⟩, ⟨by (with_reducible repeat (first | apply Kd.R_alloc | apply Kd.R_drewN | apply Kd.R_drew)); exact Kd.R_mono HO121.out (fun _ hk => trivial)⟩, ⟨by repeat (first | (with_reducible first | exact HB.out | apply below_alloc | apply pw_below_drewN | apply below_drew1 | refine below_set ?_ GE113.out) | exact HB.out)⟩⟩
                        · rw [if_neg c47] at H
                          exact absurd H (by simp)
                    · rw [if_neg c33] at H
                      exact absurd H (by simp)
                  · rw [if_neg c32] at H
                    exact absurd H (by simp)
                · rw [if_neg c31] at H
                  exact absurd H (by simp)
              · rw [if_neg c30] at H
                have c30b0 : decide (x56_2 < (l0.length : Int)) = false := decide_eq_false c30
                clear c30
                by_cases c53 : (x13_2.length : Int) > 64
                · rw [if_pos c53] at H
                  have c53b0 : decide (64 < (x13_2.length : Int)) = true := decide_eq_true c53
                  have c53b1 : decide (64 < x13_2.length) = true := decide_eq_true (by omega)
                  clear c53
                  simp only [Option.some.injEq, Prod.mk.injEq] at H
                  obtain ⟨rfl, rfl⟩ := H
                  obtain ⟨Ao54, co54, eo54⟩ := Kd.R_slice HO_13.out
                  subst eo54
                  go_wp2
                  go_ret2
                  exact ⟨_, by first | rfl | (simp [errW_none, errW_some] <;> rfl) | (simp [*, errW_none, errW_some] <;> rfl), by first | exact Kd.R_nil _ _ _ _ _ | exact Kd.N_nil _ _ _ _ _ | exact Kd.V_nil _ _ _ _ _ | exact Kd.Q_nil _ _ _ _ _ | exact Kd.S_nil _ _ _ _ _, by repeat (first | (with_reducible first | exact HB.out | apply below_alloc | apply pw_below_drewN | apply below_drew1) | exact HB.out)⟩
                · rw [if_neg c53] at H
                  have c53b0 : decide (64 < (x13_2.length : Int)) = false := decide_eq_false c53
                  have c53b1 : decide (64 < x13_2.length) = false := decide_eq_false (by omega)
                  clear c53
                  simp only [Option.some.injEq, Prod.mk.injEq] at H
                  obtain ⟨rfl, rfl⟩ := H
                  obtain ⟨Ao55, co55, eo55⟩ := Kd.R_slice HO_13.out
                  subst eo55
                  go_wp2
                  go_ret2
                  exact ⟨_, by first | rfl | (simp [errW_none, errW_some] <;> rfl) | (simp [*, errW_none, errW_some] <;> rfl), by (with_reducible repeat (first | apply Kd.R_alloc | apply Kd.R_drewN | apply Kd.R_drew)); exact HO_13.out, by repeat (first | (with_reducible first | exact HB.out | apply below_alloc | apply pw_below_drewN | apply below_drew1) | exact HB.out)⟩
  · rw [if_neg c4] at H
    have c4b0 : (t101 == 0) = false := beq_eq_false_iff_ne.mpr c4
    have c4b1 : (t101 != 0) = true := bne_iff_ne.mpr c4
    simp only [Option.some.injEq, Prod.mk.injEq] at H
    obtain ⟨rfl, rfl⟩ := H
    go_enter Try.func14, Try.ntmps14
    go_wp2_with (first | ((with_reducible refine gate_callee (f := 20) rfl ?_); refine goesL_ (some 19) rfl rfl Try.func20 (by kernel_rfl) rfl #[.slice A0 l0.length c0] rfl (by (try simp only [List.map_toArray, List.map_cons, List.map_nil]); first | done | rfl | (simp only [List.length_drop, List.length_take]; rfl)) ?_; (with_reducible refine (term_Check.calls k _ _ l0 t101 _ ?side1 ?side2 A3.out).mono ?_); (case side1 => repeat (first | exact HR0.out | (with_reducible refine Kd.C_alloc ?_ _) | (with_reducible refine Kd.C_drewN ?_ _) | (with_reducible refine Kd.C_drew ?_))); (case side2 => exact HC0.out); rintro e w56 ⟨rfl, hb⟩; refine ⟨_, rfl, ?_⟩; have n0_ := Aside0.mk (below_step (by repeat (first | (with_reducible first | exact HB.out | apply below_alloc | apply pw_below_drewN | apply below_drew1) | exact HB.out)) hb); clear HB; have HB := n0_; clear n0_; (try clear hb); (try clear hb2); (try clear hk); (try clear hi)))
    go_ret2
    exact ⟨_, by first | rfl | (simp [errW_none, errW_some] <;> rfl) | (simp [*, errW_none, errW_some] <;> rfl), by first | exact Kd.R_nil _ _ _ _ _ | exact Kd.N_nil _ _ _ _ _ | exact Kd.V_nil _ _ _ _ _ | exact Kd.Q_nil _ _ _ _ _ | exact Kd.S_nil _ _ _ _ _, by repeat (first | (with_reducible first | exact HB.out | apply below_alloc | apply pw_below_drewN | apply below_drew1) | exact HB.out)⟩

end Go.Proofs.Ytlfhonekcmlomaa.P

-- ==== PF15
namespace Go.Proofs.Ytlfhonekcmlomaa.P
open Go.RowKit Go.Proofs.YtlfhonekcmlomaaW.PrintWords Go.Proofs.YtlfhonekcmlomaaW.PrintLast Go.Proofs.YtlfhonekcmlomaaW.PrintMore
attribute [local go_sem] max2_int min2_int max_two min_two max_three min_three max_four min_four   -- for this text's walks alone
set_option linter.unusedVariables false
set_option linter.unusedSimpArgs false

/-! ### aumbryref05_Copy: function 15 -/
def aumbryref05_Copy.l0 : Nat → List (S44) → List (S44) → Int → Int → Option ((List (S44)))
  | 0, _, _, _, _ => none
  | k + 1, x0, x3, x6, x7 => if x7 < x6 then (if 0 ≤ x7 then (if x7 < (x0.length : Int) then ((aumbryref04_Copy.f ((rd_T44 x0 x7).f1)).bind fun t103 => (if x3.length < 3518437208883 then (aumbryref05_Copy.l0 k x0 (x3 ++ [(⟨(rd_T44 x0 x7).f0, t103⟩ : S44)]) x6 (wrap64 (x7 + 1))) else (none))) else (none)) else (none)) else (some x3)
def aumbryref05_Copy.f (k : Nat) (l0 : List (S44)) : Option ((List (S44))) := aumbryref05_Copy.l0 k l0 ([] : List (S44)) (l0.length : Int) 0
def aumbryref05_Copy.T5 : Bool × List (List Nat × List Nat) := (true, [([], []), ([], []), ([], []), ([1, 2], [1, 2]), ([3], [3]), ([4], [4]), ([], []), ([], []), ([6, 7], [6, 7]), ([8], [8]), ([9], [9]), ([10], [10]), ([5, 11], [5, 11]), ([12], [12]), ([0, 13, 11], [0, 13]), ([14, 14, 0, 1, 2, 3, 4, 5, 6, 7, 8, 9, 10, 11, 12, 13, 14], [0, 14])])
def aumbryref05_Copy.B5 : List Nat := [0, 0, 0, 6, 14, 30, 0, 0, 192, 448, 960, 1984, 4094, 8190, 16383, 32767]
theorem aumbryref05_Copy.tab5 : rtab .any (opsOf Try.f15 5) = aumbryref05_Copy.T5 := by kernel_rfl
theorem aumbryref05_Copy.bits5 : waitsOk aumbryref05_Copy.T5.2 aumbryref05_Copy.B5 = true := by kernel_rfl
set_option maxHeartbeats 8000000 in
set_option maxRecDepth 100000 in
theorem aumbryref05_Copy.calls (k : Nat) (A0 : Option Addr) (c0 : Nat) (l0 : List (S44)) (r : List (S44)) (w : World) (hr0 : Kd.C k44 w A0 l0.length l0) (hc0 : l0.length ≤ c0) (h : aumbryref05_Copy.f k l0 = some r) :
    Calls Try.prog 15 #[.slice A0 l0.length c0] w fun e w' => ∃ v0_ : Value, e = .returned (v0_) ∧ Kd.S k44 44 w' w.heap.size (fun _ => True) v0_ r ∧ Below w.heap.size w w' := by
  have hu44 := Try.underlying44
  have HR0 := Aside0.mk hr0
  have HC0 := Aside0.mk hc0
  clear hr0 hc0
  have HB := Aside0.mk (Below.refl w.heap.size w)
  have H : (aumbryref05_Copy.l0 k l0 ([] : List (S44)) (l0.length : Int) 0) = some r := h
  clear h
  have H' := Aside0.mk H
  clear H
  go_enter Try.func15, Try.ntmps15
  go_wp2
  go_loopg [3, 7] k (fun kq v3 v7 w' => ∃ (x3_1 : List (S44)) (x7_1 : Int), v7 = .int .i64 x7_1 ∧ Aside0 (aumbryref05_Copy.l0 kq l0 x3_1 (l0.length : Int) x7_1 = some r) ∧ Aside0 (kq ≤ k) ∧ Aside0 (Kd.S k44 44 w' w.heap.size (fun _ => True) v3 x3_1) ∧ Aside0 (Below w.heap.size w w'))
  case atStart => exact ⟨(([] : List (S44))), (0), (by first | rfl | (simp; done) | (simp [*]; done)), H', ⟨Nat.le_refl _⟩, ⟨by first | exact Kd.S_nil _ _ _ _ _ | exact Kd.N_nil _ _ _ _ _ | exact Kd.V_nil _ _ _ _ _ | exact Kd.Q_nil _ _ _ _ _ | exact Kd.R_nil _ _ _ _ _⟩, ⟨by repeat (first | (with_reducible first | exact HB.out | apply below_alloc | apply pw_below_drewN | apply below_drew1) | exact HB.out)⟩⟩
  case round =>
    clear H'
    try clear c1
    obtain ⟨x3_1, x7_1, rfl, HA, HK1, HO_3, HB⟩ := hrel
    cases gk with
    | zero => exact absurd HA.out (by simp [aumbryref05_Copy.l0])
    | succ k1 =>
      have H := HA.out
      clear HA
      simp only [aumbryref05_Copy.l0] at H
      by_cases c2 : x7_1 < (l0.length : Int)
      · rw [if_pos c2] at H
        have c2b0 : decide (x7_1 < (l0.length : Int)) = true := decide_eq_true c2
        clear c2
        by_cases c3 : 0 ≤ x7_1
        · rw [if_pos c3] at H
          have c3b0 : decide (0 ≤ x7_1) = true := decide_eq_true c3
          clear c3
          by_cases c4 : x7_1 < (l0.length : Int)
          · rw [if_pos c4] at H
            have c4b0 : decide (x7_1 < (l0.length : Int)) = true := decide_eq_true c4
            clear c4
            replace H := Option.bind_eq_some_iff.mp H
            obtain ⟨t103, A50, H⟩ := H
            replace H : (if x3_1.length < 3518437208883 then (aumbryref05_Copy.l0 k1 l0 (x3_1 ++ [(⟨(rd_T44 l0 x7_1).f0, t103⟩ : S44)]) (l0.length : Int) (wrap64 (x7_1 + 1))) else (none)) = some r := H
            have A5 := Aside0.mk A50
            clear A50
            by_cases c6 : x3_1.length < 3518437208883
            · rw [if_pos c6] at H
              have LMc6 := Aside0.mk c6
              clear c6
              obtain ⟨y106, hy106⟩ : ∃ y_ : List (S44), y_ = (x3_1 ++ [(⟨(rd_T44 l0 x7_1).f0, t103⟩ : S44)]) := ⟨_, rfl⟩
              replace H : (aumbryref05_Copy.l0 k1 l0 y106 (l0.length : Int) (wrap64 (x7_1 + 1))) = some r := by first | (rw [hy106]; with_reducible exact H) | (have H2_ := (Option.bind_some _ _).symm.trans H; rw [hy106]; with_reducible exact H2_) | (have H2_ := (Option.bind_some _ _).symm.trans H; with_reducible exact H2_) | with_reducible exact H | (rw [hy106]; exact H) | exact H
              have Ny106 := Aside0.mk hy106
              clear hy106
              have H' := Aside0.mk H
              clear H
              try go_wp2
              have n0_ := Aside0.mk (Kd.S_drew HO_3.out)
              have n1_ := Aside0.mk (below_drew1 HB.out)
              clear HO_3
              clear HB
              have HO_3 := n0_
              have HB := n1_
              clear n0_ n1_
              have p101 : 0 ≤ (x7_1 : Int) := of_decide_eq_true (by first | (with_reducible assumption) | assumption)
              have q101 : x7_1 < (l0.length : Int) := of_decide_eq_true (by first | (with_reducible assumption) | assumption)
              obtain ⟨ad101, A101_1, c101_1, e101, hx101_0, hx101_1, hl101_1, hi101_1⟩ := at_T44 HR0.out x7_1 p101 q101
              have hw101_1 := hx101_1
              have hw101_0 := hx101_0
              cases e101
              replace hx101_0 := (HB.out.cell (World.block_lt_of_cell? w _ hx101_0)).trans hx101_0
              replace hx101_1 := (HB.out.cell (World.block_lt_of_cell? w _ hx101_1)).trans hx101_1
              have HR101_1 := Aside0.mk hi101_1
              have HC101_1 := Aside0.mk hl101_1
              clear hi101_1 hl101_1
              replace p101 := eq_true p101
              replace q101 := eq_true q101
              have p102 : 0 ≤ (x7_1 : Int) := of_decide_eq_true (by first | (with_reducible assumption) | assumption)
              have q102 : x7_1 < (l0.length : Int) := of_decide_eq_true (by first | (with_reducible assumption) | assumption)
              obtain ⟨ad102, A102_1, c102_1, e102, hx102_0, hx102_1, hl102_1, hi102_1⟩ := at_T44 HR0.out x7_1 p102 q102
              have hw102_1 := hx102_1
              have hw102_0 := hx102_0
              obtain rfl : ad101 = ad102 := (by injection e102)
              replace hx102_0 := (HB.out.cell (World.block_lt_of_cell? w _ hx102_0)).trans hx102_0
              replace hx102_1 := (HB.out.cell (World.block_lt_of_cell? w _ hx102_1)).trans hx102_1
              have HR102_1 := Aside0.mk hi102_1
              have HC102_1 := Aside0.mk hl102_1
              clear hi102_1 hl102_1
              replace p102 := eq_true p102
              replace q102 := eq_true q102
              have ea_ := Option.some.inj (hx101_1.symm.trans hx102_1)
              injection ea_ with ea_ en_ ec_
              subst ea_
              subst ec_
              clear en_
              refine start_ (n := 16) (S := fun w' => w'.cell? (ad101.add ((x7_1).toNat * 2)) = some (.string ((rd_T44 l0 x7_1).f0)) ∧ w'.cell? ⟨(ad101.add ((x7_1).toNat * 2)).block, (ad101.add ((x7_1).toNat * 2)).off + 1, none⟩ = some (.slice A101_1 ((rd_T44 l0 x7_1).f1).length c101_1) ∧ w'.cell? (ad101.add ((x7_1).toNat * 2)) = some (.string ((rd_T44 l0 x7_1).f0)) ∧ w'.cell? ⟨(ad101.add ((x7_1).toNat * 2)).block, (ad101.add ((x7_1).toNat * 2)).off + 1, none⟩ = some (.slice A101_1 ((rd_T44 l0 x7_1).f1).length c101_1)) (ds := []) #[false, false, false, false, false, false, false, false, false, false, false, false, false, false, false, false] (by kernel_rfl) rfl rfl ⟨((HB.out.cell (World.block_lt_of_cell? w _ hw101_0)).trans hw101_0), ((HB.out.cell (World.block_lt_of_cell? w _ hw101_1)).trans hw101_1), ((HB.out.cell (World.block_lt_of_cell? w _ hw102_0)).trans hw102_0), ((HB.out.cell (World.block_lt_of_cell? w _ hw102_1)).trans hw102_1)⟩ (fun hHeld => ?_); refine with_tabW aumbryref05_Copy.tab5 aumbryref05_Copy.bits5 (fun HT_ HW_ => ?_)
              generalize wr.drew = w7 at HO_3 HB HR101_1 HR102_1 hx101_0 hx101_1 hx102_0 hx102_1 hHeld ⊢
              refine pure_ (i := 0) (N := some 10) (v := ?_) (a' := ?_) #[true, false, false, false, false, false, false, false, false, false, false, false, false, false, false, false] rfl rfl (any_of HT_.out (by kernel_rfl)) (fun _ _ _ h => h) (Or.inl ⟨by rfl, ?_⟩) ?_ ?_
              rotate_left
              · intro w'
                go_simp
                with_reducible rfl
              rotate_left
              · simp only [Act.put, List.setIfInBounds_toArray, List.set_cons_zero, List.set_cons_succ, i64_w, i32_w]
                rfl
              refine pure_ (i := 1) (N := some 11) (v := ?_) (a' := ?_) #[true, true, false, false, false, false, false, false, false, false, false, false, false, false, false, false] rfl rfl (any_of HT_.out (by kernel_rfl)) (fun _ _ _ h => h) (Or.inl ⟨by rfl, ?_⟩) ?_ ?_
              rotate_left
              · intro w'
                go_simp
                with_reducible rfl
              rotate_left
              · simp only [Act.put, List.setIfInBounds_toArray, List.set_cons_zero, List.set_cons_succ, i64_w, i32_w]
                rfl
              refine pure_ (i := 2) (N := some 12) (v := ?_) (a' := ?_) #[true, true, true, false, false, false, false, false, false, false, false, false, false, false, false, false] rfl rfl (any_of HT_.out (by kernel_rfl)) (fun _ _ _ h => h) (Or.inl ⟨by rfl, ?_⟩) ?_ ?_
              rotate_left
              · intro w'
                go_simp
                with_reducible rfl
              rotate_left
              · simp only [Act.put, List.setIfInBounds_toArray, List.set_cons_zero, List.set_cons_succ, i64_w, i32_w]
                rfl
              refine pure_ (i := 3) (N := some 13) (v := ?_) (a' := ?_) #[true, true, true, true, false, false, false, false, false, false, false, false, false, false, false, false] rfl rfl (any_of HT_.out (by kernel_rfl)) (fun _ _ _ h => h) (Or.inl ⟨by rfl, ?_⟩) ?_ ?_
              rotate_left
              · intro w'
                go_simp
                with_reducible rfl
              rotate_left
              · simp only [Act.put, List.setIfInBounds_toArray, List.set_cons_zero, List.set_cons_succ, i64_w, i32_w]
                rfl
              refine pure_ (i := 4) (N := some 14) (v := ?_) (a' := ?_) #[true, true, true, true, true, false, false, false, false, false, false, false, false, false, false, false] rfl rfl (any_of HT_.out (by kernel_rfl)) (fun _ _ _ h => h) (Or.inl ⟨by rfl, ?_⟩) ?_ ?_
              rotate_left
              · intro w'
                go_simp
                with_reducible rfl
              rotate_left
              · simp only [Act.put, List.setIfInBounds_toArray, List.set_cons_zero, List.set_cons_succ, i64_w, i32_w]
                rfl
              refine pure_ (i := 6) (N := some 16) (v := ?_) (a' := ?_) #[true, true, true, true, true, false, true, false, false, false, false, false, false, false, false, false] rfl rfl (any_of HT_.out (by kernel_rfl)) (fun _ _ _ h => h) (Or.inl ⟨by rfl, ?_⟩) ?_ ?_
              rotate_left
              · intro w'
                go_simp
                with_reducible rfl
              rotate_left
              · simp only [Act.put, List.setIfInBounds_toArray, List.set_cons_zero, List.set_cons_succ, i64_w, i32_w]
                rfl
              refine pure_ (i := 7) (N := some 17) (v := ?_) (a' := ?_) #[true, true, true, true, true, false, true, true, false, false, false, false, false, false, false, false] rfl rfl (any_of HT_.out (by kernel_rfl)) (fun _ _ _ h => h) (Or.inl ⟨by rfl, ?_⟩) ?_ ?_
              rotate_left
              · intro w'
                go_simp
                with_reducible rfl
              rotate_left
              · simp only [Act.put, List.setIfInBounds_toArray, List.set_cons_zero, List.set_cons_succ, i64_w, i32_w]
                rfl
              refine pure_ (i := 8) (N := some 18) (v := ?_) (a' := ?_) #[true, true, true, true, true, false, true, true, true, false, false, false, false, false, false, false] rfl rfl (any_of HT_.out (by kernel_rfl)) (fun _ _ _ h => h) (Or.inl ⟨by rfl, ?_⟩) ?_ ?_
              rotate_left
              · intro w'
                go_simp
                with_reducible rfl
              rotate_left
              · simp only [Act.put, List.setIfInBounds_toArray, List.set_cons_zero, List.set_cons_succ, i64_w, i32_w]
                rfl
              refine pure_ (i := 9) (N := some 19) (v := ?_) (a' := ?_) #[true, true, true, true, true, false, true, true, true, true, false, false, false, false, false, false] rfl rfl (any_of HT_.out (by kernel_rfl)) (fun _ _ _ h => h) (Or.inl ⟨by rfl, ?_⟩) ?_ ?_
              rotate_left
              · intro w'
                go_simp
                with_reducible rfl
              rotate_left
              · simp only [Act.put, List.setIfInBounds_toArray, List.set_cons_zero, List.set_cons_succ, i64_w, i32_w]
                rfl
              refine take_ (i := 5) (N := some 15) (v := ?_) (a' := ?_) #[true, true, true, true, true, true, true, true, true, true, false, false, false, false, false, false] rfl rfl (take_ofW HT_.out HW_.out (by kernel_rfl)) (fun _ _ _ h => h) (Or.inl ⟨by rfl, ?_⟩) hHeld ?_ ?_
              rotate_left
              · rintro w' ⟨s0, s1, s2, s3⟩
                go_simp
                with_reducible rfl
              rotate_left
              · simp only [Act.put, List.setIfInBounds_toArray, List.set_cons_zero, List.set_cons_succ, i64_w, i32_w]
                rfl
              refine take_ (i := 10) (N := some 20) (v := ?_) (a' := ?_) #[true, true, true, true, true, true, true, true, true, true, true, false, false, false, false, false] rfl rfl (take_ofW HT_.out HW_.out (by kernel_rfl)) (fun _ _ _ h => h) (Or.inl ⟨by rfl, ?_⟩) hHeld ?_ ?_
              rotate_left
              · rintro w' ⟨s0, s1, s2, s3⟩
                go_simp
                with_reducible rfl
              rotate_left
              · simp only [Act.put, List.setIfInBounds_toArray, List.set_cons_zero, List.set_cons_succ, i64_w, i32_w]
                rfl
              refine one_ (i := 11) (N := some 21) #[true, true, true, true, true, true, true, true, true, true, true, true, false, false, false, false] rfl rfl (one_of HT_.out (by kernel_rfl)) (by decide) (fun K hK => ?_)
              refine goes_ Try.func25 (by kernel_rfl) rfl #[.slice A101_1 ((rd_T44 l0 x7_1).f1).length c101_1] (by rfl) rfl rfl (by (try simp only [List.map_toArray, List.map_cons, List.map_nil]); first | done | rfl | (simp only [List.length_drop, List.length_take]; rfl)) ?_
              with_reducible refine (aumbryref04_Copy.calls _ _ ((rd_T44 l0 x7_1).f1) t103 _ ?side1 ?side2 A5.out).mono ?_
              (case side1 => repeat (first | exact (Kd.C_below HR102_1.out HB.out) | (with_reducible refine Kd.C_alloc ?_ _) | (with_reducible refine Kd.C_drewN ?_ _) | (with_reducible refine Kd.C_drew ?_)))
              (case side2 => exact HC102_1.out)
              rintro e w8 ⟨v104, rfl, ho0, hb⟩
              refine ⟨_, rfl, ?_⟩
              have n0_ := Aside0.mk (Kd.S_elder' (by (with_reducible repeat (first | apply Kd.S_alloc | apply Kd.S_drewN | apply Kd.S_drew)); exact HO_3.out) (Kd.R_base ho0) hb)
              have n1_ := Aside0.mk (Kd.R_lower ho0 (below_size (by repeat (first | (with_reducible first | exact HB.out | apply below_alloc | apply pw_below_drewN | apply below_drew1) | exact HB.out))))
              have n2_ := Aside0.mk (below_step (by repeat (first | (with_reducible first | exact HB.out | apply below_alloc | apply pw_below_drewN | apply below_drew1) | exact HB.out)) hb)
              clear HO_3
              clear HB
              have HO_3 := n0_
              have HO105 := n1_
              have HB := n2_
              clear n0_ n1_ n2_
              (try clear hb)
              (try clear hb2)
              (try clear hk)
              (try clear hi)
              (try clear ho0)
              obtain ⟨Ao9, co9, eo9⟩ := Kd.R_slice HO105.out
              (first | subst eo9 | (injection eo9 with f1_ f2_ f3_; have f4_ := f1_.symm; have f5_ := f3_.symm; clear f1_ f2_ f3_; subst f4_; subst f5_))
              refine hK.out _ _ ⟨((HB.out.cell (World.block_lt_of_cell? w _ hw101_0)).trans hw101_0), ((HB.out.cell (World.block_lt_of_cell? w _ hw101_1)).trans hw101_1), ((HB.out.cell (World.block_lt_of_cell? w _ hw102_0)).trans hw102_0), ((HB.out.cell (World.block_lt_of_cell? w _ hw102_1)).trans hw102_1)⟩ (fun hHeld => ?_)
              clear hK K
              refine norm_ (a' := ?_) ?_ ?_
              rotate_left
              · show Act.put _ (some 21) _ = _
                simp only [Act.put, List.setIfInBounds_toArray, List.set_cons_zero, List.set_cons_succ, i64_w, i32_w]
                rfl
              refine pure_ (i := 12) (N := some 22) (v := ?_) (a' := ?_) #[true, true, true, true, true, true, true, true, true, true, true, true, true, false, false, false] rfl rfl (any_of HT_.out (by kernel_rfl)) (fun _ _ _ h => h) (Or.inl ⟨by rfl, ?_⟩) ?_ ?_
              rotate_left
              · intro w'
                go_simp
                with_reducible rfl
              rotate_left
              · simp only [Act.put, List.setIfInBounds_toArray, List.set_cons_zero, List.set_cons_succ, i64_w, i32_w]
                rfl
              refine one_ (i := 13) (N := some 23) #[true, true, true, true, true, true, true, true, true, true, true, true, true, true, false, false] rfl rfl (one_of HT_.out (by kernel_rfl)) (by decide) (fun K hK => ?_)
              refine value_ (w1 := ?_) (v := ?_) (by rfl) rfl ?_ ?_
              rotate_left 2
              · go_simp
                constructor
                · rfl
                · rfl
              refine hK.out _ _ ⟨(World.cell?_alloc_lt _ _ _ (World.block_lt_of_cell? _ _ (((HB.out.cell (World.block_lt_of_cell? w _ hw101_0)).trans hw101_0)))).trans (((HB.out.cell (World.block_lt_of_cell? w _ hw101_0)).trans hw101_0)), (World.cell?_alloc_lt _ _ _ (World.block_lt_of_cell? _ _ (((HB.out.cell (World.block_lt_of_cell? w _ hw101_1)).trans hw101_1)))).trans (((HB.out.cell (World.block_lt_of_cell? w _ hw101_1)).trans hw101_1)), (World.cell?_alloc_lt _ _ _ (World.block_lt_of_cell? _ _ (((HB.out.cell (World.block_lt_of_cell? w _ hw102_0)).trans hw102_0)))).trans (((HB.out.cell (World.block_lt_of_cell? w _ hw102_0)).trans hw102_0)), (World.cell?_alloc_lt _ _ _ (World.block_lt_of_cell? _ _ (((HB.out.cell (World.block_lt_of_cell? w _ hw102_1)).trans hw102_1)))).trans (((HB.out.cell (World.block_lt_of_cell? w _ hw102_1)).trans hw102_1))⟩ (fun hHeld => ?_)
              clear hK K
              refine norm_ (a' := ?_) ?_ ?_
              rotate_left
              · show Act.put _ (some 23) _ = _
                simp only [Act.put, List.setIfInBounds_toArray, List.set_cons_zero, List.set_cons_succ, i64_w, i32_w]
                rfl
              refine one_ (i := 14) (N := some 24) #[true, true, true, true, true, true, true, true, true, true, true, true, true, true, true, false] rfl rfl (one_of HT_.out (by kernel_rfl)) (by decide) (fun K hK => ?_)
              refine Kd.S_append_step k44 (w0 := w) w.heap.size (by rfl) (.tmp 10) (.tmp 23) 25 44 (.agg #[(.string ⟨#[]⟩), (.slice none 0 0)]) 40 rfl Try.underlying25 info44 rfl (by decide) (by omega) u3 x3_1 (⟨(rd_T44 l0 x7_1).f0, t103⟩ : S44) [.string ((rd_T44 l0 x7_1).f0), .slice Ao9 t103.length co9] (fun _ => True) (fun k_ => some k_ = (.slice Ao9 t103.length co9 : Value).ownBlock) rfl rfl ?aP (fun k_ hk_ => ((Kd.R_mono (ok' := fun k_ => ((fun _ => True)) k_ ∧ some k_ ≠ (u3 : Value).ownBlock) (Kd.R_apart' (HO105.out) (Kd.S_typed HO_3.out) (by decide)) (fun k_ hk => ⟨trivial, hk.2⟩))).1 k_ hk_.symm) ?aF ?aO ?aB ?aS ?aL ?_
              (case aP => exact k44_mkM _ _ _ (⟨(rd_T44 l0 x7_1).f0, t103⟩ : S44) (Kd.R_mono (Kd.R_tight rfl (Kd.R_mono (ok' := fun k_ => ((fun _ => True)) k_ ∧ some k_ ≠ (u3 : Value).ownBlock) (Kd.R_apart' (HO105.out) (Kd.S_typed HO_3.out) (by decide)) (fun k_ hk => ⟨trivial, hk.2⟩))) (fun _ h_ => h_)))
              (case aB => exact (by repeat (first | (with_reducible first | exact HB.out | apply below_alloc | apply pw_below_drewN | apply below_drew1) | exact HB.out)))
              (case aF => exact (fun _ _ => trivial))
              (case aO => exact (by (with_reducible repeat (first | apply Kd.S_alloc | apply Kd.S_drewN | apply Kd.S_drew)); exact Kd.S_mono HO_3.out (fun k_ hk => ⟨trivial, fun e_ => hk.2 e_⟩)))
              (case aS => exact (below_size (by repeat (first | (with_reducible first | exact HB.out | apply below_alloc | apply pw_below_drewN | apply below_drew1) | exact HB.out))))
              (case aL => have := LMc6.out; omega)
              intro v107 w10 ho hb hg hat
              rw [← Ny106.out] at ho
              have n0_ := Aside0.mk (hb)
              have n1_ := Aside0.mk (ho)
              clear HB
              clear HO_3
              clear HO105
              have HB := n0_
              have HO108 := n1_
              clear n0_ n1_
              clear ho hb hg hat
              refine hK.out _ _ ⟨((HB.out.cell (World.block_lt_of_cell? w _ hw101_0)).trans hw101_0), ((HB.out.cell (World.block_lt_of_cell? w _ hw101_1)).trans hw101_1), ((HB.out.cell (World.block_lt_of_cell? w _ hw102_0)).trans hw102_0), ((HB.out.cell (World.block_lt_of_cell? w _ hw102_1)).trans hw102_1)⟩ (fun hHeld => ?_)
              clear hK K
              refine norm_ (a' := ?_) ?_ ?_
              rotate_left
              · show Act.put _ (some 24) _ = _
                simp only [Act.put, List.setIfInBounds_toArray, List.set_cons_zero, List.set_cons_succ, i64_w, i32_w]
                rfl
              refine pure_ (i := 15) (N := some 3) (v := ?_) (a' := ?_) #[true, true, true, true, true, true, true, true, true, true, true, true, true, true, true, true] rfl rfl (any_of HT_.out (by kernel_rfl)) (fun _ _ _ h => h) (Or.inl ⟨by rfl, ?_⟩) ?_ ?_
              rotate_left
              · intro w'
                go_simp
                with_reducible rfl
              rotate_left
              · simp only [Act.put, List.setIfInBounds_toArray, List.set_cons_zero, List.set_cons_succ, i64_w, i32_w]
                rfl
              refine done_ (done_of HT_.out (by kernel_rfl)) ?_
              try go_wp2
              go_roundg k1
              case measure => have := HK1.out; omega
              case rel => exact ⟨(y106), (wrap64 (x7_1 + 1)), (by first | rfl | (simp; done) | (simp [*]; done)), H', ⟨by have := HK1.out; omega⟩, ⟨by (with_reducible repeat (first | apply Kd.S_alloc | apply Kd.S_drewN | apply Kd.S_drew)); exact HO108.out⟩, ⟨by repeat (first | (with_reducible first | exact HB.out | apply below_alloc | apply pw_below_drewN | apply below_drew1) | exact HB.out)⟩⟩
            · rw [if_neg c6] at H
              exact absurd H (by simp)
          · rw [if_neg c4] at H
            exact absurd H (by simp)
        · rw [if_neg c3] at H
          exact absurd H (by simp)
      · rw [if_neg c2] at H
        have c2b0 : decide (x7_1 < (l0.length : Int)) = false := decide_eq_false c2
        clear c2
        obtain rfl := Option.some.inj H
        go_wp2
        go_ret
        exact ⟨_, by first | rfl | (simp [errW_none, errW_some] <;> rfl) | (simp [*, errW_none, errW_some] <;> rfl), by (with_reducible repeat (first | apply Kd.S_alloc | apply Kd.S_drewN | apply Kd.S_drew)); exact HO_3.out, by repeat (first | (with_reducible first | exact HB.out | apply below_alloc | apply pw_below_drewN | apply below_drew1) | exact HB.out)⟩

end Go.Proofs.Ytlfhonekcmlomaa.P

-- ==== PF17
namespace Go.Proofs.Ytlfhonekcmlomaa.P
open Go.RowKit Go.Proofs.YtlfhonekcmlomaaW.PrintWords Go.Proofs.YtlfhonekcmlomaaW.PrintLast Go.Proofs.YtlfhonekcmlomaaW.PrintMore
attribute [local go_sem] max2_int min2_int max_two min_two max_three min_three max_four min_four   -- for this text's walks alone
set_option linter.unusedVariables false
set_option linter.unusedSimpArgs false

attribute [local go_sem high] eqA47
/-! ### aumbryref04_Same: function 17 -/
def aumbryref04_Same.l0 : Nat → List (S47) → List (S47) → Int → Int → Option (Bool)
  | 0, _, _, _, _ => none
  | k + 1, x0, x1, x12, x13 => if x13 < x12 then (if 0 ≤ x13 then (if x13 < (x0.length : Int) then (if x13 < (x1.length : Int) then (if (!((((rd_T47 x0 x13).f0).toList) == (((rd_T47 x1 x13).f0).toList)) || (!(((rd_T47 x0 x13).f1) == ((rd_T47 x1 x13).f1)))) = true then (some false) else (aumbryref04_Same.l0 k x0 x1 x12 (wrap64 (x13 + 1)))) else (none)) else (none)) else (none)) else (some true)
def aumbryref04_Same.f (k : Nat) (l0 : List (S47)) (l1 : List (S47)) : Option (Bool) := if (l0.length : Int) = (l1.length : Int) then (aumbryref04_Same.l0 k l0 l1 (l0.length : Int) 0) else (some false)
set_option maxHeartbeats 8000000 in
set_option maxRecDepth 100000 in
theorem aumbryref04_Same.calls (k : Nat) (A0 : Option Addr) (c0 : Nat) (l0 : List (S47)) (A1 : Option Addr) (c1 : Nat) (l1 : List (S47)) (r : Bool) (w : World) (hr0 : Kd.C k47 w A0 l0.length l0) (hc0 : l0.length ≤ c0) (hr1 : Kd.C k47 w A1 l1.length l1) (hc1 : l1.length ≤ c1) (h : aumbryref04_Same.f k l0 l1 = some r) :
    Calls Try.prog 17 #[.slice A0 l0.length c0, .slice A1 l1.length c1] w fun e w' => e = .returned (.bool r) ∧ Drawn0 w w' := by
  have hu47 := Try.underlying47
  have HR0 := Aside0.mk hr0
  have HC0 := Aside0.mk hc0
  clear hr0 hc0
  have HR1 := Aside0.mk hr1
  have HC1 := Aside0.mk hc1
  clear hr1 hc1
  have H : (if (l0.length : Int) = (l1.length : Int) then (aumbryref04_Same.l0 k l0 l1 (l0.length : Int) 0) else (some false)) = some r := h
  clear h
  by_cases c3 : (l0.length : Int) = (l1.length : Int)
  · rw [if_pos c3] at H
    have c3b0 : ((l0.length : Int) == (l1.length : Int)) = true := beq_iff_eq.mpr c3
    have c3b1 : ((l0.length : Int) != (l1.length : Int)) = false := bne_eq_false_iff_eq.mpr c3
    have c3b2 : (l0.length == l1.length) = true := by first | simpa using c3 | (simp at c3 ⊢; omega)
    clear c3
    have H' := Aside0.mk H
    clear H
    go_enter Try.func17, Try.ntmps17
    go_wp2
    repeat (go_quiet (fail); try go_wp2)
    go_loopg [13] k (fun kq v13 w' => ∃ (x13_1 : Int), v13 = .int .i64 x13_1 ∧ Aside0 (aumbryref04_Same.l0 kq l0 l1 (l0.length : Int) x13_1 = some r) ∧ Aside0 (kq ≤ k) ∧ Drawn0 w w')
    case atStart => exact ⟨(0), (by first | rfl | (simp; done) | (simp [*]; done)), H', ⟨Nat.le_refl _⟩, by repeat (first | exact Drawn0.refl _ | apply Drawn0.step)⟩
    case round =>
      clear H'
      try clear c1
      try clear p2
      try clear c3
      try clear c3b0
      try clear c3b1
      try clear c3b2
      obtain ⟨x13_1, rfl, HA, HK1, ⟨m1, rfl⟩⟩ := hrel
      cases gk with
      | zero => exact absurd HA.out (by simp [aumbryref04_Same.l0])
      | succ k1 =>
        have H := HA.out
        clear HA
        simp only [aumbryref04_Same.l0] at H
        by_cases c4 : x13_1 < (l0.length : Int)
        · rw [if_pos c4] at H
          have c4b0 : decide (x13_1 < (l0.length : Int)) = true := decide_eq_true c4
          clear c4
          by_cases c5 : 0 ≤ x13_1
          · rw [if_pos c5] at H
            have c5b0 : decide (0 ≤ x13_1) = true := decide_eq_true c5
            clear c5
            by_cases c6 : x13_1 < (l0.length : Int)
            · rw [if_pos c6] at H
              have c6b0 : decide (x13_1 < (l0.length : Int)) = true := decide_eq_true c6
              clear c6
              by_cases c7 : x13_1 < (l1.length : Int)
              · rw [if_pos c7] at H
                have c7b0 : decide (x13_1 < (l1.length : Int)) = true := decide_eq_true c7
                clear c7
                by_cases c8 : (!((((rd_T47 l0 x13_1).f0).toList) == (((rd_T47 l1 x13_1).f0).toList)) || (!(((rd_T47 l0 x13_1).f1) == ((rd_T47 l1 x13_1).f1)))) = true
                · rw [if_pos c8] at H
                  have c8b0 : (!((((rd_T47 l0 x13_1).f0).toList) == (((rd_T47 l1 x13_1).f0).toList)) || (!(((rd_T47 l0 x13_1).f1) == ((rd_T47 l1 x13_1).f1)))) = true := c8
                  clear c8
                  obtain rfl := Option.some.inj H
                  have p101 : 0 ≤ (x13_1 : Int) := of_decide_eq_true (by first | (with_reducible assumption) | assumption)
                  have q101 : x13_1 < (l0.length : Int) := of_decide_eq_true (by first | (with_reducible assumption) | assumption)
                  obtain ⟨ad101, e101, hx101_0, hx101_1⟩ := at_T47 HR0.out x13_1 p101 q101
                  cases e101
                  replace p101 := eq_true p101
                  replace q101 := eq_true q101
                  have p102 : 0 ≤ (x13_1 : Int) := of_decide_eq_true (by first | (with_reducible assumption) | assumption)
                  have q102 : x13_1 < (l1.length : Int) := of_decide_eq_true (by first | (with_reducible assumption) | assumption)
                  obtain ⟨ad102, e102, hx102_0, hx102_1⟩ := at_T47 HR1.out x13_1 p102 q102
                  cases e102
                  replace p102 := eq_true p102
                  replace q102 := eq_true q102
                  go_wp2
                  repeat (go_quiet (fail); try go_wp2)
                  go_ret
                  exact ⟨by first | rfl | (simp; done) | (simp [*]; done), by repeat (first | exact Drawn0.refl _ | apply Drawn0.step)⟩
                · rw [if_neg c8] at H
                  have c8b0 : (!((((rd_T47 l0 x13_1).f0).toList) == (((rd_T47 l1 x13_1).f0).toList)) || (!(((rd_T47 l0 x13_1).f1) == ((rd_T47 l1 x13_1).f1)))) = false := by simpa using c8
                  clear c8
                  have H' := Aside0.mk H
                  clear H
                  have p101 : 0 ≤ (x13_1 : Int) := of_decide_eq_true (by first | (with_reducible assumption) | assumption)
                  have q101 : x13_1 < (l0.length : Int) := of_decide_eq_true (by first | (with_reducible assumption) | assumption)
                  obtain ⟨ad101, e101, hx101_0, hx101_1⟩ := at_T47 HR0.out x13_1 p101 q101
                  cases e101
                  replace p101 := eq_true p101
                  replace q101 := eq_true q101
                  have p102 : 0 ≤ (x13_1 : Int) := of_decide_eq_true (by first | (with_reducible assumption) | assumption)
                  have q102 : x13_1 < (l1.length : Int) := of_decide_eq_true (by first | (with_reducible assumption) | assumption)
                  obtain ⟨ad102, e102, hx102_0, hx102_1⟩ := at_T47 HR1.out x13_1 p102 q102
                  cases e102
                  replace p102 := eq_true p102
                  replace q102 := eq_true q102
                  go_wp2
                  repeat (go_quiet (fail); try go_wp2)
                  go_roundg k1
                  case measure => have := HK1.out; omega
                  case rel => exact ⟨(wrap64 (x13_1 + 1)), (by first | rfl | (simp; done) | (simp [*]; done)), H', ⟨by have := HK1.out; omega⟩, by repeat (first | exact Drawn0.refl _ | apply Drawn0.step)⟩
              · rw [if_neg c7] at H
                exact absurd H (by simp)
            · rw [if_neg c6] at H
              exact absurd H (by simp)
          · rw [if_neg c5] at H
            exact absurd H (by simp)
        · rw [if_neg c4] at H
          have c4b0 : decide (x13_1 < (l0.length : Int)) = false := decide_eq_false c4
          clear c4
          obtain rfl := Option.some.inj H
          go_wp2
          repeat (go_quiet (fail); try go_wp2)
          go_ret
          exact ⟨by first | rfl | (simp; done) | (simp [*]; done), by repeat (first | exact Drawn0.refl _ | apply Drawn0.step)⟩
  · rw [if_neg c3] at H
    have c3b0 : ((l0.length : Int) == (l1.length : Int)) = false := beq_eq_false_iff_ne.mpr c3
    have c3b1 : ((l0.length : Int) != (l1.length : Int)) = true := bne_iff_ne.mpr c3
    have c3b2 : (l0.length == l1.length) = false := by first | simpa using c3 | (simp at c3 ⊢; omega)
    obtain rfl := Option.some.inj H
    go_enter Try.func17, Try.ntmps17
    go_wp2
    repeat (go_quiet (fail); try go_wp2)
    go_ret
    exact ⟨by first | rfl | (simp; done) | (simp [*]; done), by repeat (first | exact Drawn0.refl _ | apply Drawn0.step)⟩

end Go.Proofs.Ytlfhonekcmlomaa.P

-- ==== PF19
namespace Go.Proofs.Ytlfhonekcmlomaa.P
open Go.RowKit Go.Proofs.YtlfhonekcmlomaaW.PrintWords Go.Proofs.YtlfhonekcmlomaaW.PrintLast Go.Proofs.YtlfhonekcmlomaaW.PrintMore
attribute [local go_sem] max2_int min2_int max_two min_two max_three min_three max_four min_four   -- for this text's walks alone
set_option linter.unusedVariables false
set_option linter.unusedSimpArgs false

/-! ### aumbryref05_At: function 19 -/
def aumbryref05_At.l0 : Nat → List (S44) → ByteArray → Int → Int → Option (Int)
  | 0, _, _, _, _ => none
  | k + 1, x0, x1, x7, x8 => if x8 < x7 then (if 0 ≤ x8 then (if x8 < (x0.length : Int) then (if ((rd_T44 x0 x8).f0).toList = x1.toList then (some x8) else (aumbryref05_At.l0 k x0 x1 x7 (wrap64 (x8 + 1)))) else (none)) else (none)) else (some (-1))
def aumbryref05_At.f (k : Nat) (l0 : List (S44)) (a1 : ByteArray) : Option (Int) := aumbryref05_At.l0 k l0 a1 (l0.length : Int) 0
set_option maxHeartbeats 8000000 in
set_option maxRecDepth 100000 in
theorem aumbryref05_At.calls (k : Nat) (A0 : Option Addr) (c0 : Nat) (l0 : List (S44)) (a1 : ByteArray) (r : Int) (w : World) (hr0 : Kd.C k44 w A0 l0.length l0) (hc0 : l0.length ≤ c0) (h : aumbryref05_At.f k l0 a1 = some r) :
    Calls Try.prog 19 #[.slice A0 l0.length c0, .string a1] w fun e w' => e = .returned (.int .i64 r) ∧ Drawn0 w w' := by
  have HR0 := Aside0.mk hr0
  have HC0 := Aside0.mk hc0
  clear hr0 hc0
  have H : (aumbryref05_At.l0 k l0 a1 (l0.length : Int) 0) = some r := h
  clear h
  have H' := Aside0.mk H
  clear H
  go_enter Try.func19, Try.ntmps19
  go_wp2
  go_loopg [8] k (fun kq v8 w' => ∃ (x8_1 : Int), v8 = .int .i64 x8_1 ∧ Aside0 (aumbryref05_At.l0 kq l0 a1 (l0.length : Int) x8_1 = some r) ∧ Aside0 (kq ≤ k) ∧ Drawn0 w w')
  case atStart => exact ⟨(0), (by first | rfl | (simp; done) | (simp [*]; done)), H', ⟨Nat.le_refl _⟩, by repeat (first | exact Drawn0.refl _ | apply Drawn0.step)⟩
  case round =>
    clear H'
    try clear c1
    try clear p2
    obtain ⟨x8_1, rfl, HA, HK1, ⟨m1, rfl⟩⟩ := hrel
    cases gk with
    | zero => exact absurd HA.out (by simp [aumbryref05_At.l0])
    | succ k1 =>
      have H := HA.out
      clear HA
      simp only [aumbryref05_At.l0] at H
      by_cases c3 : x8_1 < (l0.length : Int)
      · rw [if_pos c3] at H
        have c3b0 : decide (x8_1 < (l0.length : Int)) = true := decide_eq_true c3
        clear c3
        by_cases c4 : 0 ≤ x8_1
        · rw [if_pos c4] at H
          have c4b0 : decide (0 ≤ x8_1) = true := decide_eq_true c4
          clear c4
          by_cases c5 : x8_1 < (l0.length : Int)
          · rw [if_pos c5] at H
            have c5b0 : decide (x8_1 < (l0.length : Int)) = true := decide_eq_true c5
            clear c5
            by_cases c6 : ((rd_T44 l0 x8_1).f0).toList = a1.toList
            · rw [if_pos c6] at H
              have c6b0 : (((rd_T44 l0 x8_1).f0).toList == a1.toList) = true := beq_iff_eq.mpr c6
              have c6b1 : (((rd_T44 l0 x8_1).f0).toList != a1.toList) = false := bne_eq_false_iff_eq.mpr c6
              clear c6
              obtain rfl := Option.some.inj H
              have p101 : 0 ≤ (x8_1 : Int) := of_decide_eq_true (by first | (with_reducible assumption) | assumption)
              have q101 : x8_1 < (l0.length : Int) := of_decide_eq_true (by first | (with_reducible assumption) | assumption)
              obtain ⟨ad101, A101_1, c101_1, e101, hx101_0, hx101_1, hl101_1, hi101_1⟩ := at_T44 HR0.out x8_1 p101 q101
              cases e101
              have HR101_1 := Aside0.mk hi101_1
              have HC101_1 := Aside0.mk hl101_1
              clear hi101_1 hl101_1
              replace p101 := eq_true p101
              replace q101 := eq_true q101
              go_wp2
              go_ret
              exact ⟨by first | rfl | (simp; done) | (simp [*]; done), by repeat (first | exact Drawn0.refl _ | apply Drawn0.step)⟩
            · rw [if_neg c6] at H
              have c6b0 : (((rd_T44 l0 x8_1).f0).toList == a1.toList) = false := beq_eq_false_iff_ne.mpr c6
              have c6b1 : (((rd_T44 l0 x8_1).f0).toList != a1.toList) = true := bne_iff_ne.mpr c6
              have H' := Aside0.mk H
              clear H
              have p101 : 0 ≤ (x8_1 : Int) := of_decide_eq_true (by first | (with_reducible assumption) | assumption)
              have q101 : x8_1 < (l0.length : Int) := of_decide_eq_true (by first | (with_reducible assumption) | assumption)
              obtain ⟨ad101, A101_1, c101_1, e101, hx101_0, hx101_1, hl101_1, hi101_1⟩ := at_T44 HR0.out x8_1 p101 q101
              cases e101
              have HR101_1 := Aside0.mk hi101_1
              have HC101_1 := Aside0.mk hl101_1
              clear hi101_1 hl101_1
              replace p101 := eq_true p101
              replace q101 := eq_true q101
              go_wp2
              go_roundg k1
              case measure => have := HK1.out; omega
              case rel => exact ⟨(wrap64 (x8_1 + 1)), (by first | rfl | (simp; done) | (simp [*]; done)), H', ⟨by have := HK1.out; omega⟩, by repeat (first | exact Drawn0.refl _ | apply Drawn0.step)⟩
          · rw [if_neg c5] at H
            exact absurd H (by simp)
        · rw [if_neg c4] at H
          exact absurd H (by simp)
      · rw [if_neg c3] at H
        have c3b0 : decide (x8_1 < (l0.length : Int)) = false := decide_eq_false c3
        clear c3
        obtain rfl := Option.some.inj H
        go_wp2
        go_ret
        exact ⟨by first | rfl | (simp; done) | (simp [*]; done), by repeat (first | exact Drawn0.refl _ | apply Drawn0.step)⟩

end Go.Proofs.Ytlfhonekcmlomaa.P

-- ==== PF9
namespace Go.Proofs.Ytlfhonekcmlomaa.P
open Go.RowKit Go.Proofs.YtlfhonekcmlomaaW.PrintWords Go.Proofs.YtlfhonekcmlomaaW.PrintLast Go.Proofs.YtlfhonekcmlomaaW.PrintMore
attribute [local go_sem] max2_int min2_int max_two min_two max_three min_three max_four min_four   -- for this text's walks alone
set_option linter.unusedVariables false
set_option linter.unusedSimpArgs false

/-! ### aumbrylaw05_wakes: function 9 -/
def aumbrylaw05_wakes.f (k : Nat)  : Option (Bool) := (match_Match.f k (([(⟨(⟨#[103]⟩ : ByteArray), 2⟩ : S47), (⟨(⟨#[88]⟩ : ByteArray), 0⟩ : S47), (⟨(⟨#[89]⟩ : ByteArray), 0⟩ : S47)] : List (S47))) (([(⟨(⟨#[103]⟩ : ByteArray), 2⟩ : S47), (⟨(⟨#[97]⟩ : ByteArray), 0⟩ : S47), (⟨(⟨#[98]⟩ : ByteArray), 0⟩ : S47)] : List (S47)))).bind fun bt107 => ((match_Fill.f k (([(⟨(⟨#[89]⟩ : ByteArray), 0⟩ : S47)] : List (S47))) bt107.1).bind fun bt115 => (if bt107.2.1 = true then (if bt107.2.2 = 0 then (if bt115.2 = 0 then (if (bt107.1.length : Int) = 2 then (if 0 < (bt107.1.length : Int) then (if ((rd_T44 bt107.1 0).f0).toList = ([88] : List UInt8) then (if (bt115.1.length : Int) = 1 then (if 0 < (bt115.1.length : Int) then (some (((rd_T47 bt115.1 0).f0).toList == ([98] : List UInt8))) else (none)) else (some false)) else (some false)) else (none)) else (some false)) else (some false)) else (some false)) else (some false)))
theorem aumbrylaw05_wakes.mono : ∀ k, LeO (aumbrylaw05_wakes.f k ) (aumbrylaw05_wakes.f (k + 1) ) := by
  intro  k
  unfold aumbrylaw05_wakes.f
  repeat' first
      | (with_reducible exact match_Fill.mono _ _ _)
      | (with_reducible exact match_Match.mono _ _ _)
      | (with_reducible exact LeO.refl _)
      | (with_reducible exact LeO.none _)
      | (with_reducible refine LeO.ite ?_ ?_)
      | (with_reducible refine LeO.bind ?_ (fun _ => ?_))
      | exact match_Fill.mono _ _ _
      | exact match_Match.mono _ _ _
      | exact LeO.none _
      | refine LeO.ite ?_ ?_
      | refine LeO.bind ?_ (fun _ => ?_)
set_option maxHeartbeats 8000000 in
set_option maxRecDepth 100000 in
theorem aumbrylaw05_wakes.calls (k : Nat)  (r : Bool) (w : World) (h : aumbrylaw05_wakes.f k  = some r) :
    Calls Try.prog 9 #[] w fun e w' => e = .returned (.bool r) ∧ Below w.heap.size w w' := by
  have hu47 := Try.underlying47
  have HB := Aside0.mk (Below.refl w.heap.size w)
  have H : ((match_Match.f k (([(⟨(⟨#[103]⟩ : ByteArray), 2⟩ : S47), (⟨(⟨#[88]⟩ : ByteArray), 0⟩ : S47), (⟨(⟨#[89]⟩ : ByteArray), 0⟩ : S47)] : List (S47))) (([(⟨(⟨#[103]⟩ : ByteArray), 2⟩ : S47), (⟨(⟨#[97]⟩ : ByteArray), 0⟩ : S47), (⟨(⟨#[98]⟩ : ByteArray), 0⟩ : S47)] : List (S47)))).bind fun bt107 => ((match_Fill.f k (([(⟨(⟨#[89]⟩ : ByteArray), 0⟩ : S47)] : List (S47))) bt107.1).bind fun bt115 => (if bt107.2.1 = true then (if bt107.2.2 = 0 then (if bt115.2 = 0 then (if (bt107.1.length : Int) = 2 then (if 0 < (bt107.1.length : Int) then (if ((rd_T44 bt107.1 0).f0).toList = ([88] : List UInt8) then (if (bt115.1.length : Int) = 1 then (if 0 < (bt115.1.length : Int) then (some (((rd_T47 bt115.1 0).f0).toList == ([98] : List UInt8))) else (none)) else (some false)) else (some false)) else (none)) else (some false)) else (some false)) else (some false)) else (some false)))) = some r := h
  clear h
  obtain ⟨y101, hy101⟩ : ∃ y_ : List (S47), y_ = (([(⟨(⟨#[103]⟩ : ByteArray), 2⟩ : S47), (⟨(⟨#[88]⟩ : ByteArray), 0⟩ : S47), (⟨(⟨#[89]⟩ : ByteArray), 0⟩ : S47)] : List (S47))) := ⟨_, rfl⟩
  replace H : ((match_Match.f k y101 (([(⟨(⟨#[103]⟩ : ByteArray), 2⟩ : S47), (⟨(⟨#[97]⟩ : ByteArray), 0⟩ : S47), (⟨(⟨#[98]⟩ : ByteArray), 0⟩ : S47)] : List (S47)))).bind fun bt107 => ((match_Fill.f k (([(⟨(⟨#[89]⟩ : ByteArray), 0⟩ : S47)] : List (S47))) bt107.1).bind fun bt115 => (if bt107.2.1 = true then (if bt107.2.2 = 0 then (if bt115.2 = 0 then (if (bt107.1.length : Int) = 2 then (if 0 < (bt107.1.length : Int) then (if ((rd_T44 bt107.1 0).f0).toList = ([88] : List UInt8) then (if (bt115.1.length : Int) = 1 then (if 0 < (bt115.1.length : Int) then (some (((rd_T47 bt115.1 0).f0).toList == ([98] : List UInt8))) else (none)) else (some false)) else (some false)) else (none)) else (some false)) else (some false)) else (some false)) else (some false)))) = some r := by first | (rw [hy101]; with_reducible exact H) | (have H2_ := (Option.bind_some _ _).symm.trans H; rw [hy101]; with_reducible exact H2_) | (have H2_ := (Option.bind_some _ _).symm.trans H; with_reducible exact H2_) | with_reducible exact H | (rw [hy101]; exact H) | exact H
  have Ny101 := Aside0.mk hy101
  clear hy101
  obtain ⟨y104, hy104⟩ : ∃ y_ : List (S47), y_ = (([(⟨(⟨#[103]⟩ : ByteArray), 2⟩ : S47), (⟨(⟨#[97]⟩ : ByteArray), 0⟩ : S47), (⟨(⟨#[98]⟩ : ByteArray), 0⟩ : S47)] : List (S47))) := ⟨_, rfl⟩
  replace H : ((match_Match.f k y101 y104).bind fun bt107 => ((match_Fill.f k (([(⟨(⟨#[89]⟩ : ByteArray), 0⟩ : S47)] : List (S47))) bt107.1).bind fun bt115 => (if bt107.2.1 = true then (if bt107.2.2 = 0 then (if bt115.2 = 0 then (if (bt107.1.length : Int) = 2 then (if 0 < (bt107.1.length : Int) then (if ((rd_T44 bt107.1 0).f0).toList = ([88] : List UInt8) then (if (bt115.1.length : Int) = 1 then (if 0 < (bt115.1.length : Int) then (some (((rd_T47 bt115.1 0).f0).toList == ([98] : List UInt8))) else (none)) else (some false)) else (some false)) else (none)) else (some false)) else (some false)) else (some false)) else (some false)))) = some r := by first | (rw [hy104]; with_reducible exact H) | (have H2_ := (Option.bind_some _ _).symm.trans H; rw [hy104]; with_reducible exact H2_) | (have H2_ := (Option.bind_some _ _).symm.trans H; with_reducible exact H2_) | with_reducible exact H | (rw [hy104]; exact H) | exact H
  have Ny104 := Aside0.mk hy104
  clear hy104
  replace H := Option.bind_eq_some_iff.mp H
  obtain ⟨⟨t107, t108, t109⟩, A10, H⟩ := H
  replace H : ((match_Fill.f k (([(⟨(⟨#[89]⟩ : ByteArray), 0⟩ : S47)] : List (S47))) t107).bind fun bt115 => (if t108 = true then (if t109 = 0 then (if bt115.2 = 0 then (if (t107.length : Int) = 2 then (if 0 < (t107.length : Int) then (if ((rd_T44 t107 0).f0).toList = ([88] : List UInt8) then (if (bt115.1.length : Int) = 1 then (if 0 < (bt115.1.length : Int) then (some (((rd_T47 bt115.1 0).f0).toList == ([98] : List UInt8))) else (none)) else (some false)) else (some false)) else (none)) else (some false)) else (some false)) else (some false)) else (some false))) = some r := H
  have A1 := Aside0.mk A10
  clear A10
  obtain ⟨y112, hy112⟩ : ∃ y_ : List (S47), y_ = (([(⟨(⟨#[89]⟩ : ByteArray), 0⟩ : S47)] : List (S47))) := ⟨_, rfl⟩
  replace H : ((match_Fill.f k y112 t107).bind fun bt115 => (if t108 = true then (if t109 = 0 then (if bt115.2 = 0 then (if (t107.length : Int) = 2 then (if 0 < (t107.length : Int) then (if ((rd_T44 t107 0).f0).toList = ([88] : List UInt8) then (if (bt115.1.length : Int) = 1 then (if 0 < (bt115.1.length : Int) then (some (((rd_T47 bt115.1 0).f0).toList == ([98] : List UInt8))) else (none)) else (some false)) else (some false)) else (none)) else (some false)) else (some false)) else (some false)) else (some false))) = some r := by first | (rw [hy112]; with_reducible exact H) | (have H2_ := (Option.bind_some _ _).symm.trans H; rw [hy112]; with_reducible exact H2_) | (have H2_ := (Option.bind_some _ _).symm.trans H; with_reducible exact H2_) | with_reducible exact H | (rw [hy112]; exact H) | exact H
  have Ny112 := Aside0.mk hy112
  clear hy112
  replace H := Option.bind_eq_some_iff.mp H
  obtain ⟨⟨t115, t116⟩, A20, H⟩ := H
  replace H : (if t108 = true then (if t109 = 0 then (if t116 = 0 then (if (t107.length : Int) = 2 then (if 0 < (t107.length : Int) then (if ((rd_T44 t107 0).f0).toList = ([88] : List UInt8) then (if (t115.length : Int) = 1 then (if 0 < (t115.length : Int) then (some (((rd_T47 t115 0).f0).toList == ([98] : List UInt8))) else (none)) else (some false)) else (some false)) else (none)) else (some false)) else (some false)) else (some false)) else (some false)) = some r := H
  have A2 := Aside0.mk A20
  clear A20
  by_cases c3 : t108 = true
  · subst c3
    have H1 : (if t109 = 0 then (if t116 = 0 then (if (t107.length : Int) = 2 then (if 0 < (t107.length : Int) then (if ((rd_T44 t107 0).f0).toList = ([88] : List UInt8) then (if (t115.length : Int) = 1 then (if 0 < (t115.length : Int) then (some (((rd_T47 t115 0).f0).toList == ([98] : List UInt8))) else (none)) else (some false)) else (some false)) else (none)) else (some false)) else (some false)) else (some false)) = some r := by rw [if_pos rfl] at H; exact H
    clear H
    have H := H1
    clear H1
    by_cases c4 : t109 = 0
    · rw [if_pos c4] at H
      have c4b0 : (t109 == 0) = true := beq_iff_eq.mpr c4
      have c4b1 : (t109 != 0) = false := bne_eq_false_iff_eq.mpr c4
      clear c4
      by_cases c5 : t116 = 0
      · rw [if_pos c5] at H
        have c5b0 : (t116 == 0) = true := beq_iff_eq.mpr c5
        have c5b1 : (t116 != 0) = false := bne_eq_false_iff_eq.mpr c5
        clear c5
        by_cases c6 : (t107.length : Int) = 2
        · rw [if_pos c6] at H
          have c6b0 : ((t107.length : Int) == 2) = true := beq_iff_eq.mpr c6
          have c6b1 : ((t107.length : Int) != 2) = false := bne_eq_false_iff_eq.mpr c6
          clear c6
          by_cases c7 : 0 < (t107.length : Int)
          · rw [if_pos c7] at H
            have c7b0 : decide (0 < (t107.length : Int)) = true := decide_eq_true c7
            have c7b1 : decide (0 < t107.length) = true := decide_eq_true (by omega)
            clear c7
            by_cases c8 : ((rd_T44 t107 0).f0).toList = ([88] : List UInt8)
            · rw [if_pos c8] at H
              have c8b0 : (((rd_T44 t107 0).f0).toList == ([88] : List UInt8)) = true := beq_iff_eq.mpr c8
              have c8b1 : (((rd_T44 t107 0).f0).toList != ([88] : List UInt8)) = false := bne_eq_false_iff_eq.mpr c8
              clear c8
              by_cases c9 : (t115.length : Int) = 1
              · rw [if_pos c9] at H
                have c9b0 : ((t115.length : Int) == 1) = true := beq_iff_eq.mpr c9
                have c9b1 : ((t115.length : Int) != 1) = false := bne_eq_false_iff_eq.mpr c9
                clear c9
                by_cases c10 : 0 < (t115.length : Int)
                · rw [if_pos c10] at H
                  have c10b0 : decide (0 < (t115.length : Int)) = true := decide_eq_true c10
                  have c10b1 : decide (0 < t115.length) = true := decide_eq_true (by omega)
                  clear c10
                  obtain rfl := Option.some.inj H
                  go_enter Try.func9, Try.ntmps9
                  go_wp2_with (first | ((with_reducible refine gate_dst (N := 11) rfl ?_); (try (refine gate_guard (by rfl) ?_; dsimp only)); refine Kd.R_lit k47 _ 47 ?hg (N := 11) ?hd (xs := ([(⟨(⟨#[103]⟩ : ByteArray), 2⟩ : S47), (⟨(⟨#[88]⟩ : ByteArray), 0⟩ : S47), (⟨(⟨#[89]⟩ : ByteArray), 0⟩ : S47)] : List (S47))) (inner := [.string (⟨#[103]⟩ : ByteArray), .int .i64 2, .string (⟨#[88]⟩ : ByteArray), .int .i64 0, .string (⟨#[89]⟩ : ByteArray), .int .i64 0]) (ok := fun _ => True) (okp := fun _ => True) ?hr ?hp (fun _ hk => hk) trivial (Below.refl _ _) (Nat.le_refl _) (by simp) ?_; (case hd => rfl); (case hg => rfl); (case hr => first | (go_simp; done) | (go_simp; rfl)); (case hp => exact (Reps.c2 (show Kd.M k47 _ _ _ (⟨(⟨#[103]⟩ : ByteArray), 2⟩ : S47) [.string (⟨#[103]⟩ : ByteArray), .int .i64 2] from (k47_mkM _ _ _ (⟨(⟨#[103]⟩ : ByteArray), 2⟩ : S47) )) (Reps.c2 (show Kd.M k47 _ _ _ (⟨(⟨#[88]⟩ : ByteArray), 0⟩ : S47) [.string (⟨#[88]⟩ : ByteArray), .int .i64 0] from (k47_mkM _ _ _ (⟨(⟨#[88]⟩ : ByteArray), 0⟩ : S47) )) (Reps.c2 (show Kd.M k47 _ _ _ (⟨(⟨#[89]⟩ : ByteArray), 0⟩ : S47) [.string (⟨#[89]⟩ : ByteArray), .int .i64 0] from (k47_mkM _ _ _ (⟨(⟨#[89]⟩ : ByteArray), 0⟩ : S47) )) (Reps.none _ _))))); intro v102 w11 ho12 hb hg_ hnew_; clear hg_ hnew_; (first | rw [← Ny101.out] at ho12 | (simp only [Int.reduceToNat] at ho12; rw [← Ny101.out] at ho12)); have n0_ := Aside0.mk (Kd.R_lower ho12 (below_size (by repeat (first | (with_reducible first | exact HB.out | apply below_alloc | apply pw_below_drewN | apply below_drew1) | exact HB.out)))); have n1_ := Aside0.mk (below_step (by repeat (first | (with_reducible first | exact HB.out | apply below_alloc | apply pw_below_drewN | apply below_drew1) | exact HB.out)) hb); clear HB; have HO103 := n0_; have HB := n1_; clear n0_ n1_; clear hb ho12) | ((with_reducible refine gate_dst (N := 15) rfl ?_); (try (refine gate_guard (by rfl) ?_; dsimp only)); refine Kd.R_lit k47 _ 47 ?hg (N := 15) ?hd (xs := ([(⟨(⟨#[103]⟩ : ByteArray), 2⟩ : S47), (⟨(⟨#[97]⟩ : ByteArray), 0⟩ : S47), (⟨(⟨#[98]⟩ : ByteArray), 0⟩ : S47)] : List (S47))) (inner := [.string (⟨#[103]⟩ : ByteArray), .int .i64 2, .string (⟨#[97]⟩ : ByteArray), .int .i64 0, .string (⟨#[98]⟩ : ByteArray), .int .i64 0]) (ok := fun _ => True) (okp := fun _ => True) ?hr ?hp (fun _ hk => hk) trivial (Below.refl _ _) (Nat.le_refl _) (by simp) ?_; (case hd => rfl); (case hg => rfl); (case hr => first | (go_simp; done) | (go_simp; rfl)); (case hp => exact (Reps.c2 (show Kd.M k47 _ _ _ (⟨(⟨#[103]⟩ : ByteArray), 2⟩ : S47) [.string (⟨#[103]⟩ : ByteArray), .int .i64 2] from (k47_mkM _ _ _ (⟨(⟨#[103]⟩ : ByteArray), 2⟩ : S47) )) (Reps.c2 (show Kd.M k47 _ _ _ (⟨(⟨#[97]⟩ : ByteArray), 0⟩ : S47) [.string (⟨#[97]⟩ : ByteArray), .int .i64 0] from (k47_mkM _ _ _ (⟨(⟨#[97]⟩ : ByteArray), 0⟩ : S47) )) (Reps.c2 (show Kd.M k47 _ _ _ (⟨(⟨#[98]⟩ : ByteArray), 0⟩ : S47) [.string (⟨#[98]⟩ : ByteArray), .int .i64 0] from (k47_mkM _ _ _ (⟨(⟨#[98]⟩ : ByteArray), 0⟩ : S47) )) (Reps.none _ _))))); intro v105 w13 ho14 hb hg_ hnew_; clear hg_ hnew_; (first | rw [← Ny104.out] at ho14 | (simp only [Int.reduceToNat] at ho14; rw [← Ny104.out] at ho14)); have n0_ := Aside0.mk (Kd.R_elder' (by (with_reducible repeat (first | apply Kd.R_alloc | apply Kd.R_drewN | apply Kd.R_drew)); exact HO103.out) (Kd.R_base ho14) hb); have n1_ := Aside0.mk (Kd.R_lower (Kd.R_new' ho14 (Kd.R_lt (by (with_reducible repeat (first | apply Kd.R_alloc | apply Kd.R_drewN | apply Kd.R_drew)); exact HO103.out))) (below_size (by repeat (first | (with_reducible first | exact HB.out | apply below_alloc | apply pw_below_drewN | apply below_drew1) | exact HB.out)))); have n2_ := Aside0.mk (below_step (by repeat (first | (with_reducible first | exact HB.out | apply below_alloc | apply pw_below_drewN | apply below_drew1) | exact HB.out)) hb); clear HO103; clear HB; have HO103 := n0_; have HO106 := n1_; have HB := n2_; clear n0_ n1_ n2_; clear hb ho14; obtain ⟨Ao15, co15, eo15⟩ := Kd.R_slice HO103.out; subst eo15; obtain ⟨Ao16, co16, eo16⟩ := Kd.R_slice HO106.out; subst eo16) | ((with_reducible refine gate_callee (f := 10) rfl ?_); refine goesL_ (some 19) rfl rfl Try.func10 (by kernel_rfl) rfl #[.slice Ao15 y101.length co15, .slice Ao16 y104.length co16] rfl (by (try simp only [List.map_toArray, List.map_cons, List.map_nil]); first | done | rfl | (simp only [List.length_drop, List.length_take]; rfl)) ?_; (with_reducible refine (match_Match.calls k _ _ y101 _ _ y104 t107 true t109 _ ?side1 ?side2 ?side3 ?side4 A1.out).mono ?_); (case side1 => repeat (first | exact (Kd.R_reads' HO103.out).2.2 | (with_reducible refine Kd.C_alloc ?_ _) | (with_reducible refine Kd.C_drewN ?_ _) | (with_reducible refine Kd.C_drew ?_))); (case side2 => exact (Kd.R_reads' HO103.out).2.1); (case side3 => repeat (first | exact (Kd.R_reads' HO106.out).2.2 | (with_reducible refine Kd.C_alloc ?_ _) | (with_reducible refine Kd.C_drewN ?_ _) | (with_reducible refine Kd.C_drew ?_))); (case side4 => exact (Kd.R_reads' HO106.out).2.1); rintro e w17 ⟨v110, rfl, ho0, hb⟩; refine ⟨_, rfl, ?_⟩; have n0_ := Aside0.mk (Kd.R_below (by (with_reducible repeat (first | apply Kd.R_alloc | apply Kd.R_drewN | apply Kd.R_drew)); exact HO103.out) hb); have n1_ := Aside0.mk (Kd.R_below (by (with_reducible repeat (first | apply Kd.R_alloc | apply Kd.R_drewN | apply Kd.R_drew)); exact HO106.out) hb); have n2_ := Aside0.mk (Kd.S_lower (Kd.S_new' (Kd.S_new' ho0 (Kd.R_lt (by (with_reducible repeat (first | apply Kd.R_alloc | apply Kd.R_drewN | apply Kd.R_drew)); exact HO103.out))) (Kd.R_lt (by (with_reducible repeat (first | apply Kd.R_alloc | apply Kd.R_drewN | apply Kd.R_drew)); exact HO106.out))) (below_size (by repeat (first | (with_reducible first | exact HB.out | apply below_alloc | apply pw_below_drewN | apply below_drew1) | exact HB.out)))); have n3_ := Aside0.mk (below_step (by repeat (first | (with_reducible first | exact HB.out | apply below_alloc | apply pw_below_drewN | apply below_drew1) | exact HB.out)) hb); clear HO103; clear HO106; clear HB; have HO103 := n0_; have HO106 := n1_; have HO111 := n2_; have HB := n3_; clear n0_ n1_ n2_ n3_; (try clear hb); (try clear hb2); (try clear hk); (try clear hi); (try clear ho0)) | ((with_reducible refine gate_dst (N := 25) rfl ?_); (try (refine gate_guard (by rfl) ?_; dsimp only)); refine Kd.R_lit k47 _ 47 ?hg (N := 25) ?hd (xs := ([(⟨(⟨#[89]⟩ : ByteArray), 0⟩ : S47)] : List (S47))) (inner := [.string (⟨#[89]⟩ : ByteArray), .int .i64 0]) (ok := fun _ => True) (okp := fun _ => True) ?hr ?hp (fun _ hk => hk) trivial (Below.refl _ _) (Nat.le_refl _) (by simp) ?_; (case hd => rfl); (case hg => rfl); (case hr => first | (go_simp; done) | (go_simp; rfl)); (case hp => exact (Reps.c2 (show Kd.M k47 _ _ _ (⟨(⟨#[89]⟩ : ByteArray), 0⟩ : S47) [.string (⟨#[89]⟩ : ByteArray), .int .i64 0] from (k47_mkM _ _ _ (⟨(⟨#[89]⟩ : ByteArray), 0⟩ : S47) )) (Reps.none _ _))); intro v113 w18 ho19 hb hg_ hnew_; clear hg_ hnew_; (first | rw [← Ny112.out] at ho19 | (simp only [Int.reduceToNat] at ho19; rw [← Ny112.out] at ho19)); have n0_ := Aside0.mk (Kd.R_elder' (by (with_reducible repeat (first | apply Kd.R_alloc | apply Kd.R_drewN | apply Kd.R_drew)); exact HO103.out) (Kd.R_base ho19) hb); have n1_ := Aside0.mk (Kd.R_elder' (by (with_reducible repeat (first | apply Kd.R_alloc | apply Kd.R_drewN | apply Kd.R_drew)); exact HO106.out) (Kd.R_base ho19) hb); have n2_ := Aside0.mk (Kd.S_elder' (by (with_reducible repeat (first | apply Kd.S_alloc | apply Kd.S_drewN | apply Kd.S_drew)); exact HO111.out) (Kd.R_base ho19) hb); have n3_ := Aside0.mk (Kd.R_lower (Kd.R_new' (Kd.R_new' ho19 (Kd.R_lt (by (with_reducible repeat (first | apply Kd.R_alloc | apply Kd.R_drewN | apply Kd.R_drew)); exact HO103.out))) (Kd.R_lt (by (with_reducible repeat (first | apply Kd.R_alloc | apply Kd.R_drewN | apply Kd.R_drew)); exact HO106.out))) (below_size (by repeat (first | (with_reducible first | exact HB.out | apply below_alloc | apply pw_below_drewN | apply below_drew1) | exact HB.out)))); have n4_ := Aside0.mk (below_step (by repeat (first | (with_reducible first | exact HB.out | apply below_alloc | apply pw_below_drewN | apply below_drew1) | exact HB.out)) hb); clear HO103; clear HO106; clear HO111; clear HB; have HO103 := n0_; have HO106 := n1_; have HO111 := n2_; have HO114 := n3_; have HB := n4_; clear n0_ n1_ n2_ n3_ n4_; clear hb ho19; obtain ⟨Ao20, co20, eo20⟩ := Kd.R_slice HO114.out; subst eo20; obtain ⟨Ao21, co21, eo21⟩ := Kd.S_slice HO111.out; subst eo21) | ((with_reducible refine gate_callee (f := 14) rfl ?_); refine goesL_ (some 27) rfl rfl Try.func14 (by kernel_rfl) rfl #[.slice Ao20 y112.length co20, .slice Ao21 t107.length co21] rfl (by (try simp only [List.map_toArray, List.map_cons, List.map_nil]); first | done | rfl | (simp only [List.length_drop, List.length_take]; rfl)) ?_; (with_reducible refine (match_Fill.calls k _ _ y112 _ _ t107 t115 t116 _ ?side1 ?side2 ?side3 ?side4 A2.out).mono ?_); (case side1 => repeat (first | exact (Kd.R_reads' HO114.out).2.2 | (with_reducible refine Kd.C_alloc ?_ _) | (with_reducible refine Kd.C_drewN ?_ _) | (with_reducible refine Kd.C_drew ?_))); (case side2 => exact (Kd.R_reads' HO114.out).2.1); (case side3 => repeat (first | exact (Kd.S_reads' HO111.out).2.2 | (with_reducible refine Kd.C_alloc ?_ _) | (with_reducible refine Kd.C_drewN ?_ _) | (with_reducible refine Kd.C_drew ?_))); (case side4 => exact (Kd.S_reads' HO111.out).2.1); rintro e w22 ⟨v117, rfl, ho0, hb⟩; refine ⟨_, rfl, ?_⟩; have n0_ := Aside0.mk (Kd.R_elder' (by (with_reducible repeat (first | apply Kd.R_alloc | apply Kd.R_drewN | apply Kd.R_drew)); exact HO103.out) (Kd.R_base ho0) hb); have n1_ := Aside0.mk (Kd.R_elder' (by (with_reducible repeat (first | apply Kd.R_alloc | apply Kd.R_drewN | apply Kd.R_drew)); exact HO106.out) (Kd.R_base ho0) hb); have n2_ := Aside0.mk (Kd.S_elder' (by (with_reducible repeat (first | apply Kd.S_alloc | apply Kd.S_drewN | apply Kd.S_drew)); exact HO111.out) (Kd.R_base ho0) hb); have n3_ := Aside0.mk (Kd.R_elder' (by (with_reducible repeat (first | apply Kd.R_alloc | apply Kd.R_drewN | apply Kd.R_drew)); exact HO114.out) (Kd.R_base ho0) hb); have n4_ := Aside0.mk (Kd.R_lower (Kd.R_new' (Kd.R_new' (Kd.R_new' ho0 (Kd.R_lt (by (with_reducible repeat (first | apply Kd.R_alloc | apply Kd.R_drewN | apply Kd.R_drew)); exact HO103.out))) (Kd.R_lt (by (with_reducible repeat (first | apply Kd.R_alloc | apply Kd.R_drewN | apply Kd.R_drew)); exact HO106.out))) (Kd.R_lt (by (with_reducible repeat (first | apply Kd.R_alloc | apply Kd.R_drewN | apply Kd.R_drew)); exact HO114.out))) (below_size (by repeat (first | (with_reducible first | exact HB.out | apply below_alloc | apply pw_below_drewN | apply below_drew1) | exact HB.out)))); have n5_ := Aside0.mk (below_step (by repeat (first | (with_reducible first | exact HB.out | apply below_alloc | apply pw_below_drewN | apply below_drew1) | exact HB.out)) hb); clear HO103; clear HO106; clear HO111; clear HO114; clear HB; have HO103 := n0_; have HO106 := n1_; have HO111 := n2_; have HO114 := n3_; have HO118 := n4_; have HB := n5_; clear n0_ n1_ n2_ n3_ n4_ n5_; (try clear hb); (try clear hb2); (try clear hk); (try clear hi); (try clear ho0); have p119 : 0 ≤ (0 : Int) := (by omega); have q119 : 0 < (t107.length : Int) := of_decide_eq_true (by first | (with_reducible assumption) | assumption); obtain ⟨ad119, A119_1, c119_1, e119, hx119_0, hx119_1, hl119_1, hi119_1⟩ := at_T44 (Kd.S_reads' HO111.out).2.2 0 p119 q119; cases e119; obtain ⟨ce119, hce119, hMe119, hcc119⟩ := Kd.S_get HO111.out z44 0 p119 (by first | exact q119 | exact of_decide_eq_true (by first | (with_reducible assumption) | assumption) | (have e_ := (Kd.S_reads' HO111.out).1; omega)); obtain ⟨ve119_1, rfl, ge119_1⟩ := k44_openM hMe119; have hv119_1 := hcc119 1 _ rfl; rw [add_field _ _ 1 (by omega)] at hv119_1; replace hv119_1 := Option.some.inj (hv119_1.symm.trans hx119_1); rw [hv119_1] at ge119_1; have HL119_1 := Aside0.mk (show Kd.R k47 47 _ _ _ _ ((rd_T44 t107 0).f1) from ge119_1); clear hv119_1 ge119_1; clear hcc119 hce119; have qi119 : (0 < t107.length) = True := eq_true (by omega); (try rw [show ((0 : Int)).toNat = 0 from rfl] at hx119_0); (try rw [show 0 * 2 = 0 from rfl] at hx119_0); (try rw [Addr.add_zero'] at hx119_0); (try rw [show ((0 : Int)).toNat = 0 from rfl] at hx119_1); (try rw [show 0 * 2 = 0 from rfl] at hx119_1); (try rw [Addr.add_zero'] at hx119_1); have HR119_1 := Aside0.mk hi119_1; have HC119_1 := Aside0.mk hl119_1; clear hi119_1 hl119_1; replace p119 := eq_true p119; replace q119 := eq_true q119; obtain ⟨Ao23, co23, eo23⟩ := Kd.R_slice HO118.out; subst eo23; have p120 : 0 ≤ (0 : Int) := (by omega); have q120 : 0 < (t115.length : Int) := of_decide_eq_true (by first | (with_reducible assumption) | assumption); obtain ⟨ad120, e120, hx120_0, hx120_1⟩ := at_T47 (Kd.R_reads' HO118.out).2.2 0 p120 q120; cases e120; have qi120 : (0 < t115.length) = True := eq_true (by omega); (try rw [show ((0 : Int)).toNat = 0 from rfl] at hx120_0); (try rw [show 0 * 2 = 0 from rfl] at hx120_0); (try rw [Addr.add_zero'] at hx120_0); (try rw [show ((0 : Int)).toNat = 0 from rfl] at hx120_1); (try rw [show 0 * 2 = 0 from rfl] at hx120_1); (try rw [Addr.add_zero'] at hx120_1); replace p120 := eq_true p120; replace q120 := eq_true q120))
                  go_ret
                  exact ⟨by first | rfl | (simp [errW_none, errW_some] <;> rfl) | (simp [*, errW_none, errW_some] <;> rfl), by repeat (first | (with_reducible first | exact HB.out | apply below_alloc | apply pw_below_drewN | apply below_drew1) | exact HB.out)⟩
                · rw [if_neg c10] at H
                  exact absurd H (by simp)
              · rw [if_neg c9] at H
                have c9b0 : ((t115.length : Int) == 1) = false := beq_eq_false_iff_ne.mpr c9
                have c9b1 : ((t115.length : Int) != 1) = true := bne_iff_ne.mpr c9
                obtain rfl := Option.some.inj H
                go_enter Try.func9, Try.ntmps9
                go_wp2_with (first | ((with_reducible refine gate_dst (N := 11) rfl ?_); (try (refine gate_guard (by rfl) ?_; dsimp only)); refine Kd.R_lit k47 _ 47 ?hg (N := 11) ?hd (xs := ([(⟨(⟨#[103]⟩ : ByteArray), 2⟩ : S47), (⟨(⟨#[88]⟩ : ByteArray), 0⟩ : S47), (⟨(⟨#[89]⟩ : ByteArray), 0⟩ : S47)] : List (S47))) (inner := [.string (⟨#[103]⟩ : ByteArray), .int .i64 2, .string (⟨#[88]⟩ : ByteArray), .int .i64 0, .string (⟨#[89]⟩ : ByteArray), .int .i64 0]) (ok := fun _ => True) (okp := fun _ => True) ?hr ?hp (fun _ hk => hk) trivial (Below.refl _ _) (Nat.le_refl _) (by simp) ?_; (case hd => rfl); (case hg => rfl); (case hr => first | (go_simp; done) | (go_simp; rfl)); (case hp => exact (Reps.c2 (show Kd.M k47 _ _ _ (⟨(⟨#[103]⟩ : ByteArray), 2⟩ : S47) [.string (⟨#[103]⟩ : ByteArray), .int .i64 2] from (k47_mkM _ _ _ (⟨(⟨#[103]⟩ : ByteArray), 2⟩ : S47) )) (Reps.c2 (show Kd.M k47 _ _ _ (⟨(⟨#[88]⟩ : ByteArray), 0⟩ : S47) [.string (⟨#[88]⟩ : ByteArray), .int .i64 0] from (k47_mkM _ _ _ (⟨(⟨#[88]⟩ : ByteArray), 0⟩ : S47) )) (Reps.c2 (show Kd.M k47 _ _ _ (⟨(⟨#[89]⟩ : ByteArray), 0⟩ : S47) [.string (⟨#[89]⟩ : ByteArray), .int .i64 0] from (k47_mkM _ _ _ (⟨(⟨#[89]⟩ : ByteArray), 0⟩ : S47) )) (Reps.none _ _))))); intro v102 w24 ho25 hb hg_ hnew_; clear hg_ hnew_; (first | rw [← Ny101.out] at ho25 | (simp only [Int.reduceToNat] at ho25; rw [← Ny101.out] at ho25)); have n0_ := Aside0.mk (Kd.R_lower ho25 (below_size (by repeat (first | (with_reducible first | exact HB.out | apply below_alloc | apply pw_below_drewN | apply below_drew1) | exact HB.out)))); have n1_ := Aside0.mk (below_step (by repeat (first | (with_reducible first | exact HB.out | apply below_alloc | apply pw_below_drewN | apply below_drew1) | exact HB.out)) hb); clear HB; have HO103 := n0_; have HB := n1_; clear n0_ n1_; clear hb ho25) | ((with_reducible refine gate_dst (N := 15) rfl ?_); (try (refine gate_guard (by rfl) ?_; dsimp only)); refine Kd.R_lit k47 _ 47 ?hg (N := 15) ?hd (xs := ([(⟨(⟨#[103]⟩ : ByteArray), 2⟩ : S47), (⟨(⟨#[97]⟩ : ByteArray), 0⟩ : S47), (⟨(⟨#[98]⟩ : ByteArray), 0⟩ : S47)] : List (S47))) (inner := [.string (⟨#[103]⟩ : ByteArray), .int .i64 2, .string (⟨#[97]⟩ : ByteArray), .int .i64 0, .string (⟨#[98]⟩ : ByteArray), .int .i64 0]) (ok := fun _ => True) (okp := fun _ => True) ?hr ?hp (fun _ hk => hk) trivial (Below.refl _ _) (Nat.le_refl _) (by simp) ?_; (case hd => rfl); (case hg => rfl); (case hr => first | (go_simp; done) | (go_simp; rfl)); (case hp => exact (Reps.c2 (show Kd.M k47 _ _ _ (⟨(⟨#[103]⟩ : ByteArray), 2⟩ : S47) [.string (⟨#[103]⟩ : ByteArray), .int .i64 2] from (k47_mkM _ _ _ (⟨(⟨#[103]⟩ : ByteArray), 2⟩ : S47) )) (Reps.c2 (show Kd.M k47 _ _ _ (⟨(⟨#[97]⟩ : ByteArray), 0⟩ : S47) [.string (⟨#[97]⟩ : ByteArray), .int .i64 0] from (k47_mkM _ _ _ (⟨(⟨#[97]⟩ : ByteArray), 0⟩ : S47) )) (Reps.c2 (show Kd.M k47 _ _ _ (⟨(⟨#[98]⟩ : ByteArray), 0⟩ : S47) [.string (⟨#[98]⟩ : ByteArray), .int .i64 0] from (k47_mkM _ _ _ (⟨(⟨#[98]⟩ : ByteArray), 0⟩ : S47) )) (Reps.none _ _))))); intro v105 w26 ho27 hb hg_ hnew_; clear hg_ hnew_; (first | rw [← Ny104.out] at ho27 | (simp only [Int.reduceToNat] at ho27; rw [← Ny104.out] at ho27)); have n0_ := Aside0.mk (Kd.R_elder' (by (with_reducible repeat (first | apply Kd.R_alloc | apply Kd.R_drewN | apply Kd.R_drew)); exact HO103.out) (Kd.R_base ho27) hb); have n1_ := Aside0.mk (Kd.R_lower (Kd.R_new' ho27 (Kd.R_lt (by (with_reducible repeat (first | apply Kd.R_alloc | apply Kd.R_drewN | apply Kd.R_drew)); exact HO103.out))) (below_size (by repeat (first | (with_reducible first | exact HB.out | apply below_alloc | apply pw_below_drewN | apply below_drew1) | exact HB.out)))); have n2_ := Aside0.mk (below_step (by repeat (first | (with_reducible first | exact HB.out | apply below_alloc | apply pw_below_drewN | apply below_drew1) | exact HB.out)) hb); clear HO103; clear HB; have HO103 := n0_; have HO106 := n1_; have HB := n2_; clear n0_ n1_ n2_; clear hb ho27; obtain ⟨Ao28, co28, eo28⟩ := Kd.R_slice HO103.out; subst eo28; obtain ⟨Ao29, co29, eo29⟩ := Kd.R_slice HO106.out; subst eo29) | ((with_reducible refine gate_callee (f := 10) rfl ?_); refine goesL_ (some 19) rfl rfl Try.func10 (by kernel_rfl) rfl #[.slice Ao28 y101.length co28, .slice Ao29 y104.length co29] rfl (by (try simp only [List.map_toArray, List.map_cons, List.map_nil]); first | done | rfl | (simp only [List.length_drop, List.length_take]; rfl)) ?_; (with_reducible refine (match_Match.calls k _ _ y101 _ _ y104 t107 true t109 _ ?side1 ?side2 ?side3 ?side4 A1.out).mono ?_); (case side1 => repeat (first | exact (Kd.R_reads' HO103.out).2.2 | (with_reducible refine Kd.C_alloc ?_ _) | (with_reducible refine Kd.C_drewN ?_ _) | (with_reducible refine Kd.C_drew ?_))); (case side2 => exact (Kd.R_reads' HO103.out).2.1); (case side3 => repeat (first | exact (Kd.R_reads' HO106.out).2.2 | (with_reducible refine Kd.C_alloc ?_ _) | (with_reducible refine Kd.C_drewN ?_ _) | (with_reducible refine Kd.C_drew ?_))); (case side4 => exact (Kd.R_reads' HO106.out).2.1); rintro e w30 ⟨v110, rfl, ho0, hb⟩; refine ⟨_, rfl, ?_⟩; have n0_ := Aside0.mk (Kd.R_below (by (with_reducible repeat (first | apply Kd.R_alloc | apply Kd.R_drewN | apply Kd.R_drew)); exact HO103.out) hb); have n1_ := Aside0.mk (Kd.R_below (by (with_reducible repeat (first | apply Kd.R_alloc | apply Kd.R_drewN | apply Kd.R_drew)); exact HO106.out) hb); have n2_ := Aside0.mk (Kd.S_lower (Kd.S_new' (Kd.S_new' ho0 (Kd.R_lt (by (with_reducible repeat (first | apply Kd.R_alloc | apply Kd.R_drewN | apply Kd.R_drew)); exact HO103.out))) (Kd.R_lt (by (with_reducible repeat (first | apply Kd.R_alloc | apply Kd.R_drewN | apply Kd.R_drew)); exact HO106.out))) (below_size (by repeat (first | (with_reducible first | exact HB.out | apply below_alloc | apply pw_below_drewN | apply below_drew1) | exact HB.out)))); have n3_ := Aside0.mk (below_step (by repeat (first | (with_reducible first | exact HB.out | apply below_alloc | apply pw_below_drewN | apply below_drew1) | exact HB.out)) hb); clear HO103; clear HO106; clear HB; have HO103 := n0_; have HO106 := n1_; have HO111 := n2_; have HB := n3_; clear n0_ n1_ n2_ n3_; (try clear hb); (try clear hb2); (try clear hk); (try clear hi); (try clear ho0)) | ((with_reducible refine gate_dst (N := 25) rfl ?_); (try (refine gate_guard (by rfl) ?_; dsimp only)); refine Kd.R_lit k47 _ 47 ?hg (N := 25) ?hd (xs := ([(⟨(⟨#[89]⟩ : ByteArray), 0⟩ : S47)] : List (S47))) (inner := [.string (⟨#[89]⟩ : ByteArray), .int .i64 0]) (ok := fun _ => True) (okp := fun _ => True) ?hr ?hp (fun _ hk => hk) trivial (Below.refl _ _) (Nat.le_refl _) (by simp) ?_; (case hd => rfl); (case hg => rfl); (case hr => first | (go_simp; done) | (go_simp; rfl)); (case hp => exact (Reps.c2 (show Kd.M k47 _ _ _ (⟨(⟨#[89]⟩ : ByteArray), 0⟩ : S47) [.string (⟨#[89]⟩ : ByteArray), .int .i64 0] from (k47_mkM _ _ _ (⟨(⟨#[89]⟩ : ByteArray), 0⟩ : S47) )) (Reps.none _ _))); intro v113 w31 ho32 hb hg_ hnew_; clear hg_ hnew_; (first | rw [← Ny112.out] at ho32 | (simp only [Int.reduceToNat] at ho32; rw [← Ny112.out] at ho32)); have n0_ := Aside0.mk (Kd.R_elder' (by (with_reducible repeat (first | apply Kd.R_alloc | apply Kd.R_drewN | apply Kd.R_drew)); exact HO103.out) (Kd.R_base ho32) hb); have n1_ := Aside0.mk (Kd.R_elder' (by (with_reducible repeat (first | apply Kd.R_alloc | apply Kd.R_drewN | apply Kd.R_drew)); exact HO106.out) (Kd.R_base ho32) hb); have n2_ := Aside0.mk (Kd.S_elder' (by (with_reducible repeat (first | apply Kd.S_alloc | apply Kd.S_drewN | apply Kd.S_drew)); exact HO111.out) (Kd.R_base ho32) hb); have n3_ := Aside0.mk (Kd.R_lower (Kd.R_new' (Kd.R_new' ho32 (Kd.R_lt (by (with_reducible repeat (first | apply Kd.R_alloc | apply Kd.R_drewN | apply Kd.R_drew)); exact HO103.out))) (Kd.R_lt (by (with_reducible repeat (first | apply Kd.R_alloc | apply Kd.R_drewN | apply Kd.R_drew)); exact HO106.out))) (below_size (by repeat (first | (with_reducible first | exact HB.out | apply below_alloc | apply pw_below_drewN | apply below_drew1) | exact HB.out)))); have n4_ := Aside0.mk (below_step (by repeat (first | (with_reducible first | exact HB.out | apply below_alloc | apply pw_below_drewN | apply below_drew1) | exact HB.out)) hb); clear HO103; clear HO106; clear HO111; clear HB; have HO103 := n0_; have HO106 := n1_; have HO111 := n2_; have HO114 := n3_; have HB := n4_; clear n0_ n1_ n2_ n3_ n4_; clear hb ho32; obtain ⟨Ao33, co33, eo33⟩ := Kd.R_slice HO114.out; subst eo33; obtain ⟨Ao34, co34, eo34⟩ := Kd.S_slice HO111.out; subst eo34) | ((with_reducible refine gate_callee (f := 14) rfl ?_); refine goesL_ (some 27) rfl rfl Try.func14 (by kernel_rfl) rfl #[.slice Ao33 y112.length co33, .slice Ao34 t107.length co34] rfl (by (try simp only [List.map_toArray, List.map_cons, List.map_nil]); first | done | rfl | (simp only [List.length_drop, List.length_take]; rfl)) ?_; (with_reducible refine (match_Fill.calls k _ _ y112 _ _ t107 t115 t116 _ ?side1 ?side2 ?side3 ?side4 A2.out).mono ?_); (case side1 => repeat (first | exact (Kd.R_reads' HO114.out).2.2 | (with_reducible refine Kd.C_alloc ?_ _) | (with_reducible refine Kd.C_drewN ?_ _) | (with_reducible refine Kd.C_drew ?_))); (case side2 => exact (Kd.R_reads' HO114.out).2.1); (case side3 => repeat (first | exact (Kd.S_reads' HO111.out).2.2 | (with_reducible refine Kd.C_alloc ?_ _) | (with_reducible refine Kd.C_drewN ?_ _) | (with_reducible refine Kd.C_drew ?_))); (case side4 => exact (Kd.S_reads' HO111.out).2.1); rintro e w35 ⟨v117, rfl, ho0, hb⟩; refine ⟨_, rfl, ?_⟩; have n0_ := Aside0.mk (Kd.R_elder' (by (with_reducible repeat (first | apply Kd.R_alloc | apply Kd.R_drewN | apply Kd.R_drew)); exact HO103.out) (Kd.R_base ho0) hb); have n1_ := Aside0.mk (Kd.R_elder' (by (with_reducible repeat (first | apply Kd.R_alloc | apply Kd.R_drewN | apply Kd.R_drew)); exact HO106.out) (Kd.R_base ho0) hb); have n2_ := Aside0.mk (Kd.S_elder' (by (with_reducible repeat (first | apply Kd.S_alloc | apply Kd.S_drewN | apply Kd.S_drew)); exact HO111.out) (Kd.R_base ho0) hb); have n3_ := Aside0.mk (Kd.R_elder' (by (with_reducible repeat (first | apply Kd.R_alloc | apply Kd.R_drewN | apply Kd.R_drew)); exact HO114.out) (Kd.R_base ho0) hb); have n4_ := Aside0.mk (Kd.R_lower (Kd.R_new' (Kd.R_new' (Kd.R_new' ho0 (Kd.R_lt (by (with_reducible repeat (first | apply Kd.R_alloc | apply Kd.R_drewN | apply Kd.R_drew)); exact HO103.out))) (Kd.R_lt (by (with_reducible repeat (first | apply Kd.R_alloc | apply Kd.R_drewN | apply Kd.R_drew)); exact HO106.out))) (Kd.R_lt (by (with_reducible repeat (first | apply Kd.R_alloc | apply Kd.R_drewN | apply Kd.R_drew)); exact HO114.out))) (below_size (by repeat (first | (with_reducible first | exact HB.out | apply below_alloc | apply pw_below_drewN | apply below_drew1) | exact HB.out)))); have n5_ := Aside0.mk (below_step (by repeat (first | (with_reducible first | exact HB.out | apply below_alloc | apply pw_below_drewN | apply below_drew1) | exact HB.out)) hb); clear HO103; clear HO106; clear HO111; clear HO114; clear HB; have HO103 := n0_; have HO106 := n1_; have HO111 := n2_; have HO114 := n3_; have HO118 := n4_; have HB := n5_; clear n0_ n1_ n2_ n3_ n4_ n5_; (try clear hb); (try clear hb2); (try clear hk); (try clear hi); (try clear ho0); have p119 : 0 ≤ (0 : Int) := (by omega); have q119 : 0 < (t107.length : Int) := of_decide_eq_true (by first | (with_reducible assumption) | assumption); obtain ⟨ad119, A119_1, c119_1, e119, hx119_0, hx119_1, hl119_1, hi119_1⟩ := at_T44 (Kd.S_reads' HO111.out).2.2 0 p119 q119; cases e119; obtain ⟨ce119, hce119, hMe119, hcc119⟩ := Kd.S_get HO111.out z44 0 p119 (by first | exact q119 | exact of_decide_eq_true (by first | (with_reducible assumption) | assumption) | (have e_ := (Kd.S_reads' HO111.out).1; omega)); obtain ⟨ve119_1, rfl, ge119_1⟩ := k44_openM hMe119; have hv119_1 := hcc119 1 _ rfl; rw [add_field _ _ 1 (by omega)] at hv119_1; replace hv119_1 := Option.some.inj (hv119_1.symm.trans hx119_1); rw [hv119_1] at ge119_1; have HL119_1 := Aside0.mk (show Kd.R k47 47 _ _ _ _ ((rd_T44 t107 0).f1) from ge119_1); clear hv119_1 ge119_1; clear hcc119 hce119; have qi119 : (0 < t107.length) = True := eq_true (by omega); (try rw [show ((0 : Int)).toNat = 0 from rfl] at hx119_0); (try rw [show 0 * 2 = 0 from rfl] at hx119_0); (try rw [Addr.add_zero'] at hx119_0); (try rw [show ((0 : Int)).toNat = 0 from rfl] at hx119_1); (try rw [show 0 * 2 = 0 from rfl] at hx119_1); (try rw [Addr.add_zero'] at hx119_1); have HR119_1 := Aside0.mk hi119_1; have HC119_1 := Aside0.mk hl119_1; clear hi119_1 hl119_1; replace p119 := eq_true p119; replace q119 := eq_true q119; obtain ⟨Ao36, co36, eo36⟩ := Kd.R_slice HO118.out; subst eo36))
                go_ret
                exact ⟨by first | rfl | (simp [errW_none, errW_some] <;> rfl) | (simp [*, errW_none, errW_some] <;> rfl), by repeat (first | (with_reducible first | exact HB.out | apply below_alloc | apply pw_below_drewN | apply below_drew1) | exact HB.out)⟩
            · rw [if_neg c8] at H
              have c8b0 : (((rd_T44 t107 0).f0).toList == ([88] : List UInt8)) = false := beq_eq_false_iff_ne.mpr c8
              have c8b1 : (((rd_T44 t107 0).f0).toList != ([88] : List UInt8)) = true := bne_iff_ne.mpr c8
              obtain rfl := Option.some.inj H
              go_enter Try.func9, Try.ntmps9
              go_wp2_with (first | ((with_reducible refine gate_dst (N := 11) rfl ?_); (try (refine gate_guard (by rfl) ?_; dsimp only)); refine Kd.R_lit k47 _ 47 ?hg (N := 11) ?hd (xs := ([(⟨(⟨#[103]⟩ : ByteArray), 2⟩ : S47), (⟨(⟨#[88]⟩ : ByteArray), 0⟩ : S47), (⟨(⟨#[89]⟩ : ByteArray), 0⟩ : S47)] : List (S47))) (inner := [.string (⟨#[103]⟩ : ByteArray), .int .i64 2, .string (⟨#[88]⟩ : ByteArray), .int .i64 0, .string (⟨#[89]⟩ : ByteArray), .int .i64 0]) (ok := fun _ => True) (okp := fun _ => True) ?hr ?hp (fun _ hk => hk) trivial (Below.refl _ _) (Nat.le_refl _) (by simp) ?_; (case hd => rfl); (case hg => rfl); (case hr => first | (go_simp; done) | (go_simp; rfl)); (case hp => exact (Reps.c2 (show Kd.M k47 _ _ _ (⟨(⟨#[103]⟩ : ByteArray), 2⟩ : S47) [.string (⟨#[103]⟩ : ByteArray), .int .i64 2] from (k47_mkM _ _ _ (⟨(⟨#[103]⟩ : ByteArray), 2⟩ : S47) )) (Reps.c2 (show Kd.M k47 _ _ _ (⟨(⟨#[88]⟩ : ByteArray), 0⟩ : S47) [.string (⟨#[88]⟩ : ByteArray), .int .i64 0] from (k47_mkM _ _ _ (⟨(⟨#[88]⟩ : ByteArray), 0⟩ : S47) )) (Reps.c2 (show Kd.M k47 _ _ _ (⟨(⟨#[89]⟩ : ByteArray), 0⟩ : S47) [.string (⟨#[89]⟩ : ByteArray), .int .i64 0] from (k47_mkM _ _ _ (⟨(⟨#[89]⟩ : ByteArray), 0⟩ : S47) )) (Reps.none _ _))))); intro v102 w37 ho38 hb hg_ hnew_; clear hg_ hnew_; (first | rw [← Ny101.out] at ho38 | (simp only [Int.reduceToNat] at ho38; rw [← Ny101.out] at ho38)); have n0_ := Aside0.mk (Kd.R_lower ho38 (below_size (by repeat (first | (with_reducible first | exact HB.out | apply below_alloc | apply pw_below_drewN | apply below_drew1) | exact HB.out)))); have n1_ := Aside0.mk (below_step (by repeat (first | (with_reducible first | exact HB.out | apply below_alloc | apply pw_below_drewN | apply below_drew1) | exact HB.out)) hb); clear HB; have HO103 := n0_; have HB := n1_; clear n0_ n1_; clear hb ho38) | ((with_reducible refine gate_dst (N := 15) rfl ?_); (try (refine gate_guard (by rfl) ?_; dsimp only)); refine Kd.R_lit k47 _ 47 ?hg (N := 15) ?hd (xs := ([(⟨(⟨#[103]⟩ : ByteArray), 2⟩ : S47), (⟨(⟨#[97]⟩ : ByteArray), 0⟩ : S47), (⟨(⟨#[98]⟩ : ByteArray), 0⟩ : S47)] : List (S47))) (inner := [.string (⟨#[103]⟩ : ByteArray), .int .i64 2, .string (⟨#[97]⟩ : ByteArray), .int .i64 0, .string (⟨#[98]⟩ : ByteArray), .int .i64 0]) (ok := fun _ => True) (okp := fun _ => True) ?hr ?hp (fun _ hk => hk) trivial (Below.refl _ _) (Nat.le_refl _) (by simp) ?_; (case hd => rfl); (case hg => rfl); (case hr => first | (go_simp; done) | (go_simp; rfl)); (case hp => exact (Reps.c2 (show Kd.M k47 _ _ _ (⟨(⟨#[103]⟩ : ByteArray), 2⟩ : S47) [.string (⟨#[103]⟩ : ByteArray), .int .i64 2] from (k47_mkM _ _ _ (⟨(⟨#[103]⟩ : ByteArray), 2⟩ : S47) )) (Reps.c2 (show Kd.M k47 _ _ _ (⟨(⟨#[97]⟩ : ByteArray), 0⟩ : S47) [.string (⟨#[97]⟩ : ByteArray), .int .i64 0] from (k47_mkM _ _ _ (⟨(⟨#[97]⟩ : ByteArray), 0⟩ : S47) )) (Reps.c2 (show Kd.M k47 _ _ _ (⟨(⟨#[98]⟩ : ByteArray), 0⟩ : S47) [.string (⟨#[98]⟩ : ByteArray), .int .i64 0] from (k47_mkM _ _ _ (⟨(⟨#[98]⟩ : ByteArray), 0⟩ : S47) )) (Reps.none _ _))))); intro v105 w39 ho40 hb hg_ hnew_; clear hg_ hnew_; (first | rw [← Ny104.out] at ho40 | (simp only [Int.reduceToNat] at ho40; rw [← Ny104.out] at ho40)); have n0_ := Aside0.mk (Kd.R_elder' (by (with_reducible repeat (first | apply Kd.R_alloc | apply Kd.R_drewN | apply Kd.R_drew)); exact HO103.out) (Kd.R_base ho40) hb); have n1_ := Aside0.mk (Kd.R_lower (Kd.R_new' ho40 (Kd.R_lt (by (with_reducible repeat (first | apply Kd.R_alloc | apply Kd.R_drewN | apply Kd.R_drew)); exact HO103.out))) (below_size (by repeat (first | (with_reducible first | exact HB.out | apply below_alloc | apply pw_below_drewN | apply below_drew1) | exact HB.out)))); have n2_ := Aside0.mk (below_step (by repeat (first | (with_reducible first | exact HB.out | apply below_alloc | apply pw_below_drewN | apply below_drew1) | exact HB.out)) hb); clear HO103; clear HB; have HO103 := n0_; have HO106 := n1_; have HB := n2_; clear n0_ n1_ n2_; clear hb ho40; obtain ⟨Ao41, co41, eo41⟩ := Kd.R_slice HO103.out; subst eo41; obtain ⟨Ao42, co42, eo42⟩ := Kd.R_slice HO106.out; subst eo42) | ((with_reducible refine gate_callee (f := 10) rfl ?_); refine goesL_ (some 19) rfl rfl Try.func10 (by kernel_rfl) rfl #[.slice Ao41 y101.length co41, .slice Ao42 y104.length co42] rfl (by (try simp only [List.map_toArray, List.map_cons, List.map_nil]); first | done | rfl | (simp only [List.length_drop, List.length_take]; rfl)) ?_; (with_reducible refine (match_Match.calls k _ _ y101 _ _ y104 t107 true t109 _ ?side1 ?side2 ?side3 ?side4 A1.out).mono ?_); (case side1 => repeat (first | exact (Kd.R_reads' HO103.out).2.2 | (with_reducible refine Kd.C_alloc ?_ _) | (with_reducible refine Kd.C_drewN ?_ _) | (with_reducible refine Kd.C_drew ?_))); (case side2 => exact (Kd.R_reads' HO103.out).2.1); (case side3 => repeat (first | exact (Kd.R_reads' HO106.out).2.2 | (with_reducible refine Kd.C_alloc ?_ _) | (with_reducible refine Kd.C_drewN ?_ _) | (with_reducible refine Kd.C_drew ?_))); (case side4 => exact (Kd.R_reads' HO106.out).2.1); rintro e w43 ⟨v110, rfl, ho0, hb⟩; refine ⟨_, rfl, ?_⟩; have n0_ := Aside0.mk (Kd.R_below (by (with_reducible repeat (first | apply Kd.R_alloc | apply Kd.R_drewN | apply Kd.R_drew)); exact HO103.out) hb); have n1_ := Aside0.mk (Kd.R_below (by (with_reducible repeat (first | apply Kd.R_alloc | apply Kd.R_drewN | apply Kd.R_drew)); exact HO106.out) hb); have n2_ := Aside0.mk (Kd.S_lower (Kd.S_new' (Kd.S_new' ho0 (Kd.R_lt (by (with_reducible repeat (first | apply Kd.R_alloc | apply Kd.R_drewN | apply Kd.R_drew)); exact HO103.out))) (Kd.R_lt (by (with_reducible repeat (first | apply Kd.R_alloc | apply Kd.R_drewN | apply Kd.R_drew)); exact HO106.out))) (below_size (by repeat (first | (with_reducible first | exact HB.out | apply below_alloc | apply pw_below_drewN | apply below_drew1) | exact HB.out)))); have n3_ := Aside0.mk (below_step (by repeat (first | (with_reducible first | exact HB.out | apply below_alloc | apply pw_below_drewN | apply below_drew1) | exact HB.out)) hb); clear HO103; clear HO106; clear HB; have HO103 := n0_; have HO106 := n1_; have HO111 := n2_; have HB := n3_; clear n0_ n1_ n2_ n3_; (try clear hb); (try clear hb2); (try clear hk); (try clear hi); (try clear ho0)) | ((with_reducible refine gate_dst (N := 25) rfl ?_); (try (refine gate_guard (by rfl) ?_; dsimp only)); refine Kd.R_lit k47 _ 47 ?hg (N := 25) ?hd (xs := ([(⟨(⟨#[89]⟩ : ByteArray), 0⟩ : S47)] : List (S47))) (inner := [.string (⟨#[89]⟩ : ByteArray), .int .i64 0]) (ok := fun _ => True) (okp := fun _ => True) ?hr ?hp (fun _ hk => hk) trivial (Below.refl _ _) (Nat.le_refl _) (by simp) ?_; (case hd => rfl); (case hg => rfl); (case hr => first | (go_simp; done) | (go_simp; rfl)); (case hp => exact (Reps.c2 (show Kd.M k47 _ _ _ (⟨(⟨#[89]⟩ : ByteArray), 0⟩ : S47) [.string (⟨#[89]⟩ : ByteArray), .int .i64 0] from (k47_mkM _ _ _ (⟨(⟨#[89]⟩ : ByteArray), 0⟩ : S47) )) (Reps.none _ _))); intro v113 w44 ho45 hb hg_ hnew_; clear hg_ hnew_; (first | rw [← Ny112.out] at ho45 | (simp only [Int.reduceToNat] at ho45; rw [← Ny112.out] at ho45)); have n0_ := Aside0.mk (Kd.R_elder' (by (with_reducible repeat (first | apply Kd.R_alloc | apply Kd.R_drewN | apply Kd.R_drew)); exact HO103.out) (Kd.R_base ho45) hb); have n1_ := Aside0.mk (Kd.R_elder' (by (with_reducible repeat (first | apply Kd.R_alloc | apply Kd.R_drewN | apply Kd.R_drew)); exact HO106.out) (Kd.R_base ho45) hb); have n2_ := Aside0.mk (Kd.S_elder' (by (with_reducible repeat (first | apply Kd.S_alloc | apply Kd.S_drewN | apply Kd.S_drew)); exact HO111.out) (Kd.R_base ho45) hb); have n3_ := Aside0.mk (Kd.R_lower (Kd.R_new' (Kd.R_new' ho45 (Kd.R_lt (by (with_reducible repeat (first | apply Kd.R_alloc | apply Kd.R_drewN | apply Kd.R_drew)); exact HO103.out))) (Kd.R_lt (by (with_reducible repeat (first | apply Kd.R_alloc | apply Kd.R_drewN | apply Kd.R_drew)); exact HO106.out))) (below_size (by repeat (first | (with_reducible first | exact HB.out | apply below_alloc | apply pw_below_drewN | apply below_drew1) | exact HB.out)))); have n4_ := Aside0.mk (below_step (by repeat (first | (with_reducible first | exact HB.out | apply below_alloc | apply pw_below_drewN | apply below_drew1) | exact HB.out)) hb); clear HO103; clear HO106; clear HO111; clear HB; have HO103 := n0_; have HO106 := n1_; have HO111 := n2_; have HO114 := n3_; have HB := n4_; clear n0_ n1_ n2_ n3_ n4_; clear hb ho45; obtain ⟨Ao46, co46, eo46⟩ := Kd.R_slice HO114.out; subst eo46; obtain ⟨Ao47, co47, eo47⟩ := Kd.S_slice HO111.out; subst eo47) | ((with_reducible refine gate_callee (f := 14) rfl ?_); refine goesL_ (some 27) rfl rfl Try.func14 (by kernel_rfl) rfl #[.slice Ao46 y112.length co46, .slice Ao47 t107.length co47] rfl (by (try simp only [List.map_toArray, List.map_cons, List.map_nil]); first | done | rfl | (simp only [List.length_drop, List.length_take]; rfl)) ?_; (with_reducible refine (match_Fill.calls k _ _ y112 _ _ t107 t115 t116 _ ?side1 ?side2 ?side3 ?side4 A2.out).mono ?_); (case side1 => repeat (first | exact (Kd.R_reads' HO114.out).2.2 | (with_reducible refine Kd.C_alloc ?_ _) | (with_reducible refine Kd.C_drewN ?_ _) | (with_reducible refine Kd.C_drew ?_))); (case side2 => exact (Kd.R_reads' HO114.out).2.1); (case side3 => repeat (first | exact (Kd.S_reads' HO111.out).2.2 | (with_reducible refine Kd.C_alloc ?_ _) | (with_reducible refine Kd.C_drewN ?_ _) | (with_reducible refine Kd.C_drew ?_))); (case side4 => exact (Kd.S_reads' HO111.out).2.1); rintro e w48 ⟨v117, rfl, ho0, hb⟩; refine ⟨_, rfl, ?_⟩; have n0_ := Aside0.mk (Kd.R_elder' (by (with_reducible repeat (first | apply Kd.R_alloc | apply Kd.R_drewN | apply Kd.R_drew)); exact HO103.out) (Kd.R_base ho0) hb); have n1_ := Aside0.mk (Kd.R_elder' (by (with_reducible repeat (first | apply Kd.R_alloc | apply Kd.R_drewN | apply Kd.R_drew)); exact HO106.out) (Kd.R_base ho0) hb); have n2_ := Aside0.mk (Kd.S_elder' (by (with_reducible repeat (first | apply Kd.S_alloc | apply Kd.S_drewN | apply Kd.S_drew)); exact HO111.out) (Kd.R_base ho0) hb); have n3_ := Aside0.mk (Kd.R_elder' (by (with_reducible repeat (first | apply Kd.R_alloc | apply Kd.R_drewN | apply Kd.R_drew)); exact HO114.out) (Kd.R_base ho0) hb); have n4_ := Aside0.mk (Kd.R_lower (Kd.R_new' (Kd.R_new' (Kd.R_new' ho0 (Kd.R_lt (by (with_reducible repeat (first | apply Kd.R_alloc | apply Kd.R_drewN | apply Kd.R_drew)); exact HO103.out))) (Kd.R_lt (by (with_reducible repeat (first | apply Kd.R_alloc | apply Kd.R_drewN | apply Kd.R_drew)); exact HO106.out))) (Kd.R_lt (by (with_reducible repeat (first | apply Kd.R_alloc | apply Kd.R_drewN | apply Kd.R_drew)); exact HO114.out))) (below_size (by repeat (first | (with_reducible first | exact HB.out | apply below_alloc | apply pw_below_drewN | apply below_drew1) | exact HB.out)))); have n5_ := Aside0.mk (below_step (by repeat (first | (with_reducible first | exact HB.out | apply below_alloc | apply pw_below_drewN | apply below_drew1) | exact HB.out)) hb); clear HO103; clear HO106; clear HO111; clear HO114; clear HB; have HO103 := n0_; have HO106 := n1_; have HO111 := n2_; have HO114 := n3_; have HO118 := n4_; have HB := n5_; clear n0_ n1_ n2_ n3_ n4_ n5_; (try clear hb); (try clear hb2); (try clear hk); (try clear hi); (try clear ho0); have p119 : 0 ≤ (0 : Int) := (by omega); have q119 : 0 < (t107.length : Int) := of_decide_eq_true (by first | (with_reducible assumption) | assumption); obtain ⟨ad119, A119_1, c119_1, e119, hx119_0, hx119_1, hl119_1, hi119_1⟩ := at_T44 (Kd.S_reads' HO111.out).2.2 0 p119 q119; cases e119; obtain ⟨ce119, hce119, hMe119, hcc119⟩ := Kd.S_get HO111.out z44 0 p119 (by first | exact q119 | exact of_decide_eq_true (by first | (with_reducible assumption) | assumption) | (have e_ := (Kd.S_reads' HO111.out).1; omega)); obtain ⟨ve119_1, rfl, ge119_1⟩ := k44_openM hMe119; have hv119_1 := hcc119 1 _ rfl; rw [add_field _ _ 1 (by omega)] at hv119_1; replace hv119_1 := Option.some.inj (hv119_1.symm.trans hx119_1); rw [hv119_1] at ge119_1; have HL119_1 := Aside0.mk (show Kd.R k47 47 _ _ _ _ ((rd_T44 t107 0).f1) from ge119_1); clear hv119_1 ge119_1; clear hcc119 hce119; have qi119 : (0 < t107.length) = True := eq_true (by omega); (try rw [show ((0 : Int)).toNat = 0 from rfl] at hx119_0); (try rw [show 0 * 2 = 0 from rfl] at hx119_0); (try rw [Addr.add_zero'] at hx119_0); (try rw [show ((0 : Int)).toNat = 0 from rfl] at hx119_1); (try rw [show 0 * 2 = 0 from rfl] at hx119_1); (try rw [Addr.add_zero'] at hx119_1); have HR119_1 := Aside0.mk hi119_1; have HC119_1 := Aside0.mk hl119_1; clear hi119_1 hl119_1; replace p119 := eq_true p119; replace q119 := eq_true q119))
              go_ret
              exact ⟨by first | rfl | (simp [errW_none, errW_some] <;> rfl) | (simp [*, errW_none, errW_some] <;> rfl), by repeat (first | (with_reducible first | exact HB.out | apply below_alloc | apply pw_below_drewN | apply below_drew1) | exact HB.out)⟩
          · rw [if_neg c7] at H
            exact absurd H (by simp)
        · rw [if_neg c6] at H
          have c6b0 : ((t107.length : Int) == 2) = false := beq_eq_false_iff_ne.mpr c6
          have c6b1 : ((t107.length : Int) != 2) = true := bne_iff_ne.mpr c6
          obtain rfl := Option.some.inj H
          go_enter Try.func9, Try.ntmps9
          go_wp2_with (first | ((with_reducible refine gate_dst (N := 11) rfl ?_); (try (refine gate_guard (by rfl) ?_; dsimp only)); refine Kd.R_lit k47 _ 47 ?hg (N := 11) ?hd (xs := ([(⟨(⟨#[103]⟩ : ByteArray), 2⟩ : S47), (⟨(⟨#[88]⟩ : ByteArray), 0⟩ : S47), (⟨(⟨#[89]⟩ : ByteArray), 0⟩ : S47)] : List (S47))) (inner := [.string (⟨#[103]⟩ : ByteArray), .int .i64 2, .string (⟨#[88]⟩ : ByteArray), .int .i64 0, .string (⟨#[89]⟩ : ByteArray), .int .i64 0]) (ok := fun _ => True) (okp := fun _ => True) ?hr ?hp (fun _ hk => hk) trivial (Below.refl _ _) (Nat.le_refl _) (by simp) ?_; (case hd => rfl); (case hg => rfl); (case hr => first | (go_simp; done) | (go_simp; rfl)); (case hp => exact (Reps.c2 (show Kd.M k47 _ _ _ (⟨(⟨#[103]⟩ : ByteArray), 2⟩ : S47) [.string (⟨#[103]⟩ : ByteArray), .int .i64 2] from (k47_mkM _ _ _ (⟨(⟨#[103]⟩ : ByteArray), 2⟩ : S47) )) (Reps.c2 (show Kd.M k47 _ _ _ (⟨(⟨#[88]⟩ : ByteArray), 0⟩ : S47) [.string (⟨#[88]⟩ : ByteArray), .int .i64 0] from (k47_mkM _ _ _ (⟨(⟨#[88]⟩ : ByteArray), 0⟩ : S47) )) (Reps.c2 (show Kd.M k47 _ _ _ (⟨(⟨#[89]⟩ : ByteArray), 0⟩ : S47) [.string (⟨#[89]⟩ : ByteArray), .int .i64 0] from (k47_mkM _ _ _ (⟨(⟨#[89]⟩ : ByteArray), 0⟩ : S47) )) (Reps.none _ _))))); intro v102 w49 ho50 hb hg_ hnew_; clear hg_ hnew_; (first | rw [← Ny101.out] at ho50 | (simp only [Int.reduceToNat] at ho50; rw [← Ny101.out] at ho50)); have n0_ := Aside0.mk (Kd.R_lower ho50 (below_size (by repeat (first | (with_reducible first | exact HB.out | apply below_alloc | apply pw_below_drewN | apply below_drew1) | exact HB.out)))); have n1_ := Aside0.mk (below_step (by repeat (first | (with_reducible first | exact HB.out | apply below_alloc | apply pw_below_drewN | apply below_drew1) | exact HB.out)) hb); clear HB; have HO103 := n0_; have HB := n1_; clear n0_ n1_; clear hb ho50) | ((with_reducible refine gate_dst (N := 15) rfl ?_); (try (refine gate_guard (by rfl) ?_; dsimp only)); refine Kd.R_lit k47 _ 47 ?hg (N := 15) ?hd (xs := ([(⟨(⟨#[103]⟩ : ByteArray), 2⟩ : S47), (⟨(⟨#[97]⟩ : ByteArray), 0⟩ : S47), (⟨(⟨#[98]⟩ : ByteArray), 0⟩ : S47)] : List (S47))) (inner := [.string (⟨#[103]⟩ : ByteArray), .int .i64 2, .string (⟨#[97]⟩ : ByteArray), .int .i64 0, .string (⟨#[98]⟩ : ByteArray), .int .i64 0]) (ok := fun _ => True) (okp := fun _ => True) ?hr ?hp (fun _ hk => hk) trivial (Below.refl _ _) (Nat.le_refl _) (by simp) ?_; (case hd => rfl); (case hg => rfl); (case hr => first | (go_simp; done) | (go_simp; rfl)); (case hp => exact (Reps.c2 (show Kd.M k47 _ _ _ (⟨(⟨#[103]⟩ : ByteArray), 2⟩ : S47) [.string (⟨#[103]⟩ : ByteArray), .int .i64 2] from (k47_mkM _ _ _ (⟨(⟨#[103]⟩ : ByteArray), 2⟩ : S47) )) (Reps.c2 (show Kd.M k47 _ _ _ (⟨(⟨#[97]⟩ : ByteArray), 0⟩ : S47) [.string (⟨#[97]⟩ : ByteArray), .int .i64 0] from (k47_mkM _ _ _ (⟨(⟨#[97]⟩ : ByteArray), 0⟩ : S47) )) (Reps.c2 (show Kd.M k47 _ _ _ (⟨(⟨#[98]⟩ : ByteArray), 0⟩ : S47) [.string (⟨#[98]⟩ : ByteArray), .int .i64 0] from (k47_mkM _ _ _ (⟨(⟨#[98]⟩ : ByteArray), 0⟩ : S47) )) (Reps.none _ _))))); intro v105 w51 ho52 hb hg_ hnew_; clear hg_ hnew_; (first | rw [← Ny104.out] at ho52 | (simp only [Int.reduceToNat] at ho52; rw [← Ny104.out] at ho52)); have n0_ := Aside0.mk (Kd.R_elder' (by (with_reducible repeat (first | apply Kd.R_alloc | apply Kd.R_drewN | apply Kd.R_drew)); exact HO103.out) (Kd.R_base ho52) hb); have n1_ := Aside0.mk (Kd.R_lower (Kd.R_new' ho52 (Kd.R_lt (by (with_reducible repeat (first | apply Kd.R_alloc | apply Kd.R_drewN | apply Kd.R_drew)); exact HO103.out))) (below_size (by repeat (first | (with_reducible first | exact HB.out | apply below_alloc | apply pw_below_drewN | apply below_drew1) | exact HB.out)))); have n2_ := Aside0.mk (below_step (by repeat (first | (with_reducible first | exact HB.out | apply below_alloc | apply pw_below_drewN | apply below_drew1) | exact HB.out)) hb); clear HO103; clear HB; have HO103 := n0_; have HO106 := n1_; have HB := n2_; clear n0_ n1_ n2_; clear hb ho52; obtain ⟨Ao53, co53, eo53⟩ := Kd.R_slice HO103.out; subst eo53; obtain ⟨Ao54, co54, eo54⟩ := Kd.R_slice HO106.out; subst eo54) | ((with_reducible refine gate_callee (f := 10) rfl ?_); refine goesL_ (some 19) rfl rfl Try.func10 (by kernel_rfl) rfl #[.slice Ao53 y101.length co53, .slice Ao54 y104.length co54] rfl (by (try simp only [List.map_toArray, List.map_cons, List.map_nil]); first | done | rfl | (simp only [List.length_drop, List.length_take]; rfl)) ?_; (with_reducible refine (match_Match.calls k _ _ y101 _ _ y104 t107 true t109 _ ?side1 ?side2 ?side3 ?side4 A1.out).mono ?_); (case side1 => repeat (first | exact (Kd.R_reads' HO103.out).2.2 | (with_reducible refine Kd.C_alloc ?_ _) | (with_reducible refine Kd.C_drewN ?_ _) | (with_reducible refine Kd.C_drew ?_))); (case side2 => exact (Kd.R_reads' HO103.out).2.1); (case side3 => repeat (first | exact (Kd.R_reads' HO106.out).2.2 | (with_reducible refine Kd.C_alloc ?_ _) | (with_reducible refine Kd.C_drewN ?_ _) | (with_reducible refine Kd.C_drew ?_))); (case side4 => exact (Kd.R_reads' HO106.out).2.1); rintro e w55 ⟨v110, rfl, ho0, hb⟩; refine ⟨_, rfl, ?_⟩; have n0_ := Aside0.mk (Kd.R_below (by (with_reducible repeat (first | apply Kd.R_alloc | apply Kd.R_drewN | apply Kd.R_drew)); exact HO103.out) hb); have n1_ := Aside0.mk (Kd.R_below (by (with_reducible repeat (first | apply Kd.R_alloc | apply Kd.R_drewN | apply Kd.R_drew)); exact HO106.out) hb); have n2_ := Aside0.mk (Kd.S_lower (Kd.S_new' (Kd.S_new' ho0 (Kd.R_lt (by (with_reducible repeat (first | apply Kd.R_alloc | apply Kd.R_drewN | apply Kd.R_drew)); exact HO103.out))) (Kd.R_lt (by (with_reducible repeat (first | apply Kd.R_alloc | apply Kd.R_drewN | apply Kd.R_drew)); exact HO106.out))) (below_size (by repeat (first | (with_reducible first | exact HB.out | apply below_alloc | apply pw_below_drewN | apply below_drew1) | exact HB.out)))); have n3_ := Aside0.mk (below_step (by repeat (first | (with_reducible first | exact HB.out | apply below_alloc | apply pw_below_drewN | apply below_drew1) | exact HB.out)) hb); clear HO103; clear HO106; clear HB; have HO103 := n0_; have HO106 := n1_; have HO111 := n2_; have HB := n3_; clear n0_ n1_ n2_ n3_; (try clear hb); (try clear hb2); (try clear hk); (try clear hi); (try clear ho0)) | ((with_reducible refine gate_dst (N := 25) rfl ?_); (try (refine gate_guard (by rfl) ?_; dsimp only)); refine Kd.R_lit k47 _ 47 ?hg (N := 25) ?hd (xs := ([(⟨(⟨#[89]⟩ : ByteArray), 0⟩ : S47)] : List (S47))) (inner := [.string (⟨#[89]⟩ : ByteArray), .int .i64 0]) (ok := fun _ => True) (okp := fun _ => True) ?hr ?hp (fun _ hk => hk) trivial (Below.refl _ _) (Nat.le_refl _) (by simp) ?_; (case hd => rfl); (case hg => rfl); (case hr => first | (go_simp; done) | (go_simp; rfl)); (case hp => exact (Reps.c2 (show Kd.M k47 _ _ _ (⟨(⟨#[89]⟩ : ByteArray), 0⟩ : S47) [.string (⟨#[89]⟩ : ByteArray), .int .i64 0] from (k47_mkM _ _ _ (⟨(⟨#[89]⟩ : ByteArray), 0⟩ : S47) )) (Reps.none _ _))); intro v113 w56 ho57 hb hg_ hnew_; clear hg_ hnew_; (first | rw [← Ny112.out] at ho57 | (simp only [Int.reduceToNat] at ho57; rw [← Ny112.out] at ho57)); have n0_ := Aside0.mk (Kd.R_elder' (by (with_reducible repeat (first | apply Kd.R_alloc | apply Kd.R_drewN | apply Kd.R_drew)); exact HO103.out) (Kd.R_base ho57) hb); have n1_ := Aside0.mk (Kd.R_elder' (by (with_reducible repeat (first | apply Kd.R_alloc | apply Kd.R_drewN | apply Kd.R_drew)); exact HO106.out) (Kd.R_base ho57) hb); have n2_ := Aside0.mk (Kd.S_elder' (by (with_reducible repeat (first | apply Kd.S_alloc | apply Kd.S_drewN | apply Kd.S_drew)); exact HO111.out) (Kd.R_base ho57) hb); have n3_ := Aside0.mk (Kd.R_lower (Kd.R_new' (Kd.R_new' ho57 (Kd.R_lt (by (with_reducible repeat (first | apply Kd.R_alloc | apply Kd.R_drewN | apply Kd.R_drew)); exact HO103.out))) (Kd.R_lt (by (with_reducible repeat (first | apply Kd.R_alloc | apply Kd.R_drewN | apply Kd.R_drew)); exact HO106.out))) (below_size (by repeat (first | (with_reducible first | exact HB.out | apply below_alloc | apply pw_below_drewN | apply below_drew1) | exact HB.out)))); have n4_ := Aside0.mk (below_step (by repeat (first | (with_reducible first | exact HB.out | apply below_alloc | apply pw_below_drewN | apply below_drew1) | exact HB.out)) hb); clear HO103; clear HO106; clear HO111; clear HB; have HO103 := n0_; have HO106 := n1_; have HO111 := n2_; have HO114 := n3_; have HB := n4_; clear n0_ n1_ n2_ n3_ n4_; clear hb ho57; obtain ⟨Ao58, co58, eo58⟩ := Kd.R_slice HO114.out; subst eo58; obtain ⟨Ao59, co59, eo59⟩ := Kd.S_slice HO111.out; subst eo59) | ((with_reducible refine gate_callee (f := 14) rfl ?_); refine goesL_ (some 27) rfl rfl Try.func14 (by kernel_rfl) rfl #[.slice Ao58 y112.length co58, .slice Ao59 t107.length co59] rfl (by (try simp only [List.map_toArray, List.map_cons, List.map_nil]); first | done | rfl | (simp only [List.length_drop, List.length_take]; rfl)) ?_; (with_reducible refine (match_Fill.calls k _ _ y112 _ _ t107 t115 t116 _ ?side1 ?side2 ?side3 ?side4 A2.out).mono ?_); (case side1 => repeat (first | exact (Kd.R_reads' HO114.out).2.2 | (with_reducible refine Kd.C_alloc ?_ _) | (with_reducible refine Kd.C_drewN ?_ _) | (with_reducible refine Kd.C_drew ?_))); (case side2 => exact (Kd.R_reads' HO114.out).2.1); (case side3 => repeat (first | exact (Kd.S_reads' HO111.out).2.2 | (with_reducible refine Kd.C_alloc ?_ _) | (with_reducible refine Kd.C_drewN ?_ _) | (with_reducible refine Kd.C_drew ?_))); (case side4 => exact (Kd.S_reads' HO111.out).2.1); rintro e w60 ⟨v117, rfl, ho0, hb⟩; refine ⟨_, rfl, ?_⟩; have n0_ := Aside0.mk (Kd.R_elder' (by (with_reducible repeat (first | apply Kd.R_alloc | apply Kd.R_drewN | apply Kd.R_drew)); exact HO103.out) (Kd.R_base ho0) hb); have n1_ := Aside0.mk (Kd.R_elder' (by (with_reducible repeat (first | apply Kd.R_alloc | apply Kd.R_drewN | apply Kd.R_drew)); exact HO106.out) (Kd.R_base ho0) hb); have n2_ := Aside0.mk (Kd.S_elder' (by (with_reducible repeat (first | apply Kd.S_alloc | apply Kd.S_drewN | apply Kd.S_drew)); exact HO111.out) (Kd.R_base ho0) hb); have n3_ := Aside0.mk (Kd.R_elder' (by (with_reducible repeat (first | apply Kd.R_alloc | apply Kd.R_drewN | apply Kd.R_drew)); exact HO114.out) (Kd.R_base ho0) hb); have n4_ := Aside0.mk (Kd.R_lower (Kd.R_new' (Kd.R_new' (Kd.R_new' ho0 (Kd.R_lt (by (with_reducible repeat (first | apply Kd.R_alloc | apply Kd.R_drewN | apply Kd.R_drew)); exact HO103.out))) (Kd.R_lt (by (with_reducible repeat (first | apply Kd.R_alloc | apply Kd.R_drewN | apply Kd.R_drew)); exact HO106.out))) (Kd.R_lt (by (with_reducible repeat (first | apply Kd.R_alloc | apply Kd.R_drewN | apply Kd.R_drew)); exact HO114.out))) (below_size (by repeat (first | (with_reducible first | exact HB.out | apply below_alloc | apply pw_below_drewN | apply below_drew1) | exact HB.out)))); have n5_ := Aside0.mk (below_step (by repeat (first | (with_reducible first | exact HB.out | apply below_alloc | apply pw_below_drewN | apply below_drew1) | exact HB.out)) hb); clear HO103; clear HO106; clear HO111; clear HO114; clear HB; have HO103 := n0_; have HO106 := n1_; have HO111 := n2_; have HO114 := n3_; have HO118 := n4_; have HB := n5_; clear n0_ n1_ n2_ n3_ n4_ n5_; (try clear hb); (try clear hb2); (try clear hk); (try clear hi); (try clear ho0)))
          go_ret
          exact ⟨by first | rfl | (simp [errW_none, errW_some] <;> rfl) | (simp [*, errW_none, errW_some] <;> rfl), by repeat (first | (with_reducible first | exact HB.out | apply below_alloc | apply pw_below_drewN | apply below_drew1) | exact HB.out)⟩
      · rw [if_neg c5] at H
        have c5b0 : (t116 == 0) = false := beq_eq_false_iff_ne.mpr c5
        have c5b1 : (t116 != 0) = true := bne_iff_ne.mpr c5
        obtain rfl := Option.some.inj H
        go_enter Try.func9, Try.ntmps9
        go_wp2_with (first | ((with_reducible refine gate_dst (N := 11) rfl ?_); (try (refine gate_guard (by rfl) ?_; dsimp only)); refine Kd.R_lit k47 _ 47 ?hg (N := 11) ?hd (xs := ([(⟨(⟨#[103]⟩ : ByteArray), 2⟩ : S47), (⟨(⟨#[88]⟩ : ByteArray), 0⟩ : S47), (⟨(⟨#[89]⟩ : ByteArray), 0⟩ : S47)] : List (S47))) (inner := [.string (⟨#[103]⟩ : ByteArray), .int .i64 2, .string (⟨#[88]⟩ : ByteArray), .int .i64 0, .string (⟨#[89]⟩ : ByteArray), .int .i64 0]) (ok := fun _ => True) (okp := fun _ => True) ?hr ?hp (fun _ hk => hk) trivial (Below.refl _ _) (Nat.le_refl _) (by simp) ?_; (case hd => rfl); (case hg => rfl); (case hr => first | (go_simp; done) | (go_simp; rfl)); (case hp => exact (Reps.c2 (show Kd.M k47 _ _ _ (⟨(⟨#[103]⟩ : ByteArray), 2⟩ : S47) [.string (⟨#[103]⟩ : ByteArray), .int .i64 2] from (k47_mkM _ _ _ (⟨(⟨#[103]⟩ : ByteArray), 2⟩ : S47) )) (Reps.c2 (show Kd.M k47 _ _ _ (⟨(⟨#[88]⟩ : ByteArray), 0⟩ : S47) [.string (⟨#[88]⟩ : ByteArray), .int .i64 0] from (k47_mkM _ _ _ (⟨(⟨#[88]⟩ : ByteArray), 0⟩ : S47) )) (Reps.c2 (show Kd.M k47 _ _ _ (⟨(⟨#[89]⟩ : ByteArray), 0⟩ : S47) [.string (⟨#[89]⟩ : ByteArray), .int .i64 0] from (k47_mkM _ _ _ (⟨(⟨#[89]⟩ : ByteArray), 0⟩ : S47) )) (Reps.none _ _))))); intro v102 w61 ho62 hb hg_ hnew_; clear hg_ hnew_; (first | rw [← Ny101.out] at ho62 | (simp only [Int.reduceToNat] at ho62; rw [← Ny101.out] at ho62)); have n0_ := Aside0.mk (Kd.R_lower ho62 (below_size (by repeat (first | (with_reducible first | exact HB.out | apply below_alloc | apply pw_below_drewN | apply below_drew1) | exact HB.out)))); have n1_ := Aside0.mk (below_step (by repeat (first | (with_reducible first | exact HB.out | apply below_alloc | apply pw_below_drewN | apply below_drew1) | exact HB.out)) hb); clear HB; have HO103 := n0_; have HB := n1_; clear n0_ n1_; clear hb ho62) | ((with_reducible refine gate_dst (N := 15) rfl ?_); (try (refine gate_guard (by rfl) ?_; dsimp only)); refine Kd.R_lit k47 _ 47 ?hg (N := 15) ?hd (xs := ([(⟨(⟨#[103]⟩ : ByteArray), 2⟩ : S47), (⟨(⟨#[97]⟩ : ByteArray), 0⟩ : S47), (⟨(⟨#[98]⟩ : ByteArray), 0⟩ : S47)] : List (S47))) (inner := [.string (⟨#[103]⟩ : ByteArray), .int .i64 2, .string (⟨#[97]⟩ : ByteArray), .int .i64 0, .string (⟨#[98]⟩ : ByteArray), .int .i64 0]) (ok := fun _ => True) (okp := fun _ => True) ?hr ?hp (fun _ hk => hk) trivial (Below.refl _ _) (Nat.le_refl _) (by simp) ?_; (case hd => rfl); (case hg => rfl); (case hr => first | (go_simp; done) | (go_simp; rfl)); (case hp => exact (Reps.c2 (show Kd.M k47 _ _ _ (⟨(⟨#[103]⟩ : ByteArray), 2⟩ : S47) [.string (⟨#[103]⟩ : ByteArray), .int .i64 2] from (k47_mkM _ _ _ (⟨(⟨#[103]⟩ : ByteArray), 2⟩ : S47) )) (Reps.c2 (show Kd.M k47 _ _ _ (⟨(⟨#[97]⟩ : ByteArray), 0⟩ : S47) [.string (⟨#[97]⟩ : ByteArray), .int .i64 0] from (k47_mkM _ _ _ (⟨(⟨#[97]⟩ : ByteArray), 0⟩ : S47) )) (Reps.c2 (show Kd.M k47 _ _ _ (⟨(⟨#[98]⟩ : ByteArray), 0⟩ : S47) [.string (⟨#[98]⟩ : ByteArray), .int .i64 0] from (k47_mkM _ _ _ (⟨(⟨#[98]⟩ : ByteArray), 0⟩ : S47) )) (Reps.none _ _))))); intro v105 w63 ho64 hb hg_ hnew_; clear hg_ hnew_; (first | rw [← Ny104.out] at ho64 | (simp only [Int.reduceToNat] at ho64; rw [← Ny104.out] at ho64)); have n0_ := Aside0.mk (Kd.R_elder' (by (with_reducible repeat (first | apply Kd.R_alloc | apply Kd.R_drewN | apply Kd.R_drew)); exact HO103.out) (Kd.R_base ho64) hb); have n1_ := Aside0.mk (Kd.R_lower (Kd.R_new' ho64 (Kd.R_lt (by (with_reducible repeat (first | apply Kd.R_alloc | apply Kd.R_drewN | apply Kd.R_drew)); exact HO103.out))) (below_size (by repeat (first | (with_reducible first | exact HB.out | apply below_alloc | apply pw_below_drewN | apply below_drew1) | exact HB.out)))); have n2_ := Aside0.mk (below_step (by repeat (first | (with_reducible first | exact HB.out | apply below_alloc | apply pw_below_drewN | apply below_drew1) | exact HB.out)) hb); clear HO103; clear HB; have HO103 := n0_; have HO106 := n1_; have HB := n2_; clear n0_ n1_ n2_; clear hb ho64; obtain ⟨Ao65, co65, eo65⟩ := Kd.R_slice HO103.out; subst eo65; obtain ⟨Ao66, co66, eo66⟩ := Kd.R_slice HO106.out; subst eo66) | ((with_reducible refine gate_callee (f := 10) rfl ?_); refine goesL_ (some 19) rfl rfl Try.func10 (by kernel_rfl) rfl #[.slice Ao65 y101.length co65, .slice Ao66 y104.length co66] rfl (by (try simp only [List.map_toArray, List.map_cons, List.map_nil]); first | done | rfl | (simp only [List.length_drop, List.length_take]; rfl)) ?_; (with_reducible refine (match_Match.calls k _ _ y101 _ _ y104 t107 true t109 _ ?side1 ?side2 ?side3 ?side4 A1.out).mono ?_); (case side1 => repeat (first | exact (Kd.R_reads' HO103.out).2.2 | (with_reducible refine Kd.C_alloc ?_ _) | (with_reducible refine Kd.C_drewN ?_ _) | (with_reducible refine Kd.C_drew ?_))); (case side2 => exact (Kd.R_reads' HO103.out).2.1); (case side3 => repeat (first | exact (Kd.R_reads' HO106.out).2.2 | (with_reducible refine Kd.C_alloc ?_ _) | (with_reducible refine Kd.C_drewN ?_ _) | (with_reducible refine Kd.C_drew ?_))); (case side4 => exact (Kd.R_reads' HO106.out).2.1); rintro e w67 ⟨v110, rfl, ho0, hb⟩; refine ⟨_, rfl, ?_⟩; have n0_ := Aside0.mk (Kd.R_below (by (with_reducible repeat (first | apply Kd.R_alloc | apply Kd.R_drewN | apply Kd.R_drew)); exact HO103.out) hb); have n1_ := Aside0.mk (Kd.R_below (by (with_reducible repeat (first | apply Kd.R_alloc | apply Kd.R_drewN | apply Kd.R_drew)); exact HO106.out) hb); have n2_ := Aside0.mk (Kd.S_lower (Kd.S_new' (Kd.S_new' ho0 (Kd.R_lt (by (with_reducible repeat (first | apply Kd.R_alloc | apply Kd.R_drewN | apply Kd.R_drew)); exact HO103.out))) (Kd.R_lt (by (with_reducible repeat (first | apply Kd.R_alloc | apply Kd.R_drewN | apply Kd.R_drew)); exact HO106.out))) (below_size (by repeat (first | (with_reducible first | exact HB.out | apply below_alloc | apply pw_below_drewN | apply below_drew1) | exact HB.out)))); have n3_ := Aside0.mk (below_step (by repeat (first | (with_reducible first | exact HB.out | apply below_alloc | apply pw_below_drewN | apply below_drew1) | exact HB.out)) hb); clear HO103; clear HO106; clear HB; have HO103 := n0_; have HO106 := n1_; have HO111 := n2_; have HB := n3_; clear n0_ n1_ n2_ n3_; (try clear hb); (try clear hb2); (try clear hk); (try clear hi); (try clear ho0)) | ((with_reducible refine gate_dst (N := 25) rfl ?_); (try (refine gate_guard (by rfl) ?_; dsimp only)); refine Kd.R_lit k47 _ 47 ?hg (N := 25) ?hd (xs := ([(⟨(⟨#[89]⟩ : ByteArray), 0⟩ : S47)] : List (S47))) (inner := [.string (⟨#[89]⟩ : ByteArray), .int .i64 0]) (ok := fun _ => True) (okp := fun _ => True) ?hr ?hp (fun _ hk => hk) trivial (Below.refl _ _) (Nat.le_refl _) (by simp) ?_; (case hd => rfl); (case hg => rfl); (case hr => first | (go_simp; done) | (go_simp; rfl)); (case hp => exact (Reps.c2 (show Kd.M k47 _ _ _ (⟨(⟨#[89]⟩ : ByteArray), 0⟩ : S47) [.string (⟨#[89]⟩ : ByteArray), .int .i64 0] from (k47_mkM _ _ _ (⟨(⟨#[89]⟩ : ByteArray), 0⟩ : S47) )) (Reps.none _ _))); intro v113 w68 ho69 hb hg_ hnew_; clear hg_ hnew_; (first | rw [← Ny112.out] at ho69 | (simp only [Int.reduceToNat] at ho69; rw [← Ny112.out] at ho69)); have n0_ := Aside0.mk (Kd.R_elder' (by (with_reducible repeat (first | apply Kd.R_alloc | apply Kd.R_drewN | apply Kd.R_drew)); exact HO103.out) (Kd.R_base ho69) hb); have n1_ := Aside0.mk (Kd.R_elder' (by (with_reducible repeat (first | apply Kd.R_alloc | apply Kd.R_drewN | apply Kd.R_drew)); exact HO106.out) (Kd.R_base ho69) hb); have n2_ := Aside0.mk (Kd.S_elder' (by (with_reducible repeat (first | apply Kd.S_alloc | apply Kd.S_drewN | apply Kd.S_drew)); exact HO111.out) (Kd.R_base ho69) hb); have n3_ := Aside0.mk (Kd.R_lower (Kd.R_new' (Kd.R_new' ho69 (Kd.R_lt (by (with_reducible repeat (first | apply Kd.R_alloc | apply Kd.R_drewN | apply Kd.R_drew)); exact HO103.out))) (Kd.R_lt (by (with_reducible repeat (first | apply Kd.R_alloc | apply Kd.R_drewN | apply Kd.R_drew)); exact HO106.out))) (below_size (by repeat (first | (with_reducible first | exact HB.out | apply below_alloc | apply pw_below_drewN | apply below_drew1) | exact HB.out)))); have n4_ := Aside0.mk (below_step (by repeat (first | (with_reducible first | exact HB.out | apply below_alloc | apply pw_below_drewN | apply below_drew1) | exact HB.out)) hb); clear HO103; clear HO106; clear HO111; clear HB; have HO103 := n0_; have HO106 := n1_; have HO111 := n2_; have HO114 := n3_; have HB := n4_; clear n0_ n1_ n2_ n3_ n4_; clear hb ho69; obtain ⟨Ao70, co70, eo70⟩ := Kd.R_slice HO114.out; subst eo70; obtain ⟨Ao71, co71, eo71⟩ := Kd.S_slice HO111.out; subst eo71) | ((with_reducible refine gate_callee (f := 14) rfl ?_); refine goesL_ (some 27) rfl rfl Try.func14 (by kernel_rfl) rfl #[.slice Ao70 y112.length co70, .slice Ao71 t107.length co71] rfl (by (try simp only [List.map_toArray, List.map_cons, List.map_nil]); first | done | rfl | (simp only [List.length_drop, List.length_take]; rfl)) ?_; (with_reducible refine (match_Fill.calls k _ _ y112 _ _ t107 t115 t116 _ ?side1 ?side2 ?side3 ?side4 A2.out).mono ?_); (case side1 => repeat (first | exact (Kd.R_reads' HO114.out).2.2 | (with_reducible refine Kd.C_alloc ?_ _) | (with_reducible refine Kd.C_drewN ?_ _) | (with_reducible refine Kd.C_drew ?_))); (case side2 => exact (Kd.R_reads' HO114.out).2.1); (case side3 => repeat (first | exact (Kd.S_reads' HO111.out).2.2 | (with_reducible refine Kd.C_alloc ?_ _) | (with_reducible refine Kd.C_drewN ?_ _) | (with_reducible refine Kd.C_drew ?_))); (case side4 => exact (Kd.S_reads' HO111.out).2.1); rintro e w72 ⟨v117, rfl, ho0, hb⟩; refine ⟨_, rfl, ?_⟩; have n0_ := Aside0.mk (Kd.R_elder' (by (with_reducible repeat (first | apply Kd.R_alloc | apply Kd.R_drewN | apply Kd.R_drew)); exact HO103.out) (Kd.R_base ho0) hb); have n1_ := Aside0.mk (Kd.R_elder' (by (with_reducible repeat (first | apply Kd.R_alloc | apply Kd.R_drewN | apply Kd.R_drew)); exact HO106.out) (Kd.R_base ho0) hb); have n2_ := Aside0.mk (Kd.S_elder' (by (with_reducible repeat (first | apply Kd.S_alloc | apply Kd.S_drewN | apply Kd.S_drew)); exact HO111.out) (Kd.R_base ho0) hb); have n3_ := Aside0.mk (Kd.R_elder' (by (with_reducible repeat (first | apply Kd.R_alloc | apply Kd.R_drewN | apply Kd.R_drew)); exact HO114.out) (Kd.R_base ho0) hb); have n4_ := Aside0.mk (Kd.R_lower (Kd.R_new' (Kd.R_new' (Kd.R_new' ho0 (Kd.R_lt (by (with_reducible repeat (first | apply Kd.R_alloc | apply Kd.R_drewN | apply Kd.R_drew)); exact HO103.out))) (Kd.R_lt (by (with_reducible repeat (first | apply Kd.R_alloc | apply Kd.R_drewN | apply Kd.R_drew)); exact HO106.out))) (Kd.R_lt (by (with_reducible repeat (first | apply Kd.R_alloc | apply Kd.R_drewN | apply Kd.R_drew)); exact HO114.out))) (below_size (by repeat (first | (with_reducible first | exact HB.out | apply below_alloc | apply pw_below_drewN | apply below_drew1) | exact HB.out)))); have n5_ := Aside0.mk (below_step (by repeat (first | (with_reducible first | exact HB.out | apply below_alloc | apply pw_below_drewN | apply below_drew1) | exact HB.out)) hb); clear HO103; clear HO106; clear HO111; clear HO114; clear HB; have HO103 := n0_; have HO106 := n1_; have HO111 := n2_; have HO114 := n3_; have HO118 := n4_; have HB := n5_; clear n0_ n1_ n2_ n3_ n4_ n5_; (try clear hb); (try clear hb2); (try clear hk); (try clear hi); (try clear ho0)))
        go_ret
        exact ⟨by first | rfl | (simp [errW_none, errW_some] <;> rfl) | (simp [*, errW_none, errW_some] <;> rfl), by repeat (first | (with_reducible first | exact HB.out | apply below_alloc | apply pw_below_drewN | apply below_drew1) | exact HB.out)⟩
    · rw [if_neg c4] at H
      have c4b0 : (t109 == 0) = false := beq_eq_false_iff_ne.mpr c4
      have c4b1 : (t109 != 0) = true := bne_iff_ne.mpr c4
      obtain rfl := Option.some.inj H
      go_enter Try.func9, Try.ntmps9
      go_wp2_with (first | ((with_reducible refine gate_dst (N := 11) rfl ?_); (try (refine gate_guard (by rfl) ?_; dsimp only)); refine Kd.R_lit k47 _ 47 ?hg (N := 11) ?hd (xs := ([(⟨(⟨#[103]⟩ : ByteArray), 2⟩ : S47), (⟨(⟨#[88]⟩ : ByteArray), 0⟩ : S47), (⟨(⟨#[89]⟩ : ByteArray), 0⟩ : S47)] : List (S47))) (inner := [.string (⟨#[103]⟩ : ByteArray), .int .i64 2, .string (⟨#[88]⟩ : ByteArray), .int .i64 0, .string (⟨#[89]⟩ : ByteArray), .int .i64 0]) (ok := fun _ => True) (okp := fun _ => True) ?hr ?hp (fun _ hk => hk) trivial (Below.refl _ _) (Nat.le_refl _) (by simp) ?_; (case hd => rfl); (case hg => rfl); (case hr => first | (go_simp; done) | (go_simp; rfl)); (case hp => exact (Reps.c2 (show Kd.M k47 _ _ _ (⟨(⟨#[103]⟩ : ByteArray), 2⟩ : S47) [.string (⟨#[103]⟩ : ByteArray), .int .i64 2] from (k47_mkM _ _ _ (⟨(⟨#[103]⟩ : ByteArray), 2⟩ : S47) )) (Reps.c2 (show Kd.M k47 _ _ _ (⟨(⟨#[88]⟩ : ByteArray), 0⟩ : S47) [.string (⟨#[88]⟩ : ByteArray), .int .i64 0] from (k47_mkM _ _ _ (⟨(⟨#[88]⟩ : ByteArray), 0⟩ : S47) )) (Reps.c2 (show Kd.M k47 _ _ _ (⟨(⟨#[89]⟩ : ByteArray), 0⟩ : S47) [.string (⟨#[89]⟩ : ByteArray), .int .i64 0] from (k47_mkM _ _ _ (⟨(⟨#[89]⟩ : ByteArray), 0⟩ : S47) )) (Reps.none _ _))))); intro v102 w73 ho74 hb hg_ hnew_; clear hg_ hnew_; (first | rw [← Ny101.out] at ho74 | (simp only [Int.reduceToNat] at ho74; rw [← Ny101.out] at ho74)); have n0_ := Aside0.mk (Kd.R_lower ho74 (below_size (by repeat (first | (with_reducible first | exact HB.out | apply below_alloc | apply pw_below_drewN | apply below_drew1) | exact HB.out)))); have n1_ := Aside0.mk (below_step (by repeat (first | (with_reducible first | exact HB.out | apply below_alloc | apply pw_below_drewN | apply below_drew1) | exact HB.out)) hb); clear HB; have HO103 := n0_; have HB := n1_; clear n0_ n1_; clear hb ho74) | ((with_reducible refine gate_dst (N := 15) rfl ?_); (try (refine gate_guard (by rfl) ?_; dsimp only)); refine Kd.R_lit k47 _ 47 ?hg (N := 15) ?hd (xs := ([(⟨(⟨#[103]⟩ : ByteArray), 2⟩ : S47), (⟨(⟨#[97]⟩ : ByteArray), 0⟩ : S47), (⟨(⟨#[98]⟩ : ByteArray), 0⟩ : S47)] : List (S47))) (inner := [.string (⟨#[103]⟩ : ByteArray), .int .i64 2, .string (⟨#[97]⟩ : ByteArray), .int .i64 0, .string (⟨#[98]⟩ : ByteArray), .int .i64 0]) (ok := fun _ => True) (okp := fun _ => True) ?hr ?hp (fun _ hk => hk) trivial (Below.refl _ _) (Nat.le_refl _) (by simp) ?_; (case hd => rfl); (case hg => rfl); (case hr => first | (go_simp; done) | (go_simp; rfl)); (case hp => exact (Reps.c2 (show Kd.M k47 _ _ _ (⟨(⟨#[103]⟩ : ByteArray), 2⟩ : S47) [.string (⟨#[103]⟩ : ByteArray), .int .i64 2] from (k47_mkM _ _ _ (⟨(⟨#[103]⟩ : ByteArray), 2⟩ : S47) )) (Reps.c2 (show Kd.M k47 _ _ _ (⟨(⟨#[97]⟩ : ByteArray), 0⟩ : S47) [.string (⟨#[97]⟩ : ByteArray), .int .i64 0] from (k47_mkM _ _ _ (⟨(⟨#[97]⟩ : ByteArray), 0⟩ : S47) )) (Reps.c2 (show Kd.M k47 _ _ _ (⟨(⟨#[98]⟩ : ByteArray), 0⟩ : S47) [.string (⟨#[98]⟩ : ByteArray), .int .i64 0] from (k47_mkM _ _ _ (⟨(⟨#[98]⟩ : ByteArray), 0⟩ : S47) )) (Reps.none _ _))))); intro v105 w75 ho76 hb hg_ hnew_; clear hg_ hnew_; (first | rw [← Ny104.out] at ho76 | (simp only [Int.reduceToNat] at ho76; rw [← Ny104.out] at ho76)); have n0_ := Aside0.mk (Kd.R_elder' (by (with_reducible repeat (first | apply Kd.R_alloc | apply Kd.R_drewN | apply Kd.R_drew)); exact HO103.out) (Kd.R_base ho76) hb); have n1_ := Aside0.mk (Kd.R_lower (Kd.R_new' ho76 (Kd.R_lt (by (with_reducible repeat (first | apply Kd.R_alloc | apply Kd.R_drewN | apply Kd.R_drew)); exact HO103.out))) (below_size (by repeat (first | (with_reducible first | exact HB.out | apply below_alloc | apply pw_below_drewN | apply below_drew1) | exact HB.out)))); have n2_ := Aside0.mk (below_step (by repeat (first | (with_reducible first | exact HB.out | apply below_alloc | apply pw_below_drewN | apply below_drew1) | exact HB.out)) hb); clear HO103; clear HB; have HO103 := n0_; have HO106 := n1_; have HB := n2_; clear n0_ n1_ n2_; clear hb ho76; obtain ⟨Ao77, co77, eo77⟩ := Kd.R_slice HO103.out; subst eo77; obtain ⟨Ao78, co78, eo78⟩ := Kd.R_slice HO106.out; subst eo78) | ((with_reducible refine gate_callee (f := 10) rfl ?_); refine goesL_ (some 19) rfl rfl Try.func10 (by kernel_rfl) rfl #[.slice Ao77 y101.length co77, .slice Ao78 y104.length co78] rfl (by (try simp only [List.map_toArray, List.map_cons, List.map_nil]); first | done | rfl | (simp only [List.length_drop, List.length_take]; rfl)) ?_; (with_reducible refine (match_Match.calls k _ _ y101 _ _ y104 t107 true t109 _ ?side1 ?side2 ?side3 ?side4 A1.out).mono ?_); (case side1 => repeat (first | exact (Kd.R_reads' HO103.out).2.2 | (with_reducible refine Kd.C_alloc ?_ _) | (with_reducible refine Kd.C_drewN ?_ _) | (with_reducible refine Kd.C_drew ?_))); (case side2 => exact (Kd.R_reads' HO103.out).2.1); (case side3 => repeat (first | exact (Kd.R_reads' HO106.out).2.2 | (with_reducible refine Kd.C_alloc ?_ _) | (with_reducible refine Kd.C_drewN ?_ _) | (with_reducible refine Kd.C_drew ?_))); (case side4 => exact (Kd.R_reads' HO106.out).2.1); rintro e w79 ⟨v110, rfl, ho0, hb⟩; refine ⟨_, rfl, ?_⟩; have n0_ := Aside0.mk (Kd.R_below (by (with_reducible repeat (first | apply Kd.R_alloc | apply Kd.R_drewN | apply Kd.R_drew)); exact HO103.out) hb); have n1_ := Aside0.mk (Kd.R_below (by (with_reducible repeat (first | apply Kd.R_alloc | apply Kd.R_drewN | apply Kd.R_drew)); exact HO106.out) hb); have n2_ := Aside0.mk (Kd.S_lower (Kd.S_new' (Kd.S_new' ho0 (Kd.R_lt (by (with_reducible repeat (first | apply Kd.R_alloc | apply Kd.R_drewN | apply Kd.R_drew)); exact HO103.out))) (Kd.R_lt (by (with_reducible repeat (first | apply Kd.R_alloc | apply Kd.R_drewN | apply Kd.R_drew)); exact HO106.out))) (below_size (by repeat (first | (with_reducible first | exact HB.out | apply below_alloc | apply pw_below_drewN | apply below_drew1) | exact HB.out)))); have n3_ := Aside0.mk (below_step (by repeat (first | (with_reducible first | exact HB.out | apply below_alloc | apply pw_below_drewN | apply below_drew1) | exact HB.out)) hb); clear HO103; clear HO106; clear HB; have HO103 := n0_; have HO106 := n1_; have HO111 := n2_; have HB := n3_; clear n0_ n1_ n2_ n3_; (try clear hb); (try clear hb2); (try clear hk); (try clear hi); (try clear ho0)) | ((with_reducible refine gate_dst (N := 25) rfl ?_); (try (refine gate_guard (by rfl) ?_; dsimp only)); refine Kd.R_lit k47 _ 47 ?hg (N := 25) ?hd (xs := ([(⟨(⟨#[89]⟩ : ByteArray), 0⟩ : S47)] : List (S47))) (inner := [.string (⟨#[89]⟩ : ByteArray), .int .i64 0]) (ok := fun _ => True) (okp := fun _ => True) ?hr ?hp (fun _ hk => hk) trivial (Below.refl _ _) (Nat.le_refl _) (by simp) ?_; (case hd => rfl); (case hg => rfl); (case hr => first | (go_simp; done) | (go_simp; rfl)); (case hp => exact (Reps.c2 (show Kd.M k47 _ _ _ (⟨(⟨#[89]⟩ : ByteArray), 0⟩ : S47) [.string (⟨#[89]⟩ : ByteArray), .int .i64 0] from (k47_mkM _ _ _ (⟨(⟨#[89]⟩ : ByteArray), 0⟩ : S47) )) (Reps.none _ _))); intro v113 w80 ho81 hb hg_ hnew_; clear hg_ hnew_; (first | rw [← Ny112.out] at ho81 | (simp only [Int.reduceToNat] at ho81; rw [← Ny112.out] at ho81)); have n0_ := Aside0.mk (Kd.R_elder' (by (with_reducible repeat (first | apply Kd.R_alloc | apply Kd.R_drewN | apply Kd.R_drew)); exact HO103.out) (Kd.R_base ho81) hb); have n1_ := Aside0.mk (Kd.R_elder' (by (with_reducible repeat (first | apply Kd.R_alloc | apply Kd.R_drewN | apply Kd.R_drew)); exact HO106.out) (Kd.R_base ho81) hb); have n2_ := Aside0.mk (Kd.S_elder' (by (with_reducible repeat (first | apply Kd.S_alloc | apply Kd.S_drewN | apply Kd.S_drew)); exact HO111.out) (Kd.R_base ho81) hb); have n3_ := Aside0.mk (Kd.R_lower (Kd.R_new' (Kd.R_new' ho81 (Kd.R_lt (by (with_reducible repeat (first | apply Kd.R_alloc | apply Kd.R_drewN | apply Kd.R_drew)); exact HO103.out))) (Kd.R_lt (by (with_reducible repeat (first | apply Kd.R_alloc | apply Kd.R_drewN | apply Kd.R_drew)); exact HO106.out))) (below_size (by repeat (first | (with_reducible first | exact HB.out | apply below_alloc | apply pw_below_drewN | apply below_drew1) | exact HB.out)))); have n4_ := Aside0.mk (below_step (by repeat (first | (with_reducible first | exact HB.out | apply below_alloc | apply pw_below_drewN | apply below_drew1) | exact HB.out)) hb); clear HO103; clear HO106; clear HO111; clear HB; have HO103 := n0_; have HO106 := n1_; have HO111 := n2_; have HO114 := n3_; have HB := n4_; clear n0_ n1_ n2_ n3_ n4_; clear hb ho81; obtain ⟨Ao82, co82, eo82⟩ := Kd.R_slice HO114.out; subst eo82; obtain ⟨Ao83, co83, eo83⟩ := Kd.S_slice HO111.out; subst eo83) | ((with_reducible refine gate_callee (f := 14) rfl ?_); refine goesL_ (some 27) rfl rfl Try.func14 (by kernel_rfl) rfl #[.slice Ao82 y112.length co82, .slice Ao83 t107.length co83] rfl (by (try simp only [List.map_toArray, List.map_cons, List.map_nil]); first | done | rfl | (simp only [List.length_drop, List.length_take]; rfl)) ?_; (with_reducible refine (match_Fill.calls k _ _ y112 _ _ t107 t115 t116 _ ?side1 ?side2 ?side3 ?side4 A2.out).mono ?_); (case side1 => repeat (first | exact (Kd.R_reads' HO114.out).2.2 | (with_reducible refine Kd.C_alloc ?_ _) | (with_reducible refine Kd.C_drewN ?_ _) | (with_reducible refine Kd.C_drew ?_))); (case side2 => exact (Kd.R_reads' HO114.out).2.1); (case side3 => repeat (first | exact (Kd.S_reads' HO111.out).2.2 | (with_reducible refine Kd.C_alloc ?_ _) | (with_reducible refine Kd.C_drewN ?_ _) | (with_reducible refine Kd.C_drew ?_))); (case side4 => exact (Kd.S_reads' HO111.out).2.1); rintro e w84 ⟨v117, rfl, ho0, hb⟩; refine ⟨_, rfl, ?_⟩; have n0_ := Aside0.mk (Kd.R_elder' (by (with_reducible repeat (first | apply Kd.R_alloc | apply Kd.R_drewN | apply Kd.R_drew)); exact HO103.out) (Kd.R_base ho0) hb); have n1_ := Aside0.mk (Kd.R_elder' (by (with_reducible repeat (first | apply Kd.R_alloc | apply Kd.R_drewN | apply Kd.R_drew)); exact HO106.out) (Kd.R_base ho0) hb); have n2_ := Aside0.mk (Kd.S_elder' (by (with_reducible repeat (first | apply Kd.S_alloc | apply Kd.S_drewN | apply Kd.S_drew)); exact HO111.out) (Kd.R_base ho0) hb); have n3_ := Aside0.mk (Kd.R_elder' (by (with_reducible repeat (first | apply Kd.R_alloc | apply Kd.R_drewN | apply Kd.R_drew)); exact HO114.out) (Kd.R_base ho0) hb); have n4_ := Aside0.mk (Kd.R_lower (Kd.R_new' (Kd.R_new' (Kd.R_new' ho0 (Kd.R_lt (by (with_reducible repeat (first | apply Kd.R_alloc | apply Kd.R_drewN | apply Kd.R_drew)); exact HO103.out))) (Kd.R_lt (by (with_reducible repeat (first | apply Kd.R_alloc | apply Kd.R_drewN | apply Kd.R_drew)); exact HO106.out))) (Kd.R_lt (by (with_reducible repeat (first | apply Kd.R_alloc | apply Kd.R_drewN | apply Kd.R_drew)); exact HO114.out))) (below_size (by repeat (first | (with_reducible first | exact HB.out | apply below_alloc | apply pw_below_drewN | apply below_drew1) | exact HB.out)))); have n5_ := Aside0.mk (below_step (by repeat (first | (with_reducible first | exact HB.out | apply below_alloc | apply pw_below_drewN | apply below_drew1) | exact HB.out)) hb); clear HO103; clear HO106; clear HO111; clear HO114; clear HB; have HO103 := n0_; have HO106 := n1_; have HO111 := n2_; have HO114 := n3_; have HO118 := n4_; have HB := n5_; clear n0_ n1_ n2_ n3_ n4_ n5_; (try clear hb); (try clear hb2); (try clear hk); (try clear hi); (try clear ho0)))
      go_ret
      exact ⟨by first | rfl | (simp [errW_none, errW_some] <;> rfl) | (simp [*, errW_none, errW_some] <;> rfl), by repeat (first | (with_reducible first | exact HB.out | apply below_alloc | apply pw_below_drewN | apply below_drew1) | exact HB.out)⟩
  · replace c3 := Bool.eq_false_iff.mpr c3
    subst c3
    have H1 : (some false) = some r := by rw [if_neg (show ¬ (false = true) by decide)] at H; exact H
    clear H
    have H := H1
    clear H1
    obtain rfl := Option.some.inj H
    go_enter Try.func9, Try.ntmps9
    go_wp2_with (first | ((with_reducible refine gate_dst (N := 11) rfl ?_); (try (refine gate_guard (by rfl) ?_; dsimp only)); refine Kd.R_lit k47 _ 47 ?hg (N := 11) ?hd (xs := ([(⟨(⟨#[103]⟩ : ByteArray), 2⟩ : S47), (⟨(⟨#[88]⟩ : ByteArray), 0⟩ : S47), (⟨(⟨#[89]⟩ : ByteArray), 0⟩ : S47)] : List (S47))) (inner := [.string (⟨#[103]⟩ : ByteArray), .int .i64 2, .string (⟨#[88]⟩ : ByteArray), .int .i64 0, .string (⟨#[89]⟩ : ByteArray), .int .i64 0]) (ok := fun _ => True) (okp := fun _ => True) ?hr ?hp (fun _ hk => hk) trivial (Below.refl _ _) (Nat.le_refl _) (by simp) ?_; (case hd => rfl); (case hg => rfl); (case hr => first | (go_simp; done) | (go_simp; rfl)); (case hp => exact (Reps.c2 (show Kd.M k47 _ _ _ (⟨(⟨#[103]⟩ : ByteArray), 2⟩ : S47) [.string (⟨#[103]⟩ : ByteArray), .int .i64 2] from (k47_mkM _ _ _ (⟨(⟨#[103]⟩ : ByteArray), 2⟩ : S47) )) (Reps.c2 (show Kd.M k47 _ _ _ (⟨(⟨#[88]⟩ : ByteArray), 0⟩ : S47) [.string (⟨#[88]⟩ : ByteArray), .int .i64 0] from (k47_mkM _ _ _ (⟨(⟨#[88]⟩ : ByteArray), 0⟩ : S47) )) (Reps.c2 (show Kd.M k47 _ _ _ (⟨(⟨#[89]⟩ : ByteArray), 0⟩ : S47) [.string (⟨#[89]⟩ : ByteArray), .int .i64 0] from (k47_mkM _ _ _ (⟨(⟨#[89]⟩ : ByteArray), 0⟩ : S47) )) (Reps.none _ _))))); intro v102 w85 ho86 hb hg_ hnew_; clear hg_ hnew_; (first | rw [← Ny101.out] at ho86 | (simp only [Int.reduceToNat] at ho86; rw [← Ny101.out] at ho86)); have n0_ := Aside0.mk (Kd.R_lower ho86 (below_size (by repeat (first | (with_reducible first | exact HB.out | apply below_alloc | apply pw_below_drewN | apply below_drew1) | exact HB.out)))); have n1_ := Aside0.mk (below_step (by repeat (first | (with_reducible first | exact HB.out | apply below_alloc | apply pw_below_drewN | apply below_drew1) | exact HB.out)) hb); clear HB; have HO103 := n0_; have HB := n1_; clear n0_ n1_; clear hb ho86) | ((with_reducible refine gate_dst (N := 15) rfl ?_); (try (refine gate_guard (by rfl) ?_; dsimp only)); refine Kd.R_lit k47 _ 47 ?hg (N := 15) ?hd (xs := ([(⟨(⟨#[103]⟩ : ByteArray), 2⟩ : S47), (⟨(⟨#[97]⟩ : ByteArray), 0⟩ : S47), (⟨(⟨#[98]⟩ : ByteArray), 0⟩ : S47)] : List (S47))) (inner := [.string (⟨#[103]⟩ : ByteArray), .int .i64 2, .string (⟨#[97]⟩ : ByteArray), .int .i64 0, .string (⟨#[98]⟩ : ByteArray), .int .i64 0]) (ok := fun _ => True) (okp := fun _ => True) ?hr ?hp (fun _ hk => hk) trivial (Below.refl _ _) (Nat.le_refl _) (by simp) ?_; (case hd => rfl); (case hg => rfl); (case hr => first | (go_simp; done) | (go_simp; rfl)); (case hp => exact (Reps.c2 (show Kd.M k47 _ _ _ (⟨(⟨#[103]⟩ : ByteArray), 2⟩ : S47) [.string (⟨#[103]⟩ : ByteArray), .int .i64 2] from (k47_mkM _ _ _ (⟨(⟨#[103]⟩ : ByteArray), 2⟩ : S47) )) (Reps.c2 (show Kd.M k47 _ _ _ (⟨(⟨#[97]⟩ : ByteArray), 0⟩ : S47) [.string (⟨#[97]⟩ : ByteArray), .int .i64 0] from (k47_mkM _ _ _ (⟨(⟨#[97]⟩ : ByteArray), 0⟩ : S47) )) (Reps.c2 (show Kd.M k47 _ _ _ (⟨(⟨#[98]⟩ : ByteArray), 0⟩ : S47) [.string (⟨#[98]⟩ : ByteArray), .int .i64 0] from (k47_mkM _ _ _ (⟨(⟨#[98]⟩ : ByteArray), 0⟩ : S47) )) (Reps.none _ _))))); intro v105 w87 ho88 hb hg_ hnew_; clear hg_ hnew_; (first | rw [← Ny104.out] at ho88 | (simp only [Int.reduceToNat] at ho88; rw [← Ny104.out] at ho88)); have n0_ := Aside0.mk (Kd.R_elder' (by (with_reducible repeat (first | apply Kd.R_alloc | apply Kd.R_drewN | apply Kd.R_drew)); exact HO103.out) (Kd.R_base ho88) hb); have n1_ := Aside0.mk (Kd.R_lower (Kd.R_new' ho88 (Kd.R_lt (by (with_reducible repeat (first | apply Kd.R_alloc | apply Kd.R_drewN | apply Kd.R_drew)); exact HO103.out))) (below_size (by repeat (first | (with_reducible first | exact HB.out | apply below_alloc | apply pw_below_drewN | apply below_drew1) | exact HB.out)))); have n2_ := Aside0.mk (below_step (by repeat (first | (with_reducible first | exact HB.out | apply below_alloc | apply pw_below_drewN | apply below_drew1) | exact HB.out)) hb); clear HO103; clear HB; have HO103 := n0_; have HO106 := n1_; have HB := n2_; clear n0_ n1_ n2_; clear hb ho88; obtain ⟨Ao89, co89, eo89⟩ := Kd.R_slice HO103.out; subst eo89; obtain ⟨Ao90, co90, eo90⟩ := Kd.R_slice HO106.out; subst eo90) | ((with_reducible refine gate_callee (f := 10) rfl ?_); refine goesL_ (some 19) rfl rfl Try.func10 (by kernel_rfl) rfl #[.slice Ao89 y101.length co89, .slice Ao90 y104.length co90] rfl (by (try simp only [List.map_toArray, List.map_cons, List.map_nil]); first | done | rfl | (simp only [List.length_drop, List.length_take]; rfl)) ?_; (with_reducible refine (match_Match.calls k _ _ y101 _ _ y104 t107 false t109 _ ?side1 ?side2 ?side3 ?side4 A1.out).mono ?_); (case side1 => repeat (first | exact (Kd.R_reads' HO103.out).2.2 | (with_reducible refine Kd.C_alloc ?_ _) | (with_reducible refine Kd.C_drewN ?_ _) | (with_reducible refine Kd.C_drew ?_))); (case side2 => exact (Kd.R_reads' HO103.out).2.1); (case side3 => repeat (first | exact (Kd.R_reads' HO106.out).2.2 | (with_reducible refine Kd.C_alloc ?_ _) | (with_reducible refine Kd.C_drewN ?_ _) | (with_reducible refine Kd.C_drew ?_))); (case side4 => exact (Kd.R_reads' HO106.out).2.1); rintro e w91 ⟨v110, rfl, ho0, hb⟩; refine ⟨_, rfl, ?_⟩; have n0_ := Aside0.mk (Kd.R_below (by (with_reducible repeat (first | apply Kd.R_alloc | apply Kd.R_drewN | apply Kd.R_drew)); exact HO103.out) hb); have n1_ := Aside0.mk (Kd.R_below (by (with_reducible repeat (first | apply Kd.R_alloc | apply Kd.R_drewN | apply Kd.R_drew)); exact HO106.out) hb); have n2_ := Aside0.mk (Kd.S_lower (Kd.S_new' (Kd.S_new' ho0 (Kd.R_lt (by (with_reducible repeat (first | apply Kd.R_alloc | apply Kd.R_drewN | apply Kd.R_drew)); exact HO103.out))) (Kd.R_lt (by (with_reducible repeat (first | apply Kd.R_alloc | apply Kd.R_drewN | apply Kd.R_drew)); exact HO106.out))) (below_size (by repeat (first | (with_reducible first | exact HB.out | apply below_alloc | apply pw_below_drewN | apply below_drew1) | exact HB.out)))); have n3_ := Aside0.mk (below_step (by repeat (first | (with_reducible first | exact HB.out | apply below_alloc | apply pw_below_drewN | apply below_drew1) | exact HB.out)) hb); clear HO103; clear HO106; clear HB; have HO103 := n0_; have HO106 := n1_; have HO111 := n2_; have HB := n3_; clear n0_ n1_ n2_ n3_; (try clear hb); (try clear hb2); (try clear hk); (try clear hi); (try clear ho0)) | ((with_reducible refine gate_dst (N := 25) rfl ?_); (try (refine gate_guard (by rfl) ?_; dsimp only)); refine Kd.R_lit k47 _ 47 ?hg (N := 25) ?hd (xs := ([(⟨(⟨#[89]⟩ : ByteArray), 0⟩ : S47)] : List (S47))) (inner := [.string (⟨#[89]⟩ : ByteArray), .int .i64 0]) (ok := fun _ => True) (okp := fun _ => True) ?hr ?hp (fun _ hk => hk) trivial (Below.refl _ _) (Nat.le_refl _) (by simp) ?_; (case hd => rfl); (case hg => rfl); (case hr => first | (go_simp; done) | (go_simp; rfl)); (case hp => exact (Reps.c2 (show Kd.M k47 _ _ _ (⟨(⟨#[89]⟩ : ByteArray), 0⟩ : S47) [.string (⟨#[89]⟩ : ByteArray), .int .i64 0] from (k47_mkM _ _ _ (⟨(⟨#[89]⟩ : ByteArray), 0⟩ : S47) )) (Reps.none _ _))); intro v113 w92 ho93 hb hg_ hnew_; clear hg_ hnew_; (first | rw [← Ny112.out] at ho93 | (simp only [Int.reduceToNat] at ho93; rw [← Ny112.out] at ho93)); have n0_ := Aside0.mk (Kd.R_elder' (by (with_reducible repeat (first | apply Kd.R_alloc | apply Kd.R_drewN | apply Kd.R_drew)); exact HO103.out) (Kd.R_base ho93) hb); have n1_ := Aside0.mk (Kd.R_elder' (by (with_reducible repeat (first | apply Kd.R_alloc | apply Kd.R_drewN | apply Kd.R_drew)); exact HO106.out) (Kd.R_base ho93) hb); have n2_ := Aside0.mk (Kd.S_elder' (by (with_reducible repeat (first | apply Kd.S_alloc | apply Kd.S_drewN | apply Kd.S_drew)); exact HO111.out) (Kd.R_base ho93) hb); have n3_ := Aside0.mk (Kd.R_lower (Kd.R_new' (Kd.R_new' ho93 (Kd.R_lt (by (with_reducible repeat (first | apply Kd.R_alloc | apply Kd.R_drewN | apply Kd.R_drew)); exact HO103.out))) (Kd.R_lt (by (with_reducible repeat (first | apply Kd.R_alloc | apply Kd.R_drewN | apply Kd.R_drew)); exact HO106.out))) (below_size (by repeat (first | (with_reducible first | exact HB.out | apply below_alloc | apply pw_below_drewN | apply below_drew1) | exact HB.out)))); have n4_ := Aside0.mk (below_step (by repeat (first | (with_reducible first | exact HB.out | apply below_alloc | apply pw_below_drewN | apply below_drew1) | exact HB.out)) hb); clear HO103; clear HO106; clear HO111; clear HB; have HO103 := n0_; have HO106 := n1_; have HO111 := n2_; have HO114 := n3_; have HB := n4_; clear n0_ n1_ n2_ n3_ n4_; clear hb ho93; obtain ⟨Ao94, co94, eo94⟩ := Kd.R_slice HO114.out; subst eo94; obtain ⟨Ao95, co95, eo95⟩ := Kd.S_slice HO111.out; subst eo95) | ((with_reducible refine gate_callee (f := 14) rfl ?_); refine goesL_ (some 27) rfl rfl Try.func14 (by kernel_rfl) rfl #[.slice Ao94 y112.length co94, .slice Ao95 t107.length co95] rfl (by (try simp only [List.map_toArray, List.map_cons, List.map_nil]); first | done | rfl | (simp only [List.length_drop, List.length_take]; rfl)) ?_; (with_reducible refine (match_Fill.calls k _ _ y112 _ _ t107 t115 t116 _ ?side1 ?side2 ?side3 ?side4 A2.out).mono ?_); (case side1 => repeat (first | exact (Kd.R_reads' HO114.out).2.2 | (with_reducible refine Kd.C_alloc ?_ _) | (with_reducible refine Kd.C_drewN ?_ _) | (with_reducible refine Kd.C_drew ?_))); (case side2 => exact (Kd.R_reads' HO114.out).2.1); (case side3 => repeat (first | exact (Kd.S_reads' HO111.out).2.2 | (with_reducible refine Kd.C_alloc ?_ _) | (with_reducible refine Kd.C_drewN ?_ _) | (with_reducible refine Kd.C_drew ?_))); (case side4 => exact (Kd.S_reads' HO111.out).2.1); rintro e w96 ⟨v117, rfl, ho0, hb⟩; refine ⟨_, rfl, ?_⟩; have n0_ := Aside0.mk (Kd.R_elder' (by (with_reducible repeat (first | apply Kd.R_alloc | apply Kd.R_drewN | apply Kd.R_drew)); exact HO103.out) (Kd.R_base ho0) hb); have n1_ := Aside0.mk (Kd.R_elder' (by (with_reducible repeat (first | apply Kd.R_alloc | apply Kd.R_drewN | apply Kd.R_drew)); exact HO106.out) (Kd.R_base ho0) hb); have n2_ := Aside0.mk (Kd.S_elder' (by (with_reducible repeat (first | apply Kd.S_alloc | apply Kd.S_drewN | apply Kd.S_drew)); exact HO111.out) (Kd.R_base ho0) hb); have n3_ := Aside0.mk (Kd.R_elder' (by (with_reducible repeat (first | apply Kd.R_alloc | apply Kd.R_drewN | apply Kd.R_drew)); exact HO114.out) (Kd.R_base ho0) hb); have n4_ := Aside0.mk (Kd.R_lower (Kd.R_new' (Kd.R_new' (Kd.R_new' ho0 (Kd.R_lt (by (with_reducible repeat (first | apply Kd.R_alloc | apply Kd.R_drewN | apply Kd.R_drew)); exact HO103.out))) (Kd.R_lt (by (with_reducible repeat (first | apply Kd.R_alloc | apply Kd.R_drewN | apply Kd.R_drew)); exact HO106.out))) (Kd.R_lt (by (with_reducible repeat (first | apply Kd.R_alloc | apply Kd.R_drewN | apply Kd.R_drew)); exact HO114.out))) (below_size (by repeat (first | (with_reducible first | exact HB.out | apply below_alloc | apply pw_below_drewN | apply below_drew1) | exact HB.out)))); have n5_ := Aside0.mk (below_step (by repeat (first | (with_reducible first | exact HB.out | apply below_alloc | apply pw_below_drewN | apply below_drew1) | exact HB.out)) hb); clear HO103; clear HO106; clear HO111; clear HO114; clear HB; have HO103 := n0_; have HO106 := n1_; have HO111 := n2_; have HO114 := n3_; have HO118 := n4_; have HB := n5_; clear n0_ n1_ n2_ n3_ n4_ n5_; (try clear hb); (try clear hb2); (try clear hk); (try clear hi); (try clear ho0)))
    go_ret
    exact ⟨by first | rfl | (simp [errW_none, errW_some] <;> rfl) | (simp [*, errW_none, errW_some] <;> rfl), by repeat (first | (with_reducible first | exact HB.out | apply below_alloc | apply pw_below_drewN | apply below_drew1) | exact HB.out)⟩

end Go.Proofs.Ytlfhonekcmlomaa.P
