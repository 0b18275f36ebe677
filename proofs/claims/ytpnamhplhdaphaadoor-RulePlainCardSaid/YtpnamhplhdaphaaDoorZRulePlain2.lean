/- RulePlain: the law answers true at every input that the given row speaks of. Conditions: those of the given row, none besides. (Part 3 of 5; written by programs of this session, which drive the kit's print, and by hand.) -/
import Derived.Test.YtpnamhplhdaphaaDoorRows
import Derived.Test.YtpnamhplhdaphaaDoorZRulePlainWWords
import Derived.Deep.Slices
import Derived.SizedLaws
import Derived.ChangeSame
import Derived.ChangeArms
import Derived.Test.YtpnamhplhdaphaaDoorZRulePlain0
import Derived.Test.YtpnamhplhdaphaaDoorZRulePlain1
set_option maxHeartbeats 8000000
set_option maxRecDepth 100000
-- ==== PF52
namespace Go.Proofs.YtpnamhplhdaphaaDoor.P
open Go.RowKit Go.Proofs.YtpnamhplhdaphaaDoorW.PrintWords Go.Proofs.YtpnamhplhdaphaaDoorW.PrintLast Go.Proofs.YtpnamhplhdaphaaDoorW.PrintMore
attribute [local go_sem] max2_int min2_int max_two min_two max_three min_three max_four min_four   -- for this text's walks alone
set_option linter.unusedVariables false
set_option linter.unusedSimpArgs false

/-! ### match_Fill: function 52 -/
mutual
def match_Fill.l0 : Nat → List (S33) → List (S109) → List (S33) → List (S109) → Int → Int → Option ((List (S33)) × Int)
 | 0, _, _, _, _, _, _ => none
 | k + 1, x0, x1, x7, x24, x25, x26 => if x26 < x25 then (if 0 ≤ x26 then (if x26 < (x24.length : Int) then ((name_Kind.f k ((rd_T109 x24 x26).f0)).bind fun t107 => (if t107 = 2 then (if ((rd_T109 x24 x26).f0).size ≤ 9223372036854775807 then (if mapHas x7 ((rd_T109 x24 x26).f0) = true then (some (([] : List (S33)), 9)) else ((term_Check.f k ((rd_T109 x24 x26).f1)).bind fun t108 => (if t108 = 0 then (if x7.length < 9223372036854775807 ∧ ((rd_T109 x24 x26).f0).size ≤ 9223372036854775807 ∧ 0 ≤ x26 ∧ x26 ≤ 9223372036854775807 then (match_Fill.l0 k x0 x1 (mapPut x7 ((rd_T109 x24 x26).f0) x26) x24 x25 (wrap64 (x26 + 1))) else (none)) else (some (([] : List (S33)), t108))))) else (none)) else (some (([] : List (S33)), 4)))) else (none)) else (none)) else (match_Fill.l1 k x1 x7 ([] : List (S33)) x0 (x0.length : Int) 0)
def match_Fill.l1 : Nat → List (S109) → List (S33) → List (S33) → List (S33) → Int → Int → Option ((List (S33)) × Int)
 | 0, _, _, _, _, _, _ => none
 | k + 1, x1, x7, x13, x54, x55, x56 => if x56 < x55 then (if 0 ≤ x56 then (if x56 < (x54.length : Int) then (if ((rd_T33 x54 x56).f0).size ≤ 9223372036854775807 then ((match_variable.f k ((rd_T33 x54 x56).f0) ((rd_T33 x54 x56).f1)).bind fun t114 => (if t114 = true then (if (mapHas x7 ((rd_T33 x54 x56).f0) = true) then (if 0 ≤ (mapAt x7 ((rd_T33 x54 x56).f0)) then (if (mapAt x7 ((rd_T33 x54 x56).f0)) < (x1.length : Int) then (if x13.length + ((rd_T109 x1 (mapAt x7 ((rd_T33 x54 x56).f0))).f1).length < 5864062014805 then (match_Fill.l1 k x1 x7 (x13 ++ ((rd_T109 x1 (mapAt x7 ((rd_T33 x54 x56).f0))).f1)) x54 x55 (wrap64 (x56 + 1))) else (none)) else (none)) else (none)) else (some (([] : List (S33)), 7))) else (if x13.length < 5864062014805 then (match_Fill.l1 k x1 x7 (x13 ++ [(⟨(rd_T33 x54 x56).f0, (rd_T33 x54 x56).f1⟩ : S33)]) x54 x55 (wrap64 (x56 + 1))) else (none)))) else (none)) else (none)) else (none)) else (if (x13.length : Int) > 64 then (some (([] : List (S33)), 6)) else (some (x13, 0)))
end
def match_Fill.f (k : Nat) (l0 : List (S33)) (l1 : List (S109)) : Option ((List (S33)) × Int) := (term_Check.f k l0).bind fun t101 => (if t101 = 0 then (match_Fill.l0 k l0 l1 (([] : List (S33))) l1 (l1.length : Int) 0) else (some (([] : List (S33)), t101)))
theorem match_Fill.mono_l : ∀ k, (∀ y0 y1 y2 y3 y4 y5, LeO (match_Fill.l0 k y0 y1 y2 y3 y4 y5) (match_Fill.l0 (k + 1) y0 y1 y2 y3 y4 y5)) ∧ (∀ y0 y1 y2 y3 y4 y5, LeO (match_Fill.l1 k y0 y1 y2 y3 y4 y5) (match_Fill.l1 (k + 1) y0 y1 y2 y3 y4 y5))
 | 0 => ⟨fun _ _ _ _ _ _ r h => by simp [match_Fill.l0] at h, fun _ _ _ _ _ _ r h => by simp [match_Fill.l1] at h⟩
 | k + 1 => by
  obtain ⟨ih0, ih1⟩ := match_Fill.mono_l k
  refine ⟨?_, ?_⟩
  ·
   intro y0 y1 y2 y3 y4 y5
   unfold match_Fill.l0
   repeat' first
   | (with_reducible exact ih0 _ _ _ _ _ _)
   | (with_reducible exact ih1 _ _ _ _ _ _)
   | (with_reducible exact match_variable.mono _ _ _)
   | (with_reducible exact name_Kind.mono _ _)
   | (with_reducible exact term_Check.mono _ _)
   | (with_reducible exact LeO.refl _)
   | (with_reducible exact LeO.none _)
   | (with_reducible refine LeO.ite ?_ ?_)
   | (with_reducible refine LeO.bind ?_ (fun _ => ?_))
  ·
   intro y0 y1 y2 y3 y4 y5
   unfold match_Fill.l1
   repeat' first
   | (with_reducible exact ih0 _ _ _ _ _ _)
   | (with_reducible exact ih1 _ _ _ _ _ _)
   | (with_reducible exact match_variable.mono _ _ _)
   | (with_reducible exact name_Kind.mono _ _)
   | (with_reducible exact term_Check.mono _ _)
   | (with_reducible exact LeO.refl _)
   | (with_reducible exact LeO.none _)
   | (with_reducible refine LeO.ite ?_ ?_)
   | (with_reducible refine LeO.bind ?_ (fun _ => ?_))
theorem match_Fill.mono : ∀ a0 a1 k, LeO (match_Fill.f k a0 a1) (match_Fill.f (k + 1) a0 a1) := by
 intro a0 a1 k
 obtain ⟨ih0, ih1⟩ := match_Fill.mono_l k
 unfold match_Fill.f
 repeat' first
  | (with_reducible exact ih0 _ _ _ _ _ _)
  | (with_reducible exact ih1 _ _ _ _ _ _)
  | (with_reducible exact match_variable.mono _ _ _)
  | (with_reducible exact name_Kind.mono _ _)
  | (with_reducible exact term_Check.mono _ _)
  | (with_reducible exact LeO.refl _)
  | (with_reducible exact LeO.none _)
  | (with_reducible refine LeO.ite ?_ ?_)
  | (with_reducible refine LeO.bind ?_ (fun _ => ?_))
theorem match_Fill.calls (k : Nat) (A0 : Option Addr) (c0 : Nat) (l0 : List (S33)) (A1 : Option Addr) (c1 : Nat) (l1 : List (S109)) (r1 : List (S33)) (r2 : Int) (w : World) (hr0 : Kd.C k33 w A0 l0.length l0) (hc0 : l0.length ≤ c0) (hr1 : Kd.C k109 w A1 l1.length l1) (hc1 : l1.length ≤ c1) (h : match_Fill.f k l0 l1 = some (r1, r2)) :
 Calls Tryd.prog 52 #[.slice A0 l0.length c0, .slice A1 l1.length c1] w fun e w' => ∃ v0_ : Value, e = .returned (.tuple #[v0_, .int .i64 r2]) ∧ Kd.R k33 33 w' w.heap.size (fun _ => True) v0_ r1 ∧ Below w.heap.size w w' := by
 have hu109 := Tryd.underlying109
 have hu33 := Tryd.underlying33
 have HR0 := zM hr0
 have HC0 := zM hc0
 clear hr0 hc0
 have HR1 := zM hr1
 have HC1 := zM hc1
 clear hr1 hc1
 have HB := zM (Below.refl w.heap.size w)
 have H : ((term_Check.f k l0).bind fun t101 => (if t101 = 0 then (match_Fill.l0 k l0 l1 (([] : List (S33))) l1 (l1.length : Int) 0) else (some (([] : List (S33)), t101)))) = some (r1, r2) := h
 clear h
 replace H := zB H
 obtain ⟨t101, A30, H⟩ := H
 try dsimp only at H
 have A3 := zM A30
 clear A30
 by_cases c4 : t101 = 0
 ·
  rw [if_pos c4] at H
  have c4b0 : (t101 == 0) = true := zG c4
  have c4b1 : (t101 != 0) = false := zH c4
  clear c4
  obtain ⟨y102, hy102⟩ : ∃ y_ : List (S33), y_ = (([] : List (S33))) := ⟨_, rfl⟩
  replace H : (match_Fill.l0 k l0 l1 y102 l1 (l1.length : Int) 0) = some (r1, r2) := by first | (rw [hy102]; with_reducible exact H) | (have H2_ := (Option.bind_some _ _).symm.trans H; rw [hy102]; with_reducible exact H2_) | (have H2_ := (Option.bind_some _ _).symm.trans H; with_reducible exact H2_) | with_reducible exact H | (rw [hy102]; exact H) | exact H
  have Ny102 := zM hy102
  clear hy102
  have H' := zM H
  clear H
  go_enter Tryd.func52, Tryd.ntmps52
  go_wp2_with (first | ((with_reducible refine gate_callee (f := 30) rfl ?_); refine goesL_ (some 19) rfl rfl Tryd.func30 (by kernel_rfl) rfl #[.slice A0 l0.length c0] rfl zl ?_; (with_reducible refine (term_Check.calls k _ _ l0 t101 _ ?side1 ?side2 A3.out).mono ?_); (case side1 => exact Kd.C_below HR0.out zg); (case side2 => exact HC0.out); rintro e w5 ⟨rfl, hb⟩; refine ⟨_, rfl, ?_⟩; replace HB := zM (below_step zb hb); (try clear hb)) | ((with_reducible refine gate_dst (N := 23) rfl ?_); refine Kd.P_make k33 (N := 23) rfl rfl rfl ?_; intro v103 w6 ho7 hb; rw [← Ny102.out] at ho7; have HO104 := zM (Kd.P_lower ho7 (below_size zb)); replace HB := zM (below_step zb hb); clear hb ho7))
  go_loopg [26] k (fun kq v26 w' => ∃ (x7_1 : List (S33)) (x26_1 : Int), v26 = .int .i64 x26_1 ∧ Aside0 (match_Fill.l0 kq l0 l1 x7_1 l1 (l1.length : Int) x26_1 = some (r1, r2)) ∧ Aside0 (kq ≤ k) ∧ Aside0 (Kd.P k33 105 w' w.heap.size (fun _ => True) v103 x7_1) ∧ Aside0 (Below w.heap.size w w'))
  case atStart => exact ⟨(y102), (0), zy, H', ⟨Nat.le_refl _⟩, ⟨Kd.P_below HO104.out zg⟩, ⟨zb⟩⟩
  case round =>
   clear H'
   try clear c1
   try clear p2
   try clear c3
   try clear c4
   try clear c4b0
   try clear c4b1
   try clear c5
   obtain ⟨x7_1, x26_1, rfl, HA, HK1, HO_7, HB⟩ := hrel
   cases gk with
   | zero => exact absurd HA.out (by simp [match_Fill.l0])
   | succ k1 =>
    have H := HA.out
    clear HA
    simp only [match_Fill.l0] at H
    by_cases c8 : x26_1 < (l1.length : Int)
    ·
     rw [if_pos c8] at H
     have c8b0 : decide (x26_1 < (l1.length : Int)) = true := zQ c8
     clear c8
     by_cases c9 : 0 ≤ x26_1
     ·
      rw [if_pos c9] at H
      have c9b0 : decide (0 ≤ x26_1) = true := zQ c9
      clear c9
      by_cases c10 : x26_1 < (l1.length : Int)
      ·
       rw [if_pos c10] at H
       have c10b0 : decide (x26_1 < (l1.length : Int)) = true := zQ c10
       clear c10
       replace H := zB H
       obtain ⟨t107, A110, H⟩ := H
       try dsimp only at H
       have A11 := zM A110
       clear A110
       by_cases c12 : t107 = 2
       ·
        rw [if_pos c12] at H
        have c12b0 : (t107 == 2) = true := zG c12
        have c12b1 : (t107 != 2) = false := zH c12
        clear c12
        by_cases c13 : ((rd_T109 l1 x26_1).f0).size ≤ 9223372036854775807
        ·
         rw [if_pos c13] at H
         have LMc13 := zM c13
         clear c13
         by_cases c14 : mapHas x7_1 ((rd_T109 l1 x26_1).f0) = true
         ·
          rw [if_pos c14] at H
          have c14b0 : mapHas x7_1 ((rd_T109 l1 x26_1).f0) = true := c14
          clear c14
          simp only [Option.some.injEq, Prod.mk.injEq] at H
          obtain ⟨rfl, rfl⟩ := H
          have p105 : 0 ≤ (x26_1 : Int) := zT zv
          have q105 : x26_1 < (l1.length : Int) := zT zv
          obtain ⟨ad105, A105_1, c105_1, e105, hx105_0, hx105_1, hl105_1, hi105_1⟩ := at_T109 HR1.out x26_1 p105 q105
          cases e105
          replace hx105_0 := (HB.out.cell (World.block_lt_of_cell? w _ hx105_0)).trans hx105_0
          replace hx105_1 := (HB.out.cell (World.block_lt_of_cell? w _ hx105_1)).trans hx105_1
          have HR105_1 := zM hi105_1
          have HC105_1 := zM hl105_1
          clear hi105_1 hl105_1
          replace p105 := eq_true p105
          replace q105 := eq_true q105
          go_wp2_with (first | ((with_reducible refine gate_dst (N := 9) rfl ?_); refine box_event ?hg (N := 9) ?hd (cs := #[.string (⟨#[]⟩ : ByteArray), .slice none 0 0]) (t := 109) ?hr ?_; (case hd => rfl); (case hg => rfl); (case hr => first | (go_simp; done) | (go_simp; rfl)); intro gb106 hg w15 hbox hb; replace HO_7 := zM (Kd.P_below (Kd.P_below HO_7.out zg) hb); have BK106 := zM (hbox); have GW106 := zM (zh hg : w.heap.size ≤ gb106); have GE106 := zM (zh hg : w.heap.size ≤ gb106); replace HB := zM (below_step zb hb); clear hb hbox hg; have hcz16_0 : w15.cell? ⟨gb106, 0, none⟩ = some (.string (⟨#[]⟩ : ByteArray)) := (zX BK106.out 0).trans rfl; have hcz16_1 : w15.cell? ⟨gb106, 1, none⟩ = some (.slice none 0 0) := (zX BK106.out 1).trans rfl; have hfz16_0 := zY BK106.out 0; have hfz16_1 := zY BK106.out 1) | ((with_reducible refine gate_callee (f := 34) rfl ?_); refine goesL_ (some 33) rfl rfl Tryd.func34 (by kernel_rfl) rfl #[.string ((rd_T109 l1 x26_1).f0)] rfl zl ?_; (with_reducible refine (name_Kind.calls k1 ((rd_T109 l1 x26_1).f0) t107 _ A11.out).mono ?_); rintro e w' ⟨rfl, ⟨nd, rfl⟩⟩; refine ⟨_, rfl, ?_⟩) | ((with_reducible refine gate_dst (N := 39) rfl ?_); refine Kd.P_look (v := v103) (m := x7_1) (s := ((rd_T109 l1 x26_1).f0)) rfl rfl rfl rfl LMc13.out (by (with_reducible repeat (first | apply Kd.P_alloc | apply Kd.P_drewN | apply Kd.P_drew)); exact (Kd.P_mono (Kd.P_far (p := ⟨gb106, 1, none⟩) (Kd.P_far (p := ⟨gb106, 0, none⟩) (Kd.P_types HO_7.out BK106.out (by decide)) (fun _ hk => hk.2) (.string ((rd_T109 l1 x26_1).f0))) (fun _ hk => hk.2) (.slice A105_1 ((rd_T109 l1 x26_1).f1).length c105_1)) (fun _ h_ => h_.1))) ?_))
          go_ret2
          exact ⟨_, zw, by first | exact Kd.R_nil _ _ _ _ _ | exact Kd.N_nil _ _ _ _ _ | exact Kd.V_nil _ _ _ _ _ | exact Kd.Q_nil _ _ _ _ _ | exact Kd.S_nil _ _ _ _ _, zb⟩
         ·
          rw [if_neg c14] at H
          have c14b0 : mapHas x7_1 ((rd_T109 l1 x26_1).f0) = false := by simpa using c14
          clear c14
          replace H := zB H
          obtain ⟨t108, A170, H⟩ := H
          try dsimp only at H
          have A17 := zM A170
          clear A170
          by_cases c18 : t108 = 0
          ·
           rw [if_pos c18] at H
           have c18b0 : (t108 == 0) = true := zG c18
           have c18b1 : (t108 != 0) = false := zH c18
           clear c18
           by_cases c19 : x7_1.length < 9223372036854775807 ∧ ((rd_T109 l1 x26_1).f0).size ≤ 9223372036854775807 ∧ 0 ≤ x26_1 ∧ x26_1 ≤ 9223372036854775807
           ·
            rw [if_pos c19] at H
            have LMc19 := zM c19
            clear c19
            obtain ⟨y109, hy109⟩ : ∃ y_ : List (S33), y_ = (mapPut x7_1 ((rd_T109 l1 x26_1).f0) x26_1) := ⟨_, rfl⟩
            replace H : (match_Fill.l0 k1 l0 l1 y109 l1 (l1.length : Int) (wrap64 (x26_1 + 1))) = some (r1, r2) := by first | (rw [hy109]; with_reducible exact H) | (have H2_ := (Option.bind_some _ _).symm.trans H; rw [hy109]; with_reducible exact H2_) | (have H2_ := (Option.bind_some _ _).symm.trans H; with_reducible exact H2_) | with_reducible exact H | (rw [hy109]; exact H) | exact H
            have Ny109 := zM hy109
            clear hy109
            have H' := zM H
            clear H
            have p105 : 0 ≤ (x26_1 : Int) := zT zv
            have q105 : x26_1 < (l1.length : Int) := zT zv
            obtain ⟨ad105, A105_1, c105_1, e105, hx105_0, hx105_1, hl105_1, hi105_1⟩ := at_T109 HR1.out x26_1 p105 q105
            cases e105
            replace hx105_0 := (HB.out.cell (World.block_lt_of_cell? w _ hx105_0)).trans hx105_0
            replace hx105_1 := (HB.out.cell (World.block_lt_of_cell? w _ hx105_1)).trans hx105_1
            have HR105_1 := zM hi105_1
            have HC105_1 := zM hl105_1
            clear hi105_1 hl105_1
            replace p105 := eq_true p105
            replace q105 := eq_true q105
            go_wp2_with (first | ((with_reducible refine gate_dst (N := 9) rfl ?_); refine box_event ?hg (N := 9) ?hd (cs := #[.string (⟨#[]⟩ : ByteArray), .slice none 0 0]) (t := 109) ?hr ?_; (case hd => rfl); (case hg => rfl); (case hr => first | (go_simp; done) | (go_simp; rfl)); intro gb106 hg w20 hbox hb; replace HO_7 := zM (Kd.P_below (Kd.P_below HO_7.out zg) hb); have BK106 := zM (hbox); have GW106 := zM (zh hg : w.heap.size ≤ gb106); have GE106 := zM (zh hg : w.heap.size ≤ gb106); replace HB := zM (below_step zb hb); clear hb hbox hg; have hcz21_0 : w20.cell? ⟨gb106, 0, none⟩ = some (.string (⟨#[]⟩ : ByteArray)) := (zX BK106.out 0).trans rfl; have hcz21_1 : w20.cell? ⟨gb106, 1, none⟩ = some (.slice none 0 0) := (zX BK106.out 1).trans rfl; have hfz21_0 := zY BK106.out 0; have hfz21_1 := zY BK106.out 1) | ((with_reducible refine gate_callee (f := 34) rfl ?_); refine goesL_ (some 33) rfl rfl Tryd.func34 (by kernel_rfl) rfl #[.string ((rd_T109 l1 x26_1).f0)] rfl zl ?_; (with_reducible refine (name_Kind.calls k1 ((rd_T109 l1 x26_1).f0) t107 _ A11.out).mono ?_); rintro e w' ⟨rfl, ⟨nd, rfl⟩⟩; refine ⟨_, rfl, ?_⟩) | ((with_reducible refine gate_dst (N := 39) rfl ?_); refine Kd.P_look (v := v103) (m := x7_1) (s := ((rd_T109 l1 x26_1).f0)) rfl rfl rfl rfl LMc13.out (by (with_reducible repeat (first | apply Kd.P_alloc | apply Kd.P_drewN | apply Kd.P_drew)); exact (Kd.P_mono (Kd.P_far (p := ⟨gb106, 1, none⟩) (Kd.P_far (p := ⟨gb106, 0, none⟩) (Kd.P_types HO_7.out BK106.out (by decide)) (fun _ hk => hk.2) (.string ((rd_T109 l1 x26_1).f0))) (fun _ hk => hk.2) (.slice A105_1 ((rd_T109 l1 x26_1).f1).length c105_1)) (fun _ h_ => h_.1))) ?_) | ((with_reducible refine gate_callee (f := 30) rfl ?_); refine goesL_ (some 45) rfl rfl Tryd.func30 (by kernel_rfl) rfl #[.slice A105_1 ((rd_T109 l1 x26_1).f1).length c105_1] rfl zl ?_; (with_reducible refine (term_Check.calls k1 _ _ ((rd_T109 l1 x26_1).f1) t108 _ ?side1 ?side2 A17.out).mono ?_); (case side1 => exact Kd.C_below HR105_1.out zb); (case side2 => exact HC105_1.out); rintro e w22 ⟨rfl, hb⟩; refine ⟨_, rfl, ?_⟩; replace HO_7 := zM (Kd.P_below (by (with_reducible repeat (first | apply Kd.P_alloc | apply Kd.P_drewN | apply Kd.P_drew)); exact (Kd.P_mono (Kd.P_far (p := ⟨gb106, 1, none⟩) (Kd.P_far (p := ⟨gb106, 0, none⟩) (Kd.P_types HO_7.out BK106.out (by decide)) (fun _ hk => hk.2) (.string ((rd_T109 l1 x26_1).f0))) (fun _ hk => hk.2) (.slice A105_1 ((rd_T109 l1 x26_1).f1).length c105_1)) (fun _ h_ => h_.1))) hb); replace BK106 := zM (blk_below (g := gb106) (o := .cells #[.string ((rd_T109 l1 x26_1).f0), .slice A105_1 ((rd_T109 l1 x26_1).f1).length c105_1] 109 (0, 0)) (by refine zk ?_; refine blk_put (cs := #[.string ((rd_T109 l1 x26_1).f0), .slice none 0 0]) ?_ 1 _ rfl; refine zk ?_; refine blk_put (cs := #[.string (⟨#[]⟩ : ByteArray), .slice none 0 0]) ?_ 0 _ rfl; refine zk ?_; exact BK106.out) hb); replace HB := zM (below_step zb hb); (try clear hb); have hcz23_0 : w22.cell? ⟨gb106, 0, none⟩ = some (.string ((rd_T109 l1 x26_1).f0)) := (zX BK106.out 0).trans rfl; have hcz23_1 : w22.cell? ⟨gb106, 1, none⟩ = some (.slice A105_1 ((rd_T109 l1 x26_1).f1).length c105_1) := (zX BK106.out 1).trans rfl; have hfz23_0 := zY BK106.out 0; have hfz23_1 := zY BK106.out 1) | (at_mapUpdate; refine Kd.P_put (v := v103) (m := x7_1) (s := ((rd_T109 l1 x26_1).f0)) (n := x26_1) rfl rfl rfl rfl rfl LMc19.out (Kd.P_below HO_7.out zg) ?_; intro w24 ho hm; rw [← Ny109.out] at ho; replace BK106 := zM (blk_mapped (g := gb106) (o := .cells #[.string ((rd_T109 l1 x26_1).f0), .slice A105_1 ((rd_T109 l1 x26_1).f1).length c105_1] 109 (0, 0)) (zk BK106.out) hm); replace HB := zM (below_mapped zb hm); replace HO_7 := zM (ho); clear ho hm))
            go_roundg k1
            case measure => have := HK1.out; omega
            case rel => exact ⟨(y109), (wrap64 (x26_1 + 1)), zy, H', ⟨by have := HK1.out; omega⟩, ⟨Kd.P_below HO_7.out zg⟩, ⟨zb⟩⟩
           ·
            rw [if_neg c19] at H
            exact absurd H (by simp)
          ·
           rw [if_neg c18] at H
           have c18b0 : (t108 == 0) = false := zE c18
           have c18b1 : (t108 != 0) = true := zF c18
           simp only [Option.some.injEq, Prod.mk.injEq] at H
           obtain ⟨rfl, rfl⟩ := H
           have p105 : 0 ≤ (x26_1 : Int) := zT zv
           have q105 : x26_1 < (l1.length : Int) := zT zv
           obtain ⟨ad105, A105_1, c105_1, e105, hx105_0, hx105_1, hl105_1, hi105_1⟩ := at_T109 HR1.out x26_1 p105 q105
           cases e105
           replace hx105_0 := (HB.out.cell (World.block_lt_of_cell? w _ hx105_0)).trans hx105_0
           replace hx105_1 := (HB.out.cell (World.block_lt_of_cell? w _ hx105_1)).trans hx105_1
           have HR105_1 := zM hi105_1
           have HC105_1 := zM hl105_1
           clear hi105_1 hl105_1
           replace p105 := eq_true p105
           replace q105 := eq_true q105
           go_wp2_with (first | ((with_reducible refine gate_dst (N := 9) rfl ?_); refine box_event ?hg (N := 9) ?hd (cs := #[.string (⟨#[]⟩ : ByteArray), .slice none 0 0]) (t := 109) ?hr ?_; (case hd => rfl); (case hg => rfl); (case hr => first | (go_simp; done) | (go_simp; rfl)); intro gb106 hg w25 hbox hb; replace HO_7 := zM (Kd.P_below (Kd.P_below HO_7.out zg) hb); have BK106 := zM (hbox); have GW106 := zM (zh hg : w.heap.size ≤ gb106); have GE106 := zM (zh hg : w.heap.size ≤ gb106); replace HB := zM (below_step zb hb); clear hb hbox hg; have hcz26_0 : w25.cell? ⟨gb106, 0, none⟩ = some (.string (⟨#[]⟩ : ByteArray)) := (zX BK106.out 0).trans rfl; have hcz26_1 : w25.cell? ⟨gb106, 1, none⟩ = some (.slice none 0 0) := (zX BK106.out 1).trans rfl; have hfz26_0 := zY BK106.out 0; have hfz26_1 := zY BK106.out 1) | ((with_reducible refine gate_callee (f := 34) rfl ?_); refine goesL_ (some 33) rfl rfl Tryd.func34 (by kernel_rfl) rfl #[.string ((rd_T109 l1 x26_1).f0)] rfl zl ?_; (with_reducible refine (name_Kind.calls k1 ((rd_T109 l1 x26_1).f0) t107 _ A11.out).mono ?_); rintro e w' ⟨rfl, ⟨nd, rfl⟩⟩; refine ⟨_, rfl, ?_⟩) | ((with_reducible refine gate_dst (N := 39) rfl ?_); refine Kd.P_look (v := v103) (m := x7_1) (s := ((rd_T109 l1 x26_1).f0)) rfl rfl rfl rfl LMc13.out (by (with_reducible repeat (first | apply Kd.P_alloc | apply Kd.P_drewN | apply Kd.P_drew)); exact (Kd.P_mono (Kd.P_far (p := ⟨gb106, 1, none⟩) (Kd.P_far (p := ⟨gb106, 0, none⟩) (Kd.P_types HO_7.out BK106.out (by decide)) (fun _ hk => hk.2) (.string ((rd_T109 l1 x26_1).f0))) (fun _ hk => hk.2) (.slice A105_1 ((rd_T109 l1 x26_1).f1).length c105_1)) (fun _ h_ => h_.1))) ?_) | ((with_reducible refine gate_callee (f := 30) rfl ?_); refine goesL_ (some 45) rfl rfl Tryd.func30 (by kernel_rfl) rfl #[.slice A105_1 ((rd_T109 l1 x26_1).f1).length c105_1] rfl zl ?_; (with_reducible refine (term_Check.calls k1 _ _ ((rd_T109 l1 x26_1).f1) t108 _ ?side1 ?side2 A17.out).mono ?_); (case side1 => exact Kd.C_below HR105_1.out zb); (case side2 => exact HC105_1.out); rintro e w27 ⟨rfl, hb⟩; refine ⟨_, rfl, ?_⟩; replace HO_7 := zM (Kd.P_below (by (with_reducible repeat (first | apply Kd.P_alloc | apply Kd.P_drewN | apply Kd.P_drew)); exact (Kd.P_mono (Kd.P_far (p := ⟨gb106, 1, none⟩) (Kd.P_far (p := ⟨gb106, 0, none⟩) (Kd.P_types HO_7.out BK106.out (by decide)) (fun _ hk => hk.2) (.string ((rd_T109 l1 x26_1).f0))) (fun _ hk => hk.2) (.slice A105_1 ((rd_T109 l1 x26_1).f1).length c105_1)) (fun _ h_ => h_.1))) hb); replace BK106 := zM (blk_below (g := gb106) (o := .cells #[.string ((rd_T109 l1 x26_1).f0), .slice A105_1 ((rd_T109 l1 x26_1).f1).length c105_1] 109 (0, 0)) (by refine zk ?_; refine blk_put (cs := #[.string ((rd_T109 l1 x26_1).f0), .slice none 0 0]) ?_ 1 _ rfl; refine zk ?_; refine blk_put (cs := #[.string (⟨#[]⟩ : ByteArray), .slice none 0 0]) ?_ 0 _ rfl; refine zk ?_; exact BK106.out) hb); replace HB := zM (below_step zb hb); (try clear hb)))
           go_ret2
           exact ⟨_, zw, by first | exact Kd.R_nil _ _ _ _ _ | exact Kd.N_nil _ _ _ _ _ | exact Kd.V_nil _ _ _ _ _ | exact Kd.Q_nil _ _ _ _ _ | exact Kd.S_nil _ _ _ _ _, zb⟩
        ·
         rw [if_neg c13] at H
         exact absurd H (by simp)
       ·
        rw [if_neg c12] at H
        have c12b0 : (t107 == 2) = false := zE c12
        have c12b1 : (t107 != 2) = true := zF c12
        simp only [Option.some.injEq, Prod.mk.injEq] at H
        obtain ⟨rfl, rfl⟩ := H
        have p105 : 0 ≤ (x26_1 : Int) := zT zv
        have q105 : x26_1 < (l1.length : Int) := zT zv
        obtain ⟨ad105, A105_1, c105_1, e105, hx105_0, hx105_1, hl105_1, hi105_1⟩ := at_T109 HR1.out x26_1 p105 q105
        cases e105
        replace hx105_0 := (HB.out.cell (World.block_lt_of_cell? w _ hx105_0)).trans hx105_0
        replace hx105_1 := (HB.out.cell (World.block_lt_of_cell? w _ hx105_1)).trans hx105_1
        have HR105_1 := zM hi105_1
        have HC105_1 := zM hl105_1
        clear hi105_1 hl105_1
        replace p105 := eq_true p105
        replace q105 := eq_true q105
        go_wp2_with (first | ((with_reducible refine gate_dst (N := 9) rfl ?_); refine box_event ?hg (N := 9) ?hd (cs := #[.string (⟨#[]⟩ : ByteArray), .slice none 0 0]) (t := 109) ?hr ?_; (case hd => rfl); (case hg => rfl); (case hr => first | (go_simp; done) | (go_simp; rfl)); intro gb106 hg w28 hbox hb; replace HO_7 := zM (Kd.P_below (Kd.P_below HO_7.out zg) hb); have BK106 := zM (hbox); have GW106 := zM (zh hg : w.heap.size ≤ gb106); have GE106 := zM (zh hg : w.heap.size ≤ gb106); replace HB := zM (below_step zb hb); clear hb hbox hg; have hcz29_0 : w28.cell? ⟨gb106, 0, none⟩ = some (.string (⟨#[]⟩ : ByteArray)) := (zX BK106.out 0).trans rfl; have hcz29_1 : w28.cell? ⟨gb106, 1, none⟩ = some (.slice none 0 0) := (zX BK106.out 1).trans rfl; have hfz29_0 := zY BK106.out 0; have hfz29_1 := zY BK106.out 1) | ((with_reducible refine gate_callee (f := 34) rfl ?_); refine goesL_ (some 33) rfl rfl Tryd.func34 (by kernel_rfl) rfl #[.string ((rd_T109 l1 x26_1).f0)] rfl zl ?_; (with_reducible refine (name_Kind.calls k1 ((rd_T109 l1 x26_1).f0) t107 _ A11.out).mono ?_); rintro e w' ⟨rfl, ⟨nd, rfl⟩⟩; refine ⟨_, rfl, ?_⟩))
        go_ret2
        exact ⟨_, zw, by first | exact Kd.R_nil _ _ _ _ _ | exact Kd.N_nil _ _ _ _ _ | exact Kd.V_nil _ _ _ _ _ | exact Kd.Q_nil _ _ _ _ _ | exact Kd.S_nil _ _ _ _ _, zb⟩
      ·
       rw [if_neg c10] at H
       exact absurd H (by simp)
     ·
      rw [if_neg c9] at H
      exact absurd H (by simp)
    ·
     rw [if_neg c8] at H
     have c8b0 : decide (x26_1 < (l1.length : Int)) = false := zR c8
     clear c8
     have H' := zM H
     clear H
     go_wp2
     go_loopg [13, 56] k1 (fun kq v13 v56 w' => ∃ (x13_2 : List (S33)) (x56_2 : Int), v56 = .int .i64 x56_2 ∧ Aside0 (match_Fill.l1 kq l1 x7_1 x13_2 l0 (l0.length : Int) x56_2 = some (r1, r2)) ∧ Aside0 (kq ≤ k1) ∧ Aside0 (Kd.P k33 105 w' w.heap.size (fun _ => True) v103 x7_1) ∧ Aside0 (Kd.R k33 33 w' w.heap.size (fun _ => True) v13 x13_2) ∧ Aside0 (Below w.heap.size w w'))
     case atStart => exact ⟨(([] : List (S33))), (0), zy, H', ⟨Nat.le_refl _⟩, ⟨Kd.P_below HO_7.out zg⟩, ⟨by first | exact Kd.R_nil _ _ _ _ _ | exact Kd.N_nil _ _ _ _ _ | exact Kd.V_nil _ _ _ _ _ | exact Kd.Q_nil _ _ _ _ _ | exact Kd.S_nil _ _ _ _ _⟩, ⟨zb⟩⟩
     case round =>
      clear H'
      try clear c1
      try clear p1
      try clear q1
      try clear hx1
      try clear p2
      try clear c3
      try clear c4
      try clear c4b0
      try clear c4b1
      try clear c5
      try clear p6
      try clear c8
      try clear c8b0
      try clear c9
      try clear c9b0
      try clear c10
      try clear c10b0
      try clear p10
      try clear q10
      try clear hx10
      try clear c12
      try clear c12b0
      try clear c12b1
      try clear c13
      try clear c14
      try clear c14b0
      try clear c18
      try clear c18b0
      try clear c18b1
      try clear c19
      try clear hcz16_0
      try clear hcz16_1
      try clear hcz21_0
      try clear hcz21_1
      try clear hcz23_0
      try clear hcz23_1
      try clear hcz26_0
      try clear hcz26_1
      try clear hcz29_0
      try clear hcz29_1
      try clear hfz16_0
      try clear hfz16_1
      try clear hfz21_0
      try clear hfz21_1
      try clear hfz23_0
      try clear hfz23_1
      try clear hfz26_0
      try clear hfz26_1
      try clear hfz29_0
      try clear hfz29_1
      try clear hx105_0
      try clear hx105_1
      try clear p105
      try clear p2
      try clear q105
      obtain ⟨x13_2, x56_2, rfl, HA, HK2, HO_7, HO_13, HB⟩ := hrel
      cases gk with
      | zero => exact absurd HA.out (by simp [match_Fill.l1])
      | succ k2 =>
       have H := HA.out
       clear HA
       simp only [match_Fill.l1] at H
       by_cases c30 : x56_2 < (l0.length : Int)
       ·
        rw [if_pos c30] at H
        have c30b0 : decide (x56_2 < (l0.length : Int)) = true := zQ c30
        clear c30
        by_cases c31 : 0 ≤ x56_2
        ·
         rw [if_pos c31] at H
         have c31b0 : decide (0 ≤ x56_2) = true := zQ c31
         clear c31
         by_cases c32 : x56_2 < (l0.length : Int)
         ·
          rw [if_pos c32] at H
          have c32b0 : decide (x56_2 < (l0.length : Int)) = true := zQ c32
          clear c32
          by_cases c33 : ((rd_T33 l0 x56_2).f0).size ≤ 9223372036854775807
          ·
           rw [if_pos c33] at H
           have LMc33 := zM c33
           clear c33
           replace H := zB H
           obtain ⟨t114, A340, H⟩ := H
           try dsimp only at H
           have A34 := zM A340
           clear A340
           by_cases c35 : t114 = true
           ·
            subst c35
            rw [if_pos rfl] at H
            by_cases c36 : (mapHas x7_1 ((rd_T33 l0 x56_2).f0) = true)
            ·
             rw [if_pos c36] at H
             have c36b0 : mapHas x7_1 ((rd_T33 l0 x56_2).f0) = true := c36
             clear c36
             by_cases c37 : 0 ≤ (mapAt x7_1 ((rd_T33 l0 x56_2).f0))
             ·
              rw [if_pos c37] at H
              have c37b0 : decide (0 ≤ (mapAt x7_1 ((rd_T33 l0 x56_2).f0))) = true := zQ c37
              clear c37
              by_cases c38 : (mapAt x7_1 ((rd_T33 l0 x56_2).f0)) < (l1.length : Int)
              ·
               rw [if_pos c38] at H
               have c38b0 : decide ((mapAt x7_1 ((rd_T33 l0 x56_2).f0)) < (l1.length : Int)) = true := zQ c38
               clear c38
               by_cases c39 : x13_2.length + ((rd_T109 l1 (mapAt x7_1 ((rd_T33 l0 x56_2).f0))).f1).length < 5864062014805
               ·
                rw [if_pos c39] at H
                have LMc39 := zM c39
                clear c39
                obtain ⟨y116, hy116⟩ : ∃ y_ : List (S33), y_ = (x13_2 ++ ((rd_T109 l1 (mapAt x7_1 ((rd_T33 l0 x56_2).f0))).f1)) := ⟨_, rfl⟩
                replace H : (match_Fill.l1 k2 l1 x7_1 y116 l0 (l0.length : Int) (wrap64 (x56_2 + 1))) = some (r1, r2) := by first | (rw [hy116]; with_reducible exact H) | (have H2_ := (Option.bind_some _ _).symm.trans H; rw [hy116]; with_reducible exact H2_) | (have H2_ := (Option.bind_some _ _).symm.trans H; with_reducible exact H2_) | with_reducible exact H | (rw [hy116]; exact H) | exact H
                have Ny116 := zM hy116
                clear hy116
                have H' := zM H
                clear H
                have p112 : 0 ≤ (x56_2 : Int) := zT zv
                have q112 : x56_2 < (l0.length : Int) := zT zv
                obtain ⟨ad112, e112, hx112_0, hx112_1⟩ := at_T33 HR0.out x56_2 p112 q112
                cases e112
                replace hx112_0 := (HB.out.cell (World.block_lt_of_cell? w _ hx112_0)).trans hx112_0
                replace hx112_1 := (HB.out.cell (World.block_lt_of_cell? w _ hx112_1)).trans hx112_1
                replace p112 := eq_true p112
                replace q112 := eq_true q112
                go_wp2_with (first | ((with_reducible refine gate_dst (N := 15) rfl ?_); refine box_event ?hg (N := 15) ?hd (cs := #[.string (⟨#[]⟩ : ByteArray), .int .i64 0]) (t := 33) ?hr ?_; (case hd => rfl); (case hg => rfl); (case hr => first | (go_simp; done) | (go_simp; rfl)); intro gb113 hg w40 hbox hb; replace HO_7 := zM (Kd.P_below (Kd.P_below HO_7.out zg) hb); replace HO_13 := zM (Kd.R_below (Kd.R_elderB (zr HO_13.out) gb113 (Nat.le_of_eq hg.symm)) hb); have BK113 := zM (hbox); have GW113 := zM (zh hg : w.heap.size ≤ gb113); have GE113 := zM (zh hg : w.heap.size ≤ gb113); replace HB := zM (below_step zb hb); clear hb hbox hg; have hcz41_0 : w40.cell? ⟨gb113, 0, none⟩ = some (.string (⟨#[]⟩ : ByteArray)) := (zX BK113.out 0).trans rfl; have hcz41_1 : w40.cell? ⟨gb113, 1, none⟩ = some (.int .i64 0) := (zX BK113.out 1).trans rfl; have hfz41_0 := zY BK113.out 0; have hfz41_1 := zY BK113.out 1) | ((with_reducible refine gate_dst (N := 64) rfl ?_); refine Kd.P_look (v := v103) (m := x7_1) (s := ((rd_T33 l0 x56_2).f0)) rfl rfl rfl rfl LMc33.out (by (with_reducible repeat (first | apply Kd.P_alloc | apply Kd.P_drewN | apply Kd.P_drew)); exact (Kd.P_mono (Kd.P_far (p := ⟨gb113, 1, none⟩) (Kd.P_far (p := ⟨gb113, 0, none⟩) (Kd.P_types HO_7.out BK113.out (by decide)) (fun _ hk => hk.2) (.string ((rd_T33 l0 x56_2).f0))) (fun _ hk => hk.2) (.int .i64 ((rd_T33 l0 x56_2).f1))) (fun _ h_ => h_.1))) ?_) | ((with_reducible refine gate_callee (f := 72) rfl ?_); refine goesL_ (some 76) rfl rfl Tryd.func72 (by kernel_rfl) rfl #[.agg #[.string ((rd_T33 l0 x56_2).f0), .int .i64 ((rd_T33 l0 x56_2).f1)]] rfl zl ?_; (with_reducible refine (match_variable.calls k2 ((rd_T33 l0 x56_2).f0) ((rd_T33 l0 x56_2).f1) true _ A34.out).mono ?_); rintro e w42 ⟨rfl, hb⟩; refine ⟨_, rfl, ?_⟩; replace HO_7 := zM (Kd.P_below (by (with_reducible repeat (first | apply Kd.P_alloc | apply Kd.P_drewN | apply Kd.P_drew)); exact (Kd.P_mono (Kd.P_far (p := ⟨gb113, 1, none⟩) (Kd.P_far (p := ⟨gb113, 0, none⟩) (Kd.P_types HO_7.out BK113.out (by decide)) (fun _ hk => hk.2) (.string ((rd_T33 l0 x56_2).f0))) (fun _ hk => hk.2) (.int .i64 ((rd_T33 l0 x56_2).f1))) (fun _ h_ => h_.1))) hb); replace HO_13 := zM (Kd.R_below (by (with_reducible repeat (first | apply Kd.R_alloc | apply Kd.R_drewN | apply Kd.R_drew)); exact (Kd.R_mono (Kd.R_far (p := ⟨gb113, 1, none⟩) (Kd.R_far (p := ⟨gb113, 0, none⟩) (Kd.R_mono HO_13.out (fun k_ hk => (⟨hk, hk.2⟩ : _ ∧ k_ ≠ gb113))) (fun _ hk => hk.2) (.string ((rd_T33 l0 x56_2).f0))) (fun _ hk => hk.2) (.int .i64 ((rd_T33 l0 x56_2).f1))) (fun _ h_ => h_.1))) hb); replace BK113 := zM (blk_below (g := gb113) (o := .cells #[.string ((rd_T33 l0 x56_2).f0), .int .i64 ((rd_T33 l0 x56_2).f1)] 33 (0, 0)) (by refine zk ?_; refine blk_put (cs := #[.string ((rd_T33 l0 x56_2).f0), .int .i64 0]) ?_ 1 _ rfl; refine zk ?_; refine blk_put (cs := #[.string (⟨#[]⟩ : ByteArray), .int .i64 0]) ?_ 0 _ rfl; refine zk ?_; exact BK113.out) hb); replace HB := zM (below_step zb hb); (try clear hb); have p115 : 0 ≤ ((mapAt x7_1 ((rd_T33 l0 x56_2).f0)) : Int) := zT zv; have q115 : (mapAt x7_1 ((rd_T33 l0 x56_2).f0)) < (l1.length : Int) := zT zv; obtain ⟨ad115, A115_1, c115_1, e115, hx115_0, hx115_1, hl115_1, hi115_1⟩ := at_T109 HR1.out (mapAt x7_1 ((rd_T33 l0 x56_2).f0)) p115 q115; cases e115; replace hx115_0 := (HB.out.cell (World.block_lt_of_cell? w _ hx115_0)).trans hx115_0; replace hx115_1 := (HB.out.cell (World.block_lt_of_cell? w _ hx115_1)).trans hx115_1; have HR115_1 := zM hi115_1; have HC115_1 := zM hl115_1; clear hi115_1 hl115_1; replace p115 := eq_true p115; replace q115 := eq_true q115) | ((with_reducible refine gate_builtin (b := .append) (xs := #[.tmp 67, .tmp 72]) rfl ?_); at_builtin; refine Kd.R_append_rows k33 (w0 := w) w.heap.size rfl (.tmp 67) (.tmp 72) 23 33 (.agg #[(.string ⟨#[]⟩), (.int .i64 0)]) 24 rfl Tryd.underlying23 info33 rfl (by decide) (by omega) u13 x13_2 ((rd_T109 l1 (mapAt x7_1 ((rd_T33 l0 x56_2).f0))).f1) _ _ _ (fun k_ => k_ ≠ gb113) (fun _ => False) rfl rfl ?aO ?aR (fun _ _ h => h) (fun _ h => h.elim) ?aF ?aB ?aS ?aL ?_; (case aR => exact Kd.C_below HR115_1.out zb); (case aB => exact zb); (case aF => exact (fun k_ hk => Kd.freshB (g := gb113) (o := .cells #[.string ((rd_T33 l0 x56_2).f0), .int .i64 ((rd_T33 l0 x56_2).f1)] 33 (0, 0)) (zk BK113.out) k_ hk)); (case aO => exact (by (with_reducible repeat (first | apply Kd.R_alloc | apply Kd.R_drewN | apply Kd.R_drew)); exact Kd.R_mono HO_13.out (fun _ hk => hk.2))); (case aS => exact (below_size zb)); (case aL => have := LMc39.out; omega); intro v117 w43 ho hb hg hat; rw [← Ny116.out] at ho; replace HO_7 := zM (Kd.P_over' (Kd.P_below HO_7.out zg) (Kd.R_typed (zr HO_13.out)) (by decide) hg); replace BK113 := zM (blk_grown (g := gb113) (o := .cells #[.string ((rd_T33 l0 x56_2).f0), .int .i64 ((rd_T33 l0 x56_2).f1)] 33 (0, 0)) (zk BK113.out) hg (Kd.R_away HO_13.out (fun _ hk => hk.2))); replace HB := zM (hb); have HO118 := zM (ho); clear HO_13; clear ho hb hg hat))
                go_roundg k2
                case measure => have := HK1.out; have := HK2.out; omega
                case rel => exact ⟨(y116), (wrap64 (x56_2 + 1)), zy, H', ⟨by have := HK1.out; have := HK2.out; omega⟩, ⟨Kd.P_below HO_7.out zg⟩, ⟨by (with_reducible repeat (first | apply Kd.R_alloc | apply Kd.R_drewN | apply Kd.R_drew)); exact Kd.R_mono HO118.out (fun _ hk => trivial)⟩, ⟨zb⟩⟩
               ·
                rw [if_neg c39] at H
                exact absurd H (by simp)
              ·
               rw [if_neg c38] at H
               exact absurd H (by simp)
             ·
              rw [if_neg c37] at H
              exact absurd H (by simp)
            ·
             rw [if_neg c36] at H
             have c36b0 : mapHas x7_1 ((rd_T33 l0 x56_2).f0) = false := by simpa using c36
             clear c36
             simp only [Option.some.injEq, Prod.mk.injEq] at H
             obtain ⟨rfl, rfl⟩ := H
             have p112 : 0 ≤ (x56_2 : Int) := zT zv
             have q112 : x56_2 < (l0.length : Int) := zT zv
             obtain ⟨ad112, e112, hx112_0, hx112_1⟩ := at_T33 HR0.out x56_2 p112 q112
             cases e112
             replace hx112_0 := (HB.out.cell (World.block_lt_of_cell? w _ hx112_0)).trans hx112_0
             replace hx112_1 := (HB.out.cell (World.block_lt_of_cell? w _ hx112_1)).trans hx112_1
             replace p112 := eq_true p112
             replace q112 := eq_true q112
             go_wp2_with (first | ((with_reducible refine gate_dst (N := 15) rfl ?_); refine box_event ?hg (N := 15) ?hd (cs := #[.string (⟨#[]⟩ : ByteArray), .int .i64 0]) (t := 33) ?hr ?_; (case hd => rfl); (case hg => rfl); (case hr => first | (go_simp; done) | (go_simp; rfl)); intro gb113 hg w44 hbox hb; replace HO_7 := zM (Kd.P_below (Kd.P_below HO_7.out zg) hb); replace HO_13 := zM (Kd.R_below (Kd.R_elderB (zr HO_13.out) gb113 (Nat.le_of_eq hg.symm)) hb); have BK113 := zM (hbox); have GW113 := zM (zh hg : w.heap.size ≤ gb113); have GE113 := zM (zh hg : w.heap.size ≤ gb113); replace HB := zM (below_step zb hb); clear hb hbox hg; have hcz45_0 : w44.cell? ⟨gb113, 0, none⟩ = some (.string (⟨#[]⟩ : ByteArray)) := (zX BK113.out 0).trans rfl; have hcz45_1 : w44.cell? ⟨gb113, 1, none⟩ = some (.int .i64 0) := (zX BK113.out 1).trans rfl; have hfz45_0 := zY BK113.out 0; have hfz45_1 := zY BK113.out 1) | ((with_reducible refine gate_dst (N := 64) rfl ?_); refine Kd.P_look (v := v103) (m := x7_1) (s := ((rd_T33 l0 x56_2).f0)) rfl rfl rfl rfl LMc33.out (by (with_reducible repeat (first | apply Kd.P_alloc | apply Kd.P_drewN | apply Kd.P_drew)); exact (Kd.P_mono (Kd.P_far (p := ⟨gb113, 1, none⟩) (Kd.P_far (p := ⟨gb113, 0, none⟩) (Kd.P_types HO_7.out BK113.out (by decide)) (fun _ hk => hk.2) (.string ((rd_T33 l0 x56_2).f0))) (fun _ hk => hk.2) (.int .i64 ((rd_T33 l0 x56_2).f1))) (fun _ h_ => h_.1))) ?_) | ((with_reducible refine gate_callee (f := 72) rfl ?_); refine goesL_ (some 76) rfl rfl Tryd.func72 (by kernel_rfl) rfl #[.agg #[.string ((rd_T33 l0 x56_2).f0), .int .i64 ((rd_T33 l0 x56_2).f1)]] rfl zl ?_; (with_reducible refine (match_variable.calls k2 ((rd_T33 l0 x56_2).f0) ((rd_T33 l0 x56_2).f1) true _ A34.out).mono ?_); rintro e w46 ⟨rfl, hb⟩; refine ⟨_, rfl, ?_⟩; replace HO_7 := zM (Kd.P_below (by (with_reducible repeat (first | apply Kd.P_alloc | apply Kd.P_drewN | apply Kd.P_drew)); exact (Kd.P_mono (Kd.P_far (p := ⟨gb113, 1, none⟩) (Kd.P_far (p := ⟨gb113, 0, none⟩) (Kd.P_types HO_7.out BK113.out (by decide)) (fun _ hk => hk.2) (.string ((rd_T33 l0 x56_2).f0))) (fun _ hk => hk.2) (.int .i64 ((rd_T33 l0 x56_2).f1))) (fun _ h_ => h_.1))) hb); replace HO_13 := zM (Kd.R_below (by (with_reducible repeat (first | apply Kd.R_alloc | apply Kd.R_drewN | apply Kd.R_drew)); exact (Kd.R_mono (Kd.R_far (p := ⟨gb113, 1, none⟩) (Kd.R_far (p := ⟨gb113, 0, none⟩) (Kd.R_mono HO_13.out (fun k_ hk => (⟨hk, hk.2⟩ : _ ∧ k_ ≠ gb113))) (fun _ hk => hk.2) (.string ((rd_T33 l0 x56_2).f0))) (fun _ hk => hk.2) (.int .i64 ((rd_T33 l0 x56_2).f1))) (fun _ h_ => h_.1))) hb); replace BK113 := zM (blk_below (g := gb113) (o := .cells #[.string ((rd_T33 l0 x56_2).f0), .int .i64 ((rd_T33 l0 x56_2).f1)] 33 (0, 0)) (by refine zk ?_; refine blk_put (cs := #[.string ((rd_T33 l0 x56_2).f0), .int .i64 0]) ?_ 1 _ rfl; refine zk ?_; refine blk_put (cs := #[.string (⟨#[]⟩ : ByteArray), .int .i64 0]) ?_ 0 _ rfl; refine zk ?_; exact BK113.out) hb); replace HB := zM (below_step zb hb); (try clear hb)))
             go_ret2
             exact ⟨_, zw, by first | exact Kd.R_nil _ _ _ _ _ | exact Kd.N_nil _ _ _ _ _ | exact Kd.V_nil _ _ _ _ _ | exact Kd.Q_nil _ _ _ _ _ | exact Kd.S_nil _ _ _ _ _, zb⟩
           ·
            replace c35 := zI c35
            subst c35
            rw [if_neg (show ¬ (false = true) by decide)] at H
            by_cases c47 : x13_2.length < 5864062014805
            ·
             rw [if_pos c47] at H
             have LMc47 := zM c47
             clear c47
             obtain ⟨y119, hy119⟩ : ∃ y_ : List (S33), y_ = (x13_2 ++ [(⟨(rd_T33 l0 x56_2).f0, (rd_T33 l0 x56_2).f1⟩ : S33)]) := ⟨_, rfl⟩
             replace H : (match_Fill.l1 k2 l1 x7_1 y119 l0 (l0.length : Int) (wrap64 (x56_2 + 1))) = some (r1, r2) := by first | (rw [hy119]; with_reducible exact H) | (have H2_ := (Option.bind_some _ _).symm.trans H; rw [hy119]; with_reducible exact H2_) | (have H2_ := (Option.bind_some _ _).symm.trans H; with_reducible exact H2_) | with_reducible exact H | (rw [hy119]; exact H) | exact H
             have Ny119 := zM hy119
             clear hy119
             have H' := zM H
             clear H
             have p112 : 0 ≤ (x56_2 : Int) := zT zv
             have q112 : x56_2 < (l0.length : Int) := zT zv
             obtain ⟨ad112, e112, hx112_0, hx112_1⟩ := at_T33 HR0.out x56_2 p112 q112
             cases e112
             replace hx112_0 := (HB.out.cell (World.block_lt_of_cell? w _ hx112_0)).trans hx112_0
             replace hx112_1 := (HB.out.cell (World.block_lt_of_cell? w _ hx112_1)).trans hx112_1
             replace p112 := eq_true p112
             replace q112 := eq_true q112
             go_wp2_with (first | ((with_reducible refine gate_dst (N := 15) rfl ?_); refine box_event ?hg (N := 15) ?hd (cs := #[.string (⟨#[]⟩ : ByteArray), .int .i64 0]) (t := 33) ?hr ?_; (case hd => rfl); (case hg => rfl); (case hr => first | (go_simp; done) | (go_simp; rfl)); intro gb113 hg w48 hbox hb; replace HO_7 := zM (Kd.P_below (Kd.P_below HO_7.out zg) hb); replace HO_13 := zM (Kd.R_below (Kd.R_elderB (zr HO_13.out) gb113 (Nat.le_of_eq hg.symm)) hb); have BK113 := zM (hbox); have GW113 := zM (zh hg : w.heap.size ≤ gb113); have GE113 := zM (zh hg : w.heap.size ≤ gb113); replace HB := zM (below_step zb hb); clear hb hbox hg; have hcz49_0 : w48.cell? ⟨gb113, 0, none⟩ = some (.string (⟨#[]⟩ : ByteArray)) := (zX BK113.out 0).trans rfl; have hcz49_1 : w48.cell? ⟨gb113, 1, none⟩ = some (.int .i64 0) := (zX BK113.out 1).trans rfl; have hfz49_0 := zY BK113.out 0; have hfz49_1 := zY BK113.out 1) | ((with_reducible refine gate_dst (N := 64) rfl ?_); refine Kd.P_look (v := v103) (m := x7_1) (s := ((rd_T33 l0 x56_2).f0)) rfl rfl rfl rfl LMc33.out (by (with_reducible repeat (first | apply Kd.P_alloc | apply Kd.P_drewN | apply Kd.P_drew)); exact (Kd.P_mono (Kd.P_far (p := ⟨gb113, 1, none⟩) (Kd.P_far (p := ⟨gb113, 0, none⟩) (Kd.P_types HO_7.out BK113.out (by decide)) (fun _ hk => hk.2) (.string ((rd_T33 l0 x56_2).f0))) (fun _ hk => hk.2) (.int .i64 ((rd_T33 l0 x56_2).f1))) (fun _ h_ => h_.1))) ?_) | ((with_reducible refine gate_callee (f := 72) rfl ?_); refine goesL_ (some 76) rfl rfl Tryd.func72 (by kernel_rfl) rfl #[.agg #[.string ((rd_T33 l0 x56_2).f0), .int .i64 ((rd_T33 l0 x56_2).f1)]] rfl zl ?_; (with_reducible refine (match_variable.calls k2 ((rd_T33 l0 x56_2).f0) ((rd_T33 l0 x56_2).f1) false _ A34.out).mono ?_); rintro e w50 ⟨rfl, hb⟩; refine ⟨_, rfl, ?_⟩; replace HO_7 := zM (Kd.P_below (by (with_reducible repeat (first | apply Kd.P_alloc | apply Kd.P_drewN | apply Kd.P_drew)); exact (Kd.P_mono (Kd.P_far (p := ⟨gb113, 1, none⟩) (Kd.P_far (p := ⟨gb113, 0, none⟩) (Kd.P_types HO_7.out BK113.out (by decide)) (fun _ hk => hk.2) (.string ((rd_T33 l0 x56_2).f0))) (fun _ hk => hk.2) (.int .i64 ((rd_T33 l0 x56_2).f1))) (fun _ h_ => h_.1))) hb); replace HO_13 := zM (Kd.R_below (by (with_reducible repeat (first | apply Kd.R_alloc | apply Kd.R_drewN | apply Kd.R_drew)); exact (Kd.R_mono (Kd.R_far (p := ⟨gb113, 1, none⟩) (Kd.R_far (p := ⟨gb113, 0, none⟩) (Kd.R_mono HO_13.out (fun k_ hk => (⟨hk, hk.2⟩ : _ ∧ k_ ≠ gb113))) (fun _ hk => hk.2) (.string ((rd_T33 l0 x56_2).f0))) (fun _ hk => hk.2) (.int .i64 ((rd_T33 l0 x56_2).f1))) (fun _ h_ => h_.1))) hb); replace BK113 := zM (blk_below (g := gb113) (o := .cells #[.string ((rd_T33 l0 x56_2).f0), .int .i64 ((rd_T33 l0 x56_2).f1)] 33 (0, 0)) (by refine zk ?_; refine blk_put (cs := #[.string ((rd_T33 l0 x56_2).f0), .int .i64 0]) ?_ 1 _ rfl; refine zk ?_; refine blk_put (cs := #[.string (⟨#[]⟩ : ByteArray), .int .i64 0]) ?_ 0 _ rfl; refine zk ?_; exact BK113.out) hb); replace HB := zM (below_step zb hb); (try clear hb); have hcz51_0 : w50.cell? ⟨gb113, 0, none⟩ = some (.string ((rd_T33 l0 x56_2).f0)) := (zX BK113.out 0).trans rfl; have hcz51_1 : w50.cell? ⟨gb113, 1, none⟩ = some (.int .i64 ((rd_T33 l0 x56_2).f1)) := (zX BK113.out 1).trans rfl; have hfz51_0 := zY BK113.out 0; have hfz51_1 := zY BK113.out 1) | ((with_reducible refine gate_builtin (b := .append) (xs := #[.tmp 78, .tmp 80]) rfl ?_); at_builtin; refine Kd.R_append k33 (w0 := w) w.heap.size rfl (.tmp 78) (.tmp 80) 23 33 (.agg #[(.string ⟨#[]⟩), (.int .i64 0)]) 24 rfl Tryd.underlying23 info33 rfl (by decide) (by omega) u13 x13_2 (⟨(rd_T33 l0 x56_2).f0, (rd_T33 l0 x56_2).f1⟩ : S33) [.string ((rd_T33 l0 x56_2).f0), .int .i64 ((rd_T33 l0 x56_2).f1)] (fun k_ => k_ ≠ gb113) (fun _ => False) rfl rfl ?aP (fun _ hk => hk.elim) ?aF ?aO ?aB ?aS ?aL ?_; (case aP => exact k33_mkM _ _ _ (⟨(rd_T33 l0 x56_2).f0, (rd_T33 l0 x56_2).f1⟩ : S33)); (case aB => exact zb); (case aF => exact (fun k_ hk => Kd.freshB (g := gb113) (o := .cells #[.string ((rd_T33 l0 x56_2).f0), .int .i64 ((rd_T33 l0 x56_2).f1)] 33 (0, 0)) (zk BK113.out) k_ hk)); (case aO => exact (by (with_reducible repeat (first | apply Kd.R_alloc | apply Kd.R_drewN | apply Kd.R_drew)); exact Kd.R_mono HO_13.out (fun _ hk => hk.2))); (case aS => exact (below_size zb)); (case aL => have := LMc47.out; omega); intro v120 w52 ho hb hg hat; rw [← Ny119.out] at ho; replace HO_7 := zM (Kd.P_over' (Kd.P_below HO_7.out zg) (Kd.R_typed (zr HO_13.out)) (by decide) hg); replace BK113 := zM (blk_grown (g := gb113) (o := .cells #[.string ((rd_T33 l0 x56_2).f0), .int .i64 ((rd_T33 l0 x56_2).f1)] 33 (0, 0)) (zk BK113.out) hg (Kd.R_away HO_13.out (fun _ hk => hk.2))); replace HB := zM (hb); have HO121 := zM (ho); clear HO_13; clear ho hb hg hat))
             go_roundg k2
             case measure => have := HK1.out; have := HK2.out; omega
             case rel => exact ⟨(y119), (wrap64 (x56_2 + 1)), zy, H', ⟨by have := HK1.out; have := HK2.out; omega⟩, ⟨Kd.P_below HO_7.out zg⟩, ⟨by (with_reducible repeat (first | apply Kd.R_alloc | apply Kd.R_drewN | apply Kd.R_drew)); exact Kd.R_mono HO121.out (fun _ hk => trivial)⟩, ⟨zb⟩⟩
            ·
             rw [if_neg c47] at H
             exact absurd H (by simp)
          ·
           rw [if_neg c33] at H
           exact absurd H (by simp)
         ·
          rw [if_neg c32] at H
          exact absurd H (by simp)
        ·
         rw [if_neg c31] at H
         exact absurd H (by simp)
       ·
        rw [if_neg c30] at H
        have c30b0 : decide (x56_2 < (l0.length : Int)) = false := zR c30
        clear c30
        by_cases c53 : (x13_2.length : Int) > 64
        ·
         rw [if_pos c53] at H
         have c53b0 : decide (64 < (x13_2.length : Int)) = true := zQ c53
         have c53b1 : decide (64 < x13_2.length) = true := zQ (by omega)
         clear c53
         simp only [Option.some.injEq, Prod.mk.injEq] at H
         obtain ⟨rfl, rfl⟩ := H
         obtain ⟨Ao54, co54, eo54⟩ := Kd.R_slice HO_13.out
         subst eo54
         go_wp2
         go_ret2
         exact ⟨_, zw, by first | exact Kd.R_nil _ _ _ _ _ | exact Kd.N_nil _ _ _ _ _ | exact Kd.V_nil _ _ _ _ _ | exact Kd.Q_nil _ _ _ _ _ | exact Kd.S_nil _ _ _ _ _, zb⟩
        ·
         rw [if_neg c53] at H
         have c53b0 : decide (64 < (x13_2.length : Int)) = false := zR c53
         have c53b1 : decide (64 < x13_2.length) = false := zR (by omega)
         clear c53
         simp only [Option.some.injEq, Prod.mk.injEq] at H
         obtain ⟨rfl, rfl⟩ := H
         obtain ⟨Ao55, co55, eo55⟩ := Kd.R_slice HO_13.out
         subst eo55
         go_wp2
         go_ret2
         exact ⟨_, zw, zr HO_13.out, zb⟩
 ·
  rw [if_neg c4] at H
  have c4b0 : (t101 == 0) = false := zE c4
  have c4b1 : (t101 != 0) = true := zF c4
  simp only [Option.some.injEq, Prod.mk.injEq] at H
  obtain ⟨rfl, rfl⟩ := H
  go_enter Tryd.func52, Tryd.ntmps52
  go_wp2_with (first | ((with_reducible refine gate_callee (f := 30) rfl ?_); refine goesL_ (some 19) rfl rfl Tryd.func30 (by kernel_rfl) rfl #[.slice A0 l0.length c0] rfl zl ?_; (with_reducible refine (term_Check.calls k _ _ l0 t101 _ ?side1 ?side2 A3.out).mono ?_); (case side1 => exact Kd.C_below HR0.out zg); (case side2 => exact HC0.out); rintro e w56 ⟨rfl, hb⟩; refine ⟨_, rfl, ?_⟩; replace HB := zM (below_step zb hb); (try clear hb)))
  go_ret2
  exact ⟨_, zw, by first | exact Kd.R_nil _ _ _ _ _ | exact Kd.N_nil _ _ _ _ _ | exact Kd.V_nil _ _ _ _ _ | exact Kd.Q_nil _ _ _ _ _ | exact Kd.S_nil _ _ _ _ _, zb⟩


-- ==== PF22

/-! ### rule_Apply: function 22 -/
def rule_Apply.f (k : Nat) (a0_0 : Int) (l0_1 : List (S33)) (l0_2 : List (S33)) (l1 : List (S33)) : Option ((List (S33)) × Bool × Int) := (rule_Check.f k a0_0 l0_1 l0_2).bind fun t102 => (if t102 = 0 then ((match_Match.f k l0_1 l1).bind fun bt103 => (if bt103.2.2 = 0 then (if bt103.2.1 = true then ((match_Fill.f k l0_2 bt103.1).bind fun bt108 => (some (bt108.1, (bt108.2 == 0), bt108.2))) else (some (([] : List (S33)), false, bt103.2.2))) else (some (([] : List (S33)), false, bt103.2.2)))) else (some (([] : List (S33)), false, t102)))
theorem rule_Apply.mono : ∀ a0 a1 a2 a3 k, LeO (rule_Apply.f k a0 a1 a2 a3) (rule_Apply.f (k + 1) a0 a1 a2 a3) := by
 intro a0 a1 a2 a3 k
 unfold rule_Apply.f
 repeat' first
  | (with_reducible exact match_Fill.mono _ _ _)
  | (with_reducible exact match_Match.mono _ _ _)
  | (with_reducible exact rule_Check.mono _ _ _ _)
  | (with_reducible exact LeO.refl _)
  | (with_reducible exact LeO.none _)
  | (with_reducible refine LeO.ite ?_ ?_)
  | (with_reducible refine LeO.bind ?_ (fun _ => ?_))
theorem rule_Apply.calls (k : Nat) (a0_0 : Int) (A0_1 : Option Addr) (c0_1 : Nat) (l0_1 : List (S33)) (A0_2 : Option Addr) (c0_2 : Nat) (l0_2 : List (S33)) (A1 : Option Addr) (c1 : Nat) (l1 : List (S33)) (r1 : List (S33)) (r2 : Bool) (r3 : Int) (w : World) (hr0_1 : Kd.C k33 w A0_1 l0_1.length l0_1) (hc0_1 : l0_1.length ≤ c0_1) (hr0_2 : Kd.C k33 w A0_2 l0_2.length l0_2) (hc0_2 : l0_2.length ≤ c0_2) (hr1 : Kd.C k33 w A1 l1.length l1) (hc1 : l1.length ≤ c1) (h : rule_Apply.f k a0_0 l0_1 l0_2 l1 = some (r1, r2, r3)) :
 Calls Tryd.prog 22 #[.agg #[.int .i64 a0_0, .slice A0_1 l0_1.length c0_1, .slice A0_2 l0_2.length c0_2], .slice A1 l1.length c1] w fun e w' => ∃ v0_ : Value, e = .returned (.tuple #[v0_, .bool r2, .int .i64 r3]) ∧ Kd.R k33 33 w' w.heap.size (fun _ => True) v0_ r1 ∧ Below w.heap.size w w' := by
 have hu25 := Tryd.underlying25
 have HR0_1 := zM hr0_1
 have HC0_1 := zM hc0_1
 clear hr0_1 hc0_1
 have HR0_2 := zM hr0_2
 have HC0_2 := zM hc0_2
 clear hr0_2 hc0_2
 have HR1 := zM hr1
 have HC1 := zM hc1
 clear hr1 hc1
 have HB := zM (Below.refl w.heap.size w)
 have H : ((rule_Check.f k a0_0 l0_1 l0_2).bind fun t102 => (if t102 = 0 then ((match_Match.f k l0_1 l1).bind fun bt103 => (if bt103.2.2 = 0 then (if bt103.2.1 = true then ((match_Fill.f k l0_2 bt103.1).bind fun bt108 => (some (bt108.1, (bt108.2 == 0), bt108.2))) else (some (([] : List (S33)), false, bt103.2.2))) else (some (([] : List (S33)), false, bt103.2.2)))) else (some (([] : List (S33)), false, t102)))) = some (r1, r2, r3) := h
 clear h
 replace H := zB H
 obtain ⟨t102, A30, H⟩ := H
 try dsimp only at H
 have A3 := zM A30
 clear A30
 by_cases c4 : t102 = 0
 ·
  rw [if_pos c4] at H
  have c4b0 : (t102 == 0) = true := zG c4
  have c4b1 : (t102 != 0) = false := zH c4
  clear c4
  replace H := zB H
  obtain ⟨⟨t103, t104, t105⟩, A50, H⟩ := H
  try dsimp only at H
  have A5 := zM A50
  clear A50
  by_cases c6 : t105 = 0
  ·
   rw [if_pos c6] at H
   have c6b0 : (t105 == 0) = true := zG c6
   have c6b1 : (t105 != 0) = false := zH c6
   clear c6
   by_cases c7 : t104 = true
   ·
    subst c7
    rw [if_pos rfl] at H
    replace H := zB H
    obtain ⟨⟨t108, t109⟩, A80, H⟩ := H
    try dsimp only at H
    have A8 := zM A80
    clear A80
    simp only [Option.some.injEq, Prod.mk.injEq] at H
    obtain ⟨rfl, rfl, rfl⟩ := H
    go_enter Tryd.func22, Tryd.ntmps22
    go_wp2_with (first | ((with_reducible refine gate_dst (N := 2) rfl ?_); refine box_event ?hg (N := 2) ?hd (cs := #[.int .i64 a0_0, .slice A0_1 l0_1.length c0_1, .slice A0_2 l0_2.length c0_2]) (t := 25) ?hr ?_; (case hd => rfl); (case hg => rfl); (case hr => first | (go_simp; done) | (go_simp; rfl)); intro gb101 hg w9 hbox hb; have BK101 := zM (hbox); have GW101 := zM (zh hg : w.heap.size ≤ gb101); have GE101 := zM (zh hg : w.heap.size ≤ gb101); replace HB := zM (below_step zb hb); clear hb hbox hg; have hcz10_0 : w9.cell? ⟨gb101, 0, none⟩ = some (.int .i64 a0_0) := (zX BK101.out 0).trans rfl; have hcz10_1 : w9.cell? ⟨gb101, 1, none⟩ = some (.slice A0_1 l0_1.length c0_1) := (zX BK101.out 1).trans rfl; have hcz10_2 : w9.cell? ⟨gb101, 2, none⟩ = some (.slice A0_2 l0_2.length c0_2) := (zX BK101.out 2).trans rfl; have hfz10_0 := zY BK101.out 0; have hfz10_1 := zY BK101.out 1; have hfz10_2 := zY BK101.out 2) | ((with_reducible refine gate_callee (f := 11) rfl ?_); refine goesL_ (some 13) rfl rfl Tryd.func11 (by kernel_rfl) rfl #[.agg #[.int .i64 a0_0, .slice A0_1 l0_1.length c0_1, .slice A0_2 l0_2.length c0_2]] rfl zl ?_; (with_reducible refine (rule_Check.calls k a0_0 _ _ l0_1 _ _ l0_2 t102 _ ?side1 ?side2 ?side3 ?side4 A3.out).mono ?_); (case side1 => exact Kd.C_below HR0_1.out zb); (case side2 => exact HC0_1.out); (case side3 => exact Kd.C_below HR0_2.out zb); (case side4 => exact HC0_2.out); rintro e w11 ⟨rfl, hb⟩; refine ⟨_, rfl, ?_⟩; replace BK101 := zM (blk_below (zk BK101.out) hb); replace HB := zM (below_step zb hb); (try clear hb); have hcz12_0 : w11.cell? ⟨gb101, 0, none⟩ = some (.int .i64 a0_0) := (zX BK101.out 0).trans rfl; have hcz12_1 : w11.cell? ⟨gb101, 1, none⟩ = some (.slice A0_1 l0_1.length c0_1) := (zX BK101.out 1).trans rfl; have hcz12_2 : w11.cell? ⟨gb101, 2, none⟩ = some (.slice A0_2 l0_2.length c0_2) := (zX BK101.out 2).trans rfl; have hfz12_0 := zY BK101.out 0; have hfz12_1 := zY BK101.out 1; have hfz12_2 := zY BK101.out 2) | ((with_reducible refine gate_callee (f := 51) rfl ?_); refine goesL_ (some 21) rfl rfl Tryd.func51 (by kernel_rfl) rfl #[.slice A0_1 l0_1.length c0_1, .slice A1 l1.length c1] rfl zl ?_; (with_reducible refine (match_Match.calls k _ _ l0_1 _ _ l1 t103 true t105 _ ?side1 ?side2 ?side3 ?side4 A5.out).mono ?_); (case side1 => exact Kd.C_below HR0_1.out zb); (case side2 => exact HC0_1.out); (case side3 => exact Kd.C_below HR1.out zb); (case side4 => exact HC1.out); rintro e w13 ⟨v106, rfl, ho0, hb⟩; refine ⟨_, rfl, ?_⟩; have HO107 := zM (Kd.S_lower ho0 (below_size zb)); replace BK101 := zM (blk_below (zk BK101.out) hb); replace HB := zM (below_step zb hb); (try clear hb); (try clear ho0); have hcz14_0 : w13.cell? ⟨gb101, 0, none⟩ = some (.int .i64 a0_0) := (zX BK101.out 0).trans rfl; have hcz14_1 : w13.cell? ⟨gb101, 1, none⟩ = some (.slice A0_1 l0_1.length c0_1) := (zX BK101.out 1).trans rfl; have hcz14_2 : w13.cell? ⟨gb101, 2, none⟩ = some (.slice A0_2 l0_2.length c0_2) := (zX BK101.out 2).trans rfl; have hfz14_0 := zY BK101.out 0; have hfz14_1 := zY BK101.out 1; have hfz14_2 := zY BK101.out 2; obtain ⟨Ao15, co15, eo15⟩ := Kd.S_slice HO107.out; subst eo15) | ((with_reducible refine gate_callee (f := 52) rfl ?_); refine goesL_ (some 36) rfl rfl Tryd.func52 (by kernel_rfl) rfl #[.slice A0_2 l0_2.length c0_2, .slice Ao15 t103.length co15] rfl zl ?_; (with_reducible refine (match_Fill.calls k _ _ l0_2 _ _ t103 t108 t109 _ ?side1 ?side2 ?side3 ?side4 A8.out).mono ?_); (case side1 => exact Kd.C_below HR0_2.out zb); (case side2 => exact HC0_2.out); (case side3 => exact Kd.C_below (Kd.S_reads' HO107.out).2.2 zg); (case side4 => exact (Kd.S_reads' HO107.out).2.1); rintro e w16 ⟨v110, rfl, ho0, hb⟩; refine ⟨_, rfl, ?_⟩; replace HO107 := zM (Kd.S_elder' (Kd.S_below HO107.out zg) (Kd.R_base ho0) hb); have HO111 := zM (Kd.R_lower ho0 (below_size zb)); replace BK101 := zM (blk_below (zk BK101.out) hb); replace HB := zM (below_step zb hb); (try clear hb); (try clear ho0)))
    go_ret3
    exact ⟨_, zw, zr HO111.out, zb⟩
   ·
    replace c7 := zI c7
    subst c7
    rw [if_neg (show ¬ (false = true) by decide)] at H
    simp only [Option.some.injEq, Prod.mk.injEq] at H
    obtain ⟨rfl, rfl, rfl⟩ := H
    go_enter Tryd.func22, Tryd.ntmps22
    go_wp2_with (first | ((with_reducible refine gate_dst (N := 2) rfl ?_); refine box_event ?hg (N := 2) ?hd (cs := #[.int .i64 a0_0, .slice A0_1 l0_1.length c0_1, .slice A0_2 l0_2.length c0_2]) (t := 25) ?hr ?_; (case hd => rfl); (case hg => rfl); (case hr => first | (go_simp; done) | (go_simp; rfl)); intro gb101 hg w17 hbox hb; have BK101 := zM (hbox); have GW101 := zM (zh hg : w.heap.size ≤ gb101); have GE101 := zM (zh hg : w.heap.size ≤ gb101); replace HB := zM (below_step zb hb); clear hb hbox hg; have hcz18_0 : w17.cell? ⟨gb101, 0, none⟩ = some (.int .i64 a0_0) := (zX BK101.out 0).trans rfl; have hcz18_1 : w17.cell? ⟨gb101, 1, none⟩ = some (.slice A0_1 l0_1.length c0_1) := (zX BK101.out 1).trans rfl; have hcz18_2 : w17.cell? ⟨gb101, 2, none⟩ = some (.slice A0_2 l0_2.length c0_2) := (zX BK101.out 2).trans rfl; have hfz18_0 := zY BK101.out 0; have hfz18_1 := zY BK101.out 1; have hfz18_2 := zY BK101.out 2) | ((with_reducible refine gate_callee (f := 11) rfl ?_); refine goesL_ (some 13) rfl rfl Tryd.func11 (by kernel_rfl) rfl #[.agg #[.int .i64 a0_0, .slice A0_1 l0_1.length c0_1, .slice A0_2 l0_2.length c0_2]] rfl zl ?_; (with_reducible refine (rule_Check.calls k a0_0 _ _ l0_1 _ _ l0_2 t102 _ ?side1 ?side2 ?side3 ?side4 A3.out).mono ?_); (case side1 => exact Kd.C_below HR0_1.out zb); (case side2 => exact HC0_1.out); (case side3 => exact Kd.C_below HR0_2.out zb); (case side4 => exact HC0_2.out); rintro e w19 ⟨rfl, hb⟩; refine ⟨_, rfl, ?_⟩; replace BK101 := zM (blk_below (zk BK101.out) hb); replace HB := zM (below_step zb hb); (try clear hb); have hcz20_0 : w19.cell? ⟨gb101, 0, none⟩ = some (.int .i64 a0_0) := (zX BK101.out 0).trans rfl; have hcz20_1 : w19.cell? ⟨gb101, 1, none⟩ = some (.slice A0_1 l0_1.length c0_1) := (zX BK101.out 1).trans rfl; have hcz20_2 : w19.cell? ⟨gb101, 2, none⟩ = some (.slice A0_2 l0_2.length c0_2) := (zX BK101.out 2).trans rfl; have hfz20_0 := zY BK101.out 0; have hfz20_1 := zY BK101.out 1; have hfz20_2 := zY BK101.out 2) | ((with_reducible refine gate_callee (f := 51) rfl ?_); refine goesL_ (some 21) rfl rfl Tryd.func51 (by kernel_rfl) rfl #[.slice A0_1 l0_1.length c0_1, .slice A1 l1.length c1] rfl zl ?_; (with_reducible refine (match_Match.calls k _ _ l0_1 _ _ l1 t103 false t105 _ ?side1 ?side2 ?side3 ?side4 A5.out).mono ?_); (case side1 => exact Kd.C_below HR0_1.out zb); (case side2 => exact HC0_1.out); (case side3 => exact Kd.C_below HR1.out zb); (case side4 => exact HC1.out); rintro e w21 ⟨v106, rfl, ho0, hb⟩; refine ⟨_, rfl, ?_⟩; have HO107 := zM (Kd.S_lower ho0 (below_size zb)); replace BK101 := zM (blk_below (zk BK101.out) hb); replace HB := zM (below_step zb hb); (try clear hb); (try clear ho0)))
    go_ret3
    exact ⟨_, zw, by first | exact Kd.R_nil _ _ _ _ _ | exact Kd.N_nil _ _ _ _ _ | exact Kd.V_nil _ _ _ _ _ | exact Kd.Q_nil _ _ _ _ _ | exact Kd.S_nil _ _ _ _ _, zb⟩
  ·
   rw [if_neg c6] at H
   have c6b0 : (t105 == 0) = false := zE c6
   have c6b1 : (t105 != 0) = true := zF c6
   simp only [Option.some.injEq, Prod.mk.injEq] at H
   obtain ⟨rfl, rfl, rfl⟩ := H
   go_enter Tryd.func22, Tryd.ntmps22
   go_wp2_with (first | ((with_reducible refine gate_dst (N := 2) rfl ?_); refine box_event ?hg (N := 2) ?hd (cs := #[.int .i64 a0_0, .slice A0_1 l0_1.length c0_1, .slice A0_2 l0_2.length c0_2]) (t := 25) ?hr ?_; (case hd => rfl); (case hg => rfl); (case hr => first | (go_simp; done) | (go_simp; rfl)); intro gb101 hg w22 hbox hb; have BK101 := zM (hbox); have GW101 := zM (zh hg : w.heap.size ≤ gb101); have GE101 := zM (zh hg : w.heap.size ≤ gb101); replace HB := zM (below_step zb hb); clear hb hbox hg; have hcz23_0 : w22.cell? ⟨gb101, 0, none⟩ = some (.int .i64 a0_0) := (zX BK101.out 0).trans rfl; have hcz23_1 : w22.cell? ⟨gb101, 1, none⟩ = some (.slice A0_1 l0_1.length c0_1) := (zX BK101.out 1).trans rfl; have hcz23_2 : w22.cell? ⟨gb101, 2, none⟩ = some (.slice A0_2 l0_2.length c0_2) := (zX BK101.out 2).trans rfl; have hfz23_0 := zY BK101.out 0; have hfz23_1 := zY BK101.out 1; have hfz23_2 := zY BK101.out 2) | ((with_reducible refine gate_callee (f := 11) rfl ?_); refine goesL_ (some 13) rfl rfl Tryd.func11 (by kernel_rfl) rfl #[.agg #[.int .i64 a0_0, .slice A0_1 l0_1.length c0_1, .slice A0_2 l0_2.length c0_2]] rfl zl ?_; (with_reducible refine (rule_Check.calls k a0_0 _ _ l0_1 _ _ l0_2 t102 _ ?side1 ?side2 ?side3 ?side4 A3.out).mono ?_); (case side1 => exact Kd.C_below HR0_1.out zb); (case side2 => exact HC0_1.out); (case side3 => exact Kd.C_below HR0_2.out zb); (case side4 => exact HC0_2.out); rintro e w24 ⟨rfl, hb⟩; refine ⟨_, rfl, ?_⟩; replace BK101 := zM (blk_below (zk BK101.out) hb); replace HB := zM (below_step zb hb); (try clear hb); have hcz25_0 : w24.cell? ⟨gb101, 0, none⟩ = some (.int .i64 a0_0) := (zX BK101.out 0).trans rfl; have hcz25_1 : w24.cell? ⟨gb101, 1, none⟩ = some (.slice A0_1 l0_1.length c0_1) := (zX BK101.out 1).trans rfl; have hcz25_2 : w24.cell? ⟨gb101, 2, none⟩ = some (.slice A0_2 l0_2.length c0_2) := (zX BK101.out 2).trans rfl; have hfz25_0 := zY BK101.out 0; have hfz25_1 := zY BK101.out 1; have hfz25_2 := zY BK101.out 2) | ((with_reducible refine gate_callee (f := 51) rfl ?_); refine goesL_ (some 21) rfl rfl Tryd.func51 (by kernel_rfl) rfl #[.slice A0_1 l0_1.length c0_1, .slice A1 l1.length c1] rfl zl ?_; (with_reducible refine (match_Match.calls k _ _ l0_1 _ _ l1 t103 t104 t105 _ ?side1 ?side2 ?side3 ?side4 A5.out).mono ?_); (case side1 => exact Kd.C_below HR0_1.out zb); (case side2 => exact HC0_1.out); (case side3 => exact Kd.C_below HR1.out zb); (case side4 => exact HC1.out); rintro e w26 ⟨v106, rfl, ho0, hb⟩; refine ⟨_, rfl, ?_⟩; have HO107 := zM (Kd.S_lower ho0 (below_size zb)); replace BK101 := zM (blk_below (zk BK101.out) hb); replace HB := zM (below_step zb hb); (try clear hb); (try clear ho0)))
   go_ret3
   exact ⟨_, zw, by first | exact Kd.R_nil _ _ _ _ _ | exact Kd.N_nil _ _ _ _ _ | exact Kd.V_nil _ _ _ _ _ | exact Kd.Q_nil _ _ _ _ _ | exact Kd.S_nil _ _ _ _ _, zb⟩
 ·
  rw [if_neg c4] at H
  have c4b0 : (t102 == 0) = false := zE c4
  have c4b1 : (t102 != 0) = true := zF c4
  simp only [Option.some.injEq, Prod.mk.injEq] at H
  obtain ⟨rfl, rfl, rfl⟩ := H
  go_enter Tryd.func22, Tryd.ntmps22
  go_wp2_with (first | ((with_reducible refine gate_dst (N := 2) rfl ?_); refine box_event ?hg (N := 2) ?hd (cs := #[.int .i64 a0_0, .slice A0_1 l0_1.length c0_1, .slice A0_2 l0_2.length c0_2]) (t := 25) ?hr ?_; (case hd => rfl); (case hg => rfl); (case hr => first | (go_simp; done) | (go_simp; rfl)); intro gb101 hg w27 hbox hb; have BK101 := zM (hbox); have GW101 := zM (zh hg : w.heap.size ≤ gb101); have GE101 := zM (zh hg : w.heap.size ≤ gb101); replace HB := zM (below_step zb hb); clear hb hbox hg; have hcz28_0 : w27.cell? ⟨gb101, 0, none⟩ = some (.int .i64 a0_0) := (zX BK101.out 0).trans rfl; have hcz28_1 : w27.cell? ⟨gb101, 1, none⟩ = some (.slice A0_1 l0_1.length c0_1) := (zX BK101.out 1).trans rfl; have hcz28_2 : w27.cell? ⟨gb101, 2, none⟩ = some (.slice A0_2 l0_2.length c0_2) := (zX BK101.out 2).trans rfl; have hfz28_0 := zY BK101.out 0; have hfz28_1 := zY BK101.out 1; have hfz28_2 := zY BK101.out 2) | ((with_reducible refine gate_callee (f := 11) rfl ?_); refine goesL_ (some 13) rfl rfl Tryd.func11 (by kernel_rfl) rfl #[.agg #[.int .i64 a0_0, .slice A0_1 l0_1.length c0_1, .slice A0_2 l0_2.length c0_2]] rfl zl ?_; (with_reducible refine (rule_Check.calls k a0_0 _ _ l0_1 _ _ l0_2 t102 _ ?side1 ?side2 ?side3 ?side4 A3.out).mono ?_); (case side1 => exact Kd.C_below HR0_1.out zb); (case side2 => exact HC0_1.out); (case side3 => exact Kd.C_below HR0_2.out zb); (case side4 => exact HC0_2.out); rintro e w29 ⟨rfl, hb⟩; refine ⟨_, rfl, ?_⟩; replace BK101 := zM (blk_below (zk BK101.out) hb); replace HB := zM (below_step zb hb); (try clear hb)))
  go_ret3
  exact ⟨_, zw, by first | exact Kd.R_nil _ _ _ _ _ | exact Kd.N_nil _ _ _ _ _ | exact Kd.V_nil _ _ _ _ _ | exact Kd.Q_nil _ _ _ _ _ | exact Kd.S_nil _ _ _ _ _, zb⟩


-- ==== PF8

/-! ### aumbrylaw06_RulePlain: function 8 -/
def aumbrylaw06_RulePlain.j0 : Nat → List (S33) → Bool → Int → List (S33) → List (S33) → Int → List (S33) → List (S33) → Option (Bool)
 | 0, _, _, _, _, _, _, _, _ => none
 | k + 1, x1, x57, x102000, x102001, x102002, x119000, x119001, x119002 => if x57 = true then (some false) else ((aumbryref06_Copy.f x102000 x102001 x102002).bind fun bt146 => ((aumbryref04_Copy.f x1).bind fun t153 => ((rule_Apply.f k bt146.1 bt146.2.1 bt146.2.2 t153).bind fun bt156 => ((aumbryref04_Copy.f x1).bind fun t161 => ((rule_Apply.f k x119000 x119001 x119002 t161).bind fun bt164 => (if (bt156.2.1 == bt164.2.1) = true then (if bt156.2.2 = bt164.2.2 then ((aumbryref04_Same.f k bt156.1 bt164.1).bind fun t169 => (some t169)) else (some false)) else (some false)))))))
def aumbrylaw06_RulePlain.f (k : Nat) (a0_0 : Int) (l0_1 : List (S33)) (l0_2 : List (S33)) (l1 : List (S33)) : Option (Bool) := (aumbrylaw06_wakes.f k).bind fun t102 => (if t102 = true then ((aumbryref06_Copy.f a0_0 l0_1 l0_2).bind fun bt103 => ((rule_Plain.f k bt103.1 bt103.2.1 bt103.2.2).bind fun bt110 => (if bt110.2.2.2 = 0 then ((aumbryref06_Copy.f bt110.1 bt110.2.1 bt110.2.2.1).bind fun bt127 => ((rule_Plain.f k bt127.1 bt127.2.1 bt127.2.2).bind fun bt134 => (if bt134.2.2.2 = 0 then ((aumbryref06_Same.f k bt110.1 bt110.2.1 bt110.2.2.1 bt134.1 bt134.2.1 bt134.2.2.1).bind fun t143 => (if t143 = true then (if bt110.1 = a0_0 then ((rule_Head.f k bt110.1 bt110.2.1 bt110.2.2.1).bind fun t144 => ((rule_Head.f k a0_0 l0_1 l0_2).bind fun t145 => (aumbrylaw06_RulePlain.j0 k l1 (t144.toList != t145.toList) a0_0 l0_1 l0_2 bt110.1 bt110.2.1 bt110.2.2.1))) else (aumbrylaw06_RulePlain.j0 k l1 true a0_0 l0_1 l0_2 bt110.1 bt110.2.1 bt110.2.2.1)) else (aumbrylaw06_RulePlain.j0 k l1 true a0_0 l0_1 l0_2 bt110.1 bt110.2.1 bt110.2.2.1))) else (aumbrylaw06_RulePlain.j0 k l1 true a0_0 l0_1 l0_2 bt110.1 bt110.2.1 bt110.2.2.1)))) else ((aumbryref06_Copy.f a0_0 l0_1 l0_2).bind fun bt119 => ((rule_Check.f k bt119.1 bt119.2.1 bt119.2.2).bind fun t126 => (some (t126 == bt110.2.2.2))))))) else (some false))
theorem aumbrylaw06_RulePlain.j0_true : ∀ k y0 y2 y3 y4 y5 y6 y7 r, aumbrylaw06_RulePlain.j0 k y0 true y2 y3 y4 y5 y6 y7 = some r → r = false := by
 intro k y0 y2 y3 y4 y5 y6 y7 r h
 cases k with
 | zero => simp [aumbrylaw06_RulePlain.j0] at h
 | succ k => simp only [aumbrylaw06_RulePlain.j0, if_true] at h; exact (zS h).symm
theorem aumbrylaw06_RulePlain.mono_l : ∀ k, (∀ y0 y1 y2 y3 y4 y5 y6 y7, LeO (aumbrylaw06_RulePlain.j0 k y0 y1 y2 y3 y4 y5 y6 y7) (aumbrylaw06_RulePlain.j0 (k + 1) y0 y1 y2 y3 y4 y5 y6 y7))
 | 0 => fun _ _ _ _ _ _ _ _ r h => by simp [aumbrylaw06_RulePlain.j0] at h
 | k + 1 => by
  have ih0 := aumbrylaw06_RulePlain.mono_l k
  ·
   intro y0 y1 y2 y3 y4 y5 y6 y7
   unfold aumbrylaw06_RulePlain.j0
   repeat' first
   | (with_reducible exact ih0 _ _ _ _ _ _ _ _)
   | (with_reducible exact aumbrylaw06_wakes.mono _)
   | (with_reducible exact aumbryref04_Same.mono _ _ _)
   | (with_reducible exact aumbryref06_Same.mono _ _ _ _ _ _ _)
   | (with_reducible exact rule_Apply.mono _ _ _ _ _)
   | (with_reducible exact rule_Check.mono _ _ _ _)
   | (with_reducible exact rule_Head.mono _ _ _ _)
   | (with_reducible exact rule_Plain.mono _ _ _ _)
   | (with_reducible exact LeO.refl _)
   | (with_reducible exact LeO.none _)
   | (with_reducible refine LeO.ite ?_ ?_)
   | (with_reducible refine LeO.bind ?_ (fun _ => ?_))
theorem aumbrylaw06_RulePlain.mono : ∀ a0 a1 a2 a3 k, LeO (aumbrylaw06_RulePlain.f k a0 a1 a2 a3) (aumbrylaw06_RulePlain.f (k + 1) a0 a1 a2 a3) := by
 intro a0 a1 a2 a3 k
 have ih0 := aumbrylaw06_RulePlain.mono_l k
 unfold aumbrylaw06_RulePlain.f
 repeat' first
  | (with_reducible exact ih0 _ _ _ _ _ _ _ _)
  | (with_reducible exact aumbrylaw06_wakes.mono _)
  | (with_reducible exact aumbryref04_Same.mono _ _ _)
  | (with_reducible exact aumbryref06_Same.mono _ _ _ _ _ _ _)
  | (with_reducible exact rule_Apply.mono _ _ _ _ _)
  | (with_reducible exact rule_Check.mono _ _ _ _)
  | (with_reducible exact rule_Head.mono _ _ _ _)
  | (with_reducible exact rule_Plain.mono _ _ _ _)
  | (with_reducible exact LeO.refl _)
  | (with_reducible exact LeO.none _)
  | (with_reducible refine LeO.ite ?_ ?_)
  | (with_reducible refine LeO.bind ?_ (fun _ => ?_))
def aumbrylaw06_RulePlain.T7 : Bool × List (List Nat × List Nat) := (true, [([], []), ([0], [0]), ([1], [1]), ([2], [2]), ([2], [2]), ([3, 4, 2, 2], [2, 3, 4]), ([5, 2], [2, 5]), ([2, 6], [2, 6]), ([7, 5], [7]), ([8], [8]), ([9, 8], [8, 9]), ([8], [8]), ([11, 8], [8, 11]), ([10, 12, 8], [8, 10, 12]), ([8, 13], [8, 13]), ([14, 8], [14]), ([15], [15]), ([16, 15, 15], [15, 16]), ([15], [15]), ([18, 17, 15], [15, 18]), ([17, 19, 15], [15, 17, 19]), ([15, 20], [15, 20])])
def aumbrylaw06_RulePlain.B7 : List Nat := [0, 1, 3, 7, 7, 31, 63, 127, 255, 511, 1023, 511, 2559, 8191, 16383, 32767, 65535, 131071, 65535, 524287, 1048575, 2097151]
theorem aumbrylaw06_RulePlain.tab7 : rtab .any (opsOf Tryd.f8 7) = aumbrylaw06_RulePlain.T7 := by kernel_rfl
theorem aumbrylaw06_RulePlain.bits7 : waitsOk aumbrylaw06_RulePlain.T7.2 aumbrylaw06_RulePlain.B7 = true := by kernel_rfl
def aumbrylaw06_RulePlain.T10 : Bool × List (List Nat × List Nat) := (true, [([], []), ([], []), ([1], [1]), ([0, 2, 2], [0, 2]), ([3], [3]), ([4], [4]), ([4], [4]), ([4], [4]), ([5, 3, 0, 1, 2, 3, 4, 5], [5]), ([6, 8, 0, 1, 2, 3, 4, 5, 6, 8], [6]), ([7, 9, 0, 1, 2, 3, 4, 5, 6, 7, 8, 9], [7])])
def aumbrylaw06_RulePlain.B10 : List Nat := [0, 0, 2, 7, 15, 31, 31, 31, 63, 383, 1023]
theorem aumbrylaw06_RulePlain.tab10 : rtab .any (opsOf Tryd.f8 10) = aumbrylaw06_RulePlain.T10 := by kernel_rfl
theorem aumbrylaw06_RulePlain.bits10 : waitsOk aumbrylaw06_RulePlain.T10.2 aumbrylaw06_RulePlain.B10 = true := by kernel_rfl
theorem aumbrylaw06_RulePlain.calls (k : Nat) (a0_0 : Int) (A0_1 : Option Addr) (c0_1 : Nat) (l0_1 : List (S33)) (A0_2 : Option Addr) (c0_2 : Nat) (l0_2 : List (S33)) (A1 : Option Addr) (c1 : Nat) (l1 : List (S33)) (r : Bool) (w : World) (hr0_1 : Kd.C k33 w A0_1 l0_1.length l0_1) (hc0_1 : l0_1.length ≤ c0_1) (hr0_2 : Kd.C k33 w A0_2 l0_2.length l0_2) (hc0_2 : l0_2.length ≤ c0_2) (hr1 : Kd.C k33 w A1 l1.length l1) (hc1 : l1.length ≤ c1) (h : aumbrylaw06_RulePlain.f k a0_0 l0_1 l0_2 l1 = some r) (hr : r = true) :
 Calls Tryd.prog 8 #[.agg #[.int .i64 a0_0, .slice A0_1 l0_1.length c0_1, .slice A0_2 l0_2.length c0_2], .slice A1 l1.length c1] w fun e w' => e = .returned (.bool r) ∧ Below w.heap.size w w' := by
 have HRT := zM hr
 clear hr
 have hu25 := Tryd.underlying25
 have HR0_1 := zM hr0_1
 have HC0_1 := zM hc0_1
 clear hr0_1 hc0_1
 have HR0_2 := zM hr0_2
 have HC0_2 := zM hc0_2
 clear hr0_2 hc0_2
 have HR1 := zM hr1
 have HC1 := zM hc1
 clear hr1 hc1
 have HB := zM (Below.refl w.heap.size w)
 have H : ((aumbrylaw06_wakes.f k).bind fun t102 => (if t102 = true then ((aumbryref06_Copy.f a0_0 l0_1 l0_2).bind fun bt103 => ((rule_Plain.f k bt103.1 bt103.2.1 bt103.2.2).bind fun bt110 => (if bt110.2.2.2 = 0 then ((aumbryref06_Copy.f bt110.1 bt110.2.1 bt110.2.2.1).bind fun bt127 => ((rule_Plain.f k bt127.1 bt127.2.1 bt127.2.2).bind fun bt134 => (if bt134.2.2.2 = 0 then ((aumbryref06_Same.f k bt110.1 bt110.2.1 bt110.2.2.1 bt134.1 bt134.2.1 bt134.2.2.1).bind fun t143 => (if t143 = true then (if bt110.1 = a0_0 then ((rule_Head.f k bt110.1 bt110.2.1 bt110.2.2.1).bind fun t144 => ((rule_Head.f k a0_0 l0_1 l0_2).bind fun t145 => (aumbrylaw06_RulePlain.j0 k l1 (t144.toList != t145.toList) a0_0 l0_1 l0_2 bt110.1 bt110.2.1 bt110.2.2.1))) else (aumbrylaw06_RulePlain.j0 k l1 true a0_0 l0_1 l0_2 bt110.1 bt110.2.1 bt110.2.2.1)) else (aumbrylaw06_RulePlain.j0 k l1 true a0_0 l0_1 l0_2 bt110.1 bt110.2.1 bt110.2.2.1))) else (aumbrylaw06_RulePlain.j0 k l1 true a0_0 l0_1 l0_2 bt110.1 bt110.2.1 bt110.2.2.1)))) else ((aumbryref06_Copy.f a0_0 l0_1 l0_2).bind fun bt119 => ((rule_Check.f k bt119.1 bt119.2.1 bt119.2.2).bind fun t126 => (some (t126 == bt110.2.2.2))))))) else (some false))) = some r := h
 clear h
 replace H := zB H
 obtain ⟨t102, A30, H⟩ := H
 try dsimp only at H
 have A3 := zM A30
 clear A30
 by_cases c4 : t102 = true
 ·
  subst c4
  rw [if_pos rfl] at H
  replace H := zB H
  obtain ⟨⟨t103, t104, t107⟩, A50, H⟩ := H
  try dsimp only at H
  have A5 := zM A50
  clear A50
  replace H := zB H
  obtain ⟨⟨t110, t111, t114, t117⟩, A60, H⟩ := H
  try dsimp only at H
  have A6 := zM A60
  clear A60
  by_cases c7 : t117 = 0
  ·
   rw [if_pos c7] at H
   have c7b0 : (t117 == 0) = true := zG c7
   have c7b1 : (t117 != 0) = false := zH c7
   clear c7
   replace H := zB H
   obtain ⟨⟨t127, t128, t131⟩, A80, H⟩ := H
   try dsimp only at H
   have A8 := zM A80
   clear A80
   replace H := zB H
   obtain ⟨⟨t134, t135, t138, t141⟩, A90, H⟩ := H
   try dsimp only at H
   have A9 := zM A90
   clear A90
   have HC10 := zM H
   clear H
   go_enter Tryd.func8, Tryd.ntmps8
   go_upto_region 7 with (first | ((with_reducible refine gate_dst (N := 2) rfl ?_); refine box_event ?hg (N := 2) ?hd (cs := #[.int .i64 a0_0, .slice A0_1 l0_1.length c0_1, .slice A0_2 l0_2.length c0_2]) (t := 25) ?hr ?_; (case hd => rfl); (case hg => rfl); (case hr => first | (go_simp; done) | (go_simp; rfl)); intro gb101 hg w11 hbox hb; have BK101 := zM (hbox); have GW101 := zM (zh hg : w.heap.size ≤ gb101); have GE101 := zM (zh hg : w.heap.size ≤ gb101); replace HB := zM (below_step zb hb); clear hb hbox hg) | ((with_reducible refine gate_callee (f := 10) rfl ?_); refine goesL_ (some 15) rfl rfl Tryd.func10 (by kernel_rfl) rfl #[] rfl zl ?_; (with_reducible refine (aumbrylaw06_wakes.calls k  true _ A3.out).mono ?_); rintro e w12 ⟨rfl, hb⟩; refine ⟨_, rfl, ?_⟩; replace BK101 := zM (blk_below (zk BK101.out) hb); replace HB := zM (below_step zb hb); (try clear hb); have hcz13_0 : w12.cell? ⟨gb101, 0, none⟩ = some (.int .i64 a0_0) := (zX BK101.out 0).trans rfl; have hcz13_1 : w12.cell? ⟨gb101, 1, none⟩ = some (.slice A0_1 l0_1.length c0_1) := (zX BK101.out 1).trans rfl; have hcz13_2 : w12.cell? ⟨gb101, 2, none⟩ = some (.slice A0_2 l0_2.length c0_2) := (zX BK101.out 2).trans rfl; have hfz13_0 := zY BK101.out 0; have hfz13_1 := zY BK101.out 1; have hfz13_2 := zY BK101.out 2) | ((with_reducible refine gate_callee (f := 12) rfl ?_); refine goesL_ (some 19) rfl rfl Tryd.func12 (by kernel_rfl) rfl #[.agg #[.int .i64 a0_0, .slice A0_1 l0_1.length c0_1, .slice A0_2 l0_2.length c0_2]] rfl zl ?_; (with_reducible refine (aumbryref06_Copy.calls a0_0 _ _ l0_1 _ _ l0_2 t103 t104 t107 _ ?side1 ?side2 ?side3 ?side4 A5.out).mono ?_); (case side1 => exact Kd.C_below HR0_1.out zb); (case side2 => exact HC0_1.out); (case side3 => exact Kd.C_below HR0_2.out zb); (case side4 => exact HC0_2.out); rintro e w14 ⟨v105, v108, rfl, ho0, ho1, hb⟩; refine ⟨_, rfl, ?_⟩; have HO106 := zM (Kd.R_lower ho0 (below_size zb)); have HO109 := zM (Kd.R_lower ho1 (below_size zb)); replace BK101 := zM (blk_below (zk BK101.out) hb); replace HB := zM (below_step zb hb); (try clear hb); (try clear ho0); (try clear ho1); obtain ⟨Ao15, co15, eo15⟩ := Kd.R_slice HO106.out; subst eo15; obtain ⟨Ao16, co16, eo16⟩ := Kd.R_slice HO109.out; subst eo16) | ((with_reducible refine gate_callee (f := 19) rfl ?_); refine goesL_ (some 20) rfl rfl Tryd.func19 (by kernel_rfl) rfl #[.agg #[.int .i64 t103, .slice Ao15 t104.length co15, .slice Ao16 t107.length co16]] rfl zl ?_; (with_reducible refine (rule_Plain.calls k t103 _ _ t104 _ _ t107 t110 t111 t114 t117 _ ?side1 ?side2 ?side3 ?side4 A6.out).mono ?_); (case side1 => exact Kd.C_below (Kd.R_reads' HO106.out).2.2 zg); (case side2 => exact (Kd.R_reads' HO106.out).2.1); (case side3 => exact Kd.C_below (Kd.R_reads' HO109.out).2.2 zg); (case side4 => exact (Kd.R_reads' HO109.out).2.1); rintro e w17 ⟨v112, v115, rfl, ho0, ho1, hb⟩; refine ⟨_, rfl, ?_⟩; have HO113 := zM (Kd.R_lower (Kd.R_new' (Kd.R_new' ho0 (Kd.R_lt (zr HO106.out))) (Kd.R_lt (zr HO109.out))) (below_size zb)); have HO116 := zM (Kd.R_lower (Kd.R_new' (Kd.R_new' ho1 (Kd.R_lt (zr HO106.out))) (Kd.R_lt (zr HO109.out))) (below_size zb)); replace HO106 := zM (Kd.R_mono (Kd.R_told (Kd.R_told (Kd.R_old (zr HO106.out) hb) (Kd.R_base ho0)) (Kd.R_base ho1)) (fun _ h_ => h_.1)); replace HO109 := zM (Kd.R_mono (Kd.R_told (Kd.R_told (Kd.R_old (zr HO109.out) hb) (Kd.R_base ho0)) (Kd.R_base ho1)) (fun _ h_ => h_.1)); replace BK101 := zM (blk_below (zk BK101.out) hb); replace HB := zM (below_step zb hb); (try clear hb); (try clear ho0); (try clear ho1)) | ((with_reducible refine gate_dst (N := 5) rfl ?_); refine box_event ?hg (N := 5) ?hd (cs := #[.int .i64 0, .slice none 0 0, .slice none 0 0]) (t := 25) ?hr ?_; (case hd => rfl); (case hg => rfl); (case hr => first | (go_simp; done) | (go_simp; rfl)); intro gb118 hg w18 hbox hb; replace HO106 := zM (Kd.R_below (zr HO106.out) hb); replace HO109 := zM (Kd.R_below (zr HO109.out) hb); replace HO113 := zM (Kd.R_below (zr HO113.out) hb); replace HO116 := zM (Kd.R_below (zr HO116.out) hb); have BK118 := zM (hbox); have GW118 := zM (zh hg : w.heap.size ≤ gb118); have GE118 := zM (zh hg : w.heap.size ≤ gb118); replace HB := zM (below_step zb hb); have NB101_118 := zM ((by rw [hg]; exact Nat.ne_of_lt (blk_lt (zk BK101.out)) : gb101 ≠ gb118)); have NB118_101 := zM ((by rw [hg]; exact Nat.ne_of_gt (blk_lt (zk BK101.out)) : gb118 ≠ gb101)); replace BK101 := zM (blk_below (zk BK101.out) hb); clear hb hbox hg; have hnb19 := NB118_101.out; have hnc19 := NB101_118.out; have hcz20_0 : w18.cell? ⟨gb118, 0, none⟩ = some (.int .i64 0) := (zX BK118.out 0).trans rfl; have hcz20_1 : w18.cell? ⟨gb118, 1, none⟩ = some (.slice none 0 0) := (zX BK118.out 1).trans rfl; have hcz20_2 : w18.cell? ⟨gb118, 2, none⟩ = some (.slice none 0 0) := (zX BK118.out 2).trans rfl; have hfz20_0 := zY BK118.out 0; have hfz20_1 := zY BK118.out 1; have hfz20_2 := zY BK118.out 2; obtain ⟨Ao21, co21, eo21⟩ := Kd.R_slice HO113.out; subst eo21; obtain ⟨Ao22, co22, eo22⟩ := Kd.R_slice HO116.out; subst eo22) | ((with_reducible refine gate_callee (f := 12) rfl ?_); refine goesL_ (some 32) rfl rfl Tryd.func12 (by kernel_rfl) rfl #[.agg #[.int .i64 t110, .slice Ao21 t111.length co21, .slice Ao22 t114.length co22]] rfl zl ?_; (with_reducible refine (aumbryref06_Copy.calls t110 _ _ t111 _ _ t114 t127 t128 t131 _ ?side1 ?side2 ?side3 ?side4 A8.out).mono ?_); (case side1 => refine (Kd.R_reads' (e := 33) (base := w.heap.size) (ok := fun k_ => ((some k_ ≠ (.slice Ao22 t114.length co22 : Value).ownBlock ∧ some k_ ≠ (.slice Ao15 t104.length co15 : Value).ownBlock) ∧ some k_ ≠ (.slice Ao16 t107.length co16 : Value).ownBlock)) (n := t111.length) (c := co21) ?_).2.2; exact (by (with_reducible repeat (first | apply Kd.R_alloc | apply Kd.R_drewN | apply Kd.R_drew)); exact (Kd.R_mono (Kd.R_far (p := ⟨gb118, 2, none⟩) (Kd.R_far (p := ⟨gb118, 1, none⟩) (Kd.R_far (p := ⟨gb118, 0, none⟩) (Kd.R_types HO113.out BK118.out (by decide)) (fun _ hk => hk.2) (.int .i64 t110)) (fun _ hk => hk.2) (.slice Ao21 t111.length co21)) (fun _ hk => hk.2) (.slice Ao22 t114.length co22)) (fun _ h_ => h_.1)))); (case side2 => exact (Kd.R_reads' HO113.out).2.1); (case side3 => refine (Kd.R_reads' (e := 33) (base := w.heap.size) (ok := fun k_ => ((some k_ ≠ (.slice Ao21 t111.length co21 : Value).ownBlock ∧ some k_ ≠ (.slice Ao15 t104.length co15 : Value).ownBlock) ∧ some k_ ≠ (.slice Ao16 t107.length co16 : Value).ownBlock)) (n := t114.length) (c := co22) ?_).2.2; exact (by (with_reducible repeat (first | apply Kd.R_alloc | apply Kd.R_drewN | apply Kd.R_drew)); exact (Kd.R_mono (Kd.R_far (p := ⟨gb118, 2, none⟩) (Kd.R_far (p := ⟨gb118, 1, none⟩) (Kd.R_far (p := ⟨gb118, 0, none⟩) (Kd.R_types HO116.out BK118.out (by decide)) (fun _ hk => hk.2) (.int .i64 t110)) (fun _ hk => hk.2) (.slice Ao21 t111.length co21)) (fun _ hk => hk.2) (.slice Ao22 t114.length co22)) (fun _ h_ => h_.1)))); (case side4 => exact (Kd.R_reads' HO116.out).2.1); rintro e w23 ⟨v129, v132, rfl, ho0, ho1, hb⟩; refine ⟨_, rfl, ?_⟩; have HO130 := zM (Kd.R_lower (Kd.R_new' (Kd.R_new' (Kd.R_new' (Kd.R_new' ho0 (Kd.R_lt (by (with_reducible repeat (first | apply Kd.R_alloc | apply Kd.R_drewN | apply Kd.R_drew)); exact (Kd.R_mono (Kd.R_far (p := ⟨gb118, 2, none⟩) (Kd.R_far (p := ⟨gb118, 1, none⟩) (Kd.R_far (p := ⟨gb118, 0, none⟩) (Kd.R_types HO106.out BK118.out (by decide)) (fun _ hk => hk.2) (.int .i64 t110)) (fun _ hk => hk.2) (.slice Ao21 t111.length co21)) (fun _ hk => hk.2) (.slice Ao22 t114.length co22)) (fun _ h_ => h_.1))))) (Kd.R_lt (by (with_reducible repeat (first | apply Kd.R_alloc | apply Kd.R_drewN | apply Kd.R_drew)); exact (Kd.R_mono (Kd.R_far (p := ⟨gb118, 2, none⟩) (Kd.R_far (p := ⟨gb118, 1, none⟩) (Kd.R_far (p := ⟨gb118, 0, none⟩) (Kd.R_types HO109.out BK118.out (by decide)) (fun _ hk => hk.2) (.int .i64 t110)) (fun _ hk => hk.2) (.slice Ao21 t111.length co21)) (fun _ hk => hk.2) (.slice Ao22 t114.length co22)) (fun _ h_ => h_.1))))) (Kd.R_lt (by (with_reducible repeat (first | apply Kd.R_alloc | apply Kd.R_drewN | apply Kd.R_drew)); exact (Kd.R_mono (Kd.R_far (p := ⟨gb118, 2, none⟩) (Kd.R_far (p := ⟨gb118, 1, none⟩) (Kd.R_far (p := ⟨gb118, 0, none⟩) (Kd.R_types HO113.out BK118.out (by decide)) (fun _ hk => hk.2) (.int .i64 t110)) (fun _ hk => hk.2) (.slice Ao21 t111.length co21)) (fun _ hk => hk.2) (.slice Ao22 t114.length co22)) (fun _ h_ => h_.1))))) (Kd.R_lt (by (with_reducible repeat (first | apply Kd.R_alloc | apply Kd.R_drewN | apply Kd.R_drew)); exact (Kd.R_mono (Kd.R_far (p := ⟨gb118, 2, none⟩) (Kd.R_far (p := ⟨gb118, 1, none⟩) (Kd.R_far (p := ⟨gb118, 0, none⟩) (Kd.R_types HO116.out BK118.out (by decide)) (fun _ hk => hk.2) (.int .i64 t110)) (fun _ hk => hk.2) (.slice Ao21 t111.length co21)) (fun _ hk => hk.2) (.slice Ao22 t114.length co22)) (fun _ h_ => h_.1))))) (below_size zb)); have HO133 := zM (Kd.R_lower (Kd.R_new' (Kd.R_new' (Kd.R_new' (Kd.R_new' ho1 (Kd.R_lt (by (with_reducible repeat (first | apply Kd.R_alloc | apply Kd.R_drewN | apply Kd.R_drew)); exact (Kd.R_mono (Kd.R_far (p := ⟨gb118, 2, none⟩) (Kd.R_far (p := ⟨gb118, 1, none⟩) (Kd.R_far (p := ⟨gb118, 0, none⟩) (Kd.R_types HO106.out BK118.out (by decide)) (fun _ hk => hk.2) (.int .i64 t110)) (fun _ hk => hk.2) (.slice Ao21 t111.length co21)) (fun _ hk => hk.2) (.slice Ao22 t114.length co22)) (fun _ h_ => h_.1))))) (Kd.R_lt (by (with_reducible repeat (first | apply Kd.R_alloc | apply Kd.R_drewN | apply Kd.R_drew)); exact (Kd.R_mono (Kd.R_far (p := ⟨gb118, 2, none⟩) (Kd.R_far (p := ⟨gb118, 1, none⟩) (Kd.R_far (p := ⟨gb118, 0, none⟩) (Kd.R_types HO109.out BK118.out (by decide)) (fun _ hk => hk.2) (.int .i64 t110)) (fun _ hk => hk.2) (.slice Ao21 t111.length co21)) (fun _ hk => hk.2) (.slice Ao22 t114.length co22)) (fun _ h_ => h_.1))))) (Kd.R_lt (by (with_reducible repeat (first | apply Kd.R_alloc | apply Kd.R_drewN | apply Kd.R_drew)); exact (Kd.R_mono (Kd.R_far (p := ⟨gb118, 2, none⟩) (Kd.R_far (p := ⟨gb118, 1, none⟩) (Kd.R_far (p := ⟨gb118, 0, none⟩) (Kd.R_types HO113.out BK118.out (by decide)) (fun _ hk => hk.2) (.int .i64 t110)) (fun _ hk => hk.2) (.slice Ao21 t111.length co21)) (fun _ hk => hk.2) (.slice Ao22 t114.length co22)) (fun _ h_ => h_.1))))) (Kd.R_lt (by (with_reducible repeat (first | apply Kd.R_alloc | apply Kd.R_drewN | apply Kd.R_drew)); exact (Kd.R_mono (Kd.R_far (p := ⟨gb118, 2, none⟩) (Kd.R_far (p := ⟨gb118, 1, none⟩) (Kd.R_far (p := ⟨gb118, 0, none⟩) (Kd.R_types HO116.out BK118.out (by decide)) (fun _ hk => hk.2) (.int .i64 t110)) (fun _ hk => hk.2) (.slice Ao21 t111.length co21)) (fun _ hk => hk.2) (.slice Ao22 t114.length co22)) (fun _ h_ => h_.1))))) (below_size zb)); replace HO106 := zM (Kd.R_mono (Kd.R_told (Kd.R_told (Kd.R_old (by (with_reducible repeat (first | apply Kd.R_alloc | apply Kd.R_drewN | apply Kd.R_drew)); exact (Kd.R_mono (Kd.R_far (p := ⟨gb118, 2, none⟩) (Kd.R_far (p := ⟨gb118, 1, none⟩) (Kd.R_far (p := ⟨gb118, 0, none⟩) (Kd.R_types HO106.out BK118.out (by decide)) (fun _ hk => hk.2) (.int .i64 t110)) (fun _ hk => hk.2) (.slice Ao21 t111.length co21)) (fun _ hk => hk.2) (.slice Ao22 t114.length co22)) (fun _ h_ => h_.1))) hb) (Kd.R_base ho0)) (Kd.R_base ho1)) (fun _ h_ => h_.1)); replace HO109 := zM (Kd.R_mono (Kd.R_told (Kd.R_told (Kd.R_old (by (with_reducible repeat (first | apply Kd.R_alloc | apply Kd.R_drewN | apply Kd.R_drew)); exact (Kd.R_mono (Kd.R_far (p := ⟨gb118, 2, none⟩) (Kd.R_far (p := ⟨gb118, 1, none⟩) (Kd.R_far (p := ⟨gb118, 0, none⟩) (Kd.R_types HO109.out BK118.out (by decide)) (fun _ hk => hk.2) (.int .i64 t110)) (fun _ hk => hk.2) (.slice Ao21 t111.length co21)) (fun _ hk => hk.2) (.slice Ao22 t114.length co22)) (fun _ h_ => h_.1))) hb) (Kd.R_base ho0)) (Kd.R_base ho1)) (fun _ h_ => h_.1)); replace HO113 := zM (Kd.R_mono (Kd.R_told (Kd.R_told (Kd.R_old (by (with_reducible repeat (first | apply Kd.R_alloc | apply Kd.R_drewN | apply Kd.R_drew)); exact (Kd.R_mono (Kd.R_far (p := ⟨gb118, 2, none⟩) (Kd.R_far (p := ⟨gb118, 1, none⟩) (Kd.R_far (p := ⟨gb118, 0, none⟩) (Kd.R_types HO113.out BK118.out (by decide)) (fun _ hk => hk.2) (.int .i64 t110)) (fun _ hk => hk.2) (.slice Ao21 t111.length co21)) (fun _ hk => hk.2) (.slice Ao22 t114.length co22)) (fun _ h_ => h_.1))) hb) (Kd.R_base ho0)) (Kd.R_base ho1)) (fun _ h_ => h_.1)); replace HO116 := zM (Kd.R_mono (Kd.R_told (Kd.R_told (Kd.R_old (by (with_reducible repeat (first | apply Kd.R_alloc | apply Kd.R_drewN | apply Kd.R_drew)); exact (Kd.R_mono (Kd.R_far (p := ⟨gb118, 2, none⟩) (Kd.R_far (p := ⟨gb118, 1, none⟩) (Kd.R_far (p := ⟨gb118, 0, none⟩) (Kd.R_types HO116.out BK118.out (by decide)) (fun _ hk => hk.2) (.int .i64 t110)) (fun _ hk => hk.2) (.slice Ao21 t111.length co21)) (fun _ hk => hk.2) (.slice Ao22 t114.length co22)) (fun _ h_ => h_.1))) hb) (Kd.R_base ho0)) (Kd.R_base ho1)) (fun _ h_ => h_.1)); replace BK101 := zM (blk_below (g := gb101) (o := .cells #[.int .i64 a0_0, .slice A0_1 l0_1.length c0_1, .slice A0_2 l0_2.length c0_2] 25 (0, 0)) (by refine zk ?_; refine blk_far ?_ NB101_118.out _; refine zk ?_; refine blk_far ?_ NB101_118.out _; refine zk ?_; refine blk_far ?_ NB101_118.out _; refine zk ?_; exact BK101.out) hb); replace BK118 := zM (blk_below (g := gb118) (o := .cells #[.int .i64 t110, .slice Ao21 t111.length co21, .slice Ao22 t114.length co22] 25 (0, 0)) (by refine zk ?_; refine blk_put (cs := #[.int .i64 t110, .slice Ao21 t111.length co21, .slice none 0 0]) ?_ 2 _ rfl; refine zk ?_; refine blk_put (cs := #[.int .i64 t110, .slice none 0 0, .slice none 0 0]) ?_ 1 _ rfl; refine zk ?_; refine blk_put (cs := #[.int .i64 0, .slice none 0 0, .slice none 0 0]) ?_ 0 _ rfl; refine zk ?_; exact BK118.out) hb); replace HB := zM (below_step zb hb); (try clear hb); (try clear ho0); (try clear ho1); obtain ⟨Ao24, co24, eo24⟩ := Kd.R_slice HO130.out; subst eo24; obtain ⟨Ao25, co25, eo25⟩ := Kd.R_slice HO133.out; subst eo25) | ((with_reducible refine gate_callee (f := 19) rfl ?_); refine goesL_ (some 33) rfl rfl Tryd.func19 (by kernel_rfl) rfl #[.agg #[.int .i64 t127, .slice Ao24 t128.length co24, .slice Ao25 t131.length co25]] rfl zl ?_; (with_reducible refine (rule_Plain.calls k t127 _ _ t128 _ _ t131 t134 t135 t138 t141 _ ?side1 ?side2 ?side3 ?side4 A9.out).mono ?_); (case side1 => exact Kd.C_below (Kd.R_reads' HO130.out).2.2 zg); (case side2 => exact (Kd.R_reads' HO130.out).2.1); (case side3 => exact Kd.C_below (Kd.R_reads' HO133.out).2.2 zg); (case side4 => exact (Kd.R_reads' HO133.out).2.1); rintro e w26 ⟨v136, v139, rfl, ho0, ho1, hb⟩; refine ⟨_, rfl, ?_⟩; have HO137 := zM (Kd.R_lower (Kd.R_new' (Kd.R_new' (Kd.R_new' (Kd.R_new' (Kd.R_new' (Kd.R_new' ho0 (Kd.R_lt (zr HO106.out))) (Kd.R_lt (zr HO109.out))) (Kd.R_lt (zr HO113.out))) (Kd.R_lt (zr HO116.out))) (Kd.R_lt (zr HO130.out))) (Kd.R_lt (zr HO133.out))) (below_size zb)); have HO140 := zM (Kd.R_lower (Kd.R_new' (Kd.R_new' (Kd.R_new' (Kd.R_new' (Kd.R_new' (Kd.R_new' ho1 (Kd.R_lt (zr HO106.out))) (Kd.R_lt (zr HO109.out))) (Kd.R_lt (zr HO113.out))) (Kd.R_lt (zr HO116.out))) (Kd.R_lt (zr HO130.out))) (Kd.R_lt (zr HO133.out))) (below_size zb)); replace HO106 := zM (Kd.R_mono (Kd.R_told (Kd.R_told (Kd.R_old (zr HO106.out) hb) (Kd.R_base ho0)) (Kd.R_base ho1)) (fun _ h_ => h_.1)); replace HO109 := zM (Kd.R_mono (Kd.R_told (Kd.R_told (Kd.R_old (zr HO109.out) hb) (Kd.R_base ho0)) (Kd.R_base ho1)) (fun _ h_ => h_.1)); replace HO113 := zM (Kd.R_mono (Kd.R_told (Kd.R_told (Kd.R_old (zr HO113.out) hb) (Kd.R_base ho0)) (Kd.R_base ho1)) (fun _ h_ => h_.1)); replace HO116 := zM (Kd.R_mono (Kd.R_told (Kd.R_told (Kd.R_old (zr HO116.out) hb) (Kd.R_base ho0)) (Kd.R_base ho1)) (fun _ h_ => h_.1)); replace HO130 := zM (Kd.R_mono (Kd.R_told (Kd.R_told (Kd.R_old (zr HO130.out) hb) (Kd.R_base ho0)) (Kd.R_base ho1)) (fun _ h_ => h_.1)); replace HO133 := zM (Kd.R_mono (Kd.R_told (Kd.R_told (Kd.R_old (zr HO133.out) hb) (Kd.R_base ho0)) (Kd.R_base ho1)) (fun _ h_ => h_.1)); replace BK101 := zM (blk_below (zk BK101.out) hb); replace BK118 := zM (blk_below (zk BK118.out) hb); replace HB := zM (below_step zb hb); (try clear hb); (try clear ho0); (try clear ho1)) | ((with_reducible refine gate_dst (N := 7) rfl ?_); refine box_event ?hg (N := 7) ?hd (cs := #[.int .i64 0, .slice none 0 0, .slice none 0 0]) (t := 25) ?hr ?_; (case hd => rfl); (case hg => rfl); (case hr => first | (go_simp; done) | (go_simp; rfl)); intro gb142 hg w27 hbox hb; replace HO106 := zM (Kd.R_below (zr HO106.out) hb); replace HO109 := zM (Kd.R_below (zr HO109.out) hb); replace HO113 := zM (Kd.R_below (zr HO113.out) hb); replace HO116 := zM (Kd.R_below (zr HO116.out) hb); replace HO130 := zM (Kd.R_below (zr HO130.out) hb); replace HO133 := zM (Kd.R_below (zr HO133.out) hb); replace HO137 := zM (Kd.R_below (zr HO137.out) hb); replace HO140 := zM (Kd.R_below (zr HO140.out) hb); have BK142 := zM (hbox); have GW142 := zM (zh hg : w.heap.size ≤ gb142); have GE142 := zM (zh hg : w.heap.size ≤ gb142); replace HB := zM (below_step zb hb); have NB101_142 := zM ((by rw [hg]; exact Nat.ne_of_lt (blk_lt (zk BK101.out)) : gb101 ≠ gb142)); have NB142_101 := zM ((by rw [hg]; exact Nat.ne_of_gt (blk_lt (zk BK101.out)) : gb142 ≠ gb101)); replace BK101 := zM (blk_below (zk BK101.out) hb); have NB118_142 := zM ((by rw [hg]; exact Nat.ne_of_lt (blk_lt (zk BK118.out)) : gb118 ≠ gb142)); have NB142_118 := zM ((by rw [hg]; exact Nat.ne_of_gt (blk_lt (zk BK118.out)) : gb142 ≠ gb118)); replace BK118 := zM (blk_below (zk BK118.out) hb); clear hb hbox hg; have hnb28 := NB142_101.out; have hnc28 := NB101_142.out; have hnb29 := NB142_118.out; have hnc29 := NB118_142.out; have hcz30_0 : w27.cell? ⟨gb142, 0, none⟩ = some (.int .i64 0) := (zX BK142.out 0).trans rfl; have hcz30_1 : w27.cell? ⟨gb142, 1, none⟩ = some (.slice none 0 0) := (zX BK142.out 1).trans rfl; have hcz30_2 : w27.cell? ⟨gb142, 2, none⟩ = some (.slice none 0 0) := (zX BK142.out 2).trans rfl; have hfz30_0 := zY BK142.out 0; have hfz30_1 := zY BK142.out 1; have hfz30_2 := zY BK142.out 2; obtain ⟨Ao31, co31, eo31⟩ := Kd.R_slice HO137.out; subst eo31; obtain ⟨Ao32, co32, eo32⟩ := Kd.R_slice HO140.out; subst eo32))
   (try simp only [Act.put, List.setIfInBounds_toArray, List.set_cons_zero, List.set_cons_succ])
   go_cut [57] (fun v57 wc => ∃ (kq : Nat) (x57_9 : Bool), v57 = .bool x57_9 ∧ Aside0 (aumbrylaw06_RulePlain.j0 kq l1 x57_9 a0_0 l0_1 l0_2 t110 t111 t114 = some r) ∧ Aside0 (kq ≤ k) ∧ Aside0 (Kd.R k33 33 wc w.heap.size (fun k_ => some k_ ≠ ((.slice Ao22 t114.length co22) : Value).ownBlock ∧ some k_ ≠ ((.slice Ao31 t135.length co31) : Value).ownBlock ∧ some k_ ≠ ((.slice Ao32 t138.length co32) : Value).ownBlock) (.slice Ao21 t111.length co21) t111) ∧ Aside0 (Kd.R k33 33 wc w.heap.size (fun k_ => some k_ ≠ ((.slice Ao21 t111.length co21) : Value).ownBlock ∧ some k_ ≠ ((.slice Ao31 t135.length co31) : Value).ownBlock ∧ some k_ ≠ ((.slice Ao32 t138.length co32) : Value).ownBlock) (.slice Ao22 t114.length co22) t114) ∧ Aside0 (Kd.R k33 33 wc w.heap.size (fun k_ => some k_ ≠ ((.slice Ao21 t111.length co21) : Value).ownBlock ∧ some k_ ≠ ((.slice Ao22 t114.length co22) : Value).ownBlock ∧ some k_ ≠ ((.slice Ao32 t138.length co32) : Value).ownBlock) (.slice Ao31 t135.length co31) t135) ∧ Aside0 (Kd.R k33 33 wc w.heap.size (fun k_ => some k_ ≠ ((.slice Ao21 t111.length co21) : Value).ownBlock ∧ some k_ ≠ ((.slice Ao22 t114.length co22) : Value).ownBlock ∧ some k_ ≠ ((.slice Ao31 t135.length co31) : Value).ownBlock) (.slice Ao32 t138.length co32) t138) ∧ Aside0 (wc.heap[gb101]? = some (.cells #[.int .i64 a0_0, (.slice A0_1 l0_1.length c0_1), (.slice A0_2 l0_2.length c0_2)] 25 (0, 0))) ∧ Aside0 (wc.heap[gb118]? = some (.cells #[.int .i64 t110, (.slice Ao21 t111.length co21), (.slice Ao22 t114.length co22)] 25 (0, 0))) ∧ Aside0 (wc.heap[gb142]? = some (.cells #[.int .i64 t134, (.slice Ao31 t135.length co31), (.slice Ao32 t138.length co32)] 25 (0, 0))) ∧ Aside0 (Below w.heap.size w wc))
   case first =>
    have H := HC10.out
    clear HC10
    by_cases c33 : t141 = 0
    ·
     rw [if_pos c33] at H
     have c33b0 : (t141 == 0) = true := zG c33
     have c33b1 : (t141 != 0) = false := zH c33
     clear c33
     (first | rw [c33b0] | (simp only [i64_w, i32_w]; rw [c33b0]) | skip)
     replace H := zB H
     obtain ⟨t143, A340, H⟩ := H
     try dsimp only at H
     have A34 := zM A340
     clear A340
     by_cases c35 : t143 = true
     ·
      subst c35
      rw [if_pos rfl] at H
      by_cases c36 : t110 = a0_0
      ·
       rw [if_pos c36] at H
       have c36b0 : (t110 == a0_0) = true := zG c36
       have c36b1 : (t110 != a0_0) = false := zH c36
       clear c36
       replace H := zB H
       obtain ⟨t144, A370, H⟩ := H
       try dsimp only at H
       have A37 := zM A370
       clear A370
       replace H := zB H
       obtain ⟨t145, A380, H⟩ := H
       try dsimp only at H
       have A38 := zM A380
       clear A380
       have H' := zM H
       clear H
       try go_wp2
       have n0_ : Aside0 (Kd.R k33 33 (((w27.setCell ⟨gb142, 0, none⟩ (.int .i64 t134)).setCell ⟨gb142, 1, none⟩ (.slice Ao31 t135.length co31)).setCell ⟨gb142, 2, none⟩ (.slice Ao32 t138.length co32)) w.heap.size (fun k_ => some k_ ≠ (.slice Ao16 t107.length co16 : Value).ownBlock ∧ some k_ ≠ (.slice Ao21 t111.length co21 : Value).ownBlock ∧ some k_ ≠ (.slice Ao22 t114.length co22 : Value).ownBlock ∧ some k_ ≠ (.slice Ao24 t128.length co24 : Value).ownBlock ∧ some k_ ≠ (.slice Ao25 t131.length co25 : Value).ownBlock ∧ some k_ ≠ (.slice Ao31 t135.length co31 : Value).ownBlock ∧ some k_ ≠ (.slice Ao32 t138.length co32 : Value).ownBlock) (.slice Ao15 t104.length co15) t104) := ⟨by (with_reducible repeat (first | apply Kd.R_alloc | apply Kd.R_drewN | apply Kd.R_drew)); exact Kd.R_mono (Kd.R_far (p := ⟨gb142, 2, none⟩) (Kd.R_far (p := ⟨gb142, 1, none⟩) (Kd.R_far (p := ⟨gb142, 0, none⟩) (Kd.R_types HO106.out BK142.out (by decide)) (fun _ hk => hk.2) (.int .i64 t134)) (fun _ hk => hk.2) (.slice Ao31 t135.length co31)) (fun _ hk => hk.2) (.slice Ao32 t138.length co32)) (fun _ hk => ⟨hk.1.1.1.1.1.1.1, ⟨hk.1.1.1.1.1.1.2, ⟨hk.1.1.1.1.1.2, ⟨hk.1.1.1.1.2, ⟨hk.1.1.1.2, ⟨hk.1.1.2, hk.1.2⟩⟩⟩⟩⟩⟩)⟩
       have n1_ : Aside0 (Kd.R k33 33 (((w27.setCell ⟨gb142, 0, none⟩ (.int .i64 t134)).setCell ⟨gb142, 1, none⟩ (.slice Ao31 t135.length co31)).setCell ⟨gb142, 2, none⟩ (.slice Ao32 t138.length co32)) w.heap.size (fun k_ => some k_ ≠ (.slice Ao15 t104.length co15 : Value).ownBlock ∧ some k_ ≠ (.slice Ao21 t111.length co21 : Value).ownBlock ∧ some k_ ≠ (.slice Ao22 t114.length co22 : Value).ownBlock ∧ some k_ ≠ (.slice Ao24 t128.length co24 : Value).ownBlock ∧ some k_ ≠ (.slice Ao25 t131.length co25 : Value).ownBlock ∧ some k_ ≠ (.slice Ao31 t135.length co31 : Value).ownBlock ∧ some k_ ≠ (.slice Ao32 t138.length co32 : Value).ownBlock) (.slice Ao16 t107.length co16) t107) := ⟨by (with_reducible repeat (first | apply Kd.R_alloc | apply Kd.R_drewN | apply Kd.R_drew)); exact Kd.R_mono (Kd.R_far (p := ⟨gb142, 2, none⟩) (Kd.R_far (p := ⟨gb142, 1, none⟩) (Kd.R_far (p := ⟨gb142, 0, none⟩) (Kd.R_types HO109.out BK142.out (by decide)) (fun _ hk => hk.2) (.int .i64 t134)) (fun _ hk => hk.2) (.slice Ao31 t135.length co31)) (fun _ hk => hk.2) (.slice Ao32 t138.length co32)) (fun _ hk => ⟨hk.1.1.1.1.1.1.1, ⟨hk.1.1.1.1.1.1.2, ⟨hk.1.1.1.1.1.2, ⟨hk.1.1.1.1.2, ⟨hk.1.1.1.2, ⟨hk.1.1.2, hk.1.2⟩⟩⟩⟩⟩⟩)⟩
       have n2_ : Aside0 (Kd.R k33 33 (((w27.setCell ⟨gb142, 0, none⟩ (.int .i64 t134)).setCell ⟨gb142, 1, none⟩ (.slice Ao31 t135.length co31)).setCell ⟨gb142, 2, none⟩ (.slice Ao32 t138.length co32)) w.heap.size (fun k_ => some k_ ≠ (.slice Ao15 t104.length co15 : Value).ownBlock ∧ some k_ ≠ (.slice Ao16 t107.length co16 : Value).ownBlock ∧ some k_ ≠ (.slice Ao22 t114.length co22 : Value).ownBlock ∧ some k_ ≠ (.slice Ao24 t128.length co24 : Value).ownBlock ∧ some k_ ≠ (.slice Ao25 t131.length co25 : Value).ownBlock ∧ some k_ ≠ (.slice Ao31 t135.length co31 : Value).ownBlock ∧ some k_ ≠ (.slice Ao32 t138.length co32 : Value).ownBlock) (.slice Ao21 t111.length co21) t111) := ⟨by (with_reducible repeat (first | apply Kd.R_alloc | apply Kd.R_drewN | apply Kd.R_drew)); exact Kd.R_mono (Kd.R_far (p := ⟨gb142, 2, none⟩) (Kd.R_far (p := ⟨gb142, 1, none⟩) (Kd.R_far (p := ⟨gb142, 0, none⟩) (Kd.R_types HO113.out BK142.out (by decide)) (fun _ hk => hk.2) (.int .i64 t134)) (fun _ hk => hk.2) (.slice Ao31 t135.length co31)) (fun _ hk => hk.2) (.slice Ao32 t138.length co32)) (fun _ hk => ⟨hk.1.1.1.1.1.1.2, ⟨hk.1.1.1.1.1.2, ⟨hk.1.1.1.1.1.1.1, ⟨hk.1.1.1.1.2, ⟨hk.1.1.1.2, ⟨hk.1.1.2, hk.1.2⟩⟩⟩⟩⟩⟩)⟩
       have n3_ : Aside0 (Kd.R k33 33 (((w27.setCell ⟨gb142, 0, none⟩ (.int .i64 t134)).setCell ⟨gb142, 1, none⟩ (.slice Ao31 t135.length co31)).setCell ⟨gb142, 2, none⟩ (.slice Ao32 t138.length co32)) w.heap.size (fun k_ => some k_ ≠ (.slice Ao15 t104.length co15 : Value).ownBlock ∧ some k_ ≠ (.slice Ao16 t107.length co16 : Value).ownBlock ∧ some k_ ≠ (.slice Ao21 t111.length co21 : Value).ownBlock ∧ some k_ ≠ (.slice Ao24 t128.length co24 : Value).ownBlock ∧ some k_ ≠ (.slice Ao25 t131.length co25 : Value).ownBlock ∧ some k_ ≠ (.slice Ao31 t135.length co31 : Value).ownBlock ∧ some k_ ≠ (.slice Ao32 t138.length co32 : Value).ownBlock) (.slice Ao22 t114.length co22) t114) := ⟨by (with_reducible repeat (first | apply Kd.R_alloc | apply Kd.R_drewN | apply Kd.R_drew)); exact Kd.R_mono (Kd.R_far (p := ⟨gb142, 2, none⟩) (Kd.R_far (p := ⟨gb142, 1, none⟩) (Kd.R_far (p := ⟨gb142, 0, none⟩) (Kd.R_types HO116.out BK142.out (by decide)) (fun _ hk => hk.2) (.int .i64 t134)) (fun _ hk => hk.2) (.slice Ao31 t135.length co31)) (fun _ hk => hk.2) (.slice Ao32 t138.length co32)) (fun _ hk => ⟨hk.1.1.1.1.1.1.2, ⟨hk.1.1.1.1.1.2, ⟨hk.1.1.1.1.1.1.1, ⟨hk.1.1.1.1.2, ⟨hk.1.1.1.2, ⟨hk.1.1.2, hk.1.2⟩⟩⟩⟩⟩⟩)⟩
       have n4_ : Aside0 (Kd.R k33 33 (((w27.setCell ⟨gb142, 0, none⟩ (.int .i64 t134)).setCell ⟨gb142, 1, none⟩ (.slice Ao31 t135.length co31)).setCell ⟨gb142, 2, none⟩ (.slice Ao32 t138.length co32)) w.heap.size (fun k_ => some k_ ≠ (.slice Ao15 t104.length co15 : Value).ownBlock ∧ some k_ ≠ (.slice Ao16 t107.length co16 : Value).ownBlock ∧ some k_ ≠ (.slice Ao21 t111.length co21 : Value).ownBlock ∧ some k_ ≠ (.slice Ao22 t114.length co22 : Value).ownBlock ∧ some k_ ≠ (.slice Ao25 t131.length co25 : Value).ownBlock ∧ some k_ ≠ (.slice Ao31 t135.length co31 : Value).ownBlock ∧ some k_ ≠ (.slice Ao32 t138.length co32 : Value).ownBlock) (.slice Ao24 t128.length co24) t128) := ⟨by (with_reducible repeat (first | apply Kd.R_alloc | apply Kd.R_drewN | apply Kd.R_drew)); exact Kd.R_mono (Kd.R_far (p := ⟨gb142, 2, none⟩) (Kd.R_far (p := ⟨gb142, 1, none⟩) (Kd.R_far (p := ⟨gb142, 0, none⟩) (Kd.R_types HO130.out BK142.out (by decide)) (fun _ hk => hk.2) (.int .i64 t134)) (fun _ hk => hk.2) (.slice Ao31 t135.length co31)) (fun _ hk => hk.2) (.slice Ao32 t138.length co32)) (fun _ hk => ⟨hk.1.1.1.1.1.1.2, ⟨hk.1.1.1.1.1.2, ⟨hk.1.1.1.1.2, ⟨hk.1.1.1.2, ⟨hk.1.1.1.1.1.1.1, ⟨hk.1.1.2, hk.1.2⟩⟩⟩⟩⟩⟩)⟩
       have n5_ : Aside0 (Kd.R k33 33 (((w27.setCell ⟨gb142, 0, none⟩ (.int .i64 t134)).setCell ⟨gb142, 1, none⟩ (.slice Ao31 t135.length co31)).setCell ⟨gb142, 2, none⟩ (.slice Ao32 t138.length co32)) w.heap.size (fun k_ => some k_ ≠ (.slice Ao15 t104.length co15 : Value).ownBlock ∧ some k_ ≠ (.slice Ao16 t107.length co16 : Value).ownBlock ∧ some k_ ≠ (.slice Ao21 t111.length co21 : Value).ownBlock ∧ some k_ ≠ (.slice Ao22 t114.length co22 : Value).ownBlock ∧ some k_ ≠ (.slice Ao24 t128.length co24 : Value).ownBlock ∧ some k_ ≠ (.slice Ao31 t135.length co31 : Value).ownBlock ∧ some k_ ≠ (.slice Ao32 t138.length co32 : Value).ownBlock) (.slice Ao25 t131.length co25) t131) := ⟨by (with_reducible repeat (first | apply Kd.R_alloc | apply Kd.R_drewN | apply Kd.R_drew)); exact Kd.R_mono (Kd.R_far (p := ⟨gb142, 2, none⟩) (Kd.R_far (p := ⟨gb142, 1, none⟩) (Kd.R_far (p := ⟨gb142, 0, none⟩) (Kd.R_types HO133.out BK142.out (by decide)) (fun _ hk => hk.2) (.int .i64 t134)) (fun _ hk => hk.2) (.slice Ao31 t135.length co31)) (fun _ hk => hk.2) (.slice Ao32 t138.length co32)) (fun _ hk => ⟨hk.1.1.1.1.1.1.2, ⟨hk.1.1.1.1.1.2, ⟨hk.1.1.1.1.2, ⟨hk.1.1.1.2, ⟨hk.1.1.1.1.1.1.1, ⟨hk.1.1.2, hk.1.2⟩⟩⟩⟩⟩⟩)⟩
       have n6_ : Aside0 (Kd.R k33 33 (((w27.setCell ⟨gb142, 0, none⟩ (.int .i64 t134)).setCell ⟨gb142, 1, none⟩ (.slice Ao31 t135.length co31)).setCell ⟨gb142, 2, none⟩ (.slice Ao32 t138.length co32)) w.heap.size (fun k_ => some k_ ≠ (.slice Ao15 t104.length co15 : Value).ownBlock ∧ some k_ ≠ (.slice Ao16 t107.length co16 : Value).ownBlock ∧ some k_ ≠ (.slice Ao21 t111.length co21 : Value).ownBlock ∧ some k_ ≠ (.slice Ao22 t114.length co22 : Value).ownBlock ∧ some k_ ≠ (.slice Ao24 t128.length co24 : Value).ownBlock ∧ some k_ ≠ (.slice Ao25 t131.length co25 : Value).ownBlock ∧ some k_ ≠ (.slice Ao32 t138.length co32 : Value).ownBlock) (.slice Ao31 t135.length co31) t135) := ⟨by (with_reducible repeat (first | apply Kd.R_alloc | apply Kd.R_drewN | apply Kd.R_drew)); exact Kd.R_mono (Kd.R_far (p := ⟨gb142, 2, none⟩) (Kd.R_far (p := ⟨gb142, 1, none⟩) (Kd.R_far (p := ⟨gb142, 0, none⟩) (Kd.R_types HO137.out BK142.out (by decide)) (fun _ hk => hk.2) (.int .i64 t134)) (fun _ hk => hk.2) (.slice Ao31 t135.length co31)) (fun _ hk => hk.2) (.slice Ao32 t138.length co32)) (fun _ hk => ⟨hk.1.1.1.1.1.1.2, ⟨hk.1.1.1.1.1.2, ⟨hk.1.1.1.1.2, ⟨hk.1.1.1.2, ⟨hk.1.1.2, ⟨hk.1.2, hk.1.1.1.1.1.1.1⟩⟩⟩⟩⟩⟩)⟩
       have n7_ : Aside0 (Kd.R k33 33 (((w27.setCell ⟨gb142, 0, none⟩ (.int .i64 t134)).setCell ⟨gb142, 1, none⟩ (.slice Ao31 t135.length co31)).setCell ⟨gb142, 2, none⟩ (.slice Ao32 t138.length co32)) w.heap.size (fun k_ => some k_ ≠ (.slice Ao15 t104.length co15 : Value).ownBlock ∧ some k_ ≠ (.slice Ao16 t107.length co16 : Value).ownBlock ∧ some k_ ≠ (.slice Ao21 t111.length co21 : Value).ownBlock ∧ some k_ ≠ (.slice Ao22 t114.length co22 : Value).ownBlock ∧ some k_ ≠ (.slice Ao24 t128.length co24 : Value).ownBlock ∧ some k_ ≠ (.slice Ao25 t131.length co25 : Value).ownBlock ∧ some k_ ≠ (.slice Ao31 t135.length co31 : Value).ownBlock) (.slice Ao32 t138.length co32) t138) := ⟨by (with_reducible repeat (first | apply Kd.R_alloc | apply Kd.R_drewN | apply Kd.R_drew)); exact Kd.R_mono (Kd.R_far (p := ⟨gb142, 2, none⟩) (Kd.R_far (p := ⟨gb142, 1, none⟩) (Kd.R_far (p := ⟨gb142, 0, none⟩) (Kd.R_types HO140.out BK142.out (by decide)) (fun _ hk => hk.2) (.int .i64 t134)) (fun _ hk => hk.2) (.slice Ao31 t135.length co31)) (fun _ hk => hk.2) (.slice Ao32 t138.length co32)) (fun _ hk => ⟨hk.1.1.1.1.1.1.2, ⟨hk.1.1.1.1.1.2, ⟨hk.1.1.1.1.2, ⟨hk.1.1.1.2, ⟨hk.1.1.2, ⟨hk.1.2, hk.1.1.1.1.1.1.1⟩⟩⟩⟩⟩⟩)⟩
       have n8_ : Aside0 ((((w27.setCell ⟨gb142, 0, none⟩ (.int .i64 t134)).setCell ⟨gb142, 1, none⟩ (.slice Ao31 t135.length co31)).setCell ⟨gb142, 2, none⟩ (.slice Ao32 t138.length co32)).heap[gb101]? = some (.cells #[.int .i64 a0_0, .slice A0_1 l0_1.length c0_1, .slice A0_2 l0_2.length c0_2] 25 (0, 0))) := ⟨by refine zk ?_; refine blk_far ?_ NB101_142.out _; refine zk ?_; refine blk_far ?_ NB101_142.out _; refine zk ?_; refine blk_far ?_ NB101_142.out _; refine zk ?_; exact BK101.out⟩
       have n9_ : Aside0 ((((w27.setCell ⟨gb142, 0, none⟩ (.int .i64 t134)).setCell ⟨gb142, 1, none⟩ (.slice Ao31 t135.length co31)).setCell ⟨gb142, 2, none⟩ (.slice Ao32 t138.length co32)).heap[gb118]? = some (.cells #[.int .i64 t110, .slice Ao21 t111.length co21, .slice Ao22 t114.length co22] 25 (0, 0))) := ⟨by refine zk ?_; refine blk_far ?_ NB118_142.out _; refine zk ?_; refine blk_far ?_ NB118_142.out _; refine zk ?_; refine blk_far ?_ NB118_142.out _; refine zk ?_; exact BK118.out⟩
       have n10_ : Aside0 ((((w27.setCell ⟨gb142, 0, none⟩ (.int .i64 t134)).setCell ⟨gb142, 1, none⟩ (.slice Ao31 t135.length co31)).setCell ⟨gb142, 2, none⟩ (.slice Ao32 t138.length co32)).heap[gb142]? = some (.cells #[.int .i64 t134, .slice Ao31 t135.length co31, .slice Ao32 t138.length co32] 25 (0, 0))) := ⟨by refine zk ?_; refine blk_put (cs := #[.int .i64 t134, .slice Ao31 t135.length co31, .slice none 0 0]) ?_ 2 _ rfl; refine zk ?_; refine blk_put (cs := #[.int .i64 t134, .slice none 0 0, .slice none 0 0]) ?_ 1 _ rfl; refine zk ?_; refine blk_put (cs := #[.int .i64 0, .slice none 0 0, .slice none 0 0]) ?_ 0 _ rfl; refine zk ?_; exact BK142.out⟩
       have n11_ : Aside0 (Below w.heap.size w (((w27.setCell ⟨gb142, 0, none⟩ (.int .i64 t134)).setCell ⟨gb142, 1, none⟩ (.slice Ao31 t135.length co31)).setCell ⟨gb142, 2, none⟩ (.slice Ao32 t138.length co32))) := ⟨zb⟩
       (try clear HO106)
       (try clear HO109)
       (try clear HO113)
       (try clear HO116)
       (try clear HO130)
       (try clear HO133)
       (try clear HO137)
       (try clear HO140)
       (try clear BK101)
       (try clear BK118)
       (try clear BK142)
       (try clear HB)
       generalize (((w27.setCell ⟨gb142, 0, none⟩ (.int .i64 t134)).setCell ⟨gb142, 1, none⟩ (.slice Ao31 t135.length co31)).setCell ⟨gb142, 2, none⟩ (.slice Ao32 t138.length co32)) = w39 at n0_ n1_ n2_ n3_ n4_ n5_ n6_ n7_ n8_ n9_ n10_ n11_ ⊢
       have HO106 := n0_
       have HO109 := n1_
       have HO113 := n2_
       have HO116 := n3_
       have HO130 := n4_
       have HO133 := n5_
       have HO137 := n6_
       have HO140 := n7_
       have BK101 := n8_
       have BK118 := n9_
       have BK142 := n10_
       have HB := n11_
       clear n0_ n1_ n2_ n3_ n4_ n5_ n6_ n7_ n8_ n9_ n10_ n11_
       have n0_ := zM (Kd.R_drew HO106.out)
       have n1_ := zM (Kd.R_drew HO109.out)
       have n2_ := zM (Kd.R_drew HO113.out)
       have n3_ := zM (Kd.R_drew HO116.out)
       have n4_ := zM (Kd.R_drew HO130.out)
       have n5_ := zM (Kd.R_drew HO133.out)
       have n6_ := zM (Kd.R_drew HO137.out)
       have n7_ := zM (Kd.R_drew HO140.out)
       have n8_ := zM (blk_drew BK101.out)
       have n9_ := zM (blk_drew BK118.out)
       have n10_ := zM (blk_drew BK142.out)
       have n11_ := zM (zD HB.out)
       clear HO106
       clear HO109
       clear HO113
       clear HO116
       clear HO130
       clear HO133
       clear HO137
       clear HO140
       clear BK101
       clear BK118
       clear BK142
       clear HB
       have HO106 := n0_
       have HO109 := n1_
       have HO113 := n2_
       have HO116 := n3_
       have HO130 := n4_
       have HO133 := n5_
       have HO137 := n6_
       have HO140 := n7_
       have BK101 := n8_
       have BK118 := n9_
       have BK142 := n10_
       have HB := n11_
       clear n0_ n1_ n2_ n3_ n4_ n5_ n6_ n7_ n8_ n9_ n10_ n11_
       refine start_ (n := 22) (S := fun w' => w'.cell? ⟨gb118, 0, none⟩ = some (.int .i64 t110) ∧ w'.cell? ⟨gb118, 1, none⟩ = some (.slice Ao21 t111.length co21) ∧ w'.cell? ⟨gb118, 2, none⟩ = some (.slice Ao22 t114.length co22) ∧ w'.cell? ⟨gb142, 0, none⟩ = some (.int .i64 t134) ∧ w'.cell? ⟨gb142, 1, none⟩ = some (.slice Ao31 t135.length co31) ∧ w'.cell? ⟨gb142, 2, none⟩ = some (.slice Ao32 t138.length co32) ∧ w'.cell? ⟨gb101, 0, none⟩ = some (.int .i64 a0_0) ∧ w'.cell? ⟨gb101, 1, none⟩ = some (.slice A0_1 l0_1.length c0_1) ∧ w'.cell? ⟨gb101, 2, none⟩ = some (.slice A0_2 l0_2.length c0_2)) (ds := []) #[false, false, false, false, false, false, false, false, false, false, false, false, false, false, false, false, false, false, false, false, false, false] (by kernel_rfl) rfl rfl ⟨(zX BK118.out 0).trans rfl, (zX BK118.out 1).trans rfl, (zX BK118.out 2).trans rfl, (zX BK142.out 0).trans rfl, (zX BK142.out 1).trans rfl, (zX BK142.out 2).trans rfl, (zX BK101.out 0).trans rfl, (zX BK101.out 1).trans rfl, (zX BK101.out 2).trans rfl⟩ (fun hHeld => ?_); refine with_tabW aumbrylaw06_RulePlain.tab7 aumbrylaw06_RulePlain.bits7 (fun HT_ HW_ => ?_)
       generalize w39.drew = w40 at HO106 HO109 HO113 HO116 HO130 HO133 HO137 HO140 BK101 BK118 BK142 HB hHeld ⊢
       refine pure_ (i := 0) (N := some 36) (v := ?_) (a' := ?_) #[true, false, false, false, false, false, false, false, false, false, false, false, false, false, false, false, false, false, false, false, false, false] rfl rfl (any_of HT_.out (by kernel_rfl)) (fun _ _ _ h => h) (Or.inl ⟨by rfl, ?_⟩) ?_ ?_
       rotate_left
       ·
        intro w'
        go_simp
        with_reducible rfl
       rotate_left
       ·
        simp only [Act.put, List.setIfInBounds_toArray, List.set_cons_zero, List.set_cons_succ, i64_w, i32_w]
        rfl
       refine pure_ (i := 1) (N := some 37) (v := ?_) (a' := ?_) #[true, true, false, false, false, false, false, false, false, false, false, false, false, false, false, false, false, false, false, false, false, false] rfl rfl (any_of HT_.out (by kernel_rfl)) (fun _ _ _ h => h) (Or.inl ⟨by rfl, ?_⟩) ?_ ?_
       rotate_left
       ·
        intro w'
        go_simp
        with_reducible rfl
       rotate_left
       ·
        simp only [Act.put, List.setIfInBounds_toArray, List.set_cons_zero, List.set_cons_succ, i64_w, i32_w]
        rfl
       refine pure_ (i := 2) (N := some 38) (v := ?_) (a' := ?_) #[true, true, true, false, false, false, false, false, false, false, false, false, false, false, false, false, false, false, false, false, false, false] rfl rfl (any_of HT_.out (by kernel_rfl)) (fun _ _ _ h => h) (Or.inl ⟨by rfl, ?_⟩) ?_ ?_
       rotate_left
       ·
        intro w'
        go_simp
        with_reducible rfl
       rotate_left
       ·
        simp only [Act.put, List.setIfInBounds_toArray, List.set_cons_zero, List.set_cons_succ, i64_w, i32_w]
        rfl
       refine take_ (i := 3) (N := some 39) (v := ?_) (a' := ?_) #[true, true, true, true, false, false, false, false, false, false, false, false, false, false, false, false, false, false, false, false, false, false] rfl rfl (take_ofW HT_.out HW_.out (by kernel_rfl)) (fun _ _ _ h => h) (Or.inl ⟨by rfl, ?_⟩) hHeld ?_ ?_
       rotate_left
       ·
        rintro w' ⟨s0, s1, s2, s3, s4, s5, s6, s7, s8⟩
        go_simp
        with_reducible rfl
       rotate_left
       ·
        simp only [Act.put, List.setIfInBounds_toArray, List.set_cons_zero, List.set_cons_succ, i64_w, i32_w]
        rfl
       refine take_ (i := 4) (N := some 40) (v := ?_) (a' := ?_) #[true, true, true, true, true, false, false, false, false, false, false, false, false, false, false, false, false, false, false, false, false, false] rfl rfl (take_ofW HT_.out HW_.out (by kernel_rfl)) (fun _ _ _ h => h) (Or.inl ⟨by rfl, ?_⟩) hHeld ?_ ?_
       rotate_left
       ·
        rintro w' ⟨s0, s1, s2, s3, s4, s5, s6, s7, s8⟩
        go_simp
        with_reducible rfl
       rotate_left
       ·
        simp only [Act.put, List.setIfInBounds_toArray, List.set_cons_zero, List.set_cons_succ, i64_w, i32_w]
        rfl
       refine one_ (i := 5) (N := some 41) #[true, true, true, true, true, true, false, false, false, false, false, false, false, false, false, false, false, false, false, false, false, false] rfl rfl (one_of HT_.out (by kernel_rfl)) (by decide) (fun K hK => ?_)
       refine goes_ Tryd.func17 (by kernel_rfl) rfl #[.agg #[.int .i64 t110, .slice Ao21 t111.length co21, .slice Ao22 t114.length co22], .agg #[.int .i64 t134, .slice Ao31 t135.length co31, .slice Ao32 t138.length co32]] (by rfl) rfl rfl zl ?_
       with_reducible refine (aumbryref06_Same.calls k t110 _ _ t111 _ _ t114 t134 _ _ t135 _ _ t138 true _ ?side1 ?side2 ?side3 ?side4 ?side5 ?side6 ?side7 ?side8 A34.out).mono ?_
       (case side1 => exact Kd.C_below (Kd.R_reads' HO113.out).2.2 zg)
       (case side2 => exact (Kd.R_reads' HO113.out).2.1)
       (case side3 => exact Kd.C_below (Kd.R_reads' HO116.out).2.2 zg)
       (case side4 => exact (Kd.R_reads' HO116.out).2.1)
       (case side5 => exact Kd.C_below (Kd.R_reads' HO137.out).2.2 zg)
       (case side6 => exact (Kd.R_reads' HO137.out).2.1)
       (case side7 => exact Kd.C_below (Kd.R_reads' HO140.out).2.2 zg)
       (case side8 => exact (Kd.R_reads' HO140.out).2.1)
       rintro e w41 ⟨rfl, hb⟩
       refine ⟨_, rfl, ?_⟩
       have n0_ := zM (Kd.R_below (zr HO106.out) hb)
       have n1_ := zM (Kd.R_below (zr HO109.out) hb)
       have n2_ := zM (Kd.R_below (zr HO113.out) hb)
       have n3_ := zM (Kd.R_below (zr HO116.out) hb)
       have n4_ := zM (Kd.R_below (zr HO130.out) hb)
       have n5_ := zM (Kd.R_below (zr HO133.out) hb)
       have n6_ := zM (Kd.R_below (zr HO137.out) hb)
       have n7_ := zM (Kd.R_below (zr HO140.out) hb)
       have n8_ := zM (blk_below (zk BK101.out) hb)
       have n9_ := zM (blk_below (zk BK118.out) hb)
       have n10_ := zM (blk_below (zk BK142.out) hb)
       have n11_ := zM (below_step zb hb)
       clear HO106
       clear HO109
       clear HO113
       clear HO116
       clear HO130
       clear HO133
       clear HO137
       clear HO140
       clear BK101
       clear BK118
       clear BK142
       clear HB
       have HO106 := n0_
       have HO109 := n1_
       have HO113 := n2_
       have HO116 := n3_
       have HO130 := n4_
       have HO133 := n5_
       have HO137 := n6_
       have HO140 := n7_
       have BK101 := n8_
       have BK118 := n9_
       have BK142 := n10_
       have HB := n11_
       clear n0_ n1_ n2_ n3_ n4_ n5_ n6_ n7_ n8_ n9_ n10_ n11_
       (try clear hb)
       (try clear hb2)
       (try clear hk)
       (try clear hi)
       refine hK.out _ _ ⟨(zX BK118.out 0).trans rfl, (zX BK118.out 1).trans rfl, (zX BK118.out 2).trans rfl, (zX BK142.out 0).trans rfl, (zX BK142.out 1).trans rfl, (zX BK142.out 2).trans rfl, (zX BK101.out 0).trans rfl, (zX BK101.out 1).trans rfl, (zX BK101.out 2).trans rfl⟩ (fun hHeld => ?_)
       clear hK K
       refine norm_ (a' := ?_) ?_ ?_
       rotate_left
       ·
        show Act.put _ (some 41) _ = _
        simp only [Act.put, List.setIfInBounds_toArray, List.set_cons_zero, List.set_cons_succ, i64_w, i32_w]
        rfl
       refine pure_ (i := 6) (N := some 42) (v := ?_) (a' := ?_) #[true, true, true, true, true, true, true, false, false, false, false, false, false, false, false, false, false, false, false, false, false, false] rfl rfl (any_of HT_.out (by kernel_rfl)) (fun _ _ _ h => h) (Or.inl ⟨by rfl, ?_⟩) ?_ ?_
       rotate_left
       ·
        intro w'
        go_simp
        with_reducible rfl
       rotate_left
       ·
        simp only [Act.put, List.setIfInBounds_toArray, List.set_cons_zero, List.set_cons_succ, i64_w, i32_w]
        rfl
       refine pure_ (i := 7) (N := some 43) (v := ?_) (a' := ?_) #[true, true, true, true, true, true, true, true, false, false, false, false, false, false, false, false, false, false, false, false, false, false] rfl rfl (any_of HT_.out (by kernel_rfl)) (fun _ _ _ h => h) (Or.inl ⟨by rfl, ?_⟩) ?_ ?_
       rotate_left
       ·
        intro w'
        go_simp
        with_reducible rfl
       rotate_left
       ·
        simp only [Act.put, List.setIfInBounds_toArray, List.set_cons_zero, List.set_cons_succ, i64_w, i32_w]
        rfl
       refine pure_ (i := 8) (N := some 44) (v := ?_) (a' := ?_) #[true, true, true, true, true, true, true, true, true, false, false, false, false, false, false, false, false, false, false, false, false, false] rfl rfl (any_of HT_.out (by kernel_rfl)) (fun _ _ _ h => h) (Or.inl ⟨by rfl, ?_⟩) ?_ ?_
       rotate_left
       ·
        intro w'
        go_simp
        with_reducible rfl
       rotate_left
       ·
        simp only [Act.put, List.setIfInBounds_toArray, List.set_cons_zero, List.set_cons_succ, i64_w, i32_w]
        rfl
       refine pure_ (i := 9) (N := some 45) (v := ?_) (a' := ?_) #[true, true, true, true, true, true, true, true, true, true, false, false, false, false, false, false, false, false, false, false, false, false] rfl rfl (any_of HT_.out (by kernel_rfl)) (fun _ _ _ h => h) (Or.inl ⟨by rfl, ?_⟩) ?_ ?_
       rotate_left
       ·
        intro w'
        go_simp
        with_reducible rfl
       rotate_left
       ·
        simp only [Act.put, List.setIfInBounds_toArray, List.set_cons_zero, List.set_cons_succ, i64_w, i32_w]
        rfl
       refine pure_ (i := 11) (N := some 47) (v := ?_) (a' := ?_) #[true, true, true, true, true, true, true, true, true, true, false, true, false, false, false, false, false, false, false, false, false, false] rfl rfl (any_of HT_.out (by kernel_rfl)) (fun _ _ _ h => h) (Or.inl ⟨by rfl, ?_⟩) ?_ ?_
       rotate_left
       ·
        intro w'
        go_simp
        with_reducible rfl
       rotate_left
       ·
        simp only [Act.put, List.setIfInBounds_toArray, List.set_cons_zero, List.set_cons_succ, i64_w, i32_w]
        rfl
       refine take_ (i := 10) (N := some 46) (v := ?_) (a' := ?_) #[true, true, true, true, true, true, true, true, true, true, true, true, false, false, false, false, false, false, false, false, false, false] rfl rfl (take_ofW HT_.out HW_.out (by kernel_rfl)) (fun _ _ _ h => h) (Or.inl ⟨by rfl, ?_⟩) hHeld ?_ ?_
       rotate_left
       ·
        rintro w' ⟨s0, s1, s2, s3, s4, s5, s6, s7, s8⟩
        go_simp
        with_reducible rfl
       rotate_left
       ·
        simp only [Act.put, List.setIfInBounds_toArray, List.set_cons_zero, List.set_cons_succ, i64_w, i32_w]
        rfl
       refine take_ (i := 12) (N := some 48) (v := ?_) (a' := ?_) #[true, true, true, true, true, true, true, true, true, true, true, true, true, false, false, false, false, false, false, false, false, false] rfl rfl (take_ofW HT_.out HW_.out (by kernel_rfl)) (fun _ _ _ h => h) (Or.inl ⟨by rfl, ?_⟩) hHeld ?_ ?_
       rotate_left
       ·
        rintro w' ⟨s0, s1, s2, s3, s4, s5, s6, s7, s8⟩
        go_simp
        with_reducible rfl
       rotate_left
       ·
        simp only [Act.put, List.setIfInBounds_toArray, List.set_cons_zero, List.set_cons_succ, i64_w, i32_w]
        rfl
       refine pure_ (i := 13) (N := some 49) (v := ?_) (a' := ?_) #[true, true, true, true, true, true, true, true, true, true, true, true, true, true, false, false, false, false, false, false, false, false] rfl rfl (any_of HT_.out (by kernel_rfl)) (fun _ _ _ h => h) (Or.inl ⟨by rfl, ?_⟩) ?_ ?_
       rotate_left
       ·
        intro w'
        go_simp
        with_reducible rfl
       rotate_left
       ·
        simp only [Act.put, List.setIfInBounds_toArray, List.set_cons_zero, List.set_cons_succ, i64_w, i32_w]
        rfl
       refine pure_ (i := 14) (N := some 50) (v := ?_) (a' := ?_) #[true, true, true, true, true, true, true, true, true, true, true, true, true, true, true, false, false, false, false, false, false, false] rfl rfl (any_of HT_.out (by kernel_rfl)) (fun _ _ _ h => h) (Or.inl ⟨by rfl, ?_⟩) ?_ ?_
       rotate_left
       ·
        intro w'
        go_simp
        with_reducible rfl
       rotate_left
       ·
        simp only [Act.put, List.setIfInBounds_toArray, List.set_cons_zero, List.set_cons_succ, i64_w, i32_w]
        rfl
       refine pure_ (i := 15) (N := some 51) (v := ?_) (a' := ?_) #[true, true, true, true, true, true, true, true, true, true, true, true, true, true, true, true, false, false, false, false, false, false] rfl rfl (any_of HT_.out (by kernel_rfl)) (fun _ _ _ h => h) (Or.inl ⟨by rfl, ?_⟩) ?_ ?_
       rotate_left
       ·
        intro w'
        go_simp
        with_reducible rfl
       rotate_left
       ·
        simp only [Act.put, List.setIfInBounds_toArray, List.set_cons_zero, List.set_cons_succ, i64_w, i32_w]
        rfl
       refine take_ (i := 16) (N := some 52) (v := ?_) (a' := ?_) #[true, true, true, true, true, true, true, true, true, true, true, true, true, true, true, true, true, false, false, false, false, false] rfl rfl (take_ofW HT_.out HW_.out (by kernel_rfl)) (fun _ _ _ h => h) (Or.inl ⟨by rfl, ?_⟩) hHeld ?_ ?_
       rotate_left
       ·
        rintro w' ⟨s0, s1, s2, s3, s4, s5, s6, s7, s8⟩
        go_simp
        with_reducible rfl
       rotate_left
       ·
        simp only [Act.put, List.setIfInBounds_toArray, List.set_cons_zero, List.set_cons_succ, i64_w, i32_w]
        rfl
       refine take_ (i := 18) (N := some 54) (v := ?_) (a' := ?_) #[true, true, true, true, true, true, true, true, true, true, true, true, true, true, true, true, true, false, true, false, false, false] rfl rfl (take_ofW HT_.out HW_.out (by kernel_rfl)) (fun _ _ _ h => h) (Or.inl ⟨by rfl, ?_⟩) hHeld ?_ ?_
       rotate_left
       ·
        rintro w' ⟨s0, s1, s2, s3, s4, s5, s6, s7, s8⟩
        go_simp
        with_reducible rfl
       rotate_left
       ·
        simp only [Act.put, List.setIfInBounds_toArray, List.set_cons_zero, List.set_cons_succ, i64_w, i32_w]
        rfl
       refine one_ (i := 17) (N := some 53) #[true, true, true, true, true, true, true, true, true, true, true, true, true, true, true, true, true, true, true, false, false, false] rfl rfl (one_of HT_.out (by kernel_rfl)) (by decide) (fun K hK => ?_)
       refine goes_ Tryd.func14 (by kernel_rfl) rfl #[.agg #[.int .i64 t110, .slice Ao21 t111.length co21, .slice Ao22 t114.length co22]] (by rfl) rfl rfl zl ?_
       with_reducible refine (rule_Head.calls k t110 _ _ t111 _ _ t114 t144 _ ?side1 ?side2 ?side3 ?side4 A37.out).mono ?_
       (case side1 => exact Kd.C_below (Kd.R_reads' HO113.out).2.2 zg)
       (case side2 => exact (Kd.R_reads' HO113.out).2.1)
       (case side3 => exact Kd.C_below (Kd.R_reads' HO116.out).2.2 zg)
       (case side4 => exact (Kd.R_reads' HO116.out).2.1)
       rintro e w42 ⟨rfl, hb⟩
       refine ⟨_, rfl, ?_⟩
       have n0_ := zM (Kd.R_below (zr HO106.out) hb)
       have n1_ := zM (Kd.R_below (zr HO109.out) hb)
       have n2_ := zM (Kd.R_below (zr HO113.out) hb)
       have n3_ := zM (Kd.R_below (zr HO116.out) hb)
       have n4_ := zM (Kd.R_below (zr HO130.out) hb)
       have n5_ := zM (Kd.R_below (zr HO133.out) hb)
       have n6_ := zM (Kd.R_below (zr HO137.out) hb)
       have n7_ := zM (Kd.R_below (zr HO140.out) hb)
       have n8_ := zM (blk_below (zk BK101.out) hb)
       have n9_ := zM (blk_below (zk BK118.out) hb)
       have n10_ := zM (blk_below (zk BK142.out) hb)
       have n11_ := zM (below_step zb hb)
       clear HO106
       clear HO109
       clear HO113
       clear HO116
       clear HO130
       clear HO133
       clear HO137
       clear HO140
       clear BK101
       clear BK118
       clear BK142
       clear HB
       have HO106 := n0_
       have HO109 := n1_
       have HO113 := n2_
       have HO116 := n3_
       have HO130 := n4_
       have HO133 := n5_
       have HO137 := n6_
       have HO140 := n7_
       have BK101 := n8_
       have BK118 := n9_
       have BK142 := n10_
       have HB := n11_
       clear n0_ n1_ n2_ n3_ n4_ n5_ n6_ n7_ n8_ n9_ n10_ n11_
       (try clear hb)
       (try clear hb2)
       (try clear hk)
       (try clear hi)
       refine hK.out _ _ ⟨(zX BK118.out 0).trans rfl, (zX BK118.out 1).trans rfl, (zX BK118.out 2).trans rfl, (zX BK142.out 0).trans rfl, (zX BK142.out 1).trans rfl, (zX BK142.out 2).trans rfl, (zX BK101.out 0).trans rfl, (zX BK101.out 1).trans rfl, (zX BK101.out 2).trans rfl⟩ (fun hHeld => ?_)
       clear hK K
       refine norm_ (a' := ?_) ?_ ?_
       rotate_left
       ·
        show Act.put _ (some 53) _ = _
        simp only [Act.put, List.setIfInBounds_toArray, List.set_cons_zero, List.set_cons_succ, i64_w, i32_w]
        rfl
       refine one_ (i := 19) (N := some 55) #[true, true, true, true, true, true, true, true, true, true, true, true, true, true, true, true, true, true, true, true, false, false] rfl rfl (one_of HT_.out (by kernel_rfl)) (by decide) (fun K hK => ?_)
       refine goes_ Tryd.func14 (by kernel_rfl) rfl #[.agg #[.int .i64 a0_0, .slice A0_1 l0_1.length c0_1, .slice A0_2 l0_2.length c0_2]] (by rfl) rfl rfl zl ?_
       with_reducible refine (rule_Head.calls k a0_0 _ _ l0_1 _ _ l0_2 t145 _ ?side1 ?side2 ?side3 ?side4 A38.out).mono ?_
       (case side1 => exact Kd.C_below HR0_1.out zb)
       (case side2 => exact HC0_1.out)
       (case side3 => exact Kd.C_below HR0_2.out zb)
       (case side4 => exact HC0_2.out)
       rintro e w43 ⟨rfl, hb⟩
       refine ⟨_, rfl, ?_⟩
       have n0_ := zM (Kd.R_below (zr HO106.out) hb)
       have n1_ := zM (Kd.R_below (zr HO109.out) hb)
       have n2_ := zM (Kd.R_below (zr HO113.out) hb)
       have n3_ := zM (Kd.R_below (zr HO116.out) hb)
       have n4_ := zM (Kd.R_below (zr HO130.out) hb)
       have n5_ := zM (Kd.R_below (zr HO133.out) hb)
       have n6_ := zM (Kd.R_below (zr HO137.out) hb)
       have n7_ := zM (Kd.R_below (zr HO140.out) hb)
       have n8_ := zM (blk_below (zk BK101.out) hb)
       have n9_ := zM (blk_below (zk BK118.out) hb)
       have n10_ := zM (blk_below (zk BK142.out) hb)
       have n11_ := zM (below_step zb hb)
       clear HO106
       clear HO109
       clear HO113
       clear HO116
       clear HO130
       clear HO133
       clear HO137
       clear HO140
       clear BK101
       clear BK118
       clear BK142
       clear HB
       have HO106 := n0_
       have HO109 := n1_
       have HO113 := n2_
       have HO116 := n3_
       have HO130 := n4_
       have HO133 := n5_
       have HO137 := n6_
       have HO140 := n7_
       have BK101 := n8_
       have BK118 := n9_
       have BK142 := n10_
       have HB := n11_
       clear n0_ n1_ n2_ n3_ n4_ n5_ n6_ n7_ n8_ n9_ n10_ n11_
       (try clear hb)
       (try clear hb2)
       (try clear hk)
       (try clear hi)
       refine hK.out _ _ ⟨(zX BK118.out 0).trans rfl, (zX BK118.out 1).trans rfl, (zX BK118.out 2).trans rfl, (zX BK142.out 0).trans rfl, (zX BK142.out 1).trans rfl, (zX BK142.out 2).trans rfl, (zX BK101.out 0).trans rfl, (zX BK101.out 1).trans rfl, (zX BK101.out 2).trans rfl⟩ (fun hHeld => ?_)
       clear hK K
       refine norm_ (a' := ?_) ?_ ?_
       rotate_left
       ·
        show Act.put _ (some 55) _ = _
        simp only [Act.put, List.setIfInBounds_toArray, List.set_cons_zero, List.set_cons_succ, i64_w, i32_w]
        rfl
       refine pure_ (i := 20) (N := some 56) (v := ?_) (a' := ?_) #[true, true, true, true, true, true, true, true, true, true, true, true, true, true, true, true, true, true, true, true, true, false] rfl rfl (any_of HT_.out (by kernel_rfl)) (fun _ _ _ h => h) (Or.inl ⟨by rfl, ?_⟩) ?_ ?_
       rotate_left
       ·
        intro w'
        go_simp
        with_reducible rfl
       rotate_left
       ·
        simp only [Act.put, List.setIfInBounds_toArray, List.set_cons_zero, List.set_cons_succ, i64_w, i32_w]
        rfl
       refine pure_ (i := 21) (N := some 57) (v := ?_) (a' := ?_) #[true, true, true, true, true, true, true, true, true, true, true, true, true, true, true, true, true, true, true, true, true, true] rfl rfl (any_of HT_.out (by kernel_rfl)) (fun _ _ _ h => h) (Or.inl ⟨by rfl, ?_⟩) ?_ ?_
       rotate_left
       ·
        intro w'
        go_simp
        with_reducible rfl
       rotate_left
       ·
        simp only [Act.put, List.setIfInBounds_toArray, List.set_cons_zero, List.set_cons_succ, i64_w, i32_w]
        rfl
       refine done_ (done_of HT_.out (by kernel_rfl)) ?_
       try go_wp2
       go_meet
       case rel => exact ⟨_, ((t144.toList != t145.toList)), zy, H', ⟨by first | omega | exact Nat.le_refl _⟩, ⟨by (with_reducible repeat (first | apply Kd.R_alloc | apply Kd.R_drewN | apply Kd.R_drew)); exact Kd.R_mono HO113.out (fun _ hk => ⟨hk.2.2.1, ⟨hk.2.2.2.2.2.1, hk.2.2.2.2.2.2⟩⟩)⟩, ⟨by (with_reducible repeat (first | apply Kd.R_alloc | apply Kd.R_drewN | apply Kd.R_drew)); exact Kd.R_mono HO116.out (fun _ hk => ⟨hk.2.2.1, ⟨hk.2.2.2.2.2.1, hk.2.2.2.2.2.2⟩⟩)⟩, ⟨by (with_reducible repeat (first | apply Kd.R_alloc | apply Kd.R_drewN | apply Kd.R_drew)); exact Kd.R_mono HO137.out (fun _ hk => ⟨hk.2.2.1, ⟨hk.2.2.2.1, hk.2.2.2.2.2.2⟩⟩)⟩, ⟨by (with_reducible repeat (first | apply Kd.R_alloc | apply Kd.R_drewN | apply Kd.R_drew)); exact Kd.R_mono HO140.out (fun _ hk => ⟨hk.2.2.1, ⟨hk.2.2.2.1, hk.2.2.2.2.2.2⟩⟩)⟩, ⟨by refine zk ?_; exact BK101.out⟩, ⟨by refine zk ?_; exact BK118.out⟩, ⟨by refine zk ?_; exact BK142.out⟩, ⟨zb⟩⟩
      ·
       rw [if_neg c36] at H
       exact absurd ((aumbrylaw06_RulePlain.j0_true _ _ _ _ _ _ _ _ _ H).symm.trans HRT.out) (by decide)
     ·
      replace c35 := zI c35
      subst c35
      have H1 : (aumbrylaw06_RulePlain.j0 k l1 true a0_0 l0_1 l0_2 t110 t111 t114) = some r := by rw [if_neg (show ¬ (false = true) by decide)] at H; exact H
      exact absurd ((aumbrylaw06_RulePlain.j0_true _ _ _ _ _ _ _ _ _ H1).symm.trans HRT.out) (by decide)
    ·
     rw [if_neg c33] at H
     exact absurd ((aumbrylaw06_RulePlain.j0_true _ _ _ _ _ _ _ _ _ H).symm.trans HRT.out) (by decide)
   case rest =>
    clear HC10
    try clear c1
    try clear p2
    try clear c3
    try clear c17
    try clear c33
    try clear c33b0
    try clear c33b1
    try clear c35
    obtain ⟨kq, x57_9, rfl, HA, HJ9, HO_119001, HO_119002, HO_143001, HO_143002, BK101, BK118, BK142, HB⟩ := hcut
    cases kq with
    | zero => exact absurd HA.out (by simp [aumbrylaw06_RulePlain.j0])
    | succ kj9 =>
     have H := HA.out
     clear HA
     simp only [aumbrylaw06_RulePlain.j0] at H
     by_cases c52 : x57_9 = true
     ·
      subst c52
      have H1 : (some false) = some r := by rw [if_pos rfl] at H; exact H
      exact absurd ((zS H1).trans HRT.out) (by decide)
     ·
      replace c52 := zI c52
      subst c52
      rw [if_neg (show ¬ (false = true) by decide)] at H
      replace H := zB H
      obtain ⟨⟨t146, t147, t150⟩, A530, H⟩ := H
      try dsimp only at H
      have A53 := zM A530
      clear A530
      replace H := zB H
      obtain ⟨t153, A540, H⟩ := H
      try dsimp only at H
      have A54 := zM A540
      clear A540
      replace H := zB H
      obtain ⟨⟨t156, t159, t160⟩, A550, H⟩ := H
      try dsimp only at H
      have A55 := zM A550
      clear A550
      replace H := zB H
      obtain ⟨t161, A560, H⟩ := H
      try dsimp only at H
      have A56 := zM A560
      clear A560
      replace H := zB H
      obtain ⟨⟨t164, t167, t168⟩, A570, H⟩ := H
      try dsimp only at H
      have A57 := zM A570
      clear A570
      by_cases c58 : (t159 == t167) = true
      ·
       rw [if_pos c58] at H
       have c58b0 : (t159 == t167) = true := c58
       (try (have c58b1 : decide (t159 = t167) = true := by simpa using c58))
       (try (have c58b2 : (t159 == t167) = true := by simpa using c58))
       clear c58
       by_cases c59 : t160 = t168
       ·
        rw [if_pos c59] at H
        have c59b0 : (t160 == t168) = true := zG c59
        have c59b1 : (t160 != t168) = false := zH c59
        clear c59
        replace H := zB H
        obtain ⟨t169, A600, H⟩ := H
        try dsimp only at H
        have A60 := zM A600
        clear A600
        obtain rfl := zS H
        have hnb61 := NB101_118.out
        have hnc61 := NB118_101.out
        have hnb62 := NB101_142.out
        have hnc62 := NB142_101.out
        have hcz63_0 : wc.cell? ⟨gb101, 0, none⟩ = some (.int .i64 a0_0) := (zX BK101.out 0).trans rfl
        have hcz63_1 : wc.cell? ⟨gb101, 1, none⟩ = some (.slice A0_1 l0_1.length c0_1) := (zX BK101.out 1).trans rfl
        have hcz63_2 : wc.cell? ⟨gb101, 2, none⟩ = some (.slice A0_2 l0_2.length c0_2) := (zX BK101.out 2).trans rfl
        have hfz63_0 := zY BK101.out 0
        have hfz63_1 := zY BK101.out 1
        have hfz63_2 := zY BK101.out 2
        try go_wp2_with (first | ((with_reducible refine gate_callee (f := 12) rfl ?_); refine goesL_ (some 60) rfl rfl Tryd.func12 (by kernel_rfl) rfl #[.agg #[.int .i64 a0_0, .slice A0_1 l0_1.length c0_1, .slice A0_2 l0_2.length c0_2]] rfl zl ?_; (with_reducible refine (aumbryref06_Copy.calls a0_0 _ _ l0_1 _ _ l0_2 t146 t147 t150 _ ?side1 ?side2 ?side3 ?side4 A53.out).mono ?_); (case side1 => exact Kd.C_below HR0_1.out zb); (case side2 => exact HC0_1.out); (case side3 => exact Kd.C_below HR0_2.out zb); (case side4 => exact HC0_2.out); rintro e w64 ⟨v148, v151, rfl, ho0, ho1, hb⟩; refine ⟨_, rfl, ?_⟩; have HO149 := zM (Kd.R_lower (Kd.R_new' (Kd.R_new' (Kd.R_new' (Kd.R_new' ho0 (Kd.R_lt (zr HO_119001.out))) (Kd.R_lt (zr HO_119002.out))) (Kd.R_lt (zr HO_143001.out))) (Kd.R_lt (zr HO_143002.out))) (below_size zb)); have HO152 := zM (Kd.R_lower (Kd.R_new' (Kd.R_new' (Kd.R_new' (Kd.R_new' ho1 (Kd.R_lt (zr HO_119001.out))) (Kd.R_lt (zr HO_119002.out))) (Kd.R_lt (zr HO_143001.out))) (Kd.R_lt (zr HO_143002.out))) (below_size zb)); replace HO_119001 := zM (Kd.R_mono (Kd.R_told (Kd.R_told (Kd.R_old (zr HO_119001.out) hb) (Kd.R_base ho0)) (Kd.R_base ho1)) (fun _ h_ => h_.1)); replace HO_119002 := zM (Kd.R_mono (Kd.R_told (Kd.R_told (Kd.R_old (zr HO_119002.out) hb) (Kd.R_base ho0)) (Kd.R_base ho1)) (fun _ h_ => h_.1)); replace HO_143001 := zM (Kd.R_mono (Kd.R_told (Kd.R_told (Kd.R_old (zr HO_143001.out) hb) (Kd.R_base ho0)) (Kd.R_base ho1)) (fun _ h_ => h_.1)); replace HO_143002 := zM (Kd.R_mono (Kd.R_told (Kd.R_told (Kd.R_old (zr HO_143002.out) hb) (Kd.R_base ho0)) (Kd.R_base ho1)) (fun _ h_ => h_.1)); replace BK101 := zM (blk_below (zk BK101.out) hb); replace BK118 := zM (blk_below (zk BK118.out) hb); replace BK142 := zM (blk_below (zk BK142.out) hb); replace HB := zM (below_step zb hb); (try clear hb); (try clear ho0); (try clear ho1)) | ((with_reducible refine gate_callee (f := 23) rfl ?_); refine goesL_ (some 62) rfl rfl Tryd.func23 (by kernel_rfl) rfl #[.slice A1 l1.length c1] rfl zl ?_; (with_reducible refine (aumbryref04_Copy.calls _ _ l1 t153 _ ?side1 ?side2 A54.out).mono ?_); (case side1 => exact Kd.C_below HR1.out zb); (case side2 => exact HC1.out); rintro e w65 ⟨v154, rfl, ho0, hb⟩; refine ⟨_, rfl, ?_⟩; have HO155 := zM (Kd.R_lower (Kd.R_new' (Kd.R_new' (Kd.R_new' (Kd.R_new' (Kd.R_new' (Kd.R_new' ho0 (Kd.R_lt (zr HO_119001.out))) (Kd.R_lt (zr HO_119002.out))) (Kd.R_lt (zr HO_143001.out))) (Kd.R_lt (zr HO_143002.out))) (Kd.R_lt (zr HO149.out))) (Kd.R_lt (zr HO152.out))) (below_size zb)); replace HO_119001 := zM (Kd.R_elder' (zr HO_119001.out) (Kd.R_base ho0) hb); replace HO_119002 := zM (Kd.R_elder' (zr HO_119002.out) (Kd.R_base ho0) hb); replace HO_143001 := zM (Kd.R_elder' (zr HO_143001.out) (Kd.R_base ho0) hb); replace HO_143002 := zM (Kd.R_elder' (zr HO_143002.out) (Kd.R_base ho0) hb); replace HO149 := zM (Kd.R_elder' (zr HO149.out) (Kd.R_base ho0) hb); replace HO152 := zM (Kd.R_elder' (zr HO152.out) (Kd.R_base ho0) hb); replace BK101 := zM (blk_below (zk BK101.out) hb); replace BK118 := zM (blk_below (zk BK118.out) hb); replace BK142 := zM (blk_below (zk BK142.out) hb); replace HB := zM (below_step zb hb); (try clear hb); (try clear ho0); obtain ⟨Ao66, co66, eo66⟩ := Kd.R_slice HO149.out; subst eo66; obtain ⟨Ao67, co67, eo67⟩ := Kd.R_slice HO152.out; subst eo67; obtain ⟨Ao68, co68, eo68⟩ := Kd.R_slice HO155.out; subst eo68) | ((with_reducible refine gate_callee (f := 22) rfl ?_); refine goesL_ (some 63) rfl rfl Tryd.func22 (by kernel_rfl) rfl #[.agg #[.int .i64 t146, .slice Ao66 t147.length co66, .slice Ao67 t150.length co67], .slice Ao68 t153.length co68] rfl zl ?_; (with_reducible refine (rule_Apply.calls kj9 t146 _ _ t147 _ _ t150 _ _ t153 t156 t159 t160 _ ?side1 ?side2 ?side3 ?side4 ?side5 ?side6 A55.out).mono ?_); (case side1 => exact Kd.C_below (Kd.R_reads' HO149.out).2.2 zg); (case side2 => exact (Kd.R_reads' HO149.out).2.1); (case side3 => exact Kd.C_below (Kd.R_reads' HO152.out).2.2 zg); (case side4 => exact (Kd.R_reads' HO152.out).2.1); (case side5 => exact Kd.C_below (Kd.R_reads' HO155.out).2.2 zg); (case side6 => exact (Kd.R_reads' HO155.out).2.1); rintro e w69 ⟨v157, rfl, ho0, hb⟩; refine ⟨_, rfl, ?_⟩; have HO158 := zM (Kd.R_lower (Kd.R_new' (Kd.R_new' (Kd.R_new' (Kd.R_new' (Kd.R_new' (Kd.R_new' (Kd.R_new' ho0 (Kd.R_lt (zr HO_119001.out))) (Kd.R_lt (zr HO_119002.out))) (Kd.R_lt (zr HO_143001.out))) (Kd.R_lt (zr HO_143002.out))) (Kd.R_lt (zr HO149.out))) (Kd.R_lt (zr HO152.out))) (Kd.R_lt (zr HO155.out))) (below_size zb)); replace HO_119001 := zM (Kd.R_elder' (zr HO_119001.out) (Kd.R_base ho0) hb); replace HO_119002 := zM (Kd.R_elder' (zr HO_119002.out) (Kd.R_base ho0) hb); replace HO_143001 := zM (Kd.R_elder' (zr HO_143001.out) (Kd.R_base ho0) hb); replace HO_143002 := zM (Kd.R_elder' (zr HO_143002.out) (Kd.R_base ho0) hb); replace HO149 := zM (Kd.R_elder' (zr HO149.out) (Kd.R_base ho0) hb); replace HO152 := zM (Kd.R_elder' (zr HO152.out) (Kd.R_base ho0) hb); replace HO155 := zM (Kd.R_elder' (zr HO155.out) (Kd.R_base ho0) hb); replace BK101 := zM (blk_below (zk BK101.out) hb); replace BK118 := zM (blk_below (zk BK118.out) hb); replace BK142 := zM (blk_below (zk BK142.out) hb); replace HB := zM (below_step zb hb); (try clear hb); (try clear ho0)))
        have n0_ := zM (Kd.R_drew HO_119001.out)
        have n1_ := zM (Kd.R_drew HO_119002.out)
        have n2_ := zM (Kd.R_drew HO_143001.out)
        have n3_ := zM (Kd.R_drew HO_143002.out)
        have n4_ := zM (Kd.R_drew HO149.out)
        have n5_ := zM (Kd.R_drew HO152.out)
        have n6_ := zM (Kd.R_drew HO155.out)
        have n7_ := zM (Kd.R_drew HO158.out)
        have n8_ := zM (blk_drew BK101.out)
        have n9_ := zM (blk_drew BK118.out)
        have n10_ := zM (blk_drew BK142.out)
        have n11_ := zM (zD HB.out)
        clear HO_119001
        clear HO_119002
        clear HO_143001
        clear HO_143002
        clear HO149
        clear HO152
        clear HO155
        clear HO158
        clear BK101
        clear BK118
        clear BK142
        clear HB
        have HO_119001 := n0_
        have HO_119002 := n1_
        have HO_143001 := n2_
        have HO_143002 := n3_
        have HO149 := n4_
        have HO152 := n5_
        have HO155 := n6_
        have HO158 := n7_
        have BK101 := n8_
        have BK118 := n9_
        have BK142 := n10_
        have HB := n11_
        clear n0_ n1_ n2_ n3_ n4_ n5_ n6_ n7_ n8_ n9_ n10_ n11_
        refine start_ (n := 11) (S := fun w' => w'.cell? ⟨gb118, 0, none⟩ = some (.int .i64 t110) ∧ w'.cell? ⟨gb118, 1, none⟩ = some (.slice Ao21 t111.length co21) ∧ w'.cell? ⟨gb118, 2, none⟩ = some (.slice Ao22 t114.length co22)) (ds := []) #[false, false, false, false, false, false, false, false, false, false, false] (by kernel_rfl) rfl rfl ⟨(zX BK118.out 0).trans rfl, (zX BK118.out 1).trans rfl, (zX BK118.out 2).trans rfl⟩ (fun hHeld => ?_); refine with_tabW aumbrylaw06_RulePlain.tab10 aumbrylaw06_RulePlain.bits10 (fun HT_ HW_ => ?_)
        generalize w69.drew = w70 at HO_119001 HO_119002 HO_143001 HO_143002 HO149 HO152 HO155 HO158 BK101 BK118 BK142 HB hHeld ⊢
        refine pure_ (i := 1) (N := some 69) (v := ?_) (a' := ?_) #[false, true, false, false, false, false, false, false, false, false, false] rfl rfl (any_of HT_.out (by kernel_rfl)) (fun _ _ _ h => h) (Or.inl ⟨by rfl, ?_⟩) ?_ ?_
        rotate_left
        ·
         intro w'
         go_simp
         with_reducible rfl
        rotate_left
        ·
         simp only [Act.put, List.setIfInBounds_toArray, List.set_cons_zero, List.set_cons_succ, i64_w, i32_w]
         rfl
        refine take_ (i := 0) (N := some 68) (v := ?_) (a' := ?_) #[true, true, false, false, false, false, false, false, false, false, false] rfl rfl (take_ofW HT_.out HW_.out (by kernel_rfl)) (fun _ _ _ h => h) (Or.inl ⟨by rfl, ?_⟩) hHeld ?_ ?_
        rotate_left
        ·
         rintro w' ⟨s0, s1, s2⟩
         go_simp
         with_reducible rfl
        rotate_left
        ·
         simp only [Act.put, List.setIfInBounds_toArray, List.set_cons_zero, List.set_cons_succ, i64_w, i32_w]
         rfl
        refine one_ (i := 2) (N := some 70) #[true, true, true, false, false, false, false, false, false, false, false] rfl rfl (one_of HT_.out (by kernel_rfl)) (by decide) (fun K hK => ?_)
        refine goes_ Tryd.func23 (by kernel_rfl) rfl #[.slice A1 l1.length c1] (by rfl) rfl rfl zl ?_
        with_reducible refine (aumbryref04_Copy.calls _ _ l1 t161 _ ?side1 ?side2 A56.out).mono ?_
        (case side1 => exact Kd.C_below HR1.out zb)
        (case side2 => exact HC1.out)
        rintro e w71 ⟨v162, rfl, ho0, hb⟩
        refine ⟨_, rfl, ?_⟩
        have n0_ := zM (Kd.R_elder' (zr HO_119001.out) (Kd.R_base ho0) hb)
        have n1_ := zM (Kd.R_elder' (zr HO_119002.out) (Kd.R_base ho0) hb)
        have n2_ := zM (Kd.R_elder' (zr HO_143001.out) (Kd.R_base ho0) hb)
        have n3_ := zM (Kd.R_elder' (zr HO_143002.out) (Kd.R_base ho0) hb)
        have n4_ := zM (Kd.R_elder' (zr HO149.out) (Kd.R_base ho0) hb)
        have n5_ := zM (Kd.R_elder' (zr HO152.out) (Kd.R_base ho0) hb)
        have n6_ := zM (Kd.R_elder' (zr HO155.out) (Kd.R_base ho0) hb)
        have n7_ := zM (Kd.R_elder' (zr HO158.out) (Kd.R_base ho0) hb)
        have n8_ := zM (Kd.R_lower (Kd.R_new' (Kd.R_new' (Kd.R_new' (Kd.R_new' (Kd.R_new' (Kd.R_new' (Kd.R_new' (Kd.R_new' ho0 (Kd.R_lt (zr HO_119001.out))) (Kd.R_lt (zr HO_119002.out))) (Kd.R_lt (zr HO_143001.out))) (Kd.R_lt (zr HO_143002.out))) (Kd.R_lt (zr HO149.out))) (Kd.R_lt (zr HO152.out))) (Kd.R_lt (zr HO155.out))) (Kd.R_lt (zr HO158.out))) (below_size zb))
        have n9_ := zM (blk_below (zk BK101.out) hb)
        have n10_ := zM (blk_below (zk BK118.out) hb)
        have n11_ := zM (blk_below (zk BK142.out) hb)
        have n12_ := zM (below_step zb hb)
        clear HO_119001
        clear HO_119002
        clear HO_143001
        clear HO_143002
        clear HO149
        clear HO152
        clear HO155
        clear HO158
        clear BK101
        clear BK118
        clear BK142
        clear HB
        have HO_119001 := n0_
        have HO_119002 := n1_
        have HO_143001 := n2_
        have HO_143002 := n3_
        have HO149 := n4_
        have HO152 := n5_
        have HO155 := n6_
        have HO158 := n7_
        have HO163 := n8_
        have BK101 := n9_
        have BK118 := n10_
        have BK142 := n11_
        have HB := n12_
        clear n0_ n1_ n2_ n3_ n4_ n5_ n6_ n7_ n8_ n9_ n10_ n11_ n12_
        (try clear hb)
        (try clear hb2)
        (try clear hk)
        (try clear hi)
        (try clear ho0)
        obtain ⟨Ao72, co72, eo72⟩ := Kd.R_slice HO163.out
        (first | subst eo72 | (injection eo72 with f1_ f2_ f3_; have f4_ := f1_.symm; have f5_ := f3_.symm; clear f1_ f2_ f3_; subst f4_; subst f5_))
        refine hK.out _ _ ⟨(zX BK118.out 0).trans rfl, (zX BK118.out 1).trans rfl, (zX BK118.out 2).trans rfl⟩ (fun hHeld => ?_)
        clear hK K
        refine norm_ (a' := ?_) ?_ ?_
        rotate_left
        ·
         show Act.put _ (some 70) _ = _
         simp only [Act.put, List.setIfInBounds_toArray, List.set_cons_zero, List.set_cons_succ, i64_w, i32_w]
         rfl
        refine one_ (i := 3) (N := some 71) #[true, true, true, true, false, false, false, false, false, false, false] rfl rfl (one_of HT_.out (by kernel_rfl)) (by decide) (fun K hK => ?_)
        refine goes_ Tryd.func22 (by kernel_rfl) rfl #[.agg #[.int .i64 t110, .slice Ao21 t111.length co21, .slice Ao22 t114.length co22], .slice Ao72 t161.length co72] (by rfl) rfl rfl zl ?_
        with_reducible refine (rule_Apply.calls kj9 t110 _ _ t111 _ _ t114 _ _ t161 t164 t167 t168 _ ?side1 ?side2 ?side3 ?side4 ?side5 ?side6 A57.out).mono ?_
        (case side1 => exact Kd.C_below (Kd.R_reads' HO_119001.out).2.2 zg)
        (case side2 => exact (Kd.R_reads' HO_119001.out).2.1)
        (case side3 => exact Kd.C_below (Kd.R_reads' HO_119002.out).2.2 zg)
        (case side4 => exact (Kd.R_reads' HO_119002.out).2.1)
        (case side5 => exact Kd.C_below (Kd.R_reads' HO163.out).2.2 zg)
        (case side6 => exact (Kd.R_reads' HO163.out).2.1)
        rintro e w73 ⟨v165, rfl, ho0, hb⟩
        refine ⟨_, rfl, ?_⟩
        have n0_ := zM (Kd.R_elder' (zr HO_119001.out) (Kd.R_base ho0) hb)
        have n1_ := zM (Kd.R_elder' (zr HO_119002.out) (Kd.R_base ho0) hb)
        have n2_ := zM (Kd.R_elder' (zr HO_143001.out) (Kd.R_base ho0) hb)
        have n3_ := zM (Kd.R_elder' (zr HO_143002.out) (Kd.R_base ho0) hb)
        have n4_ := zM (Kd.R_elder' (zr HO149.out) (Kd.R_base ho0) hb)
        have n5_ := zM (Kd.R_elder' (zr HO152.out) (Kd.R_base ho0) hb)
        have n6_ := zM (Kd.R_elder' (zr HO155.out) (Kd.R_base ho0) hb)
        have n7_ := zM (Kd.R_elder' (zr HO158.out) (Kd.R_base ho0) hb)
        have n8_ := zM (Kd.R_elder' (zr HO163.out) (Kd.R_base ho0) hb)
        have n9_ := zM (Kd.R_lower (Kd.R_new' (Kd.R_new' (Kd.R_new' (Kd.R_new' (Kd.R_new' (Kd.R_new' (Kd.R_new' (Kd.R_new' (Kd.R_new' ho0 (Kd.R_lt (zr HO_119001.out))) (Kd.R_lt (zr HO_119002.out))) (Kd.R_lt (zr HO_143001.out))) (Kd.R_lt (zr HO_143002.out))) (Kd.R_lt (zr HO149.out))) (Kd.R_lt (zr HO152.out))) (Kd.R_lt (zr HO155.out))) (Kd.R_lt (zr HO158.out))) (Kd.R_lt (zr HO163.out))) (below_size zb))
        have n10_ := zM (blk_below (zk BK101.out) hb)
        have n11_ := zM (blk_below (zk BK118.out) hb)
        have n12_ := zM (blk_below (zk BK142.out) hb)
        have n13_ := zM (below_step zb hb)
        clear HO_119001
        clear HO_119002
        clear HO_143001
        clear HO_143002
        clear HO149
        clear HO152
        clear HO155
        clear HO158
        clear HO163
        clear BK101
        clear BK118
        clear BK142
        clear HB
        have HO_119001 := n0_
        have HO_119002 := n1_
        have HO_143001 := n2_
        have HO_143002 := n3_
        have HO149 := n4_
        have HO152 := n5_
        have HO155 := n6_
        have HO158 := n7_
        have HO163 := n8_
        have HO166 := n9_
        have BK101 := n10_
        have BK118 := n11_
        have BK142 := n12_
        have HB := n13_
        clear n0_ n1_ n2_ n3_ n4_ n5_ n6_ n7_ n8_ n9_ n10_ n11_ n12_ n13_
        (try clear hb)
        (try clear hb2)
        (try clear hk)
        (try clear hi)
        (try clear ho0)
        refine hK.out _ _ ⟨(zX BK118.out 0).trans rfl, (zX BK118.out 1).trans rfl, (zX BK118.out 2).trans rfl⟩ (fun hHeld => ?_)
        clear hK K
        refine norm_ (a' := ?_) ?_ ?_
        rotate_left
        ·
         show Act.put _ (some 71) _ = _
         simp only [Act.put, List.setIfInBounds_toArray, List.set_cons_zero, List.set_cons_succ, i64_w, i32_w]
         rfl
        refine pure_ (i := 4) (N := some 67) (v := ?_) (a' := ?_) #[true, true, true, true, true, false, false, false, false, false, false] rfl rfl (any_of HT_.out (by kernel_rfl)) (fun _ _ _ h => h) (Or.inl ⟨by rfl, ?_⟩) ?_ ?_
        rotate_left
        ·
         intro w'
         go_simp
         with_reducible rfl
        rotate_left
        ·
         simp only [Act.put, List.setIfInBounds_toArray, List.set_cons_zero, List.set_cons_succ, i64_w, i32_w]
         rfl
        refine pure_ (i := 5) (N := some 72) (v := ?_) (a' := ?_) #[true, true, true, true, true, true, false, false, false, false, false] rfl rfl (any_of HT_.out (by kernel_rfl)) (fun _ _ _ h => h) (Or.inl ⟨by rfl, ?_⟩) ?_ ?_
        rotate_left
        ·
         intro w'
         go_simp
         with_reducible rfl
        rotate_left
        ·
         simp only [Act.put, List.setIfInBounds_toArray, List.set_cons_zero, List.set_cons_succ, i64_w, i32_w]
         rfl
        refine pure_ (i := 6) (N := some 73) (v := ?_) (a' := ?_) #[true, true, true, true, true, true, true, false, false, false, false] rfl rfl (any_of HT_.out (by kernel_rfl)) (fun _ _ _ h => h) (Or.inl ⟨by rfl, ?_⟩) ?_ ?_
        rotate_left
        ·
         intro w'
         go_simp
         with_reducible rfl
        rotate_left
        ·
         simp only [Act.put, List.setIfInBounds_toArray, List.set_cons_zero, List.set_cons_succ, i64_w, i32_w]
         rfl
        refine pure_ (i := 7) (N := some 74) (v := ?_) (a' := ?_) #[true, true, true, true, true, true, true, true, false, false, false] rfl rfl (any_of HT_.out (by kernel_rfl)) (fun _ _ _ h => h) (Or.inl ⟨by rfl, ?_⟩) ?_ ?_
        rotate_left
        ·
         intro w'
         go_simp
         with_reducible rfl
        rotate_left
        ·
         simp only [Act.put, List.setIfInBounds_toArray, List.set_cons_zero, List.set_cons_succ, i64_w, i32_w]
         rfl
        refine pure_ (i := 8) (N := some 12) (v := ?_) (a' := ?_) #[true, true, true, true, true, true, true, true, true, false, false] rfl rfl (any_of HT_.out (by kernel_rfl)) (fun _ _ _ h => h) (Or.inl ⟨by rfl, ?_⟩) ?_ ?_
        rotate_left
        ·
         intro w'
         go_simp
         with_reducible rfl
        rotate_left
        ·
         simp only [Act.put, List.setIfInBounds_toArray, List.set_cons_zero, List.set_cons_succ, i64_w, i32_w]
         rfl
        refine pure_ (i := 9) (N := some 13) (v := ?_) (a' := ?_) #[true, true, true, true, true, true, true, true, true, true, false] rfl rfl (any_of HT_.out (by kernel_rfl)) (fun _ _ _ h => h) (Or.inl ⟨by rfl, ?_⟩) ?_ ?_
        rotate_left
        ·
         intro w'
         go_simp
         with_reducible rfl
        rotate_left
        ·
         simp only [Act.put, List.setIfInBounds_toArray, List.set_cons_zero, List.set_cons_succ, i64_w, i32_w]
         rfl
        refine pure_ (i := 10) (N := some 14) (v := ?_) (a' := ?_) #[true, true, true, true, true, true, true, true, true, true, true] rfl rfl (any_of HT_.out (by kernel_rfl)) (fun _ _ _ h => h) (Or.inl ⟨by rfl, ?_⟩) ?_ ?_
        rotate_left
        ·
         intro w'
         go_simp
         with_reducible rfl
        rotate_left
        ·
         simp only [Act.put, List.setIfInBounds_toArray, List.set_cons_zero, List.set_cons_succ, i64_w, i32_w]
         rfl
        refine done_ (done_of HT_.out (by kernel_rfl)) ?_
        obtain ⟨Ao74, co74, eo74⟩ := Kd.R_slice HO158.out
        subst eo74
        obtain ⟨Ao75, co75, eo75⟩ := Kd.R_slice HO166.out
        subst eo75
        try go_wp2_with (first | (go_at_call 25; (with_reducible refine (aumbryref04_Same.calls kj9 _ _ t156 _ _ t164 t169 _ ?side1 ?side2 ?side3 ?side4 A60.out).mono ?_); (case side1 => exact Kd.C_below (Kd.R_reads' HO158.out).2.2 zg); (case side2 => exact (Kd.R_reads' HO158.out).2.1); (case side3 => exact Kd.C_below (Kd.R_reads' HO166.out).2.2 zg); (case side4 => exact (Kd.R_reads' HO166.out).2.1); rintro e w' ⟨rfl, ⟨nd, rfl⟩⟩))
        go_ret
        exact ⟨zw, zb⟩
       ·
        rw [if_neg c59] at H
        have c59b0 : (t160 == t168) = false := zE c59
        have c59b1 : (t160 != t168) = true := zF c59
        exact absurd ((zS H).trans HRT.out) (by decide)
      ·
       rw [if_neg c58] at H
       have c58b0 : (t159 == t167) = false := by simpa using c58
       (try (have c58b1 : decide (t159 = t167) = false := by simpa using c58))
       (try (have c58b2 : (t159 == t167) = false := by simpa using c58))
       (try (have c58b3 : ¬ (t159 = t167) := by simpa using c58))
       clear c58
       exact absurd ((zS H).trans HRT.out) (by decide)
  ·
   rw [if_neg c7] at H
   have c7b0 : (t117 == 0) = false := zE c7
   have c7b1 : (t117 != 0) = true := zF c7
   replace H := zB H
   obtain ⟨⟨t119, t120, t123⟩, A1020, H⟩ := H
   try dsimp only at H
   have A102 := zM A1020
   clear A1020
   replace H := zB H
   obtain ⟨t126, A1030, H⟩ := H
   try dsimp only at H
   have A103 := zM A1030
   clear A1030
   obtain rfl := zS H
   go_enter Tryd.func8, Tryd.ntmps8
   go_wp2_with (first | ((with_reducible refine gate_dst (N := 2) rfl ?_); refine box_event ?hg (N := 2) ?hd (cs := #[.int .i64 a0_0, .slice A0_1 l0_1.length c0_1, .slice A0_2 l0_2.length c0_2]) (t := 25) ?hr ?_; (case hd => rfl); (case hg => rfl); (case hr => first | (go_simp; done) | (go_simp; rfl)); intro gb101 hg w104 hbox hb; have BK101 := zM (hbox); have GW101 := zM (zh hg : w.heap.size ≤ gb101); have GE101 := zM (zh hg : w.heap.size ≤ gb101); replace HB := zM (below_step zb hb); clear hb hbox hg) | ((with_reducible refine gate_callee (f := 10) rfl ?_); refine goesL_ (some 15) rfl rfl Tryd.func10 (by kernel_rfl) rfl #[] rfl zl ?_; (with_reducible refine (aumbrylaw06_wakes.calls k  true _ A3.out).mono ?_); rintro e w105 ⟨rfl, hb⟩; refine ⟨_, rfl, ?_⟩; replace BK101 := zM (blk_below (zk BK101.out) hb); replace HB := zM (below_step zb hb); (try clear hb); have hcz106_0 : w105.cell? ⟨gb101, 0, none⟩ = some (.int .i64 a0_0) := (zX BK101.out 0).trans rfl; have hcz106_1 : w105.cell? ⟨gb101, 1, none⟩ = some (.slice A0_1 l0_1.length c0_1) := (zX BK101.out 1).trans rfl; have hcz106_2 : w105.cell? ⟨gb101, 2, none⟩ = some (.slice A0_2 l0_2.length c0_2) := (zX BK101.out 2).trans rfl; have hfz106_0 := zY BK101.out 0; have hfz106_1 := zY BK101.out 1; have hfz106_2 := zY BK101.out 2) | ((with_reducible refine gate_callee (f := 12) rfl ?_); refine goesL_ (some 19) rfl rfl Tryd.func12 (by kernel_rfl) rfl #[.agg #[.int .i64 a0_0, .slice A0_1 l0_1.length c0_1, .slice A0_2 l0_2.length c0_2]] rfl zl ?_; (with_reducible refine (aumbryref06_Copy.calls a0_0 _ _ l0_1 _ _ l0_2 t103 t104 t107 _ ?side1 ?side2 ?side3 ?side4 A5.out).mono ?_); (case side1 => exact Kd.C_below HR0_1.out zb); (case side2 => exact HC0_1.out); (case side3 => exact Kd.C_below HR0_2.out zb); (case side4 => exact HC0_2.out); rintro e w107 ⟨v105, v108, rfl, ho0, ho1, hb⟩; refine ⟨_, rfl, ?_⟩; have HO106 := zM (Kd.R_lower ho0 (below_size zb)); have HO109 := zM (Kd.R_lower ho1 (below_size zb)); replace BK101 := zM (blk_below (zk BK101.out) hb); replace HB := zM (below_step zb hb); (try clear hb); (try clear ho0); (try clear ho1); obtain ⟨Ao108, co108, eo108⟩ := Kd.R_slice HO106.out; subst eo108; obtain ⟨Ao109, co109, eo109⟩ := Kd.R_slice HO109.out; subst eo109) | ((with_reducible refine gate_callee (f := 19) rfl ?_); refine goesL_ (some 20) rfl rfl Tryd.func19 (by kernel_rfl) rfl #[.agg #[.int .i64 t103, .slice Ao108 t104.length co108, .slice Ao109 t107.length co109]] rfl zl ?_; (with_reducible refine (rule_Plain.calls k t103 _ _ t104 _ _ t107 t110 t111 t114 t117 _ ?side1 ?side2 ?side3 ?side4 A6.out).mono ?_); (case side1 => exact Kd.C_below (Kd.R_reads' HO106.out).2.2 zg); (case side2 => exact (Kd.R_reads' HO106.out).2.1); (case side3 => exact Kd.C_below (Kd.R_reads' HO109.out).2.2 zg); (case side4 => exact (Kd.R_reads' HO109.out).2.1); rintro e w110 ⟨v112, v115, rfl, ho0, ho1, hb⟩; refine ⟨_, rfl, ?_⟩; have HO113 := zM (Kd.R_lower (Kd.R_new' (Kd.R_new' ho0 (Kd.R_lt (zr HO106.out))) (Kd.R_lt (zr HO109.out))) (below_size zb)); have HO116 := zM (Kd.R_lower (Kd.R_new' (Kd.R_new' ho1 (Kd.R_lt (zr HO106.out))) (Kd.R_lt (zr HO109.out))) (below_size zb)); replace HO106 := zM (Kd.R_mono (Kd.R_told (Kd.R_told (Kd.R_old (zr HO106.out) hb) (Kd.R_base ho0)) (Kd.R_base ho1)) (fun _ h_ => h_.1)); replace HO109 := zM (Kd.R_mono (Kd.R_told (Kd.R_told (Kd.R_old (zr HO109.out) hb) (Kd.R_base ho0)) (Kd.R_base ho1)) (fun _ h_ => h_.1)); replace BK101 := zM (blk_below (zk BK101.out) hb); replace HB := zM (below_step zb hb); (try clear hb); (try clear ho0); (try clear ho1)) | ((with_reducible refine gate_dst (N := 5) rfl ?_); refine box_event ?hg (N := 5) ?hd (cs := #[.int .i64 0, .slice none 0 0, .slice none 0 0]) (t := 25) ?hr ?_; (case hd => rfl); (case hg => rfl); (case hr => first | (go_simp; done) | (go_simp; rfl)); intro gb118 hg w111 hbox hb; replace HO106 := zM (Kd.R_below (zr HO106.out) hb); replace HO109 := zM (Kd.R_below (zr HO109.out) hb); replace HO113 := zM (Kd.R_below (zr HO113.out) hb); replace HO116 := zM (Kd.R_below (zr HO116.out) hb); have BK118 := zM (hbox); have GW118 := zM (zh hg : w.heap.size ≤ gb118); have GE118 := zM (zh hg : w.heap.size ≤ gb118); replace HB := zM (below_step zb hb); have NB101_118 := zM ((by rw [hg]; exact Nat.ne_of_lt (blk_lt (zk BK101.out)) : gb101 ≠ gb118)); have NB118_101 := zM ((by rw [hg]; exact Nat.ne_of_gt (blk_lt (zk BK101.out)) : gb118 ≠ gb101)); replace BK101 := zM (blk_below (zk BK101.out) hb); clear hb hbox hg; have hnb112 := NB118_101.out; have hnc112 := NB101_118.out; have hcz113_0 : w111.cell? ⟨gb118, 0, none⟩ = some (.int .i64 0) := (zX BK118.out 0).trans rfl; have hcz113_1 : w111.cell? ⟨gb118, 1, none⟩ = some (.slice none 0 0) := (zX BK118.out 1).trans rfl; have hcz113_2 : w111.cell? ⟨gb118, 2, none⟩ = some (.slice none 0 0) := (zX BK118.out 2).trans rfl; have hfz113_0 := zY BK118.out 0; have hfz113_1 := zY BK118.out 1; have hfz113_2 := zY BK118.out 2; obtain ⟨Ao114, co114, eo114⟩ := Kd.R_slice HO113.out; subst eo114; obtain ⟨Ao115, co115, eo115⟩ := Kd.R_slice HO116.out; subst eo115; have hcz116_0 : w111.cell? ⟨gb101, 0, none⟩ = some (.int .i64 a0_0) := (zX BK101.out 0).trans rfl; have hcz116_1 : w111.cell? ⟨gb101, 1, none⟩ = some (.slice A0_1 l0_1.length c0_1) := (zX BK101.out 1).trans rfl; have hcz116_2 : w111.cell? ⟨gb101, 2, none⟩ = some (.slice A0_2 l0_2.length c0_2) := (zX BK101.out 2).trans rfl; have hfz116_0 := zY BK101.out 0; have hfz116_1 := zY BK101.out 1; have hfz116_2 := zY BK101.out 2) | ((with_reducible refine gate_callee (f := 12) rfl ?_); refine goesL_ (some 26) rfl rfl Tryd.func12 (by kernel_rfl) rfl #[.agg #[.int .i64 a0_0, .slice A0_1 l0_1.length c0_1, .slice A0_2 l0_2.length c0_2]] rfl zl ?_; (with_reducible refine (aumbryref06_Copy.calls a0_0 _ _ l0_1 _ _ l0_2 t119 t120 t123 _ ?side1 ?side2 ?side3 ?side4 A102.out).mono ?_); (case side1 => exact Kd.C_below HR0_1.out zb); (case side2 => exact HC0_1.out); (case side3 => exact Kd.C_below HR0_2.out zb); (case side4 => exact HC0_2.out); rintro e w117 ⟨v121, v124, rfl, ho0, ho1, hb⟩; refine ⟨_, rfl, ?_⟩; have HO122 := zM (Kd.R_lower (Kd.R_new' (Kd.R_new' (Kd.R_new' (Kd.R_new' ho0 (Kd.R_lt (by (with_reducible repeat (first | apply Kd.R_alloc | apply Kd.R_drewN | apply Kd.R_drew)); exact (Kd.R_mono (Kd.R_far (p := ⟨gb118, 2, none⟩) (Kd.R_far (p := ⟨gb118, 1, none⟩) (Kd.R_far (p := ⟨gb118, 0, none⟩) (Kd.R_types HO106.out BK118.out (by decide)) (fun _ hk => hk.2) (.int .i64 t110)) (fun _ hk => hk.2) (.slice Ao114 t111.length co114)) (fun _ hk => hk.2) (.slice Ao115 t114.length co115)) (fun _ h_ => h_.1))))) (Kd.R_lt (by (with_reducible repeat (first | apply Kd.R_alloc | apply Kd.R_drewN | apply Kd.R_drew)); exact (Kd.R_mono (Kd.R_far (p := ⟨gb118, 2, none⟩) (Kd.R_far (p := ⟨gb118, 1, none⟩) (Kd.R_far (p := ⟨gb118, 0, none⟩) (Kd.R_types HO109.out BK118.out (by decide)) (fun _ hk => hk.2) (.int .i64 t110)) (fun _ hk => hk.2) (.slice Ao114 t111.length co114)) (fun _ hk => hk.2) (.slice Ao115 t114.length co115)) (fun _ h_ => h_.1))))) (Kd.R_lt (by (with_reducible repeat (first | apply Kd.R_alloc | apply Kd.R_drewN | apply Kd.R_drew)); exact (Kd.R_mono (Kd.R_far (p := ⟨gb118, 2, none⟩) (Kd.R_far (p := ⟨gb118, 1, none⟩) (Kd.R_far (p := ⟨gb118, 0, none⟩) (Kd.R_types HO113.out BK118.out (by decide)) (fun _ hk => hk.2) (.int .i64 t110)) (fun _ hk => hk.2) (.slice Ao114 t111.length co114)) (fun _ hk => hk.2) (.slice Ao115 t114.length co115)) (fun _ h_ => h_.1))))) (Kd.R_lt (by (with_reducible repeat (first | apply Kd.R_alloc | apply Kd.R_drewN | apply Kd.R_drew)); exact (Kd.R_mono (Kd.R_far (p := ⟨gb118, 2, none⟩) (Kd.R_far (p := ⟨gb118, 1, none⟩) (Kd.R_far (p := ⟨gb118, 0, none⟩) (Kd.R_types HO116.out BK118.out (by decide)) (fun _ hk => hk.2) (.int .i64 t110)) (fun _ hk => hk.2) (.slice Ao114 t111.length co114)) (fun _ hk => hk.2) (.slice Ao115 t114.length co115)) (fun _ h_ => h_.1))))) (below_size zb)); have HO125 := zM (Kd.R_lower (Kd.R_new' (Kd.R_new' (Kd.R_new' (Kd.R_new' ho1 (Kd.R_lt (by (with_reducible repeat (first | apply Kd.R_alloc | apply Kd.R_drewN | apply Kd.R_drew)); exact (Kd.R_mono (Kd.R_far (p := ⟨gb118, 2, none⟩) (Kd.R_far (p := ⟨gb118, 1, none⟩) (Kd.R_far (p := ⟨gb118, 0, none⟩) (Kd.R_types HO106.out BK118.out (by decide)) (fun _ hk => hk.2) (.int .i64 t110)) (fun _ hk => hk.2) (.slice Ao114 t111.length co114)) (fun _ hk => hk.2) (.slice Ao115 t114.length co115)) (fun _ h_ => h_.1))))) (Kd.R_lt (by (with_reducible repeat (first | apply Kd.R_alloc | apply Kd.R_drewN | apply Kd.R_drew)); exact (Kd.R_mono (Kd.R_far (p := ⟨gb118, 2, none⟩) (Kd.R_far (p := ⟨gb118, 1, none⟩) (Kd.R_far (p := ⟨gb118, 0, none⟩) (Kd.R_types HO109.out BK118.out (by decide)) (fun _ hk => hk.2) (.int .i64 t110)) (fun _ hk => hk.2) (.slice Ao114 t111.length co114)) (fun _ hk => hk.2) (.slice Ao115 t114.length co115)) (fun _ h_ => h_.1))))) (Kd.R_lt (by (with_reducible repeat (first | apply Kd.R_alloc | apply Kd.R_drewN | apply Kd.R_drew)); exact (Kd.R_mono (Kd.R_far (p := ⟨gb118, 2, none⟩) (Kd.R_far (p := ⟨gb118, 1, none⟩) (Kd.R_far (p := ⟨gb118, 0, none⟩) (Kd.R_types HO113.out BK118.out (by decide)) (fun _ hk => hk.2) (.int .i64 t110)) (fun _ hk => hk.2) (.slice Ao114 t111.length co114)) (fun _ hk => hk.2) (.slice Ao115 t114.length co115)) (fun _ h_ => h_.1))))) (Kd.R_lt (by (with_reducible repeat (first | apply Kd.R_alloc | apply Kd.R_drewN | apply Kd.R_drew)); exact (Kd.R_mono (Kd.R_far (p := ⟨gb118, 2, none⟩) (Kd.R_far (p := ⟨gb118, 1, none⟩) (Kd.R_far (p := ⟨gb118, 0, none⟩) (Kd.R_types HO116.out BK118.out (by decide)) (fun _ hk => hk.2) (.int .i64 t110)) (fun _ hk => hk.2) (.slice Ao114 t111.length co114)) (fun _ hk => hk.2) (.slice Ao115 t114.length co115)) (fun _ h_ => h_.1))))) (below_size zb)); replace HO106 := zM (Kd.R_mono (Kd.R_told (Kd.R_told (Kd.R_old (by (with_reducible repeat (first | apply Kd.R_alloc | apply Kd.R_drewN | apply Kd.R_drew)); exact (Kd.R_mono (Kd.R_far (p := ⟨gb118, 2, none⟩) (Kd.R_far (p := ⟨gb118, 1, none⟩) (Kd.R_far (p := ⟨gb118, 0, none⟩) (Kd.R_types HO106.out BK118.out (by decide)) (fun _ hk => hk.2) (.int .i64 t110)) (fun _ hk => hk.2) (.slice Ao114 t111.length co114)) (fun _ hk => hk.2) (.slice Ao115 t114.length co115)) (fun _ h_ => h_.1))) hb) (Kd.R_base ho0)) (Kd.R_base ho1)) (fun _ h_ => h_.1)); replace HO109 := zM (Kd.R_mono (Kd.R_told (Kd.R_told (Kd.R_old (by (with_reducible repeat (first | apply Kd.R_alloc | apply Kd.R_drewN | apply Kd.R_drew)); exact (Kd.R_mono (Kd.R_far (p := ⟨gb118, 2, none⟩) (Kd.R_far (p := ⟨gb118, 1, none⟩) (Kd.R_far (p := ⟨gb118, 0, none⟩) (Kd.R_types HO109.out BK118.out (by decide)) (fun _ hk => hk.2) (.int .i64 t110)) (fun _ hk => hk.2) (.slice Ao114 t111.length co114)) (fun _ hk => hk.2) (.slice Ao115 t114.length co115)) (fun _ h_ => h_.1))) hb) (Kd.R_base ho0)) (Kd.R_base ho1)) (fun _ h_ => h_.1)); replace HO113 := zM (Kd.R_mono (Kd.R_told (Kd.R_told (Kd.R_old (by (with_reducible repeat (first | apply Kd.R_alloc | apply Kd.R_drewN | apply Kd.R_drew)); exact (Kd.R_mono (Kd.R_far (p := ⟨gb118, 2, none⟩) (Kd.R_far (p := ⟨gb118, 1, none⟩) (Kd.R_far (p := ⟨gb118, 0, none⟩) (Kd.R_types HO113.out BK118.out (by decide)) (fun _ hk => hk.2) (.int .i64 t110)) (fun _ hk => hk.2) (.slice Ao114 t111.length co114)) (fun _ hk => hk.2) (.slice Ao115 t114.length co115)) (fun _ h_ => h_.1))) hb) (Kd.R_base ho0)) (Kd.R_base ho1)) (fun _ h_ => h_.1)); replace HO116 := zM (Kd.R_mono (Kd.R_told (Kd.R_told (Kd.R_old (by (with_reducible repeat (first | apply Kd.R_alloc | apply Kd.R_drewN | apply Kd.R_drew)); exact (Kd.R_mono (Kd.R_far (p := ⟨gb118, 2, none⟩) (Kd.R_far (p := ⟨gb118, 1, none⟩) (Kd.R_far (p := ⟨gb118, 0, none⟩) (Kd.R_types HO116.out BK118.out (by decide)) (fun _ hk => hk.2) (.int .i64 t110)) (fun _ hk => hk.2) (.slice Ao114 t111.length co114)) (fun _ hk => hk.2) (.slice Ao115 t114.length co115)) (fun _ h_ => h_.1))) hb) (Kd.R_base ho0)) (Kd.R_base ho1)) (fun _ h_ => h_.1)); replace BK101 := zM (blk_below (g := gb101) (o := .cells #[.int .i64 a0_0, .slice A0_1 l0_1.length c0_1, .slice A0_2 l0_2.length c0_2] 25 (0, 0)) (by refine zk ?_; refine blk_far ?_ NB101_118.out _; refine zk ?_; refine blk_far ?_ NB101_118.out _; refine zk ?_; refine blk_far ?_ NB101_118.out _; refine zk ?_; exact BK101.out) hb); replace BK118 := zM (blk_below (g := gb118) (o := .cells #[.int .i64 t110, .slice Ao114 t111.length co114, .slice Ao115 t114.length co115] 25 (0, 0)) (by refine zk ?_; refine blk_put (cs := #[.int .i64 t110, .slice Ao114 t111.length co114, .slice none 0 0]) ?_ 2 _ rfl; refine zk ?_; refine blk_put (cs := #[.int .i64 t110, .slice none 0 0, .slice none 0 0]) ?_ 1 _ rfl; refine zk ?_; refine blk_put (cs := #[.int .i64 0, .slice none 0 0, .slice none 0 0]) ?_ 0 _ rfl; refine zk ?_; exact BK118.out) hb); replace HB := zM (below_step zb hb); (try clear hb); (try clear ho0); (try clear ho1); obtain ⟨Ao118, co118, eo118⟩ := Kd.R_slice HO122.out; subst eo118; obtain ⟨Ao119, co119, eo119⟩ := Kd.R_slice HO125.out; subst eo119) | ((with_reducible refine gate_callee (f := 11) rfl ?_); refine goesL_ (some 27) rfl rfl Tryd.func11 (by kernel_rfl) rfl #[.agg #[.int .i64 t119, .slice Ao118 t120.length co118, .slice Ao119 t123.length co119]] rfl zl ?_; (with_reducible refine (rule_Check.calls k t119 _ _ t120 _ _ t123 t126 _ ?side1 ?side2 ?side3 ?side4 A103.out).mono ?_); (case side1 => exact Kd.C_below (Kd.R_reads' HO122.out).2.2 zg); (case side2 => exact (Kd.R_reads' HO122.out).2.1); (case side3 => exact Kd.C_below (Kd.R_reads' HO125.out).2.2 zg); (case side4 => exact (Kd.R_reads' HO125.out).2.1); rintro e w120 ⟨rfl, hb⟩; refine ⟨_, rfl, ?_⟩; replace HO106 := zM (Kd.R_below (zr HO106.out) hb); replace HO109 := zM (Kd.R_below (zr HO109.out) hb); replace HO113 := zM (Kd.R_below (zr HO113.out) hb); replace HO116 := zM (Kd.R_below (zr HO116.out) hb); replace HO122 := zM (Kd.R_below (zr HO122.out) hb); replace HO125 := zM (Kd.R_below (zr HO125.out) hb); replace BK101 := zM (blk_below (zk BK101.out) hb); replace BK118 := zM (blk_below (zk BK118.out) hb); replace HB := zM (below_step zb hb); (try clear hb)))
   go_ret
   exact ⟨zw, zb⟩
 ·
  replace c4 := zI c4
  subst c4
  have H1 : (some false) = some r := by rw [if_neg (show ¬ (false = true) by decide)] at H; exact H
  exact absurd ((zS H1).trans HRT.out) (by decide)

end Go.Proofs.YtpnamhplhdaphaaDoor.P

-- ==== Open
/- What came in and can be read as data, read as the print's kinds: for each kind one fact, put together by the types' shapes. -/
set_option linter.unusedVariables false
namespace Go.Proofs.YtpnamhplhdaphaaDoor.Open
open Go.RowKit Go.Proofs.YtpnamhplhdaphaaDoorW.PrintWords Go.Proofs.YtpnamhplhdaphaaDoor.Rows

structure Opens {α : Type} (P : Program) (t : TypeId) (d : Kd α) (Sz : α → Prop) (Bk : α → Nat) : Prop where
 cells : P.cellsOf t = d.sz
 go : ∀ {H : Type} {enc : TypeId × Value → H} {w : World} {base : Nat} {spare : Nat → Bool} {held : Bool} {n : Nat} {cs : List Value} {x : DataW H × List MemPlace},
  DataW.trod enc P w base spare held n t cs = some x → (∀ m ∈ x.1.weights P t, m ≤ reachBytes) → ∃ v : α, d.K w v cs ∧ Sz v ∧ Bk v ≤ uptoBulk x.1

theorem opens_int {P : Program} {t : TypeId} {k : IntKind} (ht : P.underlying t = some (.int k)) (hc : P.cellsOf t = 1) : Opens P t (Kd.int k) (fun a => (Lit.int k a).wf = true) (fun _ => 1) := by
 refine ⟨hc, fun h _ => ?_⟩
 obtain ⟨a, rfl, rfl, hw⟩ := DataW.trod_int ht h
 exact ⟨a, rfl, hw, by simp [uptoBulk]⟩

theorem opens_string {P : Program} {t : TypeId} (ht : P.underlying t = some .string) (hc : P.cellsOf t = 1) : Opens P t Kd.string (fun s => s.size ≤ 140737488351232) (fun s => s.size + 1) := by
 refine ⟨hc, fun h hw => ?_⟩
 obtain ⟨a, rfl, rfl, hs⟩ := DataW.trod_string ht h
 have hl : a.data.toList.length = a.size := data_length a
 refine ⟨a, rfl, ?_, ?_⟩
 ·
  have := hw a.data.toList.length (by simp [DataW.weights])
  rw [hl] at this
  exact this
 ·
  simp only [uptoBulk]
  omega

theorem mem_weightsAll {H : Type} {P : Program} {e : TypeId} {d : DataW H} : ∀ {l : List (DataW H)}, d ∈ l → ∀ {m : Nat}, m ∈ d.weights P e → m ∈ DataW.weightsAll P e l
 | a :: l, h, m, hm => by
  simp only [DataW.weightsAll, List.mem_append]
  rcases List.mem_cons.1 h with rfl | h
  ·
   exact .inl hm
  ·
   exact .inr (mem_weightsAll h hm)
 | [], h, _, _ => by cases h

def bulkAll {α : Type} (Bk : α → Nat) (l : List α) : Nat := (l.map Bk).sum

theorem bulk_all_le {H α : Type} (Bk : α → Nat) : ∀ (xs : List α) (ds : List (DataW H)), xs.length = ds.length → (∀ (i : Nat) x d, xs[i]? = some x → ds[i]? = some d → Bk x ≤ uptoBulk d) → bulkAll Bk xs ≤ uptoBulkAll ds
 | [], [], _, _ => by simp [bulkAll, uptoBulkAll]
 | x :: xs, d :: ds, hl, h => by
  have h0 := h 0 x d rfl rfl
  have h1 := bulk_all_le Bk xs ds (by simpa using hl) (fun i x' d' hx hd => h (i + 1) x' d' (by simpa using hx) (by simpa using hd))
  simp only [bulkAll, uptoBulkAll, List.map_cons, List.sum_cons] at h1 ⊢
  omega
 | [], _ :: _, hl, _ => by simp at hl
 | _ :: _, [], hl, _ => by simp at hl

theorem opens_slice {α : Type} {P : Program} {t e : TypeId} {d : Kd α} {Sz : α → Prop} {Bk : α → Nat} {b : Nat} (ht : P.underlying t = some (.slice e)) (hc : P.cellsOf t = 1) (hb : P.bytesOf e = b) (ho : Opens P e d Sz Bk) :
 Opens P t (Kd.slice e d) (fun l => l.length * b ≤ 140737488351232 ∧ ∀ x ∈ l, Sz x) (fun l => bulkAll Bk l + 1) := by
 refine ⟨hc, ?_⟩
 intro H enc w base spare held n cs x h hw
 rcases Go.Deep.open_slice ht h with ⟨rfl, rfl⟩ | ⟨a, len, cap, m, n', D, Pl, rfl, _, hl, hm, hmm, rfl, hx⟩
 ·
  exact ⟨[], ⟨none, 0, rfl, Nat.le_refl _, Kd.C_nil d w⟩, ⟨by simp, by simp⟩, by simp [bulkAll, uptoBulk]⟩
 ·
  have hlm : len ≤ m := by rw [hmm]; split <;> omega
  have hel : ∀ i, i < len → ∃ v : α, (∃ cs', w.cells? base (a.add (i * P.cellsOf e)) (P.cellsOf e) = some cs' ∧ d.K w v cs') ∧ Sz v ∧ Bk v ≤ uptoBulk (D i) := by
   intro i hi
   obtain ⟨cs', h1, h2⟩ := hx i (by omega)
   obtain ⟨v, hv, hs, hbk⟩ := ho.go h2 (fun m' hm' => hw m' (by
    simp only [DataW.weights, ht, List.mem_cons, List.mem_append]
    exact .inr (.inl (mem_weightsAll (List.mem_map.2 ⟨i, List.mem_range.2 hi, rfl⟩) hm'))))
   exact ⟨v, ⟨cs', h1, hv⟩, hs, hbk⟩
  have hex : ∃ l : List α, l.length = len ∧ ∀ (i : Nat) v, l[i]? = some v → (∃ cs', w.cells? base (a.add (i * P.cellsOf e)) (P.cellsOf e) = some cs' ∧ d.K w v cs') ∧ Sz v ∧ Bk v ≤ uptoBulk (D i) := by
   clear hx hw h hmm hlm hl hm
   induction len with
   | zero => exact ⟨[], rfl, fun i v hv => by simp at hv⟩
   | succ k ih =>
    obtain ⟨l, h1, h2⟩ := ih (fun i hi => hel i (by omega))
    obtain ⟨v, hv⟩ := hel k (by omega)
    refine ⟨l ++ [v], by simp [h1], fun i u hu => ?_⟩
    by_cases hi : i < l.length
    ·
     rw [List.getElem?_append_left hi] at hu
     exact h2 i u hu
    ·
     have hik : i = l.length := by
      have := (List.getElem?_eq_some_iff.1 hu).1
      simp at this
      omega
     subst hik
     simp at hu
     subst hu
     rw [h1]
     exact hv
  obtain ⟨l, hll, hlv⟩ := hex
  subst hll
  refine ⟨l, ⟨some a, cap, rfl, hl, rfl, ?_, fun hp => ⟨a, rfl, fun j v hj => ?_⟩⟩, ⟨?_, ?_⟩, ?_⟩
  ·
   have : maxLen ≤ 9223372036854775807 := by decide
   omega
  ·
   obtain ⟨⟨cs', h1, h2⟩, _, _⟩ := hlv j v hj
   refine ⟨cs', d.K_len h2, h2, fun i u hu => ?_⟩
   obtain ⟨_, hlen, hcell⟩ := World.cells?_some h1
   have hi : i < cs'.length := (List.getElem?_eq_some_iff.1 hu).1
   have hsz := d.K_len h2
   rw [ho.cells] at hcell hlen
   have := hcell i (by omega)
   rw [hu] at this
   rw [← this, add_add]
  ·
   have := hw ((((List.range l.length).map D).length + ((List.range (m - l.length)).map fun j => D (l.length + j)).length) * P.bytesOf e) (by simp [DataW.weights, ht])
   simp only [List.length_map, List.length_range] at this
   rw [hb] at this
   have h3 : reachBytes = 140737488351232 := by decide
   rw [h3] at this
   have h4 : l.length * b ≤ (l.length + (m - l.length)) * b := Nat.mul_le_mul_right _ (by omega)
   omega
  ·
   intro v hv
   obtain ⟨i, hi, rfl⟩ := List.mem_iff_getElem.1 hv
   exact (hlv i _ (List.getElem?_eq_getElem hi)).2.1
  ·
   have := bulk_all_le Bk l ((List.range l.length).map D) (by simp) (fun i v dd hv hd => by
    have hi : i < l.length := (List.getElem?_eq_some_iff.1 hv).1
    simp [hi] at hd
    rw [← hd]
    exact (hlv i v hv).2.2)
   simp only [uptoBulk]
   omega

/-! Structs: the fields, one behind the other. -/
def offs (P : Program) : List TypeId → Nat → Nat
 | [], _ => 0
 | _, 0 => 0
 | t :: ts, i + 1 => P.cellsOf t + offs P ts i

structure OpensF {α : Type} (P : Program) (ts : List TypeId) (d : Kd α) (Sz : α → Prop) (Bk : α → Nat) : Prop where
 cells : (ts.map P.cellsOf).sum = d.sz
 go : ∀ {H : Type} {enc : TypeId × Value → H} {w : World} {base : Nat} {spare : Nat → Bool} {held : Bool} {n : Nat} {cs : List Value} {xs : List (DataW H × List MemPlace)},
  cs.length = d.sz → xs.length = ts.length → (∀ (i : Nat) t, ts[i]? = some t → DataW.trod enc P w base spare held n t ((cs.drop (offs P ts i)).take (P.cellsOf t)) = xs[i]?) →
  (∀ m ∈ DataW.weightsEach P ts (xs.map (·.1)), m ≤ reachBytes) → ∃ v : α, d.K w v cs ∧ Sz v ∧ Bk v ≤ uptoBulkAll (xs.map (·.1))

theorem opensF_one {α : Type} {P : Program} {t : TypeId} {d : Kd α} {Sz : α → Prop} {Bk : α → Nat} (ho : Opens P t d Sz Bk) : OpensF P [t] d Sz Bk := by
 refine ⟨by simp [ho.cells], fun {H enc w base spare held n cs xs} hl hx h hw => ?_⟩
 match xs, hx with
 | [y], _ =>
  have h0 := h 0 t rfl
  rw [show offs P [t] 0 = 0 from rfl, List.drop_zero, List.take_of_length_le (by rw [ho.cells]; omega)] at h0
  obtain ⟨v, h1, h2, h3⟩ := ho.go h0 (fun m hm => hw m (by simp [DataW.weightsEach, hm]))
  exact ⟨v, h1, h2, by simpa [uptoBulkAll] using h3⟩

theorem opensF_cons {α β : Type} {P : Program} {t : TypeId} {ts : List TypeId} {d : Kd α} {ds : Kd β} {Sz : α → Prop} {Bk : α → Nat} {Szs : β → Prop} {Bks : β → Nat} (ho : Opens P t d Sz Bk) (hs : OpensF P ts ds Szs Bks) :
 OpensF P (t :: ts) (Kd.pair d ds) (fun x => Sz x.1 ∧ Szs x.2) (fun x => Bk x.1 + Bks x.2) := by
 refine ⟨by simp [ho.cells, hs.cells, Kd.pair], fun {H enc w base spare held n cs xs} hl hx h hw => ?_⟩
 match xs, hx with
 | y :: ys, hx =>
  have hl' : cs.length = d.sz + ds.sz := hl
  have h0 := h 0 t rfl
  rw [show offs P (t :: ts) 0 = 0 from rfl, List.drop_zero, ho.cells] at h0
  obtain ⟨v, h1, h2, h3⟩ := ho.go h0 (fun m hm => hw m (by simp [DataW.weightsEach, hm]))
  obtain ⟨u, g1, g2, g3⟩ := hs.go (cs := cs.drop d.sz) (xs := ys) (enc := enc) (w := w) (base := base) (spare := spare) (held := held) (n := n) (by rw [List.length_drop]; omega) (by simpa using hx) (fun i t' ht' => by
   have := h (i + 1) t' (by simpa using ht')
   rw [show offs P (t :: ts) (i + 1) = P.cellsOf t + offs P ts i from rfl, ho.cells] at this
   rw [List.drop_drop]
   simpa using this) (fun m hm => hw m (by simp only [List.map_cons, DataW.weightsEach, List.mem_append]; exact .inr hm))
  refine ⟨(v, u), ⟨cs.take d.sz, cs.drop d.sz, (List.take_append_drop _ _).symm, h1, g1⟩, ⟨h2, g2⟩, ?_⟩
  simp only [List.map_cons, uptoBulkAll]
  omega

theorem opens_struct {α β : Type} {P : Program} {t : TypeId} {fs : Array Field} {ts : List TypeId} {d : Kd α} {f : β → α} {Sz : α → Prop} {Bk : α → Nat} (ht : P.underlying t = some (.struct fs)) (hts : fs.toList.map (·.type) = ts)
 (hoff : ∀ (i : Nat) fl, fs[i]? = some fl → fl.offset = offs P ts i) (hc : P.cellsOf t = d.sz) (ho : OpensF P ts d Sz Bk) (g : α → β) (hg : ∀ v, f (g v) = v) :
 Opens P t (Kd.iso d f) (fun x => Sz (f x)) (fun x => Bk (f x) + 1) := by
 refine ⟨hc, fun {H enc w base spare held n cs x} h hw => ?_⟩
 obtain ⟨xs, n', _, rfl, hl, hlen, hf⟩ := DataW.trod_struct ht h
 have hlt : ts.length = fs.size := by rw [← hts]; simp
 obtain ⟨v, h1, h2, h3⟩ := ho.go (cs := cs) (xs := xs) (enc := enc) (w := w) (base := base) (spare := spare) (held := held) (n := n') (by rw [hl, hc]) (by omega) (fun i t' ht' => by
  have hi : i < fs.size := by rw [← hlt]; exact (List.getElem?_eq_some_iff.1 ht').1
  have hfi : fs[i]? = some fs[i] := Array.getElem?_eq_getElem hi
  have := hf i fs[i] hfi
  rw [hoff i _ hfi] at this
  have he : fs[i].type = t' := by
   rw [← hts, List.getElem?_map, Array.getElem?_toList, hfi] at ht'
   simpa using ht'
  rw [he] at this
  exact this) (fun m hm => hw m (by simp only [DataW.weights, ht, hts]; exact hm))
 exact ⟨g v, by show d.K w (f (g v)) cs; rw [hg]; exact h1, by rw [hg]; exact h2, by rw [hg]; simp only [uptoBulk]; omega⟩

end Go.Proofs.YtpnamhplhdaphaaDoor.Open

-- ==== PO
set_option linter.unusedVariables false
namespace Go.Proofs.YtpnamhplhdaphaaDoor.P
open Go.RowKit Go.Proofs.YtpnamhplhdaphaaDoorW.PrintWords Go.Proofs.YtpnamhplhdaphaaDoor.Open
def sz3 (a : Int) : Prop := (Lit.int .i64 a).wf = true
def bk3 (_ : Int) : Nat := 1
theorem op3 : Opens Tryd.prog 3 (Kd.int .i64) sz3 bk3 := opens_int Tryd.underlying3 (by kernel_rfl)
def sz9 (s : ByteArray) : Prop := s.size ≤ 140737488351232
def bk9 (s : ByteArray) : Nat := s.size + 1
theorem op9 : Opens Tryd.prog 9 Kd.string sz9 bk9 := opens_string Tryd.underlying9 (by kernel_rfl)
def sz33 (x : S33) : Prop := sz9 x.f0 ∧ sz3 x.f1
def bk33 (x : S33) : Nat := (bk9 x.f0 + bk3 x.f1) + 1
theorem op33 : Opens Tryd.prog 33 k33 sz33 bk33 := opens_struct (P := Tryd.prog) (ts := [9, 3]) (f := fun x : S33 => (x.f0, x.f1)) Tryd.underlying33 (by kernel_rfl) (fun i fl h => by
 match i, h with
 | 0, h => obtain rfl := Option.some.inj h; show (0 : Nat) = offs Tryd.prog [9, 3] 0; kernel_rfl
 | 1, h => obtain rfl := Option.some.inj h; show (1 : Nat) = offs Tryd.prog [9, 3] 1; kernel_rfl
 | i + 2, h => simp at h) (by kernel_rfl) (opensF_cons op9 (opensF_one op3)) (fun x => ⟨x.1, x.2⟩) (fun _ => rfl)
def sz23 (l : List (S33)) : Prop := l.length * 24 ≤ 140737488351232 ∧ ∀ x ∈ l, sz33 x
def bk23 (l : List (S33)) : Nat := bulkAll bk33 l + 1
theorem op23 : Opens Tryd.prog 23 (Kd.slice 33 k33) sz23 bk23 := opens_slice Tryd.underlying23 (by kernel_rfl) (by kernel_rfl) op33
def sz25 (x : S25) : Prop := sz3 x.f0 ∧ sz23 x.f1 ∧ sz23 x.f2
def bk25 (x : S25) : Nat := (bk3 x.f0 + (bk23 x.f1 + bk23 x.f2)) + 1
theorem op25 : Opens Tryd.prog 25 k25 sz25 bk25 := opens_struct (P := Tryd.prog) (ts := [3, 23, 23]) (f := fun x : S25 => (x.f0, x.f1, x.f2)) Tryd.underlying25 (by kernel_rfl) (fun i fl h => by
 match i, h with
 | 0, h => obtain rfl := Option.some.inj h; show (0 : Nat) = offs Tryd.prog [3, 23, 23] 0; kernel_rfl
 | 1, h => obtain rfl := Option.some.inj h; show (1 : Nat) = offs Tryd.prog [3, 23, 23] 1; kernel_rfl
 | 2, h => obtain rfl := Option.some.inj h; show (2 : Nat) = offs Tryd.prog [3, 23, 23] 2; kernel_rfl
 | i + 3, h => simp at h) (by kernel_rfl) (opensF_cons op3 (opensF_cons op23 (opensF_one op23))) (fun x => ⟨x.1, x.2.1, x.2.2⟩) (fun _ => rfl)
end Go.Proofs.YtpnamhplhdaphaaDoor.P

-- ==== PS8
namespace Go.Proofs.YtpnamhplhdaphaaDoor.P
open Go.RowKit Go.Proofs.YtpnamhplhdaphaaDoorW.PrintWords
def aumbrylaw06_RulePlain.Pure : Prop := ∀ (x0 : S25) (l1 : List (S33)), sz25 x0 → sz23 l1 → ∃ k, aumbrylaw06_RulePlain.f k (x0).f0 (x0).f1 (x0).f2 l1 = some true
end Go.Proofs.YtpnamhplhdaphaaDoor.P

-- ==== PF61
namespace Go.Proofs.YtpnamhplhdaphaaDoor.P
open Go.RowKit Go.Proofs.YtpnamhplhdaphaaDoorW.PrintWords Go.Proofs.YtpnamhplhdaphaaDoorW.PrintLast Go.Proofs.YtpnamhplhdaphaaDoorW.PrintMore
attribute [local go_sem] max2_int min2_int max_two min_two max_three min_three max_four min_four   -- for this text's walks alone
set_option linter.unusedVariables false
set_option linter.unusedSimpArgs false

/-! ### aumbryref03_Kind: function 61 -/
mutual
def aumbryref03_Kind.j0 : Nat → ByteArray → Bool → Option (Int)
 | 0, _, _ => none
 | k + 1, x0, x15 => if x15 = true then (some 0) else (aumbryref03_Kind.l0 k x0 true true 0)
def aumbryref03_Kind.l0 : Nat → ByteArray → Bool → Bool → Int → Option (Int)
 | 0, _, _, _, _ => none
 | k + 1, x0, x3, x4, x5 => if x5 < (x0.size : Int) then (if 0 ≤ x5 then (if (bt x0 x5) ≥ 48 then (if (bt x0 x5) ≤ 57 then (if x3 = true then (if (bt x0 x5) ≥ 97 then (if (bt x0 x5) ≤ 122 then (if x4 = true then (if (bt x0 x5) ≥ 65 then (if (bt x0 x5) ≤ 90 then (aumbryref03_Kind.l0 k x0 true true (wrap64 (x5 + 1))) else (aumbryref03_Kind.l0 k x0 true (decide (x5 > 0)) (wrap64 (x5 + 1)))) else (aumbryref03_Kind.l0 k x0 true (decide (x5 > 0)) (wrap64 (x5 + 1)))) else (aumbryref03_Kind.l0 k x0 true false (wrap64 (x5 + 1)))) else (if x4 = true then (if (bt x0 x5) ≥ 65 then (if (bt x0 x5) ≤ 90 then (aumbryref03_Kind.l0 k x0 (decide (x5 > 0)) true (wrap64 (x5 + 1))) else (aumbryref03_Kind.l0 k x0 (decide (x5 > 0)) (decide (x5 > 0)) (wrap64 (x5 + 1)))) else (aumbryref03_Kind.l0 k x0 (decide (x5 > 0)) (decide (x5 > 0)) (wrap64 (x5 + 1)))) else (aumbryref03_Kind.l0 k x0 (decide (x5 > 0)) false (wrap64 (x5 + 1))))) else (if x4 = true then (if (bt x0 x5) ≥ 65 then (if (bt x0 x5) ≤ 90 then (aumbryref03_Kind.l0 k x0 (decide (x5 > 0)) true (wrap64 (x5 + 1))) else (aumbryref03_Kind.l0 k x0 (decide (x5 > 0)) (decide (x5 > 0)) (wrap64 (x5 + 1)))) else (aumbryref03_Kind.l0 k x0 (decide (x5 > 0)) (decide (x5 > 0)) (wrap64 (x5 + 1)))) else (aumbryref03_Kind.l0 k x0 (decide (x5 > 0)) false (wrap64 (x5 + 1))))) else (if x4 = true then (if (bt x0 x5) ≥ 65 then (if (bt x0 x5) ≤ 90 then (aumbryref03_Kind.l0 k x0 false true (wrap64 (x5 + 1))) else (aumbryref03_Kind.l0 k x0 false (decide (x5 > 0)) (wrap64 (x5 + 1)))) else (aumbryref03_Kind.l0 k x0 false (decide (x5 > 0)) (wrap64 (x5 + 1)))) else (aumbryref03_Kind.l0 k x0 false false (wrap64 (x5 + 1))))) else (if x3 = true then (if (bt x0 x5) ≥ 97 then (if (bt x0 x5) ≤ 122 then (if x4 = true then (if (bt x0 x5) ≥ 65 then (if (bt x0 x5) ≤ 90 then (aumbryref03_Kind.l0 k x0 true true (wrap64 (x5 + 1))) else (aumbryref03_Kind.l0 k x0 true false (wrap64 (x5 + 1)))) else (aumbryref03_Kind.l0 k x0 true false (wrap64 (x5 + 1)))) else (aumbryref03_Kind.l0 k x0 true false (wrap64 (x5 + 1)))) else (if x4 = true then (if (bt x0 x5) ≥ 65 then (if (bt x0 x5) ≤ 90 then (aumbryref03_Kind.l0 k x0 false true (wrap64 (x5 + 1))) else (aumbryref03_Kind.l0 k x0 false false (wrap64 (x5 + 1)))) else (aumbryref03_Kind.l0 k x0 false false (wrap64 (x5 + 1)))) else (aumbryref03_Kind.l0 k x0 false false (wrap64 (x5 + 1))))) else (if x4 = true then (if (bt x0 x5) ≥ 65 then (if (bt x0 x5) ≤ 90 then (aumbryref03_Kind.l0 k x0 false true (wrap64 (x5 + 1))) else (aumbryref03_Kind.l0 k x0 false false (wrap64 (x5 + 1)))) else (aumbryref03_Kind.l0 k x0 false false (wrap64 (x5 + 1)))) else (aumbryref03_Kind.l0 k x0 false false (wrap64 (x5 + 1))))) else (if x4 = true then (if (bt x0 x5) ≥ 65 then (if (bt x0 x5) ≤ 90 then (aumbryref03_Kind.l0 k x0 false true (wrap64 (x5 + 1))) else (aumbryref03_Kind.l0 k x0 false false (wrap64 (x5 + 1)))) else (aumbryref03_Kind.l0 k x0 false false (wrap64 (x5 + 1)))) else (aumbryref03_Kind.l0 k x0 false false (wrap64 (x5 + 1)))))) else (if x3 = true then (if (bt x0 x5) ≥ 97 then (if (bt x0 x5) ≤ 122 then (if x4 = true then (if (bt x0 x5) ≥ 65 then (if (bt x0 x5) ≤ 90 then (aumbryref03_Kind.l0 k x0 true true (wrap64 (x5 + 1))) else (aumbryref03_Kind.l0 k x0 true false (wrap64 (x5 + 1)))) else (aumbryref03_Kind.l0 k x0 true false (wrap64 (x5 + 1)))) else (aumbryref03_Kind.l0 k x0 true false (wrap64 (x5 + 1)))) else (if x4 = true then (if (bt x0 x5) ≥ 65 then (if (bt x0 x5) ≤ 90 then (aumbryref03_Kind.l0 k x0 false true (wrap64 (x5 + 1))) else (aumbryref03_Kind.l0 k x0 false false (wrap64 (x5 + 1)))) else (aumbryref03_Kind.l0 k x0 false false (wrap64 (x5 + 1)))) else (aumbryref03_Kind.l0 k x0 false false (wrap64 (x5 + 1))))) else (if x4 = true then (if (bt x0 x5) ≥ 65 then (if (bt x0 x5) ≤ 90 then (aumbryref03_Kind.l0 k x0 false true (wrap64 (x5 + 1))) else (aumbryref03_Kind.l0 k x0 false false (wrap64 (x5 + 1)))) else (aumbryref03_Kind.l0 k x0 false false (wrap64 (x5 + 1)))) else (aumbryref03_Kind.l0 k x0 false false (wrap64 (x5 + 1))))) else (if x4 = true then (if (bt x0 x5) ≥ 65 then (if (bt x0 x5) ≤ 90 then (aumbryref03_Kind.l0 k x0 false true (wrap64 (x5 + 1))) else (aumbryref03_Kind.l0 k x0 false false (wrap64 (x5 + 1)))) else (aumbryref03_Kind.l0 k x0 false false (wrap64 (x5 + 1)))) else (aumbryref03_Kind.l0 k x0 false false (wrap64 (x5 + 1)))))) else (none)) else (if x3 = true then (some 1) else (if x4 = true then (some 2) else (some 0)))
end
def aumbryref03_Kind.f (k : Nat) (a0 : ByteArray) : Option (Int) := if (a0.size : Int) < 1 then (aumbryref03_Kind.j0 k a0 true) else (aumbryref03_Kind.j0 k a0 (decide ((a0.size : Int) > 8)))
theorem aumbryref03_Kind.mono_l : ∀ k, (∀ y0 y1, LeO (aumbryref03_Kind.j0 k y0 y1) (aumbryref03_Kind.j0 (k + 1) y0 y1)) ∧ (∀ y0 y1 y2 y3, LeO (aumbryref03_Kind.l0 k y0 y1 y2 y3) (aumbryref03_Kind.l0 (k + 1) y0 y1 y2 y3))
 | 0 => ⟨fun _ _ r h => by simp [aumbryref03_Kind.j0] at h, fun _ _ _ _ r h => by simp [aumbryref03_Kind.l0] at h⟩
 | k + 1 => by
  obtain ⟨ih0, ih1⟩ := aumbryref03_Kind.mono_l k
  refine ⟨?_, ?_⟩
  ·
   intro y0 y1
   unfold aumbryref03_Kind.j0
   repeat' first
   | (with_reducible exact ih0 _ _)
   | (with_reducible exact ih1 _ _ _ _)
   | (with_reducible exact LeO.refl _)
   | (with_reducible exact LeO.none _)
   | (with_reducible refine LeO.ite ?_ ?_)
   | (with_reducible refine LeO.bind ?_ (fun _ => ?_))
  ·
   intro y0 y1 y2 y3
   unfold aumbryref03_Kind.l0
   repeat' first
   | (with_reducible exact ih0 _ _)
   | (with_reducible exact ih1 _ _ _ _)
   | (with_reducible exact LeO.refl _)
   | (with_reducible exact LeO.none _)
   | (with_reducible refine LeO.ite ?_ ?_)
   | (with_reducible refine LeO.bind ?_ (fun _ => ?_))
theorem aumbryref03_Kind.mono : ∀ a0 k, LeO (aumbryref03_Kind.f k a0) (aumbryref03_Kind.f (k + 1) a0) := by
 intro a0 k
 obtain ⟨ih0, ih1⟩ := aumbryref03_Kind.mono_l k
 unfold aumbryref03_Kind.f
 repeat' first
  | (with_reducible exact ih0 _ _)
  | (with_reducible exact ih1 _ _ _ _)
  | (with_reducible exact LeO.refl _)
  | (with_reducible exact LeO.none _)
  | (with_reducible refine LeO.ite ?_ ?_)
  | (with_reducible refine LeO.bind ?_ (fun _ => ?_))
theorem aumbryref03_Kind.calls (k : Nat) (a0 : ByteArray) (r : Int) (w : World) (h : aumbryref03_Kind.f k a0 = some r) :
 Calls Tryd.prog 61 #[.string a0] w fun e w' => e = .returned (.int .i64 r) ∧ Drawn0 w w' := by
 have H : (if (a0.size : Int) < 1 then (aumbryref03_Kind.j0 k a0 true) else (aumbryref03_Kind.j0 k a0 (decide ((a0.size : Int) > 8)))) = some r := h
 clear h
 have HC2 := zM H
 clear H
 go_enter Tryd.func61, Tryd.ntmps61
 go_upto_region 1 with (fail)
 go_cut [15] (fun v15 wc => ∃ (kq : Nat) (x15_1 : Bool), v15 = .bool x15_1 ∧ Aside0 (aumbryref03_Kind.j0 kq a0 x15_1 = some r) ∧ Aside0 (kq ≤ k) ∧ Drawn0 w wc)
 case first =>
  have H := HC2.out
  clear HC2
  by_cases c3 : (a0.size : Int) < 1
  ·
   rw [if_pos c3] at H
   have c3b0 : decide ((a0.size : Int) < 1) = true := zQ c3
   have c3b1 : decide (a0.size < 1) = true := zQ (by omega)
   clear c3
   (first | rw [c3b0] | (simp only [i64_w, i32_w]; rw [c3b0]) | skip)
   have H' := zM H
   clear H
   go_wp2
   go_meet
   case rel => exact ⟨_, (true), zy, H', ⟨by first | omega | exact Nat.le_refl _⟩, zd⟩
  ·
   rw [if_neg c3] at H
   have c3b0 : decide ((a0.size : Int) < 1) = false := zR c3
   have c3b1 : decide (a0.size < 1) = false := zR (by omega)
   clear c3
   (first | rw [c3b0] | (simp only [i64_w, i32_w]; rw [c3b0]) | skip)
   have H' := zM H
   clear H
   go_wp2
   go_meet
   case rel => exact ⟨_, (decide ((a0.size : Int) > 8)), zy, H', ⟨by first | omega | exact Nat.le_refl _⟩, zd⟩
 case rest =>
  clear HC2
  try clear p2
  try clear c3
  try clear c3b0
  try clear c3b1
  obtain ⟨kq, x15_1, rfl, HA, HJ1, ⟨mc1, rfl⟩⟩ := hcut
  cases kq with
  | zero => exact absurd HA.out (by simp [aumbryref03_Kind.j0])
  | succ kj1 =>
   have H := HA.out
   clear HA
   simp only [aumbryref03_Kind.j0] at H
   by_cases c4 : x15_1 = true
   ·
    subst c4
    rw [if_pos rfl] at H
    obtain rfl := zS H
    go_wp2
    go_ret
    exact ⟨zy, zd⟩
   ·
    replace c4 := zI c4
    subst c4
    rw [if_neg (show ¬ (false = true) by decide)] at H
    have H' := zM H
    clear H
    go_wp2
    go_loopg [3, 4, 5] kj1 (fun kq v3 v4 v5 w' => ∃ (x3_2 : Bool) (x4_2 : Bool) (x5_2 : Int), v3 = .bool x3_2 ∧ v4 = .bool x4_2 ∧ v5 = .int .i64 x5_2 ∧ Aside0 (aumbryref03_Kind.l0 kq a0 x3_2 x4_2 x5_2 = some r) ∧ Aside0 (kq ≤ kj1) ∧ Drawn0 w w')
    case atStart => exact ⟨(true), (true), (0), zy, zy, zy, H', ⟨Nat.le_refl _⟩, zd⟩
    case round =>
     clear H'
     try clear c1
     try clear p2
     try clear c3
     try clear c3b0
     try clear c3b1
     try clear c4
     try clear p2
     obtain ⟨x3_2, x4_2, x5_2, rfl, rfl, rfl, HA, HK2, ⟨m2, rfl⟩⟩ := hrel
     cases gk with
     | zero => exact absurd HA.out (by simp [aumbryref03_Kind.l0])
     | succ k2 =>
      have H := HA.out
      clear HA
      simp only [aumbryref03_Kind.l0] at H
      by_cases c5 : x5_2 < (a0.size : Int)
      ·
       rw [if_pos c5] at H
       have c5b0 : decide (x5_2 < (a0.size : Int)) = true := zQ c5
       clear c5
       by_cases c6 : 0 ≤ x5_2
       ·
        rw [if_pos c6] at H
        have c6b0 : decide (0 ≤ x5_2) = true := zQ c6
        clear c6
        by_cases c8 : (bt a0 x5_2) ≥ 48
        ·
         rw [if_pos c8] at H
         have c8b0 : decide (48 ≤ (bt a0 x5_2)) = true := zQ c8
         clear c8
         by_cases c9 : (bt a0 x5_2) ≤ 57
         ·
          rw [if_pos c9] at H
          have c9b0 : decide ((bt a0 x5_2) ≤ 57) = true := zQ c9
          clear c9
          by_cases c10 : x3_2 = true
          ·
           subst c10
           rw [if_pos rfl] at H
           by_cases c11 : (bt a0 x5_2) ≥ 97
           ·
            rw [if_pos c11] at H
            have c11b0 : decide (97 ≤ (bt a0 x5_2)) = true := zQ c11
            clear c11
            by_cases c12 : (bt a0 x5_2) ≤ 122
            ·
             rw [if_pos c12] at H
             have c12b0 : decide ((bt a0 x5_2) ≤ 122) = true := zQ c12
             clear c12
             by_cases c13 : x4_2 = true
             ·
              subst c13
              rw [if_pos rfl] at H
              by_cases c14 : (bt a0 x5_2) ≥ 65
              ·
               rw [if_pos c14] at H
               have c14b0 : decide (65 ≤ (bt a0 x5_2)) = true := zQ c14
               clear c14
               by_cases c15 : (bt a0 x5_2) ≤ 90
               ·
                rw [if_pos c15] at H
                have c15b0 : decide ((bt a0 x5_2) ≤ 90) = true := zQ c15
                clear c15
                have H' := zM H
                clear H
                have p7 : 0 ≤ (x5_2 : Int) := zT zv
                have q7 : x5_2 < (a0.size : Int) := zT zv
                have hx7 := bt_at a0 x5_2
                replace p7 := eq_true p7
                replace q7 := eq_true q7
                go_wp2
                go_roundg k2
                case measure => have := HJ1.out; have := HK2.out; omega
                case rel => exact ⟨(true), (true), (wrap64 (x5_2 + 1)), zy, zy, zy, H', ⟨by have := HJ1.out; have := HK2.out; omega⟩, zd⟩
               ·
                rw [if_neg c15] at H
                have c15b0 : decide ((bt a0 x5_2) ≤ 90) = false := zR c15
                clear c15
                have H' := zM H
                clear H
                have p7 : 0 ≤ (x5_2 : Int) := zT zv
                have q7 : x5_2 < (a0.size : Int) := zT zv
                have hx7 := bt_at a0 x5_2
                replace p7 := eq_true p7
                replace q7 := eq_true q7
                go_wp2
                go_roundg k2
                case measure => have := HJ1.out; have := HK2.out; omega
                case rel => exact ⟨(true), (decide (x5_2 > 0)), (wrap64 (x5_2 + 1)), zy, zy, zy, H', ⟨by have := HJ1.out; have := HK2.out; omega⟩, zd⟩
              ·
               rw [if_neg c14] at H
               have c14b0 : decide (65 ≤ (bt a0 x5_2)) = false := zR c14
               clear c14
               have H' := zM H
               clear H
               have p7 : 0 ≤ (x5_2 : Int) := zT zv
               have q7 : x5_2 < (a0.size : Int) := zT zv
               have hx7 := bt_at a0 x5_2
               replace p7 := eq_true p7
               replace q7 := eq_true q7
               go_wp2
               go_roundg k2
               case measure => have := HJ1.out; have := HK2.out; omega
               case rel => exact ⟨(true), (decide (x5_2 > 0)), (wrap64 (x5_2 + 1)), zy, zy, zy, H', ⟨by have := HJ1.out; have := HK2.out; omega⟩, zd⟩
             ·
              replace c13 := zI c13
              subst c13
              rw [if_neg (show ¬ (false = true) by decide)] at H
              have H' := zM H
              clear H
              have p7 : 0 ≤ (x5_2 : Int) := zT zv
              have q7 : x5_2 < (a0.size : Int) := zT zv
              have hx7 := bt_at a0 x5_2
              replace p7 := eq_true p7
              replace q7 := eq_true q7
              go_wp2
              go_roundg k2
              case measure => have := HJ1.out; have := HK2.out; omega
              case rel => exact ⟨(true), (false), (wrap64 (x5_2 + 1)), zy, zy, zy, H', ⟨by have := HJ1.out; have := HK2.out; omega⟩, zd⟩
            ·
             rw [if_neg c12] at H
             have c12b0 : decide ((bt a0 x5_2) ≤ 122) = false := zR c12
             clear c12
             by_cases c16 : x4_2 = true
             ·
              subst c16
              rw [if_pos rfl] at H
              by_cases c17 : (bt a0 x5_2) ≥ 65
              ·
               rw [if_pos c17] at H
               have c17b0 : decide (65 ≤ (bt a0 x5_2)) = true := zQ c17
               clear c17
               by_cases c18 : (bt a0 x5_2) ≤ 90
               ·
                rw [if_pos c18] at H
                have c18b0 : decide ((bt a0 x5_2) ≤ 90) = true := zQ c18
                clear c18
                have H' := zM H
                clear H
                have p7 : 0 ≤ (x5_2 : Int) := zT zv
                have q7 : x5_2 < (a0.size : Int) := zT zv
                have hx7 := bt_at a0 x5_2
                replace p7 := eq_true p7
                replace q7 := eq_true q7
                go_wp2
                go_roundg k2
                case measure => have := HJ1.out; have := HK2.out; omega
                case rel => exact ⟨(decide (x5_2 > 0)), (true), (wrap64 (x5_2 + 1)), zy, zy, zy, H', ⟨by have := HJ1.out; have := HK2.out; omega⟩, zd⟩
               ·
                rw [if_neg c18] at H
                have c18b0 : decide ((bt a0 x5_2) ≤ 90) = false := zR c18
                clear c18
                have H' := zM H
                clear H
                have p7 : 0 ≤ (x5_2 : Int) := zT zv
                have q7 : x5_2 < (a0.size : Int) := zT zv
                have hx7 := bt_at a0 x5_2
                replace p7 := eq_true p7
                replace q7 := eq_true q7
                go_wp2
                go_roundg k2
                case measure => have := HJ1.out; have := HK2.out; omega
                case rel => exact ⟨(decide (x5_2 > 0)), (decide (x5_2 > 0)), (wrap64 (x5_2 + 1)), zy, zy, zy, H', ⟨by have := HJ1.out; have := HK2.out; omega⟩, zd⟩
              ·
               rw [if_neg c17] at H
               have c17b0 : decide (65 ≤ (bt a0 x5_2)) = false := zR c17
               clear c17
               have H' := zM H
               clear H
               have p7 : 0 ≤ (x5_2 : Int) := zT zv
               have q7 : x5_2 < (a0.size : Int) := zT zv
               have hx7 := bt_at a0 x5_2
               replace p7 := eq_true p7
               replace q7 := eq_true q7
               go_wp2
               go_roundg k2
               case measure => have := HJ1.out; have := HK2.out; omega
               case rel => exact ⟨(decide (x5_2 > 0)), (decide (x5_2 > 0)), (wrap64 (x5_2 + 1)), zy, zy, zy, H', ⟨by have := HJ1.out; have := HK2.out; omega⟩, zd⟩
             ·
              replace c16 := zI c16
              subst c16
              rw [if_neg (show ¬ (false = true) by decide)] at H
              have H' := zM H
              clear H
              have p7 : 0 ≤ (x5_2 : Int) := zT zv
              have q7 : x5_2 < (a0.size : Int) := zT zv
              have hx7 := bt_at a0 x5_2
              replace p7 := eq_true p7
              replace q7 := eq_true q7
              go_wp2
              go_roundg k2
              case measure => have := HJ1.out; have := HK2.out; omega
              case rel => exact ⟨(decide (x5_2 > 0)), (false), (wrap64 (x5_2 + 1)), zy, zy, zy, H', ⟨by have := HJ1.out; have := HK2.out; omega⟩, zd⟩
           ·
            rw [if_neg c11] at H
            have c11b0 : decide (97 ≤ (bt a0 x5_2)) = false := zR c11
            clear c11
            by_cases c19 : x4_2 = true
            ·
             subst c19
             rw [if_pos rfl] at H
             by_cases c20 : (bt a0 x5_2) ≥ 65
             ·
              rw [if_pos c20] at H
              have c20b0 : decide (65 ≤ (bt a0 x5_2)) = true := zQ c20
              clear c20
              by_cases c21 : (bt a0 x5_2) ≤ 90
              ·
               rw [if_pos c21] at H
               have c21b0 : decide ((bt a0 x5_2) ≤ 90) = true := zQ c21
               clear c21
               have H' := zM H
               clear H
               have p7 : 0 ≤ (x5_2 : Int) := zT zv
               have q7 : x5_2 < (a0.size : Int) := zT zv
               have hx7 := bt_at a0 x5_2
               replace p7 := eq_true p7
               replace q7 := eq_true q7
               go_wp2
               go_roundg k2
               case measure => have := HJ1.out; have := HK2.out; omega
               case rel => exact ⟨(decide (x5_2 > 0)), (true), (wrap64 (x5_2 + 1)), zy, zy, zy, H', ⟨by have := HJ1.out; have := HK2.out; omega⟩, zd⟩
              ·
               rw [if_neg c21] at H
               have c21b0 : decide ((bt a0 x5_2) ≤ 90) = false := zR c21
               clear c21
               have H' := zM H
               clear H
               have p7 : 0 ≤ (x5_2 : Int) := zT zv
               have q7 : x5_2 < (a0.size : Int) := zT zv
               have hx7 := bt_at a0 x5_2
               replace p7 := eq_true p7
               replace q7 := eq_true q7
               go_wp2
               go_roundg k2
               case measure => have := HJ1.out; have := HK2.out; omega
               case rel => exact ⟨(decide (x5_2 > 0)), (decide (x5_2 > 0)), (wrap64 (x5_2 + 1)), zy, zy, zy, H', ⟨by have := HJ1.out; have := HK2.out; omega⟩, zd⟩
             ·
              rw [if_neg c20] at H
              have c20b0 : decide (65 ≤ (bt a0 x5_2)) = false := zR c20
              clear c20
              have H' := zM H
              clear H
              have p7 : 0 ≤ (x5_2 : Int) := zT zv
              have q7 : x5_2 < (a0.size : Int) := zT zv
              have hx7 := bt_at a0 x5_2
              replace p7 := eq_true p7
              replace q7 := eq_true q7
              go_wp2
              go_roundg k2
              case measure => have := HJ1.out; have := HK2.out; omega
              case rel => exact ⟨(decide (x5_2 > 0)), (decide (x5_2 > 0)), (wrap64 (x5_2 + 1)), zy, zy, zy, H', ⟨by have := HJ1.out; have := HK2.out; omega⟩, zd⟩
            ·
             replace c19 := zI c19
             subst c19
             rw [if_neg (show ¬ (false = true) by decide)] at H
             have H' := zM H
             clear H
             have p7 : 0 ≤ (x5_2 : Int) := zT zv
             have q7 : x5_2 < (a0.size : Int) := zT zv
             have hx7 := bt_at a0 x5_2
             replace p7 := eq_true p7
             replace q7 := eq_true q7
             go_wp2
             go_roundg k2
             case measure => have := HJ1.out; have := HK2.out; omega
             case rel => exact ⟨(decide (x5_2 > 0)), (false), (wrap64 (x5_2 + 1)), zy, zy, zy, H', ⟨by have := HJ1.out; have := HK2.out; omega⟩, zd⟩
          ·
           replace c10 := zI c10
           subst c10
           rw [if_neg (show ¬ (false = true) by decide)] at H
           by_cases c22 : x4_2 = true
           ·
            subst c22
            rw [if_pos rfl] at H
            by_cases c23 : (bt a0 x5_2) ≥ 65
            ·
             rw [if_pos c23] at H
             have c23b0 : decide (65 ≤ (bt a0 x5_2)) = true := zQ c23
             clear c23
             by_cases c24 : (bt a0 x5_2) ≤ 90
             ·
              rw [if_pos c24] at H
              have c24b0 : decide ((bt a0 x5_2) ≤ 90) = true := zQ c24
              clear c24
              have H' := zM H
              clear H
              have p7 : 0 ≤ (x5_2 : Int) := zT zv
              have q7 : x5_2 < (a0.size : Int) := zT zv
              have hx7 := bt_at a0 x5_2
              replace p7 := eq_true p7
              replace q7 := eq_true q7
              go_wp2
              go_roundg k2
              case measure => have := HJ1.out; have := HK2.out; omega
              case rel => exact ⟨(false), (true), (wrap64 (x5_2 + 1)), zy, zy, zy, H', ⟨by have := HJ1.out; have := HK2.out; omega⟩, zd⟩
             ·
              rw [if_neg c24] at H
              have c24b0 : decide ((bt a0 x5_2) ≤ 90) = false := zR c24
              clear c24
              have H' := zM H
              clear H
              have p7 : 0 ≤ (x5_2 : Int) := zT zv
              have q7 : x5_2 < (a0.size : Int) := zT zv
              have hx7 := bt_at a0 x5_2
              replace p7 := eq_true p7
              replace q7 := eq_true q7
              go_wp2
              go_roundg k2
              case measure => have := HJ1.out; have := HK2.out; omega
              case rel => exact ⟨(false), (decide (x5_2 > 0)), (wrap64 (x5_2 + 1)), zy, zy, zy, H', ⟨by have := HJ1.out; have := HK2.out; omega⟩, zd⟩
            ·
             rw [if_neg c23] at H
             have c23b0 : decide (65 ≤ (bt a0 x5_2)) = false := zR c23
             clear c23
             have H' := zM H
             clear H
             have p7 : 0 ≤ (x5_2 : Int) := zT zv
             have q7 : x5_2 < (a0.size : Int) := zT zv
             have hx7 := bt_at a0 x5_2
             replace p7 := eq_true p7
             replace q7 := eq_true q7
             go_wp2
             go_roundg k2
             case measure => have := HJ1.out; have := HK2.out; omega
             case rel => exact ⟨(false), (decide (x5_2 > 0)), (wrap64 (x5_2 + 1)), zy, zy, zy, H', ⟨by have := HJ1.out; have := HK2.out; omega⟩, zd⟩
           ·
            replace c22 := zI c22
            subst c22
            rw [if_neg (show ¬ (false = true) by decide)] at H
            have H' := zM H
            clear H
            have p7 : 0 ≤ (x5_2 : Int) := zT zv
            have q7 : x5_2 < (a0.size : Int) := zT zv
            have hx7 := bt_at a0 x5_2
            replace p7 := eq_true p7
            replace q7 := eq_true q7
            go_wp2
            go_roundg k2
            case measure => have := HJ1.out; have := HK2.out; omega
            case rel => exact ⟨(false), (false), (wrap64 (x5_2 + 1)), zy, zy, zy, H', ⟨by have := HJ1.out; have := HK2.out; omega⟩, zd⟩
         ·
          rw [if_neg c9] at H
          have c9b0 : decide ((bt a0 x5_2) ≤ 57) = false := zR c9
          clear c9
          by_cases c25 : x3_2 = true
          ·
           subst c25
           rw [if_pos rfl] at H
           by_cases c26 : (bt a0 x5_2) ≥ 97
           ·
            rw [if_pos c26] at H
            have c26b0 : decide (97 ≤ (bt a0 x5_2)) = true := zQ c26
            clear c26
            by_cases c27 : (bt a0 x5_2) ≤ 122
            ·
             rw [if_pos c27] at H
             have c27b0 : decide ((bt a0 x5_2) ≤ 122) = true := zQ c27
             clear c27
             by_cases c28 : x4_2 = true
             ·
              subst c28
              rw [if_pos rfl] at H
              by_cases c29 : (bt a0 x5_2) ≥ 65
              ·
               rw [if_pos c29] at H
               have c29b0 : decide (65 ≤ (bt a0 x5_2)) = true := zQ c29
               clear c29
               by_cases c30 : (bt a0 x5_2) ≤ 90
               ·
                rw [if_pos c30] at H
                have c30b0 : decide ((bt a0 x5_2) ≤ 90) = true := zQ c30
                clear c30
                have H' := zM H
                clear H
                have p7 : 0 ≤ (x5_2 : Int) := zT zv
                have q7 : x5_2 < (a0.size : Int) := zT zv
                have hx7 := bt_at a0 x5_2
                replace p7 := eq_true p7
                replace q7 := eq_true q7
                go_wp2
                go_roundg k2
                case measure => have := HJ1.out; have := HK2.out; omega
                case rel => exact ⟨(true), (true), (wrap64 (x5_2 + 1)), zy, zy, zy, H', ⟨by have := HJ1.out; have := HK2.out; omega⟩, zd⟩
               ·
                rw [if_neg c30] at H
                have c30b0 : decide ((bt a0 x5_2) ≤ 90) = false := zR c30
                clear c30
                have H' := zM H
                clear H
                have p7 : 0 ≤ (x5_2 : Int) := zT zv
                have q7 : x5_2 < (a0.size : Int) := zT zv
                have hx7 := bt_at a0 x5_2
                replace p7 := eq_true p7
                replace q7 := eq_true q7
                go_wp2
                go_roundg k2
                case measure => have := HJ1.out; have := HK2.out; omega
                case rel => exact ⟨(true), (false), (wrap64 (x5_2 + 1)), zy, zy, zy, H', ⟨by have := HJ1.out; have := HK2.out; omega⟩, zd⟩
              ·
               rw [if_neg c29] at H
               have c29b0 : decide (65 ≤ (bt a0 x5_2)) = false := zR c29
               clear c29
               have H' := zM H
               clear H
               have p7 : 0 ≤ (x5_2 : Int) := zT zv
               have q7 : x5_2 < (a0.size : Int) := zT zv
               have hx7 := bt_at a0 x5_2
               replace p7 := eq_true p7
               replace q7 := eq_true q7
               go_wp2
               go_roundg k2
               case measure => have := HJ1.out; have := HK2.out; omega
               case rel => exact ⟨(true), (false), (wrap64 (x5_2 + 1)), zy, zy, zy, H', ⟨by have := HJ1.out; have := HK2.out; omega⟩, zd⟩
             ·
              replace c28 := zI c28
              subst c28
              rw [if_neg (show ¬ (false = true) by decide)] at H
              have H' := zM H
              clear H
              have p7 : 0 ≤ (x5_2 : Int) := zT zv
              have q7 : x5_2 < (a0.size : Int) := zT zv
              have hx7 := bt_at a0 x5_2
              replace p7 := eq_true p7
              replace q7 := eq_true q7
              go_wp2
              go_roundg k2
              case measure => have := HJ1.out; have := HK2.out; omega
              case rel => exact ⟨(true), (false), (wrap64 (x5_2 + 1)), zy, zy, zy, H', ⟨by have := HJ1.out; have := HK2.out; omega⟩, zd⟩
            ·
             rw [if_neg c27] at H
             have c27b0 : decide ((bt a0 x5_2) ≤ 122) = false := zR c27
             clear c27
             by_cases c31 : x4_2 = true
             ·
              subst c31
              rw [if_pos rfl] at H
              by_cases c32 : (bt a0 x5_2) ≥ 65
              ·
               rw [if_pos c32] at H
               have c32b0 : decide (65 ≤ (bt a0 x5_2)) = true := zQ c32
               clear c32
               by_cases c33 : (bt a0 x5_2) ≤ 90
               ·
                rw [if_pos c33] at H
                have c33b0 : decide ((bt a0 x5_2) ≤ 90) = true := zQ c33
                clear c33
                have H' := zM H
                clear H
                have p7 : 0 ≤ (x5_2 : Int) := zT zv
                have q7 : x5_2 < (a0.size : Int) := zT zv
                have hx7 := bt_at a0 x5_2
                replace p7 := eq_true p7
                replace q7 := eq_true q7
                go_wp2
                go_roundg k2
                case measure => have := HJ1.out; have := HK2.out; omega
                case rel => exact ⟨(false), (true), (wrap64 (x5_2 + 1)), zy, zy, zy, H', ⟨by have := HJ1.out; have := HK2.out; omega⟩, zd⟩
               ·
                rw [if_neg c33] at H
                have c33b0 : decide ((bt a0 x5_2) ≤ 90) = false := zR c33
                clear c33
                have H' := zM H
                clear H
                have p7 : 0 ≤ (x5_2 : Int) := zT zv
                have q7 : x5_2 < (a0.size : Int) := zT zv
                have hx7 := bt_at a0 x5_2
                replace p7 := eq_true p7
                replace q7 := eq_true q7
                go_wp2
                go_roundg k2
                case measure => have := HJ1.out; have := HK2.out; omega
                case rel => exact ⟨(false), (false), (wrap64 (x5_2 + 1)), zy, zy, zy, H', ⟨by have := HJ1.out; have := HK2.out; omega⟩, zd⟩
              ·
               rw [if_neg c32] at H
               have c32b0 : decide (65 ≤ (bt a0 x5_2)) = false := zR c32
               clear c32
               have H' := zM H
               clear H
               have p7 : 0 ≤ (x5_2 : Int) := zT zv
               have q7 : x5_2 < (a0.size : Int) := zT zv
               have hx7 := bt_at a0 x5_2
               replace p7 := eq_true p7
               replace q7 := eq_true q7
               go_wp2
               go_roundg k2
               case measure => have := HJ1.out; have := HK2.out; omega
               case rel => exact ⟨(false), (false), (wrap64 (x5_2 + 1)), zy, zy, zy, H', ⟨by have := HJ1.out; have := HK2.out; omega⟩, zd⟩
             ·
              replace c31 := zI c31
              subst c31
              rw [if_neg (show ¬ (false = true) by decide)] at H
              have H' := zM H
              clear H
              have p7 : 0 ≤ (x5_2 : Int) := zT zv
              have q7 : x5_2 < (a0.size : Int) := zT zv
              have hx7 := bt_at a0 x5_2
              replace p7 := eq_true p7
              replace q7 := eq_true q7
              go_wp2
              go_roundg k2
              case measure => have := HJ1.out; have := HK2.out; omega
              case rel => exact ⟨(false), (false), (wrap64 (x5_2 + 1)), zy, zy, zy, H', ⟨by have := HJ1.out; have := HK2.out; omega⟩, zd⟩
           ·
            rw [if_neg c26] at H
            have c26b0 : decide (97 ≤ (bt a0 x5_2)) = false := zR c26
            clear c26
            by_cases c34 : x4_2 = true
            ·
             subst c34
             rw [if_pos rfl] at H
             by_cases c35 : (bt a0 x5_2) ≥ 65
             ·
              rw [if_pos c35] at H
              have c35b0 : decide (65 ≤ (bt a0 x5_2)) = true := zQ c35
              clear c35
              by_cases c36 : (bt a0 x5_2) ≤ 90
              ·
               rw [if_pos c36] at H
               have c36b0 : decide ((bt a0 x5_2) ≤ 90) = true := zQ c36
               clear c36
               have H' := zM H
               clear H
               have p7 : 0 ≤ (x5_2 : Int) := zT zv
               have q7 : x5_2 < (a0.size : Int) := zT zv
               have hx7 := bt_at a0 x5_2
               replace p7 := eq_true p7
               replace q7 := eq_true q7
               go_wp2
               go_roundg k2
               case measure => have := HJ1.out; have := HK2.out; omega
               case rel => exact ⟨(false), (true), (wrap64 (x5_2 + 1)), zy, zy, zy, H', ⟨by have := HJ1.out; have := HK2.out; omega⟩, zd⟩
              ·
               rw [if_neg c36] at H
               have c36b0 : decide ((bt a0 x5_2) ≤ 90) = false := zR c36
               clear c36
               have H' := zM H
               clear H
               have p7 : 0 ≤ (x5_2 : Int) := zT zv
               have q7 : x5_2 < (a0.size : Int) := zT zv
               have hx7 := bt_at a0 x5_2
               replace p7 := eq_true p7
               replace q7 := eq_true q7
               go_wp2
               go_roundg k2
               case measure => have := HJ1.out; have := HK2.out; omega
               case rel => exact ⟨(false), (false), (wrap64 (x5_2 + 1)), zy, zy, zy, H', ⟨by have := HJ1.out; have := HK2.out; omega⟩, zd⟩
             ·
              rw [if_neg c35] at H
              have c35b0 : decide (65 ≤ (bt a0 x5_2)) = false := zR c35
              clear c35
              have H' := zM H
              clear H
              have p7 : 0 ≤ (x5_2 : Int) := zT zv
              have q7 : x5_2 < (a0.size : Int) := zT zv
              have hx7 := bt_at a0 x5_2
              replace p7 := eq_true p7
              replace q7 := eq_true q7
              go_wp2
              go_roundg k2
              case measure => have := HJ1.out; have := HK2.out; omega
              case rel => exact ⟨(false), (false), (wrap64 (x5_2 + 1)), zy, zy, zy, H', ⟨by have := HJ1.out; have := HK2.out; omega⟩, zd⟩
            ·
             replace c34 := zI c34
             subst c34
             rw [if_neg (show ¬ (false = true) by decide)] at H
             have H' := zM H
             clear H
             have p7 : 0 ≤ (x5_2 : Int) := zT zv
             have q7 : x5_2 < (a0.size : Int) := zT zv
             have hx7 := bt_at a0 x5_2
             replace p7 := eq_true p7
             replace q7 := eq_true q7
             go_wp2
             go_roundg k2
             case measure => have := HJ1.out; have := HK2.out; omega
             case rel => exact ⟨(false), (false), (wrap64 (x5_2 + 1)), zy, zy, zy, H', ⟨by have := HJ1.out; have := HK2.out; omega⟩, zd⟩
          ·
           replace c25 := zI c25
           subst c25
           rw [if_neg (show ¬ (false = true) by decide)] at H
           by_cases c37 : x4_2 = true
           ·
            subst c37
            rw [if_pos rfl] at H
            by_cases c38 : (bt a0 x5_2) ≥ 65
            ·
             rw [if_pos c38] at H
             have c38b0 : decide (65 ≤ (bt a0 x5_2)) = true := zQ c38
             clear c38
             by_cases c39 : (bt a0 x5_2) ≤ 90
             ·
              rw [if_pos c39] at H
              have c39b0 : decide ((bt a0 x5_2) ≤ 90) = true := zQ c39
              clear c39
              have H' := zM H
              clear H
              have p7 : 0 ≤ (x5_2 : Int) := zT zv
              have q7 : x5_2 < (a0.size : Int) := zT zv
              have hx7 := bt_at a0 x5_2
              replace p7 := eq_true p7
              replace q7 := eq_true q7
              go_wp2
              go_roundg k2
              case measure => have := HJ1.out; have := HK2.out; omega
              case rel => exact ⟨(false), (true), (wrap64 (x5_2 + 1)), zy, zy, zy, H', ⟨by have := HJ1.out; have := HK2.out; omega⟩, zd⟩
             ·
              rw [if_neg c39] at H
              have c39b0 : decide ((bt a0 x5_2) ≤ 90) = false := zR c39
              clear c39
              have H' := zM H
              clear H
              have p7 : 0 ≤ (x5_2 : Int) := zT zv
              have q7 : x5_2 < (a0.size : Int) := zT zv
              have hx7 := bt_at a0 x5_2
              replace p7 := eq_true p7
              replace q7 := eq_true q7
              go_wp2
              go_roundg k2
              case measure => have := HJ1.out; have := HK2.out; omega
              case rel => exact ⟨(false), (false), (wrap64 (x5_2 + 1)), zy, zy, zy, H', ⟨by have := HJ1.out; have := HK2.out; omega⟩, zd⟩
            ·
             rw [if_neg c38] at H
             have c38b0 : decide (65 ≤ (bt a0 x5_2)) = false := zR c38
             clear c38
             have H' := zM H
             clear H
             have p7 : 0 ≤ (x5_2 : Int) := zT zv
             have q7 : x5_2 < (a0.size : Int) := zT zv
             have hx7 := bt_at a0 x5_2
             replace p7 := eq_true p7
             replace q7 := eq_true q7
             go_wp2
             go_roundg k2
             case measure => have := HJ1.out; have := HK2.out; omega
             case rel => exact ⟨(false), (false), (wrap64 (x5_2 + 1)), zy, zy, zy, H', ⟨by have := HJ1.out; have := HK2.out; omega⟩, zd⟩
           ·
            replace c37 := zI c37
            subst c37
            rw [if_neg (show ¬ (false = true) by decide)] at H
            have H' := zM H
            clear H
            have p7 : 0 ≤ (x5_2 : Int) := zT zv
            have q7 : x5_2 < (a0.size : Int) := zT zv
            have hx7 := bt_at a0 x5_2
            replace p7 := eq_true p7
            replace q7 := eq_true q7
            go_wp2
            go_roundg k2
            case measure => have := HJ1.out; have := HK2.out; omega
            case rel => exact ⟨(false), (false), (wrap64 (x5_2 + 1)), zy, zy, zy, H', ⟨by have := HJ1.out; have := HK2.out; omega⟩, zd⟩
        ·
         rw [if_neg c8] at H
         have c8b0 : decide (48 ≤ (bt a0 x5_2)) = false := zR c8
         clear c8
         by_cases c40 : x3_2 = true
         ·
          subst c40
          rw [if_pos rfl] at H
          by_cases c41 : (bt a0 x5_2) ≥ 97
          ·
           rw [if_pos c41] at H
           have c41b0 : decide (97 ≤ (bt a0 x5_2)) = true := zQ c41
           clear c41
           by_cases c42 : (bt a0 x5_2) ≤ 122
           ·
            rw [if_pos c42] at H
            have c42b0 : decide ((bt a0 x5_2) ≤ 122) = true := zQ c42
            clear c42
            by_cases c43 : x4_2 = true
            ·
             subst c43
             rw [if_pos rfl] at H
             by_cases c44 : (bt a0 x5_2) ≥ 65
             ·
              rw [if_pos c44] at H
              have c44b0 : decide (65 ≤ (bt a0 x5_2)) = true := zQ c44
              clear c44
              by_cases c45 : (bt a0 x5_2) ≤ 90
              ·
               rw [if_pos c45] at H
               have c45b0 : decide ((bt a0 x5_2) ≤ 90) = true := zQ c45
               clear c45
               have H' := zM H
               clear H
               have p7 : 0 ≤ (x5_2 : Int) := zT zv
               have q7 : x5_2 < (a0.size : Int) := zT zv
               have hx7 := bt_at a0 x5_2
               replace p7 := eq_true p7
               replace q7 := eq_true q7
               go_wp2
               go_roundg k2
               case measure => have := HJ1.out; have := HK2.out; omega
               case rel => exact ⟨(true), (true), (wrap64 (x5_2 + 1)), zy, zy, zy, H', ⟨by have := HJ1.out; have := HK2.out; omega⟩, zd⟩
              ·
               rw [if_neg c45] at H
               have c45b0 : decide ((bt a0 x5_2) ≤ 90) = false := zR c45
               clear c45
               have H' := zM H
               clear H
               have p7 : 0 ≤ (x5_2 : Int) := zT zv
               have q7 : x5_2 < (a0.size : Int) := zT zv
               have hx7 := bt_at a0 x5_2
               replace p7 := eq_true p7
               replace q7 := eq_true q7
               go_wp2
               go_roundg k2
               case measure => have := HJ1.out; have := HK2.out; omega
               case rel => exact ⟨(true), (false), (wrap64 (x5_2 + 1)), zy, zy, zy, H', ⟨by have := HJ1.out; have := HK2.out; omega⟩, zd⟩
             ·
              rw [if_neg c44] at H
              have c44b0 : decide (65 ≤ (bt a0 x5_2)) = false := zR c44
              clear c44
              have H' := zM H
              clear H
              have p7 : 0 ≤ (x5_2 : Int) := zT zv
              have q7 : x5_2 < (a0.size : Int) := zT zv
              have hx7 := bt_at a0 x5_2
              replace p7 := eq_true p7
              replace q7 := eq_true q7
              go_wp2
              go_roundg k2
              case measure => have := HJ1.out; have := HK2.out; omega
              case rel => exact ⟨(true), (false), (wrap64 (x5_2 + 1)), zy, zy, zy, H', ⟨by have := HJ1.out; have := HK2.out; omega⟩, zd⟩
            ·
             replace c43 := zI c43
             subst c43
             rw [if_neg (show ¬ (false = true) by decide)] at H
             have H' := zM H
             clear H
             have p7 : 0 ≤ (x5_2 : Int) := zT zv
             have q7 : x5_2 < (a0.size : Int) := zT zv
             have hx7 := bt_at a0 x5_2
             replace p7 := eq_true p7
             replace q7 := eq_true q7
             go_wp2
             go_roundg k2
             case measure => have := HJ1.out; have := HK2.out; omega
             case rel => exact ⟨(true), (false), (wrap64 (x5_2 + 1)), zy, zy, zy, H', ⟨by have := HJ1.out; have := HK2.out; omega⟩, zd⟩
           ·
            rw [if_neg c42] at H
            have c42b0 : decide ((bt a0 x5_2) ≤ 122) = false := zR c42
            clear c42
            by_cases c46 : x4_2 = true
            ·
             subst c46
             rw [if_pos rfl] at H
             by_cases c47 : (bt a0 x5_2) ≥ 65
             ·
              rw [if_pos c47] at H
              have c47b0 : decide (65 ≤ (bt a0 x5_2)) = true := zQ c47
              clear c47
              by_cases c48 : (bt a0 x5_2) ≤ 90
              ·
               rw [if_pos c48] at H
               have c48b0 : decide ((bt a0 x5_2) ≤ 90) = true := zQ c48
               clear c48
               have H' := zM H
               clear H
               have p7 : 0 ≤ (x5_2 : Int) := zT zv
               have q7 : x5_2 < (a0.size : Int) := zT zv
               have hx7 := bt_at a0 x5_2
               replace p7 := eq_true p7
               replace q7 := eq_true q7
               go_wp2
               go_roundg k2
               case measure => have := HJ1.out; have := HK2.out; omega
               case rel => exact ⟨(false), (true), (wrap64 (x5_2 + 1)), zy, zy, zy, H', ⟨by have := HJ1.out; have := HK2.out; omega⟩, zd⟩
              ·
               rw [if_neg c48] at H
               have c48b0 : decide ((bt a0 x5_2) ≤ 90) = false := zR c48
               clear c48
               have H' := zM H
               clear H
               have p7 : 0 ≤ (x5_2 : Int) := zT zv
               have q7 : x5_2 < (a0.size : Int) := zT zv
               have hx7 := bt_at a0 x5_2
               replace p7 := eq_true p7
               replace q7 := eq_true q7
               go_wp2
               go_roundg k2
               case measure => have := HJ1.out; have := HK2.out; omega
               case rel => exact ⟨(false), (false), (wrap64 (x5_2 + 1)), zy, zy, zy, H', ⟨by have := HJ1.out; have := HK2.out; omega⟩, zd⟩
             ·
              rw [if_neg c47] at H
              have c47b0 : decide (65 ≤ (bt a0 x5_2)) = false := zR c47
              clear c47
              have H' := zM H
              clear H
              have p7 : 0 ≤ (x5_2 : Int) := zT zv
              have q7 : x5_2 < (a0.size : Int) := zT zv
              have hx7 := bt_at a0 x5_2
              replace p7 := eq_true p7
              replace q7 := eq_true q7
              go_wp2
              go_roundg k2
              case measure => have := HJ1.out; have := HK2.out; omega
              case rel => exact ⟨(false), (false), (wrap64 (x5_2 + 1)), zy, zy, zy, H', ⟨by have := HJ1.out; have := HK2.out; omega⟩, zd⟩
            ·
             replace c46 := zI c46
             subst c46
             rw [if_neg (show ¬ (false = true) by decide)] at H
             have H' := zM H
             clear H
             have p7 : 0 ≤ (x5_2 : Int) := zT zv
             have q7 : x5_2 < (a0.size : Int) := zT zv
             have hx7 := bt_at a0 x5_2
             replace p7 := eq_true p7
             replace q7 := eq_true q7
             go_wp2
             go_roundg k2
             case measure => have := HJ1.out; have := HK2.out; omega
             case rel => exact ⟨(false), (false), (wrap64 (x5_2 + 1)), zy, zy, zy, H', ⟨by have := HJ1.out; have := HK2.out; omega⟩, zd⟩
          ·
           rw [if_neg c41] at H
           have c41b0 : decide (97 ≤ (bt a0 x5_2)) = false := zR c41
           clear c41
           by_cases c49 : x4_2 = true
           ·
            subst c49
            rw [if_pos rfl] at H
            by_cases c50 : (bt a0 x5_2) ≥ 65
            ·
             rw [if_pos c50] at H
             have c50b0 : decide (65 ≤ (bt a0 x5_2)) = true := zQ c50
             clear c50
             by_cases c51 : (bt a0 x5_2) ≤ 90
             ·
              rw [if_pos c51] at H
              have c51b0 : decide ((bt a0 x5_2) ≤ 90) = true := zQ c51
              clear c51
              have H' := zM H
              clear H
              have p7 : 0 ≤ (x5_2 : Int) := zT zv
              have q7 : x5_2 < (a0.size : Int) := zT zv
              have hx7 := bt_at a0 x5_2
              replace p7 := eq_true p7
              replace q7 := eq_true q7
              go_wp2
              go_roundg k2
              case measure => have := HJ1.out; have := HK2.out; omega
              case rel => exact ⟨(false), (true), (wrap64 (x5_2 + 1)), zy, zy, zy, H', ⟨by have := HJ1.out; have := HK2.out; omega⟩, zd⟩
             ·
              rw [if_neg c51] at H
              have c51b0 : decide ((bt a0 x5_2) ≤ 90) = false := zR c51
              clear c51
              have H' := zM H
              clear H
              have p7 : 0 ≤ (x5_2 : Int) := zT zv
              have q7 : x5_2 < (a0.size : Int) := zT zv
              have hx7 := bt_at a0 x5_2
              replace p7 := eq_true p7
              replace q7 := eq_true q7
              go_wp2
              go_roundg k2
              case measure => have := HJ1.out; have := HK2.out; omega
              case rel => exact ⟨(false), (false), (wrap64 (x5_2 + 1)), zy, zy, zy, H', ⟨by have := HJ1.out; have := HK2.out; omega⟩, zd⟩
            ·
             rw [if_neg c50] at H
             have c50b0 : decide (65 ≤ (bt a0 x5_2)) = false := zR c50
             clear c50
             have H' := zM H
             clear H
             have p7 : 0 ≤ (x5_2 : Int) := zT zv
             have q7 : x5_2 < (a0.size : Int) := zT zv
             have hx7 := bt_at a0 x5_2
             replace p7 := eq_true p7
             replace q7 := eq_true q7
             go_wp2
             go_roundg k2
             case measure => have := HJ1.out; have := HK2.out; omega
             case rel => exact ⟨(false), (false), (wrap64 (x5_2 + 1)), zy, zy, zy, H', ⟨by have := HJ1.out; have := HK2.out; omega⟩, zd⟩
           ·
            replace c49 := zI c49
            subst c49
            rw [if_neg (show ¬ (false = true) by decide)] at H
            have H' := zM H
            clear H
            have p7 : 0 ≤ (x5_2 : Int) := zT zv
            have q7 : x5_2 < (a0.size : Int) := zT zv
            have hx7 := bt_at a0 x5_2
            replace p7 := eq_true p7
            replace q7 := eq_true q7
            go_wp2
            go_roundg k2
            case measure => have := HJ1.out; have := HK2.out; omega
            case rel => exact ⟨(false), (false), (wrap64 (x5_2 + 1)), zy, zy, zy, H', ⟨by have := HJ1.out; have := HK2.out; omega⟩, zd⟩
         ·
          replace c40 := zI c40
          subst c40
          rw [if_neg (show ¬ (false = true) by decide)] at H
          by_cases c52 : x4_2 = true
          ·
           subst c52
           rw [if_pos rfl] at H
           by_cases c53 : (bt a0 x5_2) ≥ 65
           ·
            rw [if_pos c53] at H
            have c53b0 : decide (65 ≤ (bt a0 x5_2)) = true := zQ c53
            clear c53
            by_cases c54 : (bt a0 x5_2) ≤ 90
            ·
             rw [if_pos c54] at H
             have c54b0 : decide ((bt a0 x5_2) ≤ 90) = true := zQ c54
             clear c54
             have H' := zM H
             clear H
             have p7 : 0 ≤ (x5_2 : Int) := zT zv
             have q7 : x5_2 < (a0.size : Int) := zT zv
             have hx7 := bt_at a0 x5_2
             replace p7 := eq_true p7
             replace q7 := eq_true q7
             go_wp2
             go_roundg k2
             case measure => have := HJ1.out; have := HK2.out; omega
             case rel => exact ⟨(false), (true), (wrap64 (x5_2 + 1)), zy, zy, zy, H', ⟨by have := HJ1.out; have := HK2.out; omega⟩, zd⟩
            ·
             rw [if_neg c54] at H
             have c54b0 : decide ((bt a0 x5_2) ≤ 90) = false := zR c54
             clear c54
             have H' := zM H
             clear H
             have p7 : 0 ≤ (x5_2 : Int) := zT zv
             have q7 : x5_2 < (a0.size : Int) := zT zv
             have hx7 := bt_at a0 x5_2
             replace p7 := eq_true p7
             replace q7 := eq_true q7
             go_wp2
             go_roundg k2
             case measure => have := HJ1.out; have := HK2.out; omega
             case rel => exact ⟨(false), (false), (wrap64 (x5_2 + 1)), zy, zy, zy, H', ⟨by have := HJ1.out; have := HK2.out; omega⟩, zd⟩
           ·
            rw [if_neg c53] at H
            have c53b0 : decide (65 ≤ (bt a0 x5_2)) = false := zR c53
            clear c53
            have H' := zM H
            clear H
            have p7 : 0 ≤ (x5_2 : Int) := zT zv
            have q7 : x5_2 < (a0.size : Int) := zT zv
            have hx7 := bt_at a0 x5_2
            replace p7 := eq_true p7
            replace q7 := eq_true q7
            go_wp2
            go_roundg k2
            case measure => have := HJ1.out; have := HK2.out; omega
            case rel => exact ⟨(false), (false), (wrap64 (x5_2 + 1)), zy, zy, zy, H', ⟨by have := HJ1.out; have := HK2.out; omega⟩, zd⟩
          ·
           replace c52 := zI c52
           subst c52
           rw [if_neg (show ¬ (false = true) by decide)] at H
           have H' := zM H
           clear H
           have p7 : 0 ≤ (x5_2 : Int) := zT zv
           have q7 : x5_2 < (a0.size : Int) := zT zv
           have hx7 := bt_at a0 x5_2
           replace p7 := eq_true p7
           replace q7 := eq_true q7
           go_wp2
           go_roundg k2
           case measure => have := HJ1.out; have := HK2.out; omega
           case rel => exact ⟨(false), (false), (wrap64 (x5_2 + 1)), zy, zy, zy, H', ⟨by have := HJ1.out; have := HK2.out; omega⟩, zd⟩
       ·
        rw [if_neg c6] at H
        exact absurd H (by simp)
      ·
       rw [if_neg c5] at H
       have c5b0 : decide (x5_2 < (a0.size : Int)) = false := zR c5
       clear c5
       by_cases c55 : x3_2 = true
       ·
        subst c55
        rw [if_pos rfl] at H
        obtain rfl := zS H
        go_wp2
        go_ret
        exact ⟨zy, zd⟩
       ·
        replace c55 := zI c55
        subst c55
        rw [if_neg (show ¬ (false = true) by decide)] at H
        by_cases c56 : x4_2 = true
        ·
         subst c56
         rw [if_pos rfl] at H
         obtain rfl := zS H
         go_wp2
         go_ret
         exact ⟨zy, zd⟩
        ·
         replace c56 := zI c56
         subst c56
         rw [if_neg (show ¬ (false = true) by decide)] at H
         obtain rfl := zS H
         go_wp2
         go_ret
         exact ⟨zy, zd⟩

end Go.Proofs.YtpnamhplhdaphaaDoor.P

-- ==== PLa
/- Plain laws, part a: what kind a text is: the program's way and the document's way come to one function. -/
namespace Go.Proofs.YtpnamhplhdaphaaDoor.P
open Go.RowKit Go.Proofs.YtpnamhplhdaphaaDoorW.PrintWords
set_option linter.unusedVariables false
set_option linter.unusedSimpArgs false

theorem wrap_up {i : Int} (h0 : 0 ≤ i) (h : i < 9223372036854775807) : wrap64 (i + 1) = i + 1 := by
 unfold wrap64
 omega
theorem wrap_id {i : Int} (h0 : -9223372036854775808 ≤ i) (h : i ≤ 9223372036854775807) : wrap64 i = i := by
 unfold wrap64
 omega

theorem evIfp {α : Type} {c : Prop} [Decidable c] {f g : Nat → Option α} {r : α} (h : c) (hf : Ev f r) : Ev (fun k => if c then f k else g k) r :=
 Ev.congr (fun _ => if_pos h) hf
theorem evIfn {α : Type} {c : Prop} [Decidable c] {f g : Nat → Option α} {r : α} (h : ¬ c) (hf : Ev g r) : Ev (fun k => if c then f k else g k) r :=
 Ev.congr (fun _ => if_neg h) hf
theorem evIs {α : Type} {x : Option α} {a : α} (h : x = some a) : Ev (fun _ => x) a := ⟨0, fun _ _ => h⟩

def lowB (s : ByteArray) (i : Int) : Bool := (decide (97 ≤ bt s i) && decide (bt s i ≤ 122)) || (decide (48 ≤ bt s i) && decide (bt s i ≤ 57) && decide (0 < i))
def upB (s : ByteArray) (i : Int) : Bool := (decide (65 ≤ bt s i) && decide (bt s i ≤ 90)) || (decide (48 ≤ bt s i) && decide (bt s i ≤ 57) && decide (0 < i))
/-- p holds at i, i + 1, .. (d places). -/
def allN (p : Int → Bool) : Nat → Int → Bool
 | 0, _ => true
 | d + 1, i => p i && allN p d (i + 1)
theorem allN_congr {p q : Int → Bool} : ∀ (d : Nat) (i : Int), (∀ j, i ≤ j → j < i + d → p j = q j) → allN p d i = allN q d i
 | 0, _, _ => rfl
 | d + 1, i, h => by
  simp only [allN]
  rw [h i (Int.le_refl _) (by omega), allN_congr d (i + 1) (fun j h1 h2 => h j (by omega) (by omega))]
def kindS (s : ByteArray) : Int :=
 if s.size < 1 ∨ 8 < s.size then 0 else if allN (lowB s) s.size 0 = true then 1 else if allN (upB s) s.size 0 = true then 2 else 0

theorem kindS_bad {s : ByteArray} (h : s.size < 1 ∨ 8 < s.size) : kindS s = 0 := by
 unfold kindS
 exact if_pos h
theorem kindS_good {s : ByteArray} (h1 : 1 ≤ s.size) (h8 : s.size ≤ 8) : kindS s = (if allN (lowB s) s.size 0 = true then 1 else if allN (upB s) s.size 0 = true then 2 else 0) := by
 unfold kindS
 exact if_neg (by omega)
theorem kindS_size {s : ByteArray} (h : kindS s ≠ 0) : 1 ≤ s.size ∧ s.size ≤ 8 := by
 unfold kindS at h
 split at h
 ·
  exact absurd rfl h
 ·
  omega

/-! ### the document's -/
/-! ### the program's -/
def signS (c : Int) : Int × Int := if 97 ≤ c ∧ c ≤ 122 then (1, 1) else if 65 ≤ c ∧ c ≤ 90 then (2, 2) else if 48 ≤ c ∧ c ≤ 57 then (0, 3) else (0, 0)
theorem sign_at (c : Int) (k : Nat) (hk : 2 ≤ k) : name_sign.f k c = some (signS c) := by
 obtain ⟨k, rfl⟩ : ∃ m, k = m + 2 := ⟨k - 2, by omega⟩
 unfold name_sign.f signS
 by_cases c1 : c ≥ 48 <;> by_cases c2 : c ≤ 57 <;> by_cases c3 : c ≥ 97 <;> by_cases c4 : c ≤ 122 <;> by_cases c5 : c ≥ 65 <;> by_cases c6 : c ≤ 90 <;> first | (exfalso; omega) | (simp [name_sign.j0, name_sign.j1, c1, c2, c3, c4, c5, c6])
theorem bits_and_ (a b : Int) (ha : a = 0 ∨ a = 1 ∨ a = 2 ∨ a = 3) (hb : b = 0 ∨ b = 1 ∨ b = 2) : (Go.bits .and .i64 a b = 0) ↔ (b = 0 ∨ (b = 1 ∧ (a = 0 ∨ a = 2)) ∨ (b = 2 ∧ (a = 0 ∨ a = 1))) := by
 rcases ha with rfl | rfl | rfl | rfl <;> rcases hb with rfl | rfl | rfl <;> decide
def goesB (s : ByteArray) (b : Int) (i : Int) : Bool := decide (¬ (Go.bits .and .i64 (signS (bt s i)).2 b = 0))
theorem kind_loop (s : ByteArray) (b : Int) (hs : s.size ≤ 8) : ∀ (d : Nat) (k : Nat) (i : Int), 0 ≤ i → (s.size : Int) - i = d → d + 2 < k →
 name_Kind.l0 k s b (s.size : Int) i = some (if allN (goesB s b) d i = true then b else 0)
 | 0, k, i, h0, hd, hk => by
  obtain ⟨k, rfl⟩ : ∃ m, k = m + 1 := ⟨k - 1, by omega⟩
  simp only [name_Kind.l0]
  rw [if_neg (by omega)]
  simp [allN]
 | d + 1, k, i, h0, hd, hk => by
  obtain ⟨k, rfl⟩ : ∃ m, k = m + 1 := ⟨k - 1, by omega⟩
  simp only [name_Kind.l0]
  rw [if_pos (by omega), if_pos h0, if_pos (by omega), sign_at _ _ (by omega)]
  simp only [Option.bind_some]
  by_cases hg : Go.bits .and .i64 (signS (bt s i)).2 b = 0
  ·
   rw [if_pos hg]
   simp [allN, goesB, hg]
  ·
   rw [if_neg hg, wrap_up h0 (by omega), kind_loop s b hs d k (i + 1) (by omega) (by omega) (by omega)]
   simp [allN, goesB, hg]
theorem signS_two (c : Int) : (signS c).2 = 0 ∨ (signS c).2 = 1 ∨ (signS c).2 = 2 ∨ (signS c).2 = 3 := by
 unfold signS
 repeat' split
 all_goals simp
theorem goes_one (s : ByteArray) (i : Int) (hi : 0 < i) : goesB s 1 i = lowB s i := by
 have h := bits_and_ (signS (bt s i)).2 1 (signS_two _) (by simp)
 unfold goesB lowB
 rw [Bool.eq_iff_iff]
 simp only [decide_eq_true_eq, h, Bool.or_eq_true, Bool.and_eq_true]
 unfold signS
 repeat' split
 all_goals simp
 all_goals omega
theorem goes_two (s : ByteArray) (i : Int) (hi : 0 < i) : goesB s 2 i = upB s i := by
 have h := bits_and_ (signS (bt s i)).2 2 (signS_two _) (by simp)
 unfold goesB upB
 rw [Bool.eq_iff_iff]
 simp only [decide_eq_true_eq, h, Bool.or_eq_true, Bool.and_eq_true]
 unfold signS
 repeat' split
 all_goals simp
 all_goals omega
theorem kind_eq (s : ByteArray) (h1 : 1 ≤ s.size) (h8 : s.size ≤ 8) : (if allN (goesB s (signS (bt s 0)).1) s.size 0 = true then (signS (bt s 0)).1 else 0) = kindS s := by
 rw [kindS_good h1 h8]
 obtain ⟨n, hn⟩ : ∃ n, s.size = n + 1 := ⟨s.size - 1, by omega⟩
 have e1 : allN (goesB s 1) n (0 + 1) = allN (lowB s) n (0 + 1) := allN_congr _ _ (fun j h1 _ => goes_one s j (by omega))
 have e2 : allN (goesB s 2) n (0 + 1) = allN (upB s) n (0 + 1) := allN_congr _ _ (fun j h1 _ => goes_two s j (by omega))
 by_cases hl : 97 ≤ bt s 0 ∧ bt s 0 ≤ 122
 ·
  have hs : signS (bt s 0) = (1, 1) := by unfold signS; rw [if_pos hl]
  have g0 : goesB s 1 0 = true := by unfold goesB; rw [hs]; decide
  have l0 : lowB s 0 = true := by unfold lowB; simp [hl]
  have u0 : upB s 0 = false := by unfold upB; simp; omega
  simp only [hn, hs, allN, e1, g0, l0, u0, Bool.true_and, Bool.false_and]
  split <;> simp
 ·
  by_cases hu : 65 ≤ bt s 0 ∧ bt s 0 ≤ 90
  ·
   have hs : signS (bt s 0) = (2, 2) := by unfold signS; rw [if_neg hl, if_pos hu]
   have g0 : goesB s 2 0 = true := by unfold goesB; rw [hs]; decide
   have l0 : lowB s 0 = false := by unfold lowB; simp; omega
   have u0 : upB s 0 = true := by unfold upB; simp [hu]
   simp only [hn, hs, allN, e2, g0, l0, u0, Bool.true_and, Bool.false_and]
   simp
  ·
   have hs : (signS (bt s 0)).1 = 0 := by unfold signS; rw [if_neg hl, if_neg hu]; split <;> rfl
   have l0 : lowB s 0 = false := by unfold lowB; simp; omega
   have u0 : upB s 0 = false := by unfold upB; simp; omega
   simp only [hn, hs, allN, l0, u0, Bool.true_and, Bool.false_and]
   simp
theorem toList_nil (s : ByteArray) : s.toList = ([] : List UInt8) ↔ s.size = 0 := by
 rw [ByteArray.toList_eq]
 constructor
 ·
  intro h
  have := congrArg List.length h
  simpa [data_length] using this
 ·
  intro h
  apply List.eq_nil_of_length_eq_zero
  rw [data_length]
  exact h
theorem ev_kind (s : ByteArray) : Ev (fun k => name_Kind.f k s) (kindS s) := by
 refine ⟨16, fun k hk => ?_⟩
 show name_Kind.f k s = _
 unfold name_Kind.f
 obtain ⟨k, rfl⟩ : ∃ m, k = m + 1 := ⟨k - 1, by omega⟩
 by_cases h1 : s.toList = ([] : List UInt8)
 ·
  rw [if_pos h1]
  have := (toList_nil s).1 h1
  simp [name_Kind.j0, kindS_bad (s := s) (.inl (by omega))]
 ·
  have h1' : s.size ≠ 0 := fun h => h1 ((toList_nil s).2 h)
  rw [if_neg h1]
  simp only [name_Kind.j0]
  by_cases h2 : (s.size : Int) > 8
  ·
   rw [if_pos (by simpa using h2), kindS_bad (s := s) (.inr (by omega))]
  ·
   rw [if_neg (by simpa using h2), if_pos (by omega), sign_at _ _ (by omega)]
   simp only [Option.bind_some]
   rw [kind_loop s _ (by omega) s.size k 0 (by omega) (by omega) (by omega), kind_eq s (by omega) (by omega)]
end Go.Proofs.YtpnamhplhdaphaaDoor.P

-- ==== PF62
namespace Go.Proofs.YtpnamhplhdaphaaDoor.P
open Go.RowKit Go.Proofs.YtpnamhplhdaphaaDoorW.PrintWords Go.Proofs.YtpnamhplhdaphaaDoorW.PrintLast Go.Proofs.YtpnamhplhdaphaaDoorW.PrintMore
attribute [local go_sem] max2_int min2_int max_two min_two max_three min_three max_four min_four   -- for this text's walks alone
set_option linter.unusedVariables false
set_option linter.unusedSimpArgs false

/-! ### aumbryref04_Behind: function 62 -/
mutual
def aumbryref04_Behind.j0 : Nat → List (S33) → Int → Bool → Option (Int)
 | 0, _, _, _ => none
 | k + 1, x0, x1, x14 => if x14 = true then (some (-1)) else (if 0 ≤ x1 then (if x1 < (x0.length : Int) then (aumbryref04_Behind.l0 k x0 (wrap64 (x1 + 1)) ((rd_T33 x0 x1).f1) 0) else (none)) else (none))
def aumbryref04_Behind.l0 : Nat → List (S33) → Int → Int → Int → Option (Int)
 | 0, _, _, _, _ => none
 | k + 1, x0, x1, x5, x6 => if x6 < x5 then (if x1 ≥ 0 then ((aumbryref04_Behind.f k x0 x1).bind fun t102 => (aumbryref04_Behind.l0 k x0 t102 x5 (wrap64 (x6 + 1)))) else (some x1)) else (some x1)
def aumbryref04_Behind.f : Nat → List (S33) → Int → Option (Int)
 | 0, _, _ => none
 | k + 1, l0, a1 => if a1 < 0 then (aumbryref04_Behind.j0 k l0 a1 true) else (aumbryref04_Behind.j0 k l0 a1 (decide (a1 ≥ (l0.length : Int))))
end
theorem aumbryref04_Behind.mono_l : ∀ k, (∀ y0 y1, LeO (aumbryref04_Behind.f k y0 y1) (aumbryref04_Behind.f (k + 1) y0 y1)) ∧ (∀ y0 y1 y2, LeO (aumbryref04_Behind.j0 k y0 y1 y2) (aumbryref04_Behind.j0 (k + 1) y0 y1 y2)) ∧ (∀ y0 y1 y2 y3, LeO (aumbryref04_Behind.l0 k y0 y1 y2 y3) (aumbryref04_Behind.l0 (k + 1) y0 y1 y2 y3))
 | 0 => ⟨fun _ _ r h => by simp [aumbryref04_Behind.f] at h, fun _ _ _ r h => by simp [aumbryref04_Behind.j0] at h, fun _ _ _ _ r h => by simp [aumbryref04_Behind.l0] at h⟩
 | k + 1 => by
  obtain ⟨ih0, ih1, ih2⟩ := aumbryref04_Behind.mono_l k
  refine ⟨?_, ?_, ?_⟩
  ·
   intro y0 y1
   unfold aumbryref04_Behind.f
   repeat' first
   | (with_reducible exact ih0 _ _)
   | (with_reducible exact ih1 _ _ _)
   | (with_reducible exact ih2 _ _ _ _)
   | (with_reducible exact LeO.refl _)
   | (with_reducible exact LeO.none _)
   | (with_reducible refine LeO.ite ?_ ?_)
   | (with_reducible refine LeO.bind ?_ (fun _ => ?_))
  ·
   intro y0 y1 y2
   unfold aumbryref04_Behind.j0
   repeat' first
   | (with_reducible exact ih0 _ _)
   | (with_reducible exact ih1 _ _ _)
   | (with_reducible exact ih2 _ _ _ _)
   | (with_reducible exact LeO.refl _)
   | (with_reducible exact LeO.none _)
   | (with_reducible refine LeO.ite ?_ ?_)
   | (with_reducible refine LeO.bind ?_ (fun _ => ?_))
  ·
   intro y0 y1 y2 y3
   unfold aumbryref04_Behind.l0
   repeat' first
   | (with_reducible exact ih0 _ _)
   | (with_reducible exact ih1 _ _ _)
   | (with_reducible exact ih2 _ _ _ _)
   | (with_reducible exact LeO.refl _)
   | (with_reducible exact LeO.none _)
   | (with_reducible refine LeO.ite ?_ ?_)
   | (with_reducible refine LeO.bind ?_ (fun _ => ?_))
theorem aumbryref04_Behind.mono : ∀ a0 a1 k, LeO (aumbryref04_Behind.f k a0 a1) (aumbryref04_Behind.f (k + 1) a0 a1) := by
 intro a0 a1 k
 obtain ⟨ih0, ih1, ih2⟩ := aumbryref04_Behind.mono_l k
 exact ih0 a0 a1
theorem aumbryref04_Behind.calls (k : Nat) : ∀ (A0 : Option Addr) (c0 : Nat) (l0 : List (S33)) (a1 : Int) (r : Int) (w : World) (hr0 : Kd.C k33 w A0 l0.length l0) (hc0 : l0.length ≤ c0) (h : aumbryref04_Behind.f k l0 a1 = some r),
 Calls Tryd.prog 62 #[.slice A0 l0.length c0, .int .i64 a1] w fun e w' => e = .returned (.int .i64 r) ∧ Drawn0 w w' := by
 induction k using Nat.strongRecOn with
 | _ k ih =>
 intro A0 c0 l0 a1 r w hr0 hc0 h
 cases k with
 | zero => exact absurd h (by simp [aumbryref04_Behind.f])
 | succ k =>
 simp only [aumbryref04_Behind.f] at h
 have HR0 := zM hr0
 have HC0 := zM hc0
 clear hr0 hc0
 have H : (if a1 < 0 then (aumbryref04_Behind.j0 k l0 a1 true) else (aumbryref04_Behind.j0 k l0 a1 (decide (a1 ≥ (l0.length : Int))))) = some r := h
 clear h
 have HC3 := zM H
 clear H
 go_enter Tryd.func62, Tryd.ntmps62
 go_upto_region 1 with (fail)
 go_cut [14] (fun v14 wc => ∃ (kq : Nat) (x14_2 : Bool), v14 = .bool x14_2 ∧ Aside0 (aumbryref04_Behind.j0 kq l0 a1 x14_2 = some r) ∧ Aside0 (kq ≤ k) ∧ Drawn0 w wc)
 case first =>
  have H := HC3.out
  clear HC3
  by_cases c4 : a1 < 0
  ·
   rw [if_pos c4] at H
   have c4b0 : decide (a1 < 0) = true := zQ c4
   clear c4
   (first | rw [c4b0] | (simp only [i64_w, i32_w]; rw [c4b0]) | skip)
   have H' := zM H
   clear H
   go_wp2
   go_meet
   case rel => exact ⟨_, (true), zy, H', ⟨by first | omega | exact Nat.le_refl _⟩, zd⟩
  ·
   rw [if_neg c4] at H
   have c4b0 : decide (a1 < 0) = false := zR c4
   clear c4
   (first | rw [c4b0] | (simp only [i64_w, i32_w]; rw [c4b0]) | skip)
   have H' := zM H
   clear H
   go_wp2
   go_meet
   case rel => exact ⟨_, (decide (a1 ≥ (l0.length : Int))), zy, H', ⟨by first | omega | exact Nat.le_refl _⟩, zd⟩
 case rest =>
  clear HC3
  try clear p2
  try clear c4
  try clear c4b0
  obtain ⟨kq, x14_2, rfl, HA, HJ2, ⟨mc2, rfl⟩⟩ := hcut
  cases kq with
  | zero => exact absurd HA.out (by simp [aumbryref04_Behind.j0])
  | succ kj2 =>
   have H := HA.out
   clear HA
   simp only [aumbryref04_Behind.j0] at H
   by_cases c5 : x14_2 = true
   ·
    subst c5
    rw [if_pos rfl] at H
    obtain rfl := zS H
    go_wp2
    go_ret
    exact ⟨zy, zd⟩
   ·
    replace c5 := zI c5
    subst c5
    rw [if_neg (show ¬ (false = true) by decide)] at H
    by_cases c6 : 0 ≤ a1
    ·
     rw [if_pos c6] at H
     have c6b0 : decide (0 ≤ a1) = true := zQ c6
     clear c6
     by_cases c7 : a1 < (l0.length : Int)
     ·
      rw [if_pos c7] at H
      have c7b0 : decide (a1 < (l0.length : Int)) = true := zQ c7
      clear c7
      have H' := zM H
      clear H
      have p101 : 0 ≤ (a1 : Int) := zT zv
      have q101 : a1 < (l0.length : Int) := zT zv
      obtain ⟨ad101, e101, hx101_0, hx101_1⟩ := at_T33 HR0.out a1 p101 q101
      cases e101
      replace p101 := eq_true p101
      replace q101 := eq_true q101
      go_wp2
      go_loopg [1, 6] kj2 (fun kq v1 v6 w' => ∃ (x1_2 : Int) (x6_2 : Int), v1 = .int .i64 x1_2 ∧ v6 = .int .i64 x6_2 ∧ Aside0 (aumbryref04_Behind.l0 kq l0 x1_2 ((rd_T33 l0 a1).f1) x6_2 = some r) ∧ Aside0 (kq ≤ kj2) ∧ Drawn0 w w')
      case atStart => exact ⟨(wrap64 (a1 + 1)), (0), zy, zy, H', ⟨Nat.le_refl _⟩, zd⟩
      case round =>
       clear H'
       try clear p1
       try clear q1
       try clear hx1
       try clear c2
       try clear p2
       try clear c4
       try clear c4b0
       try clear c5
       try clear c6
       try clear c6b0
       try clear p6
       try clear c7
       try clear c7b0
       try clear hx101_0
       try clear hx101_1
       try clear p101
       try clear p2
       try clear q101
       obtain ⟨x1_2, x6_2, rfl, rfl, HA, HK2, ⟨m2, rfl⟩⟩ := hrel
       cases gk with
       | zero => exact absurd HA.out (by simp [aumbryref04_Behind.l0])
       | succ k2 =>
        have H := HA.out
        clear HA
        simp only [aumbryref04_Behind.l0] at H
        by_cases c8 : x6_2 < ((rd_T33 l0 a1).f1)
        ·
         rw [if_pos c8] at H
         have c8b0 : decide (x6_2 < ((rd_T33 l0 a1).f1)) = true := zQ c8
         clear c8
         by_cases c9 : x1_2 ≥ 0
         ·
          rw [if_pos c9] at H
          have c9b0 : decide (0 ≤ x1_2) = true := zQ c9
          clear c9
          replace H := zB H
          obtain ⟨t102, A100, H⟩ := H
          try dsimp only at H
          have A10 := zM A100
          clear A100
          have H' := zM H
          clear H
          go_wp2_with (first | ((with_reducible refine gate_callee (f := 62) rfl ?_); refine goesL_ (some 33) rfl rfl Tryd.func62 (by kernel_rfl) rfl #[.slice (some ad101) l0.length c0, .int .i64 x1_2] rfl zl ?_; (with_reducible refine (ih k2 (by have := HJ2.out; have := HK2.out; omega) _ _ l0 x1_2 t102 _ ?side1 ?side2 A10.out).mono ?_); (case side1 => exact Kd.C_below HR0.out zg); (case side2 => exact HC0.out); rintro e w' ⟨rfl, ⟨nd, rfl⟩⟩; refine ⟨_, rfl, ?_⟩))
          go_roundg k2
          case measure => have := HJ2.out; have := HK2.out; omega
          case rel => exact ⟨(t102), (wrap64 (x6_2 + 1)), zy, zy, H', ⟨by have := HJ2.out; have := HK2.out; omega⟩, zd⟩
         ·
          rw [if_neg c9] at H
          have c9b0 : decide (0 ≤ x1_2) = false := zR c9
          clear c9
          obtain rfl := zS H
          go_wp2
          go_ret
          exact ⟨zy, zd⟩
        ·
         rw [if_neg c8] at H
         have c8b0 : decide (x6_2 < ((rd_T33 l0 a1).f1)) = false := zR c8
         clear c8
         obtain rfl := zS H
         go_wp2
         go_ret
         exact ⟨zy, zd⟩
     ·
      rw [if_neg c7] at H
      exact absurd H (by simp)
    ·
     rw [if_neg c6] at H
     exact absurd H (by simp)


-- ==== PF37

/-! ### aumbryref04_Check: function 37 -/
def aumbryref04_Check.l0 : Nat → List (S33) → Int → Int → Option (Int)
 | 0, _, _, _ => none
 | k + 1, x0, x9, x10 => if x10 < x9 then (if 0 ≤ x10 then (if x10 < (x0.length : Int) then ((aumbryref03_Kind.f k ((rd_T33 x0 x10).f0)).bind fun t103 => (if t103 = 0 then (some 4) else (if ((rd_T33 x0 x10).f1) < 0 then (some 5) else (if ((rd_T33 x0 x10).f1) > 4 then (some 5) else (if t103 = 2 then (if ((rd_T33 x0 x10).f1) = 0 then (aumbryref04_Check.l0 k x0 x9 (wrap64 (x10 + 1))) else (some 5)) else (aumbryref04_Check.l0 k x0 x9 (wrap64 (x10 + 1)))))))) else (none)) else (none)) else ((aumbryref04_Behind.f k x0 0).bind fun t101 => (if t101 = (x0.length : Int) then (some 0) else (some 3)))
def aumbryref04_Check.f (k : Nat) (l0 : List (S33)) : Option (Int) := if (l0.length : Int) > 64 then (some 6) else (aumbryref04_Check.l0 k l0 (l0.length : Int) 0)
theorem aumbryref04_Check.mono_l : ∀ k, (∀ y0 y1 y2, LeO (aumbryref04_Check.l0 k y0 y1 y2) (aumbryref04_Check.l0 (k + 1) y0 y1 y2))
 | 0 => fun _ _ _ r h => by simp [aumbryref04_Check.l0] at h
 | k + 1 => by
  have ih0 := aumbryref04_Check.mono_l k
  ·
   intro y0 y1 y2
   unfold aumbryref04_Check.l0
   repeat' first
   | (with_reducible exact ih0 _ _ _)
   | (with_reducible exact aumbryref03_Kind.mono _ _)
   | (with_reducible exact aumbryref04_Behind.mono _ _ _)
   | (with_reducible exact LeO.refl _)
   | (with_reducible exact LeO.none _)
   | (with_reducible refine LeO.ite ?_ ?_)
   | (with_reducible refine LeO.bind ?_ (fun _ => ?_))
theorem aumbryref04_Check.mono : ∀ a0 k, LeO (aumbryref04_Check.f k a0) (aumbryref04_Check.f (k + 1) a0) := by
 intro a0 k
 have ih0 := aumbryref04_Check.mono_l k
 unfold aumbryref04_Check.f
 repeat' first
  | (with_reducible exact ih0 _ _ _)
  | (with_reducible exact aumbryref03_Kind.mono _ _)
  | (with_reducible exact aumbryref04_Behind.mono _ _ _)
  | (with_reducible exact LeO.refl _)
  | (with_reducible exact LeO.none _)
  | (with_reducible refine LeO.ite ?_ ?_)
  | (with_reducible refine LeO.bind ?_ (fun _ => ?_))
theorem aumbryref04_Check.calls (k : Nat) (A0 : Option Addr) (c0 : Nat) (l0 : List (S33)) (r : Int) (w : World) (hr0 : Kd.C k33 w A0 l0.length l0) (hc0 : l0.length ≤ c0) (h : aumbryref04_Check.f k l0 = some r) :
 Calls Tryd.prog 37 #[.slice A0 l0.length c0] w fun e w' => e = .returned (.int .i64 r) ∧ Drawn0 w w' := by
 have HR0 := zM hr0
 have HC0 := zM hc0
 clear hr0 hc0
 have H : (if (l0.length : Int) > 64 then (some 6) else (aumbryref04_Check.l0 k l0 (l0.length : Int) 0)) = some r := h
 clear h
 by_cases c2 : (l0.length : Int) > 64
 ·
  rw [if_pos c2] at H
  have c2b0 : decide (64 < (l0.length : Int)) = true := zQ c2
  have c2b1 : decide (64 < l0.length) = true := zQ (by omega)
  clear c2
  obtain rfl := zS H
  go_enter Tryd.func37, Tryd.ntmps37
  go_wp2
  go_ret
  exact ⟨zy, zd⟩
 ·
  rw [if_neg c2] at H
  have c2b0 : decide (64 < (l0.length : Int)) = false := zR c2
  have c2b1 : decide (64 < l0.length) = false := zR (by omega)
  clear c2
  have H' := zM H
  clear H
  go_enter Tryd.func37, Tryd.ntmps37
  go_wp2
  go_loopg [10] k (fun kq v10 w' => ∃ (x10_1 : Int), v10 = .int .i64 x10_1 ∧ Aside0 (aumbryref04_Check.l0 kq l0 (l0.length : Int) x10_1 = some r) ∧ Aside0 (kq ≤ k) ∧ Drawn0 w w')
  case atStart => exact ⟨(0), zy, H', ⟨Nat.le_refl _⟩, zd⟩
  case round =>
   clear H'
   try clear c2
   try clear c2b0
   try clear c2b1
   try clear p2
   obtain ⟨x10_1, rfl, HA, HK1, ⟨m1, rfl⟩⟩ := hrel
   cases gk with
   | zero => exact absurd HA.out (by simp [aumbryref04_Check.l0])
   | succ k1 =>
    have H := HA.out
    clear HA
    simp only [aumbryref04_Check.l0] at H
    by_cases c3 : x10_1 < (l0.length : Int)
    ·
     rw [if_pos c3] at H
     have c3b0 : decide (x10_1 < (l0.length : Int)) = true := zQ c3
     clear c3
     by_cases c4 : 0 ≤ x10_1
     ·
      rw [if_pos c4] at H
      have c4b0 : decide (0 ≤ x10_1) = true := zQ c4
      clear c4
      by_cases c5 : x10_1 < (l0.length : Int)
      ·
       rw [if_pos c5] at H
       have c5b0 : decide (x10_1 < (l0.length : Int)) = true := zQ c5
       clear c5
       replace H := zB H
       obtain ⟨t103, A60, H⟩ := H
       try dsimp only at H
       have A6 := zM A60
       clear A60
       by_cases c7 : t103 = 0
       ·
        rw [if_pos c7] at H
        have c7b0 : (t103 == 0) = true := zG c7
        have c7b1 : (t103 != 0) = false := zH c7
        clear c7
        obtain rfl := zS H
        have p102 : 0 ≤ (x10_1 : Int) := zT zv
        have q102 : x10_1 < (l0.length : Int) := zT zv
        obtain ⟨ad102, e102, hx102_0, hx102_1⟩ := at_T33 HR0.out x10_1 p102 q102
        cases e102
        replace p102 := eq_true p102
        replace q102 := eq_true q102
        go_wp2_with (first | ((with_reducible refine gate_callee (f := 61) rfl ?_); refine goesL_ (some 18) rfl rfl Tryd.func61 (by kernel_rfl) rfl #[.string ((rd_T33 l0 x10_1).f0)] rfl zl ?_; (with_reducible refine (aumbryref03_Kind.calls k1 ((rd_T33 l0 x10_1).f0) t103 _ A6.out).mono ?_); rintro e w' ⟨rfl, ⟨nd, rfl⟩⟩; refine ⟨_, rfl, ?_⟩))
        go_ret
        exact ⟨zy, zd⟩
       ·
        rw [if_neg c7] at H
        have c7b0 : (t103 == 0) = false := zE c7
        have c7b1 : (t103 != 0) = true := zF c7
        by_cases c8 : ((rd_T33 l0 x10_1).f1) < 0
        ·
         rw [if_pos c8] at H
         have c8b0 : decide (((rd_T33 l0 x10_1).f1) < 0) = true := zQ c8
         clear c8
         obtain rfl := zS H
         have p102 : 0 ≤ (x10_1 : Int) := zT zv
         have q102 : x10_1 < (l0.length : Int) := zT zv
         obtain ⟨ad102, e102, hx102_0, hx102_1⟩ := at_T33 HR0.out x10_1 p102 q102
         cases e102
         replace p102 := eq_true p102
         replace q102 := eq_true q102
         go_wp2_with (first | ((with_reducible refine gate_callee (f := 61) rfl ?_); refine goesL_ (some 18) rfl rfl Tryd.func61 (by kernel_rfl) rfl #[.string ((rd_T33 l0 x10_1).f0)] rfl zl ?_; (with_reducible refine (aumbryref03_Kind.calls k1 ((rd_T33 l0 x10_1).f0) t103 _ A6.out).mono ?_); rintro e w' ⟨rfl, ⟨nd, rfl⟩⟩; refine ⟨_, rfl, ?_⟩; have p104 : 0 ≤ (x10_1 : Int) := zT zv; have q104 : x10_1 < (l0.length : Int) := zT zv; obtain ⟨ad104, e104, hx104_0, hx104_1⟩ := at_T33 HR0.out x10_1 p104 q104; obtain rfl : ad102 = ad104 := (by injection e104); replace p104 := eq_true p104; replace q104 := eq_true q104))
         go_ret
         exact ⟨zy, zd⟩
        ·
         rw [if_neg c8] at H
         have c8b0 : decide (((rd_T33 l0 x10_1).f1) < 0) = false := zR c8
         clear c8
         by_cases c9 : ((rd_T33 l0 x10_1).f1) > 4
         ·
          rw [if_pos c9] at H
          have c9b0 : decide (4 < ((rd_T33 l0 x10_1).f1)) = true := zQ c9
          clear c9
          obtain rfl := zS H
          have p102 : 0 ≤ (x10_1 : Int) := zT zv
          have q102 : x10_1 < (l0.length : Int) := zT zv
          obtain ⟨ad102, e102, hx102_0, hx102_1⟩ := at_T33 HR0.out x10_1 p102 q102
          cases e102
          replace p102 := eq_true p102
          replace q102 := eq_true q102
          go_wp2_with (first | ((with_reducible refine gate_callee (f := 61) rfl ?_); refine goesL_ (some 18) rfl rfl Tryd.func61 (by kernel_rfl) rfl #[.string ((rd_T33 l0 x10_1).f0)] rfl zl ?_; (with_reducible refine (aumbryref03_Kind.calls k1 ((rd_T33 l0 x10_1).f0) t103 _ A6.out).mono ?_); rintro e w' ⟨rfl, ⟨nd, rfl⟩⟩; refine ⟨_, rfl, ?_⟩; have p104 : 0 ≤ (x10_1 : Int) := zT zv; have q104 : x10_1 < (l0.length : Int) := zT zv; obtain ⟨ad104, e104, hx104_0, hx104_1⟩ := at_T33 HR0.out x10_1 p104 q104; obtain rfl : ad102 = ad104 := (by injection e104); replace p104 := eq_true p104; replace q104 := eq_true q104; have p105 : 0 ≤ (x10_1 : Int) := zT zv; have q105 : x10_1 < (l0.length : Int) := zT zv; obtain ⟨ad105, e105, hx105_0, hx105_1⟩ := at_T33 HR0.out x10_1 p105 q105; obtain rfl : ad102 = ad105 := (by injection e105); replace p105 := eq_true p105; replace q105 := eq_true q105))
          go_ret
          exact ⟨zy, zd⟩
         ·
          rw [if_neg c9] at H
          have c9b0 : decide (4 < ((rd_T33 l0 x10_1).f1)) = false := zR c9
          clear c9
          by_cases c10 : t103 = 2
          ·
           rw [if_pos c10] at H
           have c10b0 : (t103 == 2) = true := zG c10
           have c10b1 : (t103 != 2) = false := zH c10
           clear c10
           by_cases c11 : ((rd_T33 l0 x10_1).f1) = 0
           ·
            rw [if_pos c11] at H
            have c11b0 : (((rd_T33 l0 x10_1).f1) == 0) = true := zG c11
            have c11b1 : (((rd_T33 l0 x10_1).f1) != 0) = false := zH c11
            clear c11
            have H' := zM H
            clear H
            have p102 : 0 ≤ (x10_1 : Int) := zT zv
            have q102 : x10_1 < (l0.length : Int) := zT zv
            obtain ⟨ad102, e102, hx102_0, hx102_1⟩ := at_T33 HR0.out x10_1 p102 q102
            cases e102
            replace p102 := eq_true p102
            replace q102 := eq_true q102
            go_wp2_with (first | ((with_reducible refine gate_callee (f := 61) rfl ?_); refine goesL_ (some 18) rfl rfl Tryd.func61 (by kernel_rfl) rfl #[.string ((rd_T33 l0 x10_1).f0)] rfl zl ?_; (with_reducible refine (aumbryref03_Kind.calls k1 ((rd_T33 l0 x10_1).f0) t103 _ A6.out).mono ?_); rintro e w' ⟨rfl, ⟨nd, rfl⟩⟩; refine ⟨_, rfl, ?_⟩; have p104 : 0 ≤ (x10_1 : Int) := zT zv; have q104 : x10_1 < (l0.length : Int) := zT zv; obtain ⟨ad104, e104, hx104_0, hx104_1⟩ := at_T33 HR0.out x10_1 p104 q104; obtain rfl : ad102 = ad104 := (by injection e104); replace p104 := eq_true p104; replace q104 := eq_true q104; have p105 : 0 ≤ (x10_1 : Int) := zT zv; have q105 : x10_1 < (l0.length : Int) := zT zv; obtain ⟨ad105, e105, hx105_0, hx105_1⟩ := at_T33 HR0.out x10_1 p105 q105; obtain rfl : ad102 = ad105 := (by injection e105); replace p105 := eq_true p105; replace q105 := eq_true q105; have p106 : 0 ≤ (x10_1 : Int) := zT zv; have q106 : x10_1 < (l0.length : Int) := zT zv; obtain ⟨ad106, e106, hx106_0, hx106_1⟩ := at_T33 HR0.out x10_1 p106 q106; obtain rfl : ad102 = ad106 := (by injection e106); replace p106 := eq_true p106; replace q106 := eq_true q106))
            go_roundg k1
            case measure => have := HK1.out; omega
            case rel => exact ⟨(wrap64 (x10_1 + 1)), zy, H', ⟨by have := HK1.out; omega⟩, zd⟩
           ·
            rw [if_neg c11] at H
            have c11b0 : (((rd_T33 l0 x10_1).f1) == 0) = false := zE c11
            have c11b1 : (((rd_T33 l0 x10_1).f1) != 0) = true := zF c11
            obtain rfl := zS H
            have p102 : 0 ≤ (x10_1 : Int) := zT zv
            have q102 : x10_1 < (l0.length : Int) := zT zv
            obtain ⟨ad102, e102, hx102_0, hx102_1⟩ := at_T33 HR0.out x10_1 p102 q102
            cases e102
            replace p102 := eq_true p102
            replace q102 := eq_true q102
            go_wp2_with (first | ((with_reducible refine gate_callee (f := 61) rfl ?_); refine goesL_ (some 18) rfl rfl Tryd.func61 (by kernel_rfl) rfl #[.string ((rd_T33 l0 x10_1).f0)] rfl zl ?_; (with_reducible refine (aumbryref03_Kind.calls k1 ((rd_T33 l0 x10_1).f0) t103 _ A6.out).mono ?_); rintro e w' ⟨rfl, ⟨nd, rfl⟩⟩; refine ⟨_, rfl, ?_⟩; have p104 : 0 ≤ (x10_1 : Int) := zT zv; have q104 : x10_1 < (l0.length : Int) := zT zv; obtain ⟨ad104, e104, hx104_0, hx104_1⟩ := at_T33 HR0.out x10_1 p104 q104; obtain rfl : ad102 = ad104 := (by injection e104); replace p104 := eq_true p104; replace q104 := eq_true q104; have p105 : 0 ≤ (x10_1 : Int) := zT zv; have q105 : x10_1 < (l0.length : Int) := zT zv; obtain ⟨ad105, e105, hx105_0, hx105_1⟩ := at_T33 HR0.out x10_1 p105 q105; obtain rfl : ad102 = ad105 := (by injection e105); replace p105 := eq_true p105; replace q105 := eq_true q105; have p106 : 0 ≤ (x10_1 : Int) := zT zv; have q106 : x10_1 < (l0.length : Int) := zT zv; obtain ⟨ad106, e106, hx106_0, hx106_1⟩ := at_T33 HR0.out x10_1 p106 q106; obtain rfl : ad102 = ad106 := (by injection e106); replace p106 := eq_true p106; replace q106 := eq_true q106))
            go_ret
            exact ⟨zy, zd⟩
          ·
           rw [if_neg c10] at H
           have c10b0 : (t103 == 2) = false := zE c10
           have c10b1 : (t103 != 2) = true := zF c10
           have H' := zM H
           clear H
           have p102 : 0 ≤ (x10_1 : Int) := zT zv
           have q102 : x10_1 < (l0.length : Int) := zT zv
           obtain ⟨ad102, e102, hx102_0, hx102_1⟩ := at_T33 HR0.out x10_1 p102 q102
           cases e102
           replace p102 := eq_true p102
           replace q102 := eq_true q102
           go_wp2_with (first | ((with_reducible refine gate_callee (f := 61) rfl ?_); refine goesL_ (some 18) rfl rfl Tryd.func61 (by kernel_rfl) rfl #[.string ((rd_T33 l0 x10_1).f0)] rfl zl ?_; (with_reducible refine (aumbryref03_Kind.calls k1 ((rd_T33 l0 x10_1).f0) t103 _ A6.out).mono ?_); rintro e w' ⟨rfl, ⟨nd, rfl⟩⟩; refine ⟨_, rfl, ?_⟩; have p104 : 0 ≤ (x10_1 : Int) := zT zv; have q104 : x10_1 < (l0.length : Int) := zT zv; obtain ⟨ad104, e104, hx104_0, hx104_1⟩ := at_T33 HR0.out x10_1 p104 q104; obtain rfl : ad102 = ad104 := (by injection e104); replace p104 := eq_true p104; replace q104 := eq_true q104; have p105 : 0 ≤ (x10_1 : Int) := zT zv; have q105 : x10_1 < (l0.length : Int) := zT zv; obtain ⟨ad105, e105, hx105_0, hx105_1⟩ := at_T33 HR0.out x10_1 p105 q105; obtain rfl : ad102 = ad105 := (by injection e105); replace p105 := eq_true p105; replace q105 := eq_true q105))
           go_roundg k1
           case measure => have := HK1.out; omega
           case rel => exact ⟨(wrap64 (x10_1 + 1)), zy, H', ⟨by have := HK1.out; omega⟩, zd⟩
      ·
       rw [if_neg c5] at H
       exact absurd H (by simp)
     ·
      rw [if_neg c4] at H
      exact absurd H (by simp)
    ·
     rw [if_neg c3] at H
     have c3b0 : decide (x10_1 < (l0.length : Int)) = false := zR c3
     clear c3
     replace H := zB H
     obtain ⟨t101, A120, H⟩ := H
     try dsimp only at H
     have A12 := zM A120
     clear A120
     by_cases c13 : t101 = (l0.length : Int)
     ·
      rw [if_pos c13] at H
      have c13b0 : (t101 == (l0.length : Int)) = true := zG c13
      have c13b1 : (t101 != (l0.length : Int)) = false := zH c13
      clear c13
      obtain rfl := zS H
      go_wp2_with (first | ((with_reducible refine gate_callee (f := 62) rfl ?_); refine goesL_ (some 49) rfl rfl Tryd.func62 (by kernel_rfl) rfl #[.slice A0 l0.length c0, .int .i64 0] rfl zl ?_; (with_reducible refine (aumbryref04_Behind.calls k1 _ _ l0 0 t101 _ ?side1 ?side2 A12.out).mono ?_); (case side1 => exact Kd.C_below HR0.out zg); (case side2 => exact HC0.out); rintro e w' ⟨rfl, ⟨nd, rfl⟩⟩; refine ⟨_, rfl, ?_⟩))
      go_ret
      exact ⟨zy, zd⟩
     ·
      rw [if_neg c13] at H
      have c13b0 : (t101 == (l0.length : Int)) = false := zE c13
      have c13b1 : (t101 != (l0.length : Int)) = true := zF c13
      obtain rfl := zS H
      go_wp2_with (first | ((with_reducible refine gate_callee (f := 62) rfl ?_); refine goesL_ (some 49) rfl rfl Tryd.func62 (by kernel_rfl) rfl #[.slice A0 l0.length c0, .int .i64 0] rfl zl ?_; (with_reducible refine (aumbryref04_Behind.calls k1 _ _ l0 0 t101 _ ?side1 ?side2 A12.out).mono ?_); (case side1 => exact Kd.C_below HR0.out zg); (case side2 => exact HC0.out); rintro e w' ⟨rfl, ⟨nd, rfl⟩⟩; refine ⟨_, rfl, ?_⟩))
      go_ret
      exact ⟨zy, zd⟩

end Go.Proofs.YtpnamhplhdaphaaDoor.P
