/- RuleOwn: the law answers true at every input that the given row speaks of. Conditions: those of the given row, none besides. (Part 5 of 5; written by programs of this session, which drive the kit's print, and by hand.) -/
import Derived.KernelRfl
import Derived.Test.YtpnamhplhdaphaaDoorCards
import Derived.Test.YtpnamhplhdaphaaDoorTie
import Derived.Deep.DeepHandedRow
import Derived.Lay
import Derived.SevenTiedAt
import Derived.Test.YtpnamhplhdaphaaDoorRows
import Derived.WalkKit
import Derived.ProofKit
import Derived.OpenShut
import Derived.ShutString
import Derived.ChangeOld
import Derived.Below
import Derived.Carry
import Derived.SizedLaws
import Derived.Test.YtpnamhplhdaphaaDoorZRuleOwn0
import Derived.Test.YtpnamhplhdaphaaDoorZRuleOwn1
import Derived.Test.YtpnamhplhdaphaaDoorZRuleOwn2
import Derived.Test.YtpnamhplhdaphaaDoorZRuleOwn3
set_option maxHeartbeats 8000000
set_option maxRecDepth 100000
set_option linter.unusedVariables false
set_option linter.unusedSimpArgs false
-- ==== PF52
namespace Go.Proofs.YtpnamhplhdaphaaDoor.P
open Go.RowKit Go.Proofs.YtpnamhplhdaphaaDoorW.PrintWords Go.Proofs.YtpnamhplhdaphaaDoorW.PrintLast Go.Proofs.YtpnamhplhdaphaaDoorW.PrintMore
attribute [local go_sem] max2_int min2_int max_two min_two max_three min_three max_four min_four

mutual
def match_Fill.l0 : Nat → List (S33) → List (S109) → List (S33) → List (S109) → Int → Int → Option ((List (S33)) × Int)
 | 0, _, _, _, _, _, _ => none
 | k + 1, x0, x1, x7, x24, x25, x26 => if x26 < x25 then (if 0 ≤ x26 then (if x26 < (x24.length : Int) then ((name_Kind.f k ((rd_T109 x24 x26).f0)).bind fun t107 => (if t107 = 2 then (if ((rd_T109 x24 x26).f0).size ≤ 9223372036854775807 then (if mapHas x7 ((rd_T109 x24 x26).f0) = true then (some (([] : List (S33)), 9)) else ((term_Check.f k ((rd_T109 x24 x26).f1)).bind fun t108 => (if t108 = 0 then (if x7.length < 9223372036854775807 ∧ ((rd_T109 x24 x26).f0).size ≤ 9223372036854775807 ∧ 0 ≤ x26 ∧ x26 ≤ 9223372036854775807 then (match_Fill.l0 k x0 x1 (mapPut x7 ((rd_T109 x24 x26).f0) x26) x24 x25 (wrap64 (x26 + 1))) else (none)) else (some (([] : List (S33)), t108))))) else (none)) else (some (([] : List (S33)), 4)))) else (none)) else (none)) else (match_Fill.l1 k x1 x7 ([] : List (S33)) x0 (x0.length : Int) 0)
def match_Fill.l1 : Nat → List (S109) → List (S33) → List (S33) → List (S33) → Int → Int → Option ((List (S33)) × Int)
 | 0, _, _, _, _, _, _ => none
 | k + 1, x1, x7, x13, x54, x55, x56 => if x56 < x55 then (if 0 ≤ x56 then (if x56 < (x54.length : Int) then (if ((rd_T33 x54 x56).f0).size ≤ 9223372036854775807 then ((match_variable.f k ((rd_T33 x54 x56).f0) ((rd_T33 x54 x56).f1)).bind fun t114 => (if t114 = true then (if (mapHas x7 ((rd_T33 x54 x56).f0) = true) then (if 0 ≤ (mapAt x7 ((rd_T33 x54 x56).f0)) then (if (mapAt x7 ((rd_T33 x54 x56).f0)) < (x1.length : Int) then (if x13.length + ((rd_T109 x1 (mapAt x7 ((rd_T33 x54 x56).f0))).f1).length < 5864062014805 then (match_Fill.l1 k x1 x7 (x13 ++ ((rd_T109 x1 (mapAt x7 ((rd_T33 x54 x56).f0))).f1)) x54 x55 (wrap64 (x56 + 1))) else (none)) else (none)) else (none)) else (some (([] : List (S33)), 7))) else (if x13.length < 5864062014805 then (match_Fill.l1 k x1 x7 (x13 ++ [(⟨(rd_T33 x54 x56).f0, (rd_T33 x54 x56).f1⟩ : S33)]) x54 x55 (wrap64 (x56 + 1))) else (none)))) else (none)) else (none)) else (none)) else (if (x13.length : Int) > 64 then (some (([] : List (S33)), 6)) else (some (x13, 0)))
end
def match_Fill.f (k : Nat) (l0 : List (S33)) (l1 : List (S109)) : Option ((List (S33)) × Int) := (term_Check.f k l0).bind fun t101 => (if t101 = 0 then (match_Fill.l0 k l0 l1 (([] : List (S33))) l1 (l1.length : Int) 0) else (some (([] : List (S33)), t101)))
theorem match_Fill.mono_l : ∀ k, (∀ y0 y1 y2 y3 y4 y5, LeO (match_Fill.l0 k y0 y1 y2 y3 y4 y5) (match_Fill.l0 (k + 1) y0 y1 y2 y3 y4 y5)) ∧ (∀ y0 y1 y2 y3 y4 y5, LeO (match_Fill.l1 k y0 y1 y2 y3 y4 y5) (match_Fill.l1 (k + 1) y0 y1 y2 y3 y4 y5))
 | 0 => ⟨fun _ _ _ _ _ _ r h => by simp [match_Fill.l0] at h, fun _ _ _ _ _ _ r h => by simp [match_Fill.l1] at h⟩
 | k + 1 => by
  obtain ⟨ih0, ih1⟩ := match_Fill.mono_l k
  refine ⟨?_, ?_⟩
  ·
   intro y0 y1 y2 y3 y4 y5
   unfold match_Fill.l0
   repeat' first
   | (with_reducible exact ih0 _ _ _ _ _ _)
   | (with_reducible exact ih1 _ _ _ _ _ _)
   | (with_reducible exact match_variable.mono _ _ _)
   | (with_reducible exact name_Kind.mono _ _)
   | (with_reducible exact term_Check.mono _ _)
   | (with_reducible exact LeO.refl _)
   | (with_reducible exact LeO.none _)
   | (with_reducible refine LeO.ite ?_ ?_)
   | (with_reducible refine LeO.bind ?_ (fun _ => ?_))
  ·
   intro y0 y1 y2 y3 y4 y5
   unfold match_Fill.l1
   repeat' first
   | (with_reducible exact ih0 _ _ _ _ _ _)
   | (with_reducible exact ih1 _ _ _ _ _ _)
   | (with_reducible exact match_variable.mono _ _ _)
   | (with_reducible exact name_Kind.mono _ _)
   | (with_reducible exact term_Check.mono _ _)
   | (with_reducible exact LeO.refl _)
   | (with_reducible exact LeO.none _)
   | (with_reducible refine LeO.ite ?_ ?_)
   | (with_reducible refine LeO.bind ?_ (fun _ => ?_))
theorem match_Fill.mono : ∀ a0 a1 k, LeO (match_Fill.f k a0 a1) (match_Fill.f (k + 1) a0 a1) := by
 intro a0 a1 k
 obtain ⟨ih0, ih1⟩ := match_Fill.mono_l k
 unfold match_Fill.f
 repeat' first
  | (with_reducible exact ih0 _ _ _ _ _ _)
  | (with_reducible exact ih1 _ _ _ _ _ _)
  | (with_reducible exact match_variable.mono _ _ _)
  | (with_reducible exact name_Kind.mono _ _)
  | (with_reducible exact term_Check.mono _ _)
  | (with_reducible exact LeO.refl _)
  | (with_reducible exact LeO.none _)
  | (with_reducible refine LeO.ite ?_ ?_)
  | (with_reducible refine LeO.bind ?_ (fun _ => ?_))
theorem match_Fill.calls (k : Nat) (A0 : Option Addr) (c0 : Nat) (l0 : List (S33)) (A1 : Option Addr) (c1 : Nat) (l1 : List (S109)) (r1 : List (S33)) (r2 : Int) (w : World) (hr0 : Kd.C k33 w A0 l0.length l0) (hc0 : l0.length ≤ c0) (hr1 : Kd.C k109 w A1 l1.length l1) (hc1 : l1.length ≤ c1) (h : match_Fill.f k l0 l1 = some (r1, r2)) :
 Calls Tryd.prog 52 #[.slice A0 l0.length c0, .slice A1 l1.length c1] w fun e w' => ∃ v0_ : Value, e = .returned (.tuple #[v0_, .int .i64 r2]) ∧ Kd.R k33 33 w' w.heap.size (fun _ => True) v0_ r1 ∧ Below w.heap.size w w' := by
 have hu109 := Tryd.underlying109
 have hu33 := Tryd.underlying33
 have HR0 := zM hr0
 have HC0 := zM hc0
 clear hr0 hc0
 have HR1 := zM hr1
 have HC1 := zM hc1
 clear hr1 hc1
 have HB := zM (Below.refl w.heap.size w)
 have H : ((term_Check.f k l0).bind fun t101 => (if t101 = 0 then (match_Fill.l0 k l0 l1 (([] : List (S33))) l1 (l1.length : Int) 0) else (some (([] : List (S33)), t101)))) = some (r1, r2) := h
 clear h
 replace H := zB H
 obtain ⟨t101, A30, H⟩ := H
 try dsimp only at H
 have A3 := zM A30
 clear A30
 by_cases c4 : t101 = 0
 ·
  rw [if_pos c4] at H
  have c4b0 : (t101 == 0) = true := zG c4
  have c4b1 : (t101 != 0) = false := zH c4
  clear c4
  obtain ⟨y102, hy102⟩ : ∃ y_ : List (S33), y_ = (([] : List (S33))) := ⟨_, rfl⟩
  replace H : (match_Fill.l0 k l0 l1 y102 l1 (l1.length : Int) 0) = some (r1, r2) := by first | (rw [hy102]; with_reducible exact H) | (have H2_ := (Option.bind_some _ _).symm.trans H; rw [hy102]; with_reducible exact H2_) | (have H2_ := (Option.bind_some _ _).symm.trans H; with_reducible exact H2_) | with_reducible exact H | (rw [hy102]; exact H) | exact H
  have Ny102 := zM hy102
  clear hy102
  have H' := zM H
  clear H
  go_enter Tryd.func52, Tryd.ntmps52
  go_wp2_with (first | ((with_reducible refine gate_callee (f := 30) rfl ?_); refine goesL_ (some 19) rfl rfl Tryd.func30 (by kernel_rfl) rfl #[.slice A0 l0.length c0] rfl zl ?_; (with_reducible refine (term_Check.calls k _ _ l0 t101 _ ?side1 ?side2 A3.out).mono ?_); (case side1 => exact Kd.C_below HR0.out zg); (case side2 => exact HC0.out); rintro e w5 ⟨rfl, hb⟩; refine ⟨_, rfl, ?_⟩; replace HB := zM (below_step zb hb); (try clear hb)) | ((with_reducible refine gate_dst (N := 23) rfl ?_); refine Kd.P_make k33 (N := 23) rfl rfl rfl ?_; intro v103 w6 ho7 hb; rw [← Ny102.out] at ho7; have HO104 := zM (Kd.P_lower ho7 (below_size zb)); replace HB := zM (below_step zb hb); clear hb ho7))
  go_loopg [26] k (fun kq v26 w' => ∃ (x7_1 : List (S33)) (x26_1 : Int), v26 = .int .i64 x26_1 ∧ Aside0 (match_Fill.l0 kq l0 l1 x7_1 l1 (l1.length : Int) x26_1 = some (r1, r2)) ∧ Aside0 (kq ≤ k) ∧ Aside0 (Kd.P k33 105 w' w.heap.size (fun _ => True) v103 x7_1) ∧ Aside0 (Below w.heap.size w w'))
  case atStart => exact ⟨(y102), (0), zy, H', ⟨Nat.le_refl _⟩, ⟨Kd.P_below HO104.out zg⟩, ⟨zb⟩⟩
  case round =>
   clear H'
   try clear c1
   try clear p2
   try clear c3
   try clear c4
   try clear c4b0
   try clear c4b1
   try clear c5
   obtain ⟨x7_1, x26_1, rfl, HA, HK1, HO_7, HB⟩ := hrel
   cases gk with
   | zero => exact absurd HA.out (by simp [match_Fill.l0])
   | succ k1 =>
    have H := HA.out
    clear HA
    simp only [match_Fill.l0] at H
    by_cases c8 : x26_1 < (l1.length : Int)
    ·
     rw [if_pos c8] at H
     have c8b0 : decide (x26_1 < (l1.length : Int)) = true := zQ c8
     clear c8
     by_cases c9 : 0 ≤ x26_1
     ·
      rw [if_pos c9] at H
      have c9b0 : decide (0 ≤ x26_1) = true := zQ c9
      clear c9
      by_cases c10 : x26_1 < (l1.length : Int)
      ·
       rw [if_pos c10] at H
       have c10b0 : decide (x26_1 < (l1.length : Int)) = true := zQ c10
       clear c10
       replace H := zB H
       obtain ⟨t107, A110, H⟩ := H
       try dsimp only at H
       have A11 := zM A110
       clear A110
       by_cases c12 : t107 = 2
       ·
        rw [if_pos c12] at H
        have c12b0 : (t107 == 2) = true := zG c12
        have c12b1 : (t107 != 2) = false := zH c12
        clear c12
        by_cases c13 : ((rd_T109 l1 x26_1).f0).size ≤ 9223372036854775807
        ·
         rw [if_pos c13] at H
         have LMc13 := zM c13
         clear c13
         by_cases c14 : mapHas x7_1 ((rd_T109 l1 x26_1).f0) = true
         ·
          rw [if_pos c14] at H
          have c14b0 : mapHas x7_1 ((rd_T109 l1 x26_1).f0) = true := c14
          clear c14
          simp only [Option.some.injEq, Prod.mk.injEq] at H
          obtain ⟨rfl, rfl⟩ := H
          have p105 : 0 ≤ (x26_1 : Int) := zT zv
          have q105 : x26_1 < (l1.length : Int) := zT zv
          obtain ⟨ad105, A105_1, c105_1, e105, hx105_0, hx105_1, hl105_1, hi105_1⟩ := at_T109 HR1.out x26_1 p105 q105
          cases e105
          replace hx105_0 := (HB.out.cell (World.block_lt_of_cell? w _ hx105_0)).trans hx105_0
          replace hx105_1 := (HB.out.cell (World.block_lt_of_cell? w _ hx105_1)).trans hx105_1
          have HR105_1 := zM hi105_1
          have HC105_1 := zM hl105_1
          clear hi105_1 hl105_1
          replace p105 := eq_true p105
          replace q105 := eq_true q105
          go_wp2_with (first | ((with_reducible refine gate_dst (N := 9) rfl ?_); refine box_event ?hg (N := 9) ?hd (cs := #[.string (⟨#[]⟩ : ByteArray), .slice none 0 0]) (t := 109) ?hr ?_; (case hd => rfl); (case hg => rfl); (case hr => first | (go_simp; done) | (go_simp; rfl)); intro gb106 hg w15 hbox hb; replace HO_7 := zM (Kd.P_below (Kd.P_below HO_7.out zg) hb); have BK106 := zM (hbox); have GW106 := zM (zh hg : w.heap.size ≤ gb106); have GE106 := zM (zh hg : w.heap.size ≤ gb106); replace HB := zM (below_step zb hb); clear hb hbox hg; have hcz16_0 : w15.cell? ⟨gb106, 0, none⟩ = some (.string (⟨#[]⟩ : ByteArray)) := (zX BK106.out 0).trans rfl; have hcz16_1 : w15.cell? ⟨gb106, 1, none⟩ = some (.slice none 0 0) := (zX BK106.out 1).trans rfl; have hfz16_0 := zY BK106.out 0; have hfz16_1 := zY BK106.out 1) | ((with_reducible refine gate_callee (f := 34) rfl ?_); refine goesL_ (some 33) rfl rfl Tryd.func34 (by kernel_rfl) rfl #[.string ((rd_T109 l1 x26_1).f0)] rfl zl ?_; (with_reducible refine (name_Kind.calls k1 ((rd_T109 l1 x26_1).f0) t107 _ A11.out).mono ?_); rintro e w' ⟨rfl, ⟨nd, rfl⟩⟩; refine ⟨_, rfl, ?_⟩) | ((with_reducible refine gate_dst (N := 39) rfl ?_); refine Kd.P_look (v := v103) (m := x7_1) (s := ((rd_T109 l1 x26_1).f0)) rfl rfl rfl rfl LMc13.out (by (with_reducible repeat (first | apply Kd.P_alloc | apply Kd.P_drewN | apply Kd.P_drew)); exact (Kd.P_mono (Kd.P_far (p := ⟨gb106, 1, none⟩) (Kd.P_far (p := ⟨gb106, 0, none⟩) (Kd.P_types HO_7.out BK106.out (by decide)) (fun _ hk => hk.2) (.string ((rd_T109 l1 x26_1).f0))) (fun _ hk => hk.2) (.slice A105_1 ((rd_T109 l1 x26_1).f1).length c105_1)) (fun _ h_ => h_.1))) ?_))
          go_ret2
          exact ⟨_, zw, by first | exact Kd.R_nil _ _ _ _ _ | exact Kd.N_nil _ _ _ _ _ | exact Kd.V_nil _ _ _ _ _ | exact Kd.Q_nil _ _ _ _ _ | exact Kd.S_nil _ _ _ _ _, zb⟩
         ·
          rw [if_neg c14] at H
          have c14b0 : mapHas x7_1 ((rd_T109 l1 x26_1).f0) = false := by simpa using c14
          clear c14
          replace H := zB H
          obtain ⟨t108, A170, H⟩ := H
          try dsimp only at H
          have A17 := zM A170
          clear A170
          by_cases c18 : t108 = 0
          ·
           rw [if_pos c18] at H
           have c18b0 : (t108 == 0) = true := zG c18
           have c18b1 : (t108 != 0) = false := zH c18
           clear c18
           by_cases c19 : x7_1.length < 9223372036854775807 ∧ ((rd_T109 l1 x26_1).f0).size ≤ 9223372036854775807 ∧ 0 ≤ x26_1 ∧ x26_1 ≤ 9223372036854775807
           ·
            rw [if_pos c19] at H
            have LMc19 := zM c19
            clear c19
            obtain ⟨y109, hy109⟩ : ∃ y_ : List (S33), y_ = (mapPut x7_1 ((rd_T109 l1 x26_1).f0) x26_1) := ⟨_, rfl⟩
            replace H : (match_Fill.l0 k1 l0 l1 y109 l1 (l1.length : Int) (wrap64 (x26_1 + 1))) = some (r1, r2) := by first | (rw [hy109]; with_reducible exact H) | (have H2_ := (Option.bind_some _ _).symm.trans H; rw [hy109]; with_reducible exact H2_) | (have H2_ := (Option.bind_some _ _).symm.trans H; with_reducible exact H2_) | with_reducible exact H | (rw [hy109]; exact H) | exact H
            have Ny109 := zM hy109
            clear hy109
            have H' := zM H
            clear H
            have p105 : 0 ≤ (x26_1 : Int) := zT zv
            have q105 : x26_1 < (l1.length : Int) := zT zv
            obtain ⟨ad105, A105_1, c105_1, e105, hx105_0, hx105_1, hl105_1, hi105_1⟩ := at_T109 HR1.out x26_1 p105 q105
            cases e105
            replace hx105_0 := (HB.out.cell (World.block_lt_of_cell? w _ hx105_0)).trans hx105_0
            replace hx105_1 := (HB.out.cell (World.block_lt_of_cell? w _ hx105_1)).trans hx105_1
            have HR105_1 := zM hi105_1
            have HC105_1 := zM hl105_1
            clear hi105_1 hl105_1
            replace p105 := eq_true p105
            replace q105 := eq_true q105
            go_wp2_with (first | ((with_reducible refine gate_dst (N := 9) rfl ?_); refine box_event ?hg (N := 9) ?hd (cs := #[.string (⟨#[]⟩ : ByteArray), .slice none 0 0]) (t := 109) ?hr ?_; (case hd => rfl); (case hg => rfl); (case hr => first | (go_simp; done) | (go_simp; rfl)); intro gb106 hg w20 hbox hb; replace HO_7 := zM (Kd.P_below (Kd.P_below HO_7.out zg) hb); have BK106 := zM (hbox); have GW106 := zM (zh hg : w.heap.size ≤ gb106); have GE106 := zM (zh hg : w.heap.size ≤ gb106); replace HB := zM (below_step zb hb); clear hb hbox hg; have hcz21_0 : w20.cell? ⟨gb106, 0, none⟩ = some (.string (⟨#[]⟩ : ByteArray)) := (zX BK106.out 0).trans rfl; have hcz21_1 : w20.cell? ⟨gb106, 1, none⟩ = some (.slice none 0 0) := (zX BK106.out 1).trans rfl; have hfz21_0 := zY BK106.out 0; have hfz21_1 := zY BK106.out 1) | ((with_reducible refine gate_callee (f := 34) rfl ?_); refine goesL_ (some 33) rfl rfl Tryd.func34 (by kernel_rfl) rfl #[.string ((rd_T109 l1 x26_1).f0)] rfl zl ?_; (with_reducible refine (name_Kind.calls k1 ((rd_T109 l1 x26_1).f0) t107 _ A11.out).mono ?_); rintro e w' ⟨rfl, ⟨nd, rfl⟩⟩; refine ⟨_, rfl, ?_⟩) | ((with_reducible refine gate_dst (N := 39) rfl ?_); refine Kd.P_look (v := v103) (m := x7_1) (s := ((rd_T109 l1 x26_1).f0)) rfl rfl rfl rfl LMc13.out (by (with_reducible repeat (first | apply Kd.P_alloc | apply Kd.P_drewN | apply Kd.P_drew)); exact (Kd.P_mono (Kd.P_far (p := ⟨gb106, 1, none⟩) (Kd.P_far (p := ⟨gb106, 0, none⟩) (Kd.P_types HO_7.out BK106.out (by decide)) (fun _ hk => hk.2) (.string ((rd_T109 l1 x26_1).f0))) (fun _ hk => hk.2) (.slice A105_1 ((rd_T109 l1 x26_1).f1).length c105_1)) (fun _ h_ => h_.1))) ?_) | ((with_reducible refine gate_callee (f := 30) rfl ?_); refine goesL_ (some 45) rfl rfl Tryd.func30 (by kernel_rfl) rfl #[.slice A105_1 ((rd_T109 l1 x26_1).f1).length c105_1] rfl zl ?_; (with_reducible refine (term_Check.calls k1 _ _ ((rd_T109 l1 x26_1).f1) t108 _ ?side1 ?side2 A17.out).mono ?_); (case side1 => exact Kd.C_below HR105_1.out zb); (case side2 => exact HC105_1.out); rintro e w22 ⟨rfl, hb⟩; refine ⟨_, rfl, ?_⟩; replace HO_7 := zM (Kd.P_below (by (with_reducible repeat (first | apply Kd.P_alloc | apply Kd.P_drewN | apply Kd.P_drew)); exact (Kd.P_mono (Kd.P_far (p := ⟨gb106, 1, none⟩) (Kd.P_far (p := ⟨gb106, 0, none⟩) (Kd.P_types HO_7.out BK106.out (by decide)) (fun _ hk => hk.2) (.string ((rd_T109 l1 x26_1).f0))) (fun _ hk => hk.2) (.slice A105_1 ((rd_T109 l1 x26_1).f1).length c105_1)) (fun _ h_ => h_.1))) hb); replace BK106 := zM (blk_below (g := gb106) (o := .cells #[.string ((rd_T109 l1 x26_1).f0), .slice A105_1 ((rd_T109 l1 x26_1).f1).length c105_1] 109 (0, 0)) (by refine zk ?_; refine blk_put (cs := #[.string ((rd_T109 l1 x26_1).f0), .slice none 0 0]) ?_ 1 _ rfl; refine zk ?_; refine blk_put (cs := #[.string (⟨#[]⟩ : ByteArray), .slice none 0 0]) ?_ 0 _ rfl; refine zk ?_; exact BK106.out) hb); replace HB := zM (below_step zb hb); (try clear hb); have hcz23_0 : w22.cell? ⟨gb106, 0, none⟩ = some (.string ((rd_T109 l1 x26_1).f0)) := (zX BK106.out 0).trans rfl; have hcz23_1 : w22.cell? ⟨gb106, 1, none⟩ = some (.slice A105_1 ((rd_T109 l1 x26_1).f1).length c105_1) := (zX BK106.out 1).trans rfl; have hfz23_0 := zY BK106.out 0; have hfz23_1 := zY BK106.out 1) | (at_mapUpdate; refine Kd.P_put (v := v103) (m := x7_1) (s := ((rd_T109 l1 x26_1).f0)) (n := x26_1) rfl rfl rfl rfl rfl LMc19.out (Kd.P_below HO_7.out zg) ?_; intro w24 ho hm; rw [← Ny109.out] at ho; replace BK106 := zM (blk_mapped (g := gb106) (o := .cells #[.string ((rd_T109 l1 x26_1).f0), .slice A105_1 ((rd_T109 l1 x26_1).f1).length c105_1] 109 (0, 0)) (zk BK106.out) hm); replace HB := zM (below_mapped zb hm); replace HO_7 := zM (ho); clear ho hm))
            go_roundg k1
            case measure => have := HK1.out; omega
            case rel => exact ⟨(y109), (wrap64 (x26_1 + 1)), zy, H', ⟨by have := HK1.out; omega⟩, ⟨Kd.P_below HO_7.out zg⟩, ⟨zb⟩⟩
           ·
            rw [if_neg c19] at H
            exact absurd H (by simp)
          ·
           rw [if_neg c18] at H
           have c18b0 : (t108 == 0) = false := zE c18
           have c18b1 : (t108 != 0) = true := zF c18
           simp only [Option.some.injEq, Prod.mk.injEq] at H
           obtain ⟨rfl, rfl⟩ := H
           have p105 : 0 ≤ (x26_1 : Int) := zT zv
           have q105 : x26_1 < (l1.length : Int) := zT zv
           obtain ⟨ad105, A105_1, c105_1, e105, hx105_0, hx105_1, hl105_1, hi105_1⟩ := at_T109 HR1.out x26_1 p105 q105
           cases e105
           replace hx105_0 := (HB.out.cell (World.block_lt_of_cell? w _ hx105_0)).trans hx105_0
           replace hx105_1 := (HB.out.cell (World.block_lt_of_cell? w _ hx105_1)).trans hx105_1
           have HR105_1 := zM hi105_1
           have HC105_1 := zM hl105_1
           clear hi105_1 hl105_1
           replace p105 := eq_true p105
           replace q105 := eq_true q105
           go_wp2_with (first | ((with_reducible refine gate_dst (N := 9) rfl ?_); refine box_event ?hg (N := 9) ?hd (cs := #[.string (⟨#[]⟩ : ByteArray), .slice none 0 0]) (t := 109) ?hr ?_; (case hd => rfl); (case hg => rfl); (case hr => first | (go_simp; done) | (go_simp; rfl)); intro gb106 hg w25 hbox hb; replace HO_7 := zM (Kd.P_below (Kd.P_below HO_7.out zg) hb); have BK106 := zM (hbox); have GW106 := zM (zh hg : w.heap.size ≤ gb106); have GE106 := zM (zh hg : w.heap.size ≤ gb106); replace HB := zM (below_step zb hb); clear hb hbox hg; have hcz26_0 : w25.cell? ⟨gb106, 0, none⟩ = some (.string (⟨#[]⟩ : ByteArray)) := (zX BK106.out 0).trans rfl; have hcz26_1 : w25.cell? ⟨gb106, 1, none⟩ = some (.slice none 0 0) := (zX BK106.out 1).trans rfl; have hfz26_0 := zY BK106.out 0; have hfz26_1 := zY BK106.out 1) | ((with_reducible refine gate_callee (f := 34) rfl ?_); refine goesL_ (some 33) rfl rfl Tryd.func34 (by kernel_rfl) rfl #[.string ((rd_T109 l1 x26_1).f0)] rfl zl ?_; (with_reducible refine (name_Kind.calls k1 ((rd_T109 l1 x26_1).f0) t107 _ A11.out).mono ?_); rintro e w' ⟨rfl, ⟨nd, rfl⟩⟩; refine ⟨_, rfl, ?_⟩) | ((with_reducible refine gate_dst (N := 39) rfl ?_); refine Kd.P_look (v := v103) (m := x7_1) (s := ((rd_T109 l1 x26_1).f0)) rfl rfl rfl rfl LMc13.out (by (with_reducible repeat (first | apply Kd.P_alloc | apply Kd.P_drewN | apply Kd.P_drew)); exact (Kd.P_mono (Kd.P_far (p := ⟨gb106, 1, none⟩) (Kd.P_far (p := ⟨gb106, 0, none⟩) (Kd.P_types HO_7.out BK106.out (by decide)) (fun _ hk => hk.2) (.string ((rd_T109 l1 x26_1).f0))) (fun _ hk => hk.2) (.slice A105_1 ((rd_T109 l1 x26_1).f1).length c105_1)) (fun _ h_ => h_.1))) ?_) | ((with_reducible refine gate_callee (f := 30) rfl ?_); refine goesL_ (some 45) rfl rfl Tryd.func30 (by kernel_rfl) rfl #[.slice A105_1 ((rd_T109 l1 x26_1).f1).length c105_1] rfl zl ?_; (with_reducible refine (term_Check.calls k1 _ _ ((rd_T109 l1 x26_1).f1) t108 _ ?side1 ?side2 A17.out).mono ?_); (case side1 => exact Kd.C_below HR105_1.out zb); (case side2 => exact HC105_1.out); rintro e w27 ⟨rfl, hb⟩; refine ⟨_, rfl, ?_⟩; replace HO_7 := zM (Kd.P_below (by (with_reducible repeat (first | apply Kd.P_alloc | apply Kd.P_drewN | apply Kd.P_drew)); exact (Kd.P_mono (Kd.P_far (p := ⟨gb106, 1, none⟩) (Kd.P_far (p := ⟨gb106, 0, none⟩) (Kd.P_types HO_7.out BK106.out (by decide)) (fun _ hk => hk.2) (.string ((rd_T109 l1 x26_1).f0))) (fun _ hk => hk.2) (.slice A105_1 ((rd_T109 l1 x26_1).f1).length c105_1)) (fun _ h_ => h_.1))) hb); replace BK106 := zM (blk_below (g := gb106) (o := .cells #[.string ((rd_T109 l1 x26_1).f0), .slice A105_1 ((rd_T109 l1 x26_1).f1).length c105_1] 109 (0, 0)) (by refine zk ?_; refine blk_put (cs := #[.string ((rd_T109 l1 x26_1).f0), .slice none 0 0]) ?_ 1 _ rfl; refine zk ?_; refine blk_put (cs := #[.string (⟨#[]⟩ : ByteArray), .slice none 0 0]) ?_ 0 _ rfl; refine zk ?_; exact BK106.out) hb); replace HB := zM (below_step zb hb); (try clear hb)))
           go_ret2
           exact ⟨_, zw, by first | exact Kd.R_nil _ _ _ _ _ | exact Kd.N_nil _ _ _ _ _ | exact Kd.V_nil _ _ _ _ _ | exact Kd.Q_nil _ _ _ _ _ | exact Kd.S_nil _ _ _ _ _, zb⟩
        ·
         rw [if_neg c13] at H
         exact absurd H (by simp)
       ·
        rw [if_neg c12] at H
        have c12b0 : (t107 == 2) = false := zE c12
        have c12b1 : (t107 != 2) = true := zF c12
        simp only [Option.some.injEq, Prod.mk.injEq] at H
        obtain ⟨rfl, rfl⟩ := H
        have p105 : 0 ≤ (x26_1 : Int) := zT zv
        have q105 : x26_1 < (l1.length : Int) := zT zv
        obtain ⟨ad105, A105_1, c105_1, e105, hx105_0, hx105_1, hl105_1, hi105_1⟩ := at_T109 HR1.out x26_1 p105 q105
        cases e105
        replace hx105_0 := (HB.out.cell (World.block_lt_of_cell? w _ hx105_0)).trans hx105_0
        replace hx105_1 := (HB.out.cell (World.block_lt_of_cell? w _ hx105_1)).trans hx105_1
        have HR105_1 := zM hi105_1
        have HC105_1 := zM hl105_1
        clear hi105_1 hl105_1
        replace p105 := eq_true p105
        replace q105 := eq_true q105
        go_wp2_with (first | ((with_reducible refine gate_dst (N := 9) rfl ?_); refine box_event ?hg (N := 9) ?hd (cs := #[.string (⟨#[]⟩ : ByteArray), .slice none 0 0]) (t := 109) ?hr ?_; (case hd => rfl); (case hg => rfl); (case hr => first | (go_simp; done) | (go_simp; rfl)); intro gb106 hg w28 hbox hb; replace HO_7 := zM (Kd.P_below (Kd.P_below HO_7.out zg) hb); have BK106 := zM (hbox); have GW106 := zM (zh hg : w.heap.size ≤ gb106); have GE106 := zM (zh hg : w.heap.size ≤ gb106); replace HB := zM (below_step zb hb); clear hb hbox hg; have hcz29_0 : w28.cell? ⟨gb106, 0, none⟩ = some (.string (⟨#[]⟩ : ByteArray)) := (zX BK106.out 0).trans rfl; have hcz29_1 : w28.cell? ⟨gb106, 1, none⟩ = some (.slice none 0 0) := (zX BK106.out 1).trans rfl; have hfz29_0 := zY BK106.out 0; have hfz29_1 := zY BK106.out 1) | ((with_reducible refine gate_callee (f := 34) rfl ?_); refine goesL_ (some 33) rfl rfl Tryd.func34 (by kernel_rfl) rfl #[.string ((rd_T109 l1 x26_1).f0)] rfl zl ?_; (with_reducible refine (name_Kind.calls k1 ((rd_T109 l1 x26_1).f0) t107 _ A11.out).mono ?_); rintro e w' ⟨rfl, ⟨nd, rfl⟩⟩; refine ⟨_, rfl, ?_⟩))
        go_ret2
        exact ⟨_, zw, by first | exact Kd.R_nil _ _ _ _ _ | exact Kd.N_nil _ _ _ _ _ | exact Kd.V_nil _ _ _ _ _ | exact Kd.Q_nil _ _ _ _ _ | exact Kd.S_nil _ _ _ _ _, zb⟩
      ·
       rw [if_neg c10] at H
       exact absurd H (by simp)
     ·
      rw [if_neg c9] at H
      exact absurd H (by simp)
    ·
     rw [if_neg c8] at H
     have c8b0 : decide (x26_1 < (l1.length : Int)) = false := zR c8
     clear c8
     have H' := zM H
     clear H
     go_wp2
     go_loopg [13, 56] k1 (fun kq v13 v56 w' => ∃ (x13_2 : List (S33)) (x56_2 : Int), v56 = .int .i64 x56_2 ∧ Aside0 (match_Fill.l1 kq l1 x7_1 x13_2 l0 (l0.length : Int) x56_2 = some (r1, r2)) ∧ Aside0 (kq ≤ k1) ∧ Aside0 (Kd.P k33 105 w' w.heap.size (fun _ => True) v103 x7_1) ∧ Aside0 (Kd.R k33 33 w' w.heap.size (fun _ => True) v13 x13_2) ∧ Aside0 (Below w.heap.size w w'))
     case atStart => exact ⟨(([] : List (S33))), (0), zy, H', ⟨Nat.le_refl _⟩, ⟨Kd.P_below HO_7.out zg⟩, ⟨by first | exact Kd.R_nil _ _ _ _ _ | exact Kd.N_nil _ _ _ _ _ | exact Kd.V_nil _ _ _ _ _ | exact Kd.Q_nil _ _ _ _ _ | exact Kd.S_nil _ _ _ _ _⟩, ⟨zb⟩⟩
     case round =>
      clear H'
      try clear c1
      try clear p1
      try clear q1
      try clear hx1
      try clear p2
      try clear c3
      try clear c4
      try clear c4b0
      try clear c4b1
      try clear c5
      try clear p6
      try clear c8
      try clear c8b0
      try clear c9
      try clear c9b0
      try clear c10
      try clear c10b0
      try clear p10
      try clear q10
      try clear hx10
      try clear c12
      try clear c12b0
      try clear c12b1
      try clear c13
      try clear c14
      try clear c14b0
      try clear c18
      try clear c18b0
      try clear c18b1
      try clear c19
      try clear hcz16_0
      try clear hcz16_1
      try clear hcz21_0
      try clear hcz21_1
      try clear hcz23_0
      try clear hcz23_1
      try clear hcz26_0
      try clear hcz26_1
      try clear hcz29_0
      try clear hcz29_1
      try clear hfz16_0
      try clear hfz16_1
      try clear hfz21_0
      try clear hfz21_1
      try clear hfz23_0
      try clear hfz23_1
      try clear hfz26_0
      try clear hfz26_1
      try clear hfz29_0
      try clear hfz29_1
      try clear hx105_0
      try clear hx105_1
      try clear p105
      try clear p2
      try clear q105
      obtain ⟨x13_2, x56_2, rfl, HA, HK2, HO_7, HO_13, HB⟩ := hrel
      cases gk with
      | zero => exact absurd HA.out (by simp [match_Fill.l1])
      | succ k2 =>
       have H := HA.out
       clear HA
       simp only [match_Fill.l1] at H
       by_cases c30 : x56_2 < (l0.length : Int)
       ·
        rw [if_pos c30] at H
        have c30b0 : decide (x56_2 < (l0.length : Int)) = true := zQ c30
        clear c30
        by_cases c31 : 0 ≤ x56_2
        ·
         rw [if_pos c31] at H
         have c31b0 : decide (0 ≤ x56_2) = true := zQ c31
         clear c31
         by_cases c32 : x56_2 < (l0.length : Int)
         ·
          rw [if_pos c32] at H
          have c32b0 : decide (x56_2 < (l0.length : Int)) = true := zQ c32
          clear c32
          by_cases c33 : ((rd_T33 l0 x56_2).f0).size ≤ 9223372036854775807
          ·
           rw [if_pos c33] at H
           have LMc33 := zM c33
           clear c33
           replace H := zB H
           obtain ⟨t114, A340, H⟩ := H
           try dsimp only at H
           have A34 := zM A340
           clear A340
           by_cases c35 : t114 = true
           ·
            subst c35
            rw [if_pos rfl] at H
            by_cases c36 : (mapHas x7_1 ((rd_T33 l0 x56_2).f0) = true)
            ·
             rw [if_pos c36] at H
             have c36b0 : mapHas x7_1 ((rd_T33 l0 x56_2).f0) = true := c36
             clear c36
             by_cases c37 : 0 ≤ (mapAt x7_1 ((rd_T33 l0 x56_2).f0))
             ·
              rw [if_pos c37] at H
              have c37b0 : decide (0 ≤ (mapAt x7_1 ((rd_T33 l0 x56_2).f0))) = true := zQ c37
              clear c37
              by_cases c38 : (mapAt x7_1 ((rd_T33 l0 x56_2).f0)) < (l1.length : Int)
              ·
               rw [if_pos c38] at H
               have c38b0 : decide ((mapAt x7_1 ((rd_T33 l0 x56_2).f0)) < (l1.length : Int)) = true := zQ c38
               clear c38
               by_cases c39 : x13_2.length + ((rd_T109 l1 (mapAt x7_1 ((rd_T33 l0 x56_2).f0))).f1).length < 5864062014805
               ·
                rw [if_pos c39] at H
                have LMc39 := zM c39
                clear c39
                obtain ⟨y116, hy116⟩ : ∃ y_ : List (S33), y_ = (x13_2 ++ ((rd_T109 l1 (mapAt x7_1 ((rd_T33 l0 x56_2).f0))).f1)) := ⟨_, rfl⟩
                replace H : (match_Fill.l1 k2 l1 x7_1 y116 l0 (l0.length : Int) (wrap64 (x56_2 + 1))) = some (r1, r2) := by first | (rw [hy116]; with_reducible exact H) | (have H2_ := (Option.bind_some _ _).symm.trans H; rw [hy116]; with_reducible exact H2_) | (have H2_ := (Option.bind_some _ _).symm.trans H; with_reducible exact H2_) | with_reducible exact H | (rw [hy116]; exact H) | exact H
                have Ny116 := zM hy116
                clear hy116
                have H' := zM H
                clear H
                have p112 : 0 ≤ (x56_2 : Int) := zT zv
                have q112 : x56_2 < (l0.length : Int) := zT zv
                obtain ⟨ad112, e112, hx112_0, hx112_1⟩ := at_T33 HR0.out x56_2 p112 q112
                cases e112
                replace hx112_0 := (HB.out.cell (World.block_lt_of_cell? w _ hx112_0)).trans hx112_0
                replace hx112_1 := (HB.out.cell (World.block_lt_of_cell? w _ hx112_1)).trans hx112_1
                replace p112 := eq_true p112
                replace q112 := eq_true q112
                go_wp2_with (first | ((with_reducible refine gate_dst (N := 15) rfl ?_); refine box_event ?hg (N := 15) ?hd (cs := #[.string (⟨#[]⟩ : ByteArray), .int .i64 0]) (t := 33) ?hr ?_; (case hd => rfl); (case hg => rfl); (case hr => first | (go_simp; done) | (go_simp; rfl)); intro gb113 hg w40 hbox hb; replace HO_7 := zM (Kd.P_below (Kd.P_below HO_7.out zg) hb); replace HO_13 := zM (Kd.R_below (Kd.R_elderB (zr HO_13.out) gb113 (Nat.le_of_eq hg.symm)) hb); have BK113 := zM (hbox); have GW113 := zM (zh hg : w.heap.size ≤ gb113); have GE113 := zM (zh hg : w.heap.size ≤ gb113); replace HB := zM (below_step zb hb); clear hb hbox hg; have hcz41_0 : w40.cell? ⟨gb113, 0, none⟩ = some (.string (⟨#[]⟩ : ByteArray)) := (zX BK113.out 0).trans rfl; have hcz41_1 : w40.cell? ⟨gb113, 1, none⟩ = some (.int .i64 0) := (zX BK113.out 1).trans rfl; have hfz41_0 := zY BK113.out 0; have hfz41_1 := zY BK113.out 1) | ((with_reducible refine gate_dst (N := 64) rfl ?_); refine Kd.P_look (v := v103) (m := x7_1) (s := ((rd_T33 l0 x56_2).f0)) rfl rfl rfl rfl LMc33.out (by (with_reducible repeat (first | apply Kd.P_alloc | apply Kd.P_drewN | apply Kd.P_drew)); exact (Kd.P_mono (Kd.P_far (p := ⟨gb113, 1, none⟩) (Kd.P_far (p := ⟨gb113, 0, none⟩) (Kd.P_types HO_7.out BK113.out (by decide)) (fun _ hk => hk.2) (.string ((rd_T33 l0 x56_2).f0))) (fun _ hk => hk.2) (.int .i64 ((rd_T33 l0 x56_2).f1))) (fun _ h_ => h_.1))) ?_) | ((with_reducible refine gate_callee (f := 72) rfl ?_); refine goesL_ (some 76) rfl rfl Tryd.func72 (by kernel_rfl) rfl #[.agg #[.string ((rd_T33 l0 x56_2).f0), .int .i64 ((rd_T33 l0 x56_2).f1)]] rfl zl ?_; (with_reducible refine (match_variable.calls k2 ((rd_T33 l0 x56_2).f0) ((rd_T33 l0 x56_2).f1) true _ A34.out).mono ?_); rintro e w42 ⟨rfl, hb⟩; refine ⟨_, rfl, ?_⟩; replace HO_7 := zM (Kd.P_below (by (with_reducible repeat (first | apply Kd.P_alloc | apply Kd.P_drewN | apply Kd.P_drew)); exact (Kd.P_mono (Kd.P_far (p := ⟨gb113, 1, none⟩) (Kd.P_far (p := ⟨gb113, 0, none⟩) (Kd.P_types HO_7.out BK113.out (by decide)) (fun _ hk => hk.2) (.string ((rd_T33 l0 x56_2).f0))) (fun _ hk => hk.2) (.int .i64 ((rd_T33 l0 x56_2).f1))) (fun _ h_ => h_.1))) hb); replace HO_13 := zM (Kd.R_below (by (with_reducible repeat (first | apply Kd.R_alloc | apply Kd.R_drewN | apply Kd.R_drew)); exact (Kd.R_mono (Kd.R_far (p := ⟨gb113, 1, none⟩) (Kd.R_far (p := ⟨gb113, 0, none⟩) (Kd.R_mono HO_13.out (fun k_ hk => (⟨hk, hk.2⟩ : _ ∧ k_ ≠ gb113))) (fun _ hk => hk.2) (.string ((rd_T33 l0 x56_2).f0))) (fun _ hk => hk.2) (.int .i64 ((rd_T33 l0 x56_2).f1))) (fun _ h_ => h_.1))) hb); replace BK113 := zM (blk_below (g := gb113) (o := .cells #[.string ((rd_T33 l0 x56_2).f0), .int .i64 ((rd_T33 l0 x56_2).f1)] 33 (0, 0)) (by refine zk ?_; refine blk_put (cs := #[.string ((rd_T33 l0 x56_2).f0), .int .i64 0]) ?_ 1 _ rfl; refine zk ?_; refine blk_put (cs := #[.string (⟨#[]⟩ : ByteArray), .int .i64 0]) ?_ 0 _ rfl; refine zk ?_; exact BK113.out) hb); replace HB := zM (below_step zb hb); (try clear hb); have p115 : 0 ≤ ((mapAt x7_1 ((rd_T33 l0 x56_2).f0)) : Int) := zT zv; have q115 : (mapAt x7_1 ((rd_T33 l0 x56_2).f0)) < (l1.length : Int) := zT zv; obtain ⟨ad115, A115_1, c115_1, e115, hx115_0, hx115_1, hl115_1, hi115_1⟩ := at_T109 HR1.out (mapAt x7_1 ((rd_T33 l0 x56_2).f0)) p115 q115; cases e115; replace hx115_0 := (HB.out.cell (World.block_lt_of_cell? w _ hx115_0)).trans hx115_0; replace hx115_1 := (HB.out.cell (World.block_lt_of_cell? w _ hx115_1)).trans hx115_1; have HR115_1 := zM hi115_1; have HC115_1 := zM hl115_1; clear hi115_1 hl115_1; replace p115 := eq_true p115; replace q115 := eq_true q115) | ((with_reducible refine gate_builtin (b := .append) (xs := #[.tmp 67, .tmp 72]) rfl ?_); at_builtin; refine Kd.R_append_rows k33 (w0 := w) w.heap.size rfl (.tmp 67) (.tmp 72) 23 33 (.agg #[(.string ⟨#[]⟩), (.int .i64 0)]) 24 rfl Tryd.underlying23 info33 rfl (by decide) (by omega) u13 x13_2 ((rd_T109 l1 (mapAt x7_1 ((rd_T33 l0 x56_2).f0))).f1) _ _ _ (fun k_ => k_ ≠ gb113) (fun _ => False) rfl rfl ?aO ?aR (fun _ _ h => h) (fun _ h => h.elim) ?aF ?aB ?aS ?aL ?_; (case aR => exact Kd.C_below HR115_1.out zb); (case aB => exact zb); (case aF => exact (fun k_ hk => Kd.freshB (g := gb113) (o := .cells #[.string ((rd_T33 l0 x56_2).f0), .int .i64 ((rd_T33 l0 x56_2).f1)] 33 (0, 0)) (zk BK113.out) k_ hk)); (case aO => exact (by (with_reducible repeat (first | apply Kd.R_alloc | apply Kd.R_drewN | apply Kd.R_drew)); exact Kd.R_mono HO_13.out (fun _ hk => hk.2))); (case aS => exact (below_size zb)); (case aL => have := LMc39.out; omega); intro v117 w43 ho hb hg hat; rw [← Ny116.out] at ho; replace HO_7 := zM (Kd.P_over' (Kd.P_below HO_7.out zg) (Kd.R_typed (zr HO_13.out)) (by decide) hg); replace BK113 := zM (blk_grown (g := gb113) (o := .cells #[.string ((rd_T33 l0 x56_2).f0), .int .i64 ((rd_T33 l0 x56_2).f1)] 33 (0, 0)) (zk BK113.out) hg (Kd.R_away HO_13.out (fun _ hk => hk.2))); replace HB := zM (hb); have HO118 := zM (ho); clear HO_13; clear ho hb hg hat))
                go_roundg k2
                case measure => have := HK1.out; have := HK2.out; omega
                case rel => exact ⟨(y116), (wrap64 (x56_2 + 1)), zy, H', ⟨by have := HK1.out; have := HK2.out; omega⟩, ⟨Kd.P_below HO_7.out zg⟩, ⟨by (with_reducible repeat (first | apply Kd.R_alloc | apply Kd.R_drewN | apply Kd.R_drew)); exact Kd.R_mono HO118.out (fun _ hk => trivial)⟩, ⟨zb⟩⟩
               ·
                rw [if_neg c39] at H
                exact absurd H (by simp)
              ·
               rw [if_neg c38] at H
               exact absurd H (by simp)
             ·
              rw [if_neg c37] at H
              exact absurd H (by simp)
            ·
             rw [if_neg c36] at H
             have c36b0 : mapHas x7_1 ((rd_T33 l0 x56_2).f0) = false := by simpa using c36
             clear c36
             simp only [Option.some.injEq, Prod.mk.injEq] at H
             obtain ⟨rfl, rfl⟩ := H
             have p112 : 0 ≤ (x56_2 : Int) := zT zv
             have q112 : x56_2 < (l0.length : Int) := zT zv
             obtain ⟨ad112, e112, hx112_0, hx112_1⟩ := at_T33 HR0.out x56_2 p112 q112
             cases e112
             replace hx112_0 := (HB.out.cell (World.block_lt_of_cell? w _ hx112_0)).trans hx112_0
             replace hx112_1 := (HB.out.cell (World.block_lt_of_cell? w _ hx112_1)).trans hx112_1
             replace p112 := eq_true p112
             replace q112 := eq_true q112
             go_wp2_with (first | ((with_reducible refine gate_dst (N := 15) rfl ?_); refine box_event ?hg (N := 15) ?hd (cs := #[.string (⟨#[]⟩ : ByteArray), .int .i64 0]) (t := 33) ?hr ?_; (case hd => rfl); (case hg => rfl); (case hr => first | (go_simp; done) | (go_simp; rfl)); intro gb113 hg w44 hbox hb; replace HO_7 := zM (Kd.P_below (Kd.P_below HO_7.out zg) hb); replace HO_13 := zM (Kd.R_below (Kd.R_elderB (zr HO_13.out) gb113 (Nat.le_of_eq hg.symm)) hb); have BK113 := zM (hbox); have GW113 := zM (zh hg : w.heap.size ≤ gb113); have GE113 := zM (zh hg : w.heap.size ≤ gb113); replace HB := zM (below_step zb hb); clear hb hbox hg; have hcz45_0 : w44.cell? ⟨gb113, 0, none⟩ = some (.string (⟨#[]⟩ : ByteArray)) := (zX BK113.out 0).trans rfl; have hcz45_1 : w44.cell? ⟨gb113, 1, none⟩ = some (.int .i64 0) := (zX BK113.out 1).trans rfl; have hfz45_0 := zY BK113.out 0; have hfz45_1 := zY BK113.out 1) | ((with_reducible refine gate_dst (N := 64) rfl ?_); refine Kd.P_look (v := v103) (m := x7_1) (s := ((rd_T33 l0 x56_2).f0)) rfl rfl rfl rfl LMc33.out (by (with_reducible repeat (first | apply Kd.P_alloc | apply Kd.P_drewN | apply Kd.P_drew)); exact (Kd.P_mono (Kd.P_far (p := ⟨gb113, 1, none⟩) (Kd.P_far (p := ⟨gb113, 0, none⟩) (Kd.P_types HO_7.out BK113.out (by decide)) (fun _ hk => hk.2) (.string ((rd_T33 l0 x56_2).f0))) (fun _ hk => hk.2) (.int .i64 ((rd_T33 l0 x56_2).f1))) (fun _ h_ => h_.1))) ?_) | ((with_reducible refine gate_callee (f := 72) rfl ?_); refine goesL_ (some 76) rfl rfl Tryd.func72 (by kernel_rfl) rfl #[.agg #[.string ((rd_T33 l0 x56_2).f0), .int .i64 ((rd_T33 l0 x56_2).f1)]] rfl zl ?_; (with_reducible refine (match_variable.calls k2 ((rd_T33 l0 x56_2).f0) ((rd_T33 l0 x56_2).f1) true _ A34.out).mono ?_); rintro e w46 ⟨rfl, hb⟩; refine ⟨_, rfl, ?_⟩; replace HO_7 := zM (Kd.P_below (by (with_reducible repeat (first | apply Kd.P_alloc | apply Kd.P_drewN | apply Kd.P_drew)); exact (Kd.P_mono (Kd.P_far (p := ⟨gb113, 1, none⟩) (Kd.P_far (p := ⟨gb113, 0, none⟩) (Kd.P_types HO_7.out BK113.out (by decide)) (fun _ hk => hk.2) (.string ((rd_T33 l0 x56_2).f0))) (fun _ hk => hk.2) (.int .i64 ((rd_T33 l0 x56_2).f1))) (fun _ h_ => h_.1))) hb); replace HO_13 := zM (Kd.R_below (by (with_reducible repeat (first | apply Kd.R_alloc | apply Kd.R_drewN | apply Kd.R_drew)); exact (Kd.R_mono (Kd.R_far (p := ⟨gb113, 1, none⟩) (Kd.R_far (p := ⟨gb113, 0, none⟩) (Kd.R_mono HO_13.out (fun k_ hk => (⟨hk, hk.2⟩ : _ ∧ k_ ≠ gb113))) (fun _ hk => hk.2) (.string ((rd_T33 l0 x56_2).f0))) (fun _ hk => hk.2) (.int .i64 ((rd_T33 l0 x56_2).f1))) (fun _ h_ => h_.1))) hb); replace BK113 := zM (blk_below (g := gb113) (o := .cells #[.string ((rd_T33 l0 x56_2).f0), .int .i64 ((rd_T33 l0 x56_2).f1)] 33 (0, 0)) (by refine zk ?_; refine blk_put (cs := #[.string ((rd_T33 l0 x56_2).f0), .int .i64 0]) ?_ 1 _ rfl; refine zk ?_; refine blk_put (cs := #[.string (⟨#[]⟩ : ByteArray), .int .i64 0]) ?_ 0 _ rfl; refine zk ?_; exact BK113.out) hb); replace HB := zM (below_step zb hb); (try clear hb)))
             go_ret2
             exact ⟨_, zw, by first | exact Kd.R_nil _ _ _ _ _ | exact Kd.N_nil _ _ _ _ _ | exact Kd.V_nil _ _ _ _ _ | exact Kd.Q_nil _ _ _ _ _ | exact Kd.S_nil _ _ _ _ _, zb⟩
           ·
            replace c35 := zI c35
            subst c35
            rw [if_neg (show ¬ (false = true) by decide)] at H
            by_cases c47 : x13_2.length < 5864062014805
            ·
             rw [if_pos c47] at H
             have LMc47 := zM c47
             clear c47
             obtain ⟨y119, hy119⟩ : ∃ y_ : List (S33), y_ = (x13_2 ++ [(⟨(rd_T33 l0 x56_2).f0, (rd_T33 l0 x56_2).f1⟩ : S33)]) := ⟨_, rfl⟩
             replace H : (match_Fill.l1 k2 l1 x7_1 y119 l0 (l0.length : Int) (wrap64 (x56_2 + 1))) = some (r1, r2) := by first | (rw [hy119]; with_reducible exact H) | (have H2_ := (Option.bind_some _ _).symm.trans H; rw [hy119]; with_reducible exact H2_) | (have H2_ := (Option.bind_some _ _).symm.trans H; with_reducible exact H2_) | with_reducible exact H | (rw [hy119]; exact H) | exact H
             have Ny119 := zM hy119
             clear hy119
             have H' := zM H
             clear H
             have p112 : 0 ≤ (x56_2 : Int) := zT zv
             have q112 : x56_2 < (l0.length : Int) := zT zv
             obtain ⟨ad112, e112, hx112_0, hx112_1⟩ := at_T33 HR0.out x56_2 p112 q112
             cases e112
             replace hx112_0 := (HB.out.cell (World.block_lt_of_cell? w _ hx112_0)).trans hx112_0
             replace hx112_1 := (HB.out.cell (World.block_lt_of_cell? w _ hx112_1)).trans hx112_1
             replace p112 := eq_true p112
             replace q112 := eq_true q112
             go_wp2_with (first | ((with_reducible refine gate_dst (N := 15) rfl ?_); refine box_event ?hg (N := 15) ?hd (cs := #[.string (⟨#[]⟩ : ByteArray), .int .i64 0]) (t := 33) ?hr ?_; (case hd => rfl); (case hg => rfl); (case hr => first | (go_simp; done) | (go_simp; rfl)); intro gb113 hg w48 hbox hb; replace HO_7 := zM (Kd.P_below (Kd.P_below HO_7.out zg) hb); replace HO_13 := zM (Kd.R_below (Kd.R_elderB (zr HO_13.out) gb113 (Nat.le_of_eq hg.symm)) hb); have BK113 := zM (hbox); have GW113 := zM (zh hg : w.heap.size ≤ gb113); have GE113 := zM (zh hg : w.heap.size ≤ gb113); replace HB := zM (below_step zb hb); clear hb hbox hg; have hcz49_0 : w48.cell? ⟨gb113, 0, none⟩ = some (.string (⟨#[]⟩ : ByteArray)) := (zX BK113.out 0).trans rfl; have hcz49_1 : w48.cell? ⟨gb113, 1, none⟩ = some (.int .i64 0) := (zX BK113.out 1).trans rfl; have hfz49_0 := zY BK113.out 0; have hfz49_1 := zY BK113.out 1) | ((with_reducible refine gate_dst (N := 64) rfl ?_); refine Kd.P_look (v := v103) (m := x7_1) (s := ((rd_T33 l0 x56_2).f0)) rfl rfl rfl rfl LMc33.out (by (with_reducible repeat (first | apply Kd.P_alloc | apply Kd.P_drewN | apply Kd.P_drew)); exact (Kd.P_mono (Kd.P_far (p := ⟨gb113, 1, none⟩) (Kd.P_far (p := ⟨gb113, 0, none⟩) (Kd.P_types HO_7.out BK113.out (by decide)) (fun _ hk => hk.2) (.string ((rd_T33 l0 x56_2).f0))) (fun _ hk => hk.2) (.int .i64 ((rd_T33 l0 x56_2).f1))) (fun _ h_ => h_.1))) ?_) | ((with_reducible refine gate_callee (f := 72) rfl ?_); refine goesL_ (some 76) rfl rfl Tryd.func72 (by kernel_rfl) rfl #[.agg #[.string ((rd_T33 l0 x56_2).f0), .int .i64 ((rd_T33 l0 x56_2).f1)]] rfl zl ?_; (with_reducible refine (match_variable.calls k2 ((rd_T33 l0 x56_2).f0) ((rd_T33 l0 x56_2).f1) false _ A34.out).mono ?_); rintro e w50 ⟨rfl, hb⟩; refine ⟨_, rfl, ?_⟩; replace HO_7 := zM (Kd.P_below (by (with_reducible repeat (first | apply Kd.P_alloc | apply Kd.P_drewN | apply Kd.P_drew)); exact (Kd.P_mono (Kd.P_far (p := ⟨gb113, 1, none⟩) (Kd.P_far (p := ⟨gb113, 0, none⟩) (Kd.P_types HO_7.out BK113.out (by decide)) (fun _ hk => hk.2) (.string ((rd_T33 l0 x56_2).f0))) (fun _ hk => hk.2) (.int .i64 ((rd_T33 l0 x56_2).f1))) (fun _ h_ => h_.1))) hb); replace HO_13 := zM (Kd.R_below (by (with_reducible repeat (first | apply Kd.R_alloc | apply Kd.R_drewN | apply Kd.R_drew)); exact (Kd.R_mono (Kd.R_far (p := ⟨gb113, 1, none⟩) (Kd.R_far (p := ⟨gb113, 0, none⟩) (Kd.R_mono HO_13.out (fun k_ hk => (⟨hk, hk.2⟩ : _ ∧ k_ ≠ gb113))) (fun _ hk => hk.2) (.string ((rd_T33 l0 x56_2).f0))) (fun _ hk => hk.2) (.int .i64 ((rd_T33 l0 x56_2).f1))) (fun _ h_ => h_.1))) hb); replace BK113 := zM (blk_below (g := gb113) (o := .cells #[.string ((rd_T33 l0 x56_2).f0), .int .i64 ((rd_T33 l0 x56_2).f1)] 33 (0, 0)) (by refine zk ?_; refine blk_put (cs := #[.string ((rd_T33 l0 x56_2).f0), .int .i64 0]) ?_ 1 _ rfl; refine zk ?_; refine blk_put (cs := #[.string (⟨#[]⟩ : ByteArray), .int .i64 0]) ?_ 0 _ rfl; refine zk ?_; exact BK113.out) hb); replace HB := zM (below_step zb hb); (try clear hb); have hcz51_0 : w50.cell? ⟨gb113, 0, none⟩ = some (.string ((rd_T33 l0 x56_2).f0)) := (zX BK113.out 0).trans rfl; have hcz51_1 : w50.cell? ⟨gb113, 1, none⟩ = some (.int .i64 ((rd_T33 l0 x56_2).f1)) := (zX BK113.out 1).trans rfl; have hfz51_0 := zY BK113.out 0; have hfz51_1 := zY BK113.out 1) | ((with_reducible refine gate_builtin (b := .append) (xs := #[.tmp 78, .tmp 80]) rfl ?_); at_builtin; refine Kd.R_append k33 (w0 := w) w.heap.size rfl (.tmp 78) (.tmp 80) 23 33 (.agg #[(.string ⟨#[]⟩), (.int .i64 0)]) 24 rfl Tryd.underlying23 info33 rfl (by decide) (by omega) u13 x13_2 (⟨(rd_T33 l0 x56_2).f0, (rd_T33 l0 x56_2).f1⟩ : S33) [.string ((rd_T33 l0 x56_2).f0), .int .i64 ((rd_T33 l0 x56_2).f1)] (fun k_ => k_ ≠ gb113) (fun _ => False) rfl rfl ?aP (fun _ hk => hk.elim) ?aF ?aO ?aB ?aS ?aL ?_; (case aP => exact k33_mkM _ _ _ (⟨(rd_T33 l0 x56_2).f0, (rd_T33 l0 x56_2).f1⟩ : S33)); (case aB => exact zb); (case aF => exact (fun k_ hk => Kd.freshB (g := gb113) (o := .cells #[.string ((rd_T33 l0 x56_2).f0), .int .i64 ((rd_T33 l0 x56_2).f1)] 33 (0, 0)) (zk BK113.out) k_ hk)); (case aO => exact (by (with_reducible repeat (first | apply Kd.R_alloc | apply Kd.R_drewN | apply Kd.R_drew)); exact Kd.R_mono HO_13.out (fun _ hk => hk.2))); (case aS => exact (below_size zb)); (case aL => have := LMc47.out; omega); intro v120 w52 ho hb hg hat; rw [← Ny119.out] at ho; replace HO_7 := zM (Kd.P_over' (Kd.P_below HO_7.out zg) (Kd.R_typed (zr HO_13.out)) (by decide) hg); replace BK113 := zM (blk_grown (g := gb113) (o := .cells #[.string ((rd_T33 l0 x56_2).f0), .int .i64 ((rd_T33 l0 x56_2).f1)] 33 (0, 0)) (zk BK113.out) hg (Kd.R_away HO_13.out (fun _ hk => hk.2))); replace HB := zM (hb); have HO121 := zM (ho); clear HO_13; clear ho hb hg hat))
             go_roundg k2
             case measure => have := HK1.out; have := HK2.out; omega
             case rel => exact ⟨(y119), (wrap64 (x56_2 + 1)), zy, H', ⟨by have := HK1.out; have := HK2.out; omega⟩, ⟨Kd.P_below HO_7.out zg⟩, ⟨by (with_reducible repeat (first | apply Kd.R_alloc | apply Kd.R_drewN | apply Kd.R_drew)); exact Kd.R_mono HO121.out (fun _ hk => trivial)⟩, ⟨zb⟩⟩
            ·
             rw [if_neg c47] at H
             exact absurd H (by simp)
          ·
           rw [if_neg c33] at H
           exact absurd H (by simp)
         ·
          rw [if_neg c32] at H
          exact absurd H (by simp)
        ·
         rw [if_neg c31] at H
         exact absurd H (by simp)
       ·
        rw [if_neg c30] at H
        have c30b0 : decide (x56_2 < (l0.length : Int)) = false := zR c30
        clear c30
        by_cases c53 : (x13_2.length : Int) > 64
        ·
         rw [if_pos c53] at H
         have c53b0 : decide (64 < (x13_2.length : Int)) = true := zQ c53
         have c53b1 : decide (64 < x13_2.length) = true := zQ (by omega)
         clear c53
         simp only [Option.some.injEq, Prod.mk.injEq] at H
         obtain ⟨rfl, rfl⟩ := H
         obtain ⟨Ao54, co54, eo54⟩ := Kd.R_slice HO_13.out
         subst eo54
         go_wp2
         go_ret2
         exact ⟨_, zw, by first | exact Kd.R_nil _ _ _ _ _ | exact Kd.N_nil _ _ _ _ _ | exact Kd.V_nil _ _ _ _ _ | exact Kd.Q_nil _ _ _ _ _ | exact Kd.S_nil _ _ _ _ _, zb⟩
        ·
         rw [if_neg c53] at H
         have c53b0 : decide (64 < (x13_2.length : Int)) = false := zR c53
         have c53b1 : decide (64 < x13_2.length) = false := zR (by omega)
         clear c53
         simp only [Option.some.injEq, Prod.mk.injEq] at H
         obtain ⟨rfl, rfl⟩ := H
         obtain ⟨Ao55, co55, eo55⟩ := Kd.R_slice HO_13.out
         subst eo55
         go_wp2
         go_ret2
         exact ⟨_, zw, zr HO_13.out, zb⟩
 ·
  rw [if_neg c4] at H
  have c4b0 : (t101 == 0) = false := zE c4
  have c4b1 : (t101 != 0) = true := zF c4
  simp only [Option.some.injEq, Prod.mk.injEq] at H
  obtain ⟨rfl, rfl⟩ := H
  go_enter Tryd.func52, Tryd.ntmps52
  go_wp2_with (first | ((with_reducible refine gate_callee (f := 30) rfl ?_); refine goesL_ (some 19) rfl rfl Tryd.func30 (by kernel_rfl) rfl #[.slice A0 l0.length c0] rfl zl ?_; (with_reducible refine (term_Check.calls k _ _ l0 t101 _ ?side1 ?side2 A3.out).mono ?_); (case side1 => exact Kd.C_below HR0.out zg); (case side2 => exact HC0.out); rintro e w56 ⟨rfl, hb⟩; refine ⟨_, rfl, ?_⟩; replace HB := zM (below_step zb hb); (try clear hb)))
  go_ret2
  exact ⟨_, zw, by first | exact Kd.R_nil _ _ _ _ _ | exact Kd.N_nil _ _ _ _ _ | exact Kd.V_nil _ _ _ _ _ | exact Kd.Q_nil _ _ _ _ _ | exact Kd.S_nil _ _ _ _ _, zb⟩


-- ==== PF22

def rule_Apply.f (k : Nat) (a0_0 : Int) (l0_1 : List (S33)) (l0_2 : List (S33)) (l1 : List (S33)) : Option ((List (S33)) × Bool × Int) := (rule_Check.f k a0_0 l0_1 l0_2).bind fun t102 => (if t102 = 0 then ((match_Match.f k l0_1 l1).bind fun bt103 => (if bt103.2.2 = 0 then (if bt103.2.1 = true then ((match_Fill.f k l0_2 bt103.1).bind fun bt108 => (some (bt108.1, (bt108.2 == 0), bt108.2))) else (some (([] : List (S33)), false, bt103.2.2))) else (some (([] : List (S33)), false, bt103.2.2)))) else (some (([] : List (S33)), false, t102)))
theorem rule_Apply.mono : ∀ a0 a1 a2 a3 k, LeO (rule_Apply.f k a0 a1 a2 a3) (rule_Apply.f (k + 1) a0 a1 a2 a3) := by
 intro a0 a1 a2 a3 k
 unfold rule_Apply.f
 repeat' first
  | (with_reducible exact match_Fill.mono _ _ _)
  | (with_reducible exact match_Match.mono _ _ _)
  | (with_reducible exact rule_Check.mono _ _ _ _)
  | (with_reducible exact LeO.refl _)
  | (with_reducible exact LeO.none _)
  | (with_reducible refine LeO.ite ?_ ?_)
  | (with_reducible refine LeO.bind ?_ (fun _ => ?_))
theorem rule_Apply.calls (k : Nat) (a0_0 : Int) (A0_1 : Option Addr) (c0_1 : Nat) (l0_1 : List (S33)) (A0_2 : Option Addr) (c0_2 : Nat) (l0_2 : List (S33)) (A1 : Option Addr) (c1 : Nat) (l1 : List (S33)) (r1 : List (S33)) (r2 : Bool) (r3 : Int) (w : World) (hr0_1 : Kd.C k33 w A0_1 l0_1.length l0_1) (hc0_1 : l0_1.length ≤ c0_1) (hr0_2 : Kd.C k33 w A0_2 l0_2.length l0_2) (hc0_2 : l0_2.length ≤ c0_2) (hr1 : Kd.C k33 w A1 l1.length l1) (hc1 : l1.length ≤ c1) (h : rule_Apply.f k a0_0 l0_1 l0_2 l1 = some (r1, r2, r3)) :
 Calls Tryd.prog 22 #[.agg #[.int .i64 a0_0, .slice A0_1 l0_1.length c0_1, .slice A0_2 l0_2.length c0_2], .slice A1 l1.length c1] w fun e w' => ∃ v0_ : Value, e = .returned (.tuple #[v0_, .bool r2, .int .i64 r3]) ∧ Kd.R k33 33 w' w.heap.size (fun _ => True) v0_ r1 ∧ Below w.heap.size w w' := by
 have hu25 := Tryd.underlying25
 have HR0_1 := zM hr0_1
 have HC0_1 := zM hc0_1
 clear hr0_1 hc0_1
 have HR0_2 := zM hr0_2
 have HC0_2 := zM hc0_2
 clear hr0_2 hc0_2
 have HR1 := zM hr1
 have HC1 := zM hc1
 clear hr1 hc1
 have HB := zM (Below.refl w.heap.size w)
 have H : ((rule_Check.f k a0_0 l0_1 l0_2).bind fun t102 => (if t102 = 0 then ((match_Match.f k l0_1 l1).bind fun bt103 => (if bt103.2.2 = 0 then (if bt103.2.1 = true then ((match_Fill.f k l0_2 bt103.1).bind fun bt108 => (some (bt108.1, (bt108.2 == 0), bt108.2))) else (some (([] : List (S33)), false, bt103.2.2))) else (some (([] : List (S33)), false, bt103.2.2)))) else (some (([] : List (S33)), false, t102)))) = some (r1, r2, r3) := h
 clear h
 replace H := zB H
 obtain ⟨t102, A30, H⟩ := H
 try dsimp only at H
 have A3 := zM A30
 clear A30
 by_cases c4 : t102 = 0
 ·
  rw [if_pos c4] at H
  have c4b0 : (t102 == 0) = true := zG c4
  have c4b1 : (t102 != 0) = false := zH c4
  clear c4
  replace H := zB H
  obtain ⟨⟨t103, t104, t105⟩, A50, H⟩ := H
  try dsimp only at H
  have A5 := zM A50
  clear A50
  by_cases c6 : t105 = 0
  ·
   rw [if_pos c6] at H
   have c6b0 : (t105 == 0) = true := zG c6
   have c6b1 : (t105 != 0) = false := zH c6
   clear c6
   by_cases c7 : t104 = true
   ·
    subst c7
    rw [if_pos rfl] at H
    replace H := zB H
    obtain ⟨⟨t108, t109⟩, A80, H⟩ := H
    try dsimp only at H
    have A8 := zM A80
    clear A80
    simp only [Option.some.injEq, Prod.mk.injEq] at H
    obtain ⟨rfl, rfl, rfl⟩ := H
    go_enter Tryd.func22, Tryd.ntmps22
    go_wp2_with (first | ((with_reducible refine gate_dst (N := 2) rfl ?_); refine box_event ?hg (N := 2) ?hd (cs := #[.int .i64 a0_0, .slice A0_1 l0_1.length c0_1, .slice A0_2 l0_2.length c0_2]) (t := 25) ?hr ?_; (case hd => rfl); (case hg => rfl); (case hr => first | (go_simp; done) | (go_simp; rfl)); intro gb101 hg w9 hbox hb; have BK101 := zM (hbox); have GW101 := zM (zh hg : w.heap.size ≤ gb101); have GE101 := zM (zh hg : w.heap.size ≤ gb101); replace HB := zM (below_step zb hb); clear hb hbox hg; have hcz10_0 : w9.cell? ⟨gb101, 0, none⟩ = some (.int .i64 a0_0) := (zX BK101.out 0).trans rfl; have hcz10_1 : w9.cell? ⟨gb101, 1, none⟩ = some (.slice A0_1 l0_1.length c0_1) := (zX BK101.out 1).trans rfl; have hcz10_2 : w9.cell? ⟨gb101, 2, none⟩ = some (.slice A0_2 l0_2.length c0_2) := (zX BK101.out 2).trans rfl; have hfz10_0 := zY BK101.out 0; have hfz10_1 := zY BK101.out 1; have hfz10_2 := zY BK101.out 2) | ((with_reducible refine gate_callee (f := 11) rfl ?_); refine goesL_ (some 13) rfl rfl Tryd.func11 (by kernel_rfl) rfl #[.agg #[.int .i64 a0_0, .slice A0_1 l0_1.length c0_1, .slice A0_2 l0_2.length c0_2]] rfl zl ?_; (with_reducible refine (rule_Check.calls k a0_0 _ _ l0_1 _ _ l0_2 t102 _ ?side1 ?side2 ?side3 ?side4 A3.out).mono ?_); (case side1 => exact Kd.C_below HR0_1.out zb); (case side2 => exact HC0_1.out); (case side3 => exact Kd.C_below HR0_2.out zb); (case side4 => exact HC0_2.out); rintro e w11 ⟨rfl, hb⟩; refine ⟨_, rfl, ?_⟩; replace BK101 := zM (blk_below (zk BK101.out) hb); replace HB := zM (below_step zb hb); (try clear hb); have hcz12_0 : w11.cell? ⟨gb101, 0, none⟩ = some (.int .i64 a0_0) := (zX BK101.out 0).trans rfl; have hcz12_1 : w11.cell? ⟨gb101, 1, none⟩ = some (.slice A0_1 l0_1.length c0_1) := (zX BK101.out 1).trans rfl; have hcz12_2 : w11.cell? ⟨gb101, 2, none⟩ = some (.slice A0_2 l0_2.length c0_2) := (zX BK101.out 2).trans rfl; have hfz12_0 := zY BK101.out 0; have hfz12_1 := zY BK101.out 1; have hfz12_2 := zY BK101.out 2) | ((with_reducible refine gate_callee (f := 51) rfl ?_); refine goesL_ (some 21) rfl rfl Tryd.func51 (by kernel_rfl) rfl #[.slice A0_1 l0_1.length c0_1, .slice A1 l1.length c1] rfl zl ?_; (with_reducible refine (match_Match.calls k _ _ l0_1 _ _ l1 t103 true t105 _ ?side1 ?side2 ?side3 ?side4 A5.out).mono ?_); (case side1 => exact Kd.C_below HR0_1.out zb); (case side2 => exact HC0_1.out); (case side3 => exact Kd.C_below HR1.out zb); (case side4 => exact HC1.out); rintro e w13 ⟨v106, rfl, ho0, hb⟩; refine ⟨_, rfl, ?_⟩; have HO107 := zM (Kd.S_lower ho0 (below_size zb)); replace BK101 := zM (blk_below (zk BK101.out) hb); replace HB := zM (below_step zb hb); (try clear hb); (try clear ho0); have hcz14_0 : w13.cell? ⟨gb101, 0, none⟩ = some (.int .i64 a0_0) := (zX BK101.out 0).trans rfl; have hcz14_1 : w13.cell? ⟨gb101, 1, none⟩ = some (.slice A0_1 l0_1.length c0_1) := (zX BK101.out 1).trans rfl; have hcz14_2 : w13.cell? ⟨gb101, 2, none⟩ = some (.slice A0_2 l0_2.length c0_2) := (zX BK101.out 2).trans rfl; have hfz14_0 := zY BK101.out 0; have hfz14_1 := zY BK101.out 1; have hfz14_2 := zY BK101.out 2; obtain ⟨Ao15, co15, eo15⟩ := Kd.S_slice HO107.out; subst eo15) | ((with_reducible refine gate_callee (f := 52) rfl ?_); refine goesL_ (some 36) rfl rfl Tryd.func52 (by kernel_rfl) rfl #[.slice A0_2 l0_2.length c0_2, .slice Ao15 t103.length co15] rfl zl ?_; (with_reducible refine (match_Fill.calls k _ _ l0_2 _ _ t103 t108 t109 _ ?side1 ?side2 ?side3 ?side4 A8.out).mono ?_); (case side1 => exact Kd.C_below HR0_2.out zb); (case side2 => exact HC0_2.out); (case side3 => exact Kd.C_below (Kd.S_reads' HO107.out).2.2 zg); (case side4 => exact (Kd.S_reads' HO107.out).2.1); rintro e w16 ⟨v110, rfl, ho0, hb⟩; refine ⟨_, rfl, ?_⟩; replace HO107 := zM (Kd.S_elder' (Kd.S_below HO107.out zg) (Kd.R_base ho0) hb); have HO111 := zM (Kd.R_lower ho0 (below_size zb)); replace BK101 := zM (blk_below (zk BK101.out) hb); replace HB := zM (below_step zb hb); (try clear hb); (try clear ho0)))
    go_ret3
    exact ⟨_, zw, zr HO111.out, zb⟩
   ·
    replace c7 := zI c7
    subst c7
    rw [if_neg (show ¬ (false = true) by decide)] at H
    simp only [Option.some.injEq, Prod.mk.injEq] at H
    obtain ⟨rfl, rfl, rfl⟩ := H
    go_enter Tryd.func22, Tryd.ntmps22
    go_wp2_with (first | ((with_reducible refine gate_dst (N := 2) rfl ?_); refine box_event ?hg (N := 2) ?hd (cs := #[.int .i64 a0_0, .slice A0_1 l0_1.length c0_1, .slice A0_2 l0_2.length c0_2]) (t := 25) ?hr ?_; (case hd => rfl); (case hg => rfl); (case hr => first | (go_simp; done) | (go_simp; rfl)); intro gb101 hg w17 hbox hb; have BK101 := zM (hbox); have GW101 := zM (zh hg : w.heap.size ≤ gb101); have GE101 := zM (zh hg : w.heap.size ≤ gb101); replace HB := zM (below_step zb hb); clear hb hbox hg; have hcz18_0 : w17.cell? ⟨gb101, 0, none⟩ = some (.int .i64 a0_0) := (zX BK101.out 0).trans rfl; have hcz18_1 : w17.cell? ⟨gb101, 1, none⟩ = some (.slice A0_1 l0_1.length c0_1) := (zX BK101.out 1).trans rfl; have hcz18_2 : w17.cell? ⟨gb101, 2, none⟩ = some (.slice A0_2 l0_2.length c0_2) := (zX BK101.out 2).trans rfl; have hfz18_0 := zY BK101.out 0; have hfz18_1 := zY BK101.out 1; have hfz18_2 := zY BK101.out 2) | ((with_reducible refine gate_callee (f := 11) rfl ?_); refine goesL_ (some 13) rfl rfl Tryd.func11 (by kernel_rfl) rfl #[.agg #[.int .i64 a0_0, .slice A0_1 l0_1.length c0_1, .slice A0_2 l0_2.length c0_2]] rfl zl ?_; (with_reducible refine (rule_Check.calls k a0_0 _ _ l0_1 _ _ l0_2 t102 _ ?side1 ?side2 ?side3 ?side4 A3.out).mono ?_); (case side1 => exact Kd.C_below HR0_1.out zb); (case side2 => exact HC0_1.out); (case side3 => exact Kd.C_below HR0_2.out zb); (case side4 => exact HC0_2.out); rintro e w19 ⟨rfl, hb⟩; refine ⟨_, rfl, ?_⟩; replace BK101 := zM (blk_below (zk BK101.out) hb); replace HB := zM (below_step zb hb); (try clear hb); have hcz20_0 : w19.cell? ⟨gb101, 0, none⟩ = some (.int .i64 a0_0) := (zX BK101.out 0).trans rfl; have hcz20_1 : w19.cell? ⟨gb101, 1, none⟩ = some (.slice A0_1 l0_1.length c0_1) := (zX BK101.out 1).trans rfl; have hcz20_2 : w19.cell? ⟨gb101, 2, none⟩ = some (.slice A0_2 l0_2.length c0_2) := (zX BK101.out 2).trans rfl; have hfz20_0 := zY BK101.out 0; have hfz20_1 := zY BK101.out 1; have hfz20_2 := zY BK101.out 2) | ((with_reducible refine gate_callee (f := 51) rfl ?_); refine goesL_ (some 21) rfl rfl Tryd.func51 (by kernel_rfl) rfl #[.slice A0_1 l0_1.length c0_1, .slice A1 l1.length c1] rfl zl ?_; (with_reducible refine (match_Match.calls k _ _ l0_1 _ _ l1 t103 false t105 _ ?side1 ?side2 ?side3 ?side4 A5.out).mono ?_); (case side1 => exact Kd.C_below HR0_1.out zb); (case side2 => exact HC0_1.out); (case side3 => exact Kd.C_below HR1.out zb); (case side4 => exact HC1.out); rintro e w21 ⟨v106, rfl, ho0, hb⟩; refine ⟨_, rfl, ?_⟩; have HO107 := zM (Kd.S_lower ho0 (below_size zb)); replace BK101 := zM (blk_below (zk BK101.out) hb); replace HB := zM (below_step zb hb); (try clear hb); (try clear ho0)))
    go_ret3
    exact ⟨_, zw, by first | exact Kd.R_nil _ _ _ _ _ | exact Kd.N_nil _ _ _ _ _ | exact Kd.V_nil _ _ _ _ _ | exact Kd.Q_nil _ _ _ _ _ | exact Kd.S_nil _ _ _ _ _, zb⟩
  ·
   rw [if_neg c6] at H
   have c6b0 : (t105 == 0) = false := zE c6
   have c6b1 : (t105 != 0) = true := zF c6
   simp only [Option.some.injEq, Prod.mk.injEq] at H
   obtain ⟨rfl, rfl, rfl⟩ := H
   go_enter Tryd.func22, Tryd.ntmps22
   go_wp2_with (first | ((with_reducible refine gate_dst (N := 2) rfl ?_); refine box_event ?hg (N := 2) ?hd (cs := #[.int .i64 a0_0, .slice A0_1 l0_1.length c0_1, .slice A0_2 l0_2.length c0_2]) (t := 25) ?hr ?_; (case hd => rfl); (case hg => rfl); (case hr => first | (go_simp; done) | (go_simp; rfl)); intro gb101 hg w22 hbox hb; have BK101 := zM (hbox); have GW101 := zM (zh hg : w.heap.size ≤ gb101); have GE101 := zM (zh hg : w.heap.size ≤ gb101); replace HB := zM (below_step zb hb); clear hb hbox hg; have hcz23_0 : w22.cell? ⟨gb101, 0, none⟩ = some (.int .i64 a0_0) := (zX BK101.out 0).trans rfl; have hcz23_1 : w22.cell? ⟨gb101, 1, none⟩ = some (.slice A0_1 l0_1.length c0_1) := (zX BK101.out 1).trans rfl; have hcz23_2 : w22.cell? ⟨gb101, 2, none⟩ = some (.slice A0_2 l0_2.length c0_2) := (zX BK101.out 2).trans rfl; have hfz23_0 := zY BK101.out 0; have hfz23_1 := zY BK101.out 1; have hfz23_2 := zY BK101.out 2) | ((with_reducible refine gate_callee (f := 11) rfl ?_); refine goesL_ (some 13) rfl rfl Tryd.func11 (by kernel_rfl) rfl #[.agg #[.int .i64 a0_0, .slice A0_1 l0_1.length c0_1, .slice A0_2 l0_2.length c0_2]] rfl zl ?_; (with_reducible refine (rule_Check.calls k a0_0 _ _ l0_1 _ _ l0_2 t102 _ ?side1 ?side2 ?side3 ?side4 A3.out).mono ?_); (case side1 => exact Kd.C_below HR0_1.out zb); (case side2 => exact HC0_1.out); (case side3 => exact Kd.C_below HR0_2.out zb); (case side4 => exact HC0_2.out); rintro e w24 ⟨rfl, hb⟩; refine ⟨_, rfl, ?_⟩; replace BK101 := zM (blk_below (zk BK101.out) hb); replace HB := zM (below_step zb hb); (try clear hb); have hcz25_0 : w24.cell? ⟨gb101, 0, none⟩ = some (.int .i64 a0_0) := (zX BK101.out 0).trans rfl; have hcz25_1 : w24.cell? ⟨gb101, 1, none⟩ = some (.slice A0_1 l0_1.length c0_1) := (zX BK101.out 1).trans rfl; have hcz25_2 : w24.cell? ⟨gb101, 2, none⟩ = some (.slice A0_2 l0_2.length c0_2) := (zX BK101.out 2).trans rfl; have hfz25_0 := zY BK101.out 0; have hfz25_1 := zY BK101.out 1; have hfz25_2 := zY BK101.out 2) | ((with_reducible refine gate_callee (f := 51) rfl ?_); refine goesL_ (some 21) rfl rfl Tryd.func51 (by kernel_rfl) rfl #[.slice A0_1 l0_1.length c0_1, .slice A1 l1.length c1] rfl zl ?_; (with_reducible refine (match_Match.calls k _ _ l0_1 _ _ l1 t103 t104 t105 _ ?side1 ?side2 ?side3 ?side4 A5.out).mono ?_); (case side1 => exact Kd.C_below HR0_1.out zb); (case side2 => exact HC0_1.out); (case side3 => exact Kd.C_below HR1.out zb); (case side4 => exact HC1.out); rintro e w26 ⟨v106, rfl, ho0, hb⟩; refine ⟨_, rfl, ?_⟩; have HO107 := zM (Kd.S_lower ho0 (below_size zb)); replace BK101 := zM (blk_below (zk BK101.out) hb); replace HB := zM (below_step zb hb); (try clear hb); (try clear ho0)))
   go_ret3
   exact ⟨_, zw, by first | exact Kd.R_nil _ _ _ _ _ | exact Kd.N_nil _ _ _ _ _ | exact Kd.V_nil _ _ _ _ _ | exact Kd.Q_nil _ _ _ _ _ | exact Kd.S_nil _ _ _ _ _, zb⟩
 ·
  rw [if_neg c4] at H
  have c4b0 : (t102 == 0) = false := zE c4
  have c4b1 : (t102 != 0) = true := zF c4
  simp only [Option.some.injEq, Prod.mk.injEq] at H
  obtain ⟨rfl, rfl, rfl⟩ := H
  go_enter Tryd.func22, Tryd.ntmps22
  go_wp2_with (first | ((with_reducible refine gate_dst (N := 2) rfl ?_); refine box_event ?hg (N := 2) ?hd (cs := #[.int .i64 a0_0, .slice A0_1 l0_1.length c0_1, .slice A0_2 l0_2.length c0_2]) (t := 25) ?hr ?_; (case hd => rfl); (case hg => rfl); (case hr => first | (go_simp; done) | (go_simp; rfl)); intro gb101 hg w27 hbox hb; have BK101 := zM (hbox); have GW101 := zM (zh hg : w.heap.size ≤ gb101); have GE101 := zM (zh hg : w.heap.size ≤ gb101); replace HB := zM (below_step zb hb); clear hb hbox hg; have hcz28_0 : w27.cell? ⟨gb101, 0, none⟩ = some (.int .i64 a0_0) := (zX BK101.out 0).trans rfl; have hcz28_1 : w27.cell? ⟨gb101, 1, none⟩ = some (.slice A0_1 l0_1.length c0_1) := (zX BK101.out 1).trans rfl; have hcz28_2 : w27.cell? ⟨gb101, 2, none⟩ = some (.slice A0_2 l0_2.length c0_2) := (zX BK101.out 2).trans rfl; have hfz28_0 := zY BK101.out 0; have hfz28_1 := zY BK101.out 1; have hfz28_2 := zY BK101.out 2) | ((with_reducible refine gate_callee (f := 11) rfl ?_); refine goesL_ (some 13) rfl rfl Tryd.func11 (by kernel_rfl) rfl #[.agg #[.int .i64 a0_0, .slice A0_1 l0_1.length c0_1, .slice A0_2 l0_2.length c0_2]] rfl zl ?_; (with_reducible refine (rule_Check.calls k a0_0 _ _ l0_1 _ _ l0_2 t102 _ ?side1 ?side2 ?side3 ?side4 A3.out).mono ?_); (case side1 => exact Kd.C_below HR0_1.out zb); (case side2 => exact HC0_1.out); (case side3 => exact Kd.C_below HR0_2.out zb); (case side4 => exact HC0_2.out); rintro e w29 ⟨rfl, hb⟩; refine ⟨_, rfl, ?_⟩; replace BK101 := zM (blk_below (zk BK101.out) hb); replace HB := zM (below_step zb hb); (try clear hb)))
  go_ret3
  exact ⟨_, zw, by first | exact Kd.R_nil _ _ _ _ _ | exact Kd.N_nil _ _ _ _ _ | exact Kd.V_nil _ _ _ _ _ | exact Kd.Q_nil _ _ _ _ _ | exact Kd.S_nil _ _ _ _ _, zb⟩

end Go.Proofs.YtpnamhplhdaphaaDoor.P

-- ==== Ro1
/- The law RuleOwn, walked: what is handed in stays when what is answered is written over. -/
namespace Go.Proofs.YtpnamhplhdaphaaDoor.P
open Go.RowKit Go.Proofs.YtpnamhplhdaphaaDoorW.PrintWords Go.Proofs.YtpnamhplhdaphaaDoorW.PrintLast Go.Proofs.YtpnamhplhdaphaaDoorW.PrintMore
theorem below_trB {B : Nat} {w w1 w2 : World} (h : Below B w w1) (k : Below B w1 w2) : Below B w w2 :=
 ⟨k.os.trans h.os, k.tape.trans h.tape, k.output.trans h.output, Nat.le_trans h.size k.size, fun i hi => (k.block i hi).trans (h.block i hi)⟩
theorem below_less {B C : Nat} {w w1 : World} (h : Below C w w1) (hB : B ≤ C) : Below B w w1 := ⟨h.os, h.tape, h.output, h.size, fun i hi => h.block i (Nat.lt_of_lt_of_le hi hB)⟩
def OwnU (W : World) (S : Nat → Prop) (A : Option Addr) (n : Nat) : Prop := n = 0 ∨ ∃ g, A = some ⟨g, 0, none⟩ ∧ S g ∧ WrRow W g n
theorem OwnU.set {W : World} {S : Nat → Prop} {A : Option Addr} {n : Nat} (h : OwnU W S A n) (g' o : Nat) (x : ByteArray) : OwnU (W.setCell ⟨g', o, none⟩ (.string x)) S A n := by
 rcases h with h | ⟨g, h1, h2, h3⟩
 ·
  exact .inl h
 ·
  exact .inr ⟨g, h1, h2, h3.set g' o x⟩
theorem ownU_of {W : World} {base cap : Nat} {A : Option Addr} {xs : List S33} {ok : Nat → Prop} (h : Kd.R k33 33 W base ok (.slice A xs.length cap) xs) : OwnU W (SCof W base) A xs.length ∧ (xs.length : Int) ≤ 9223372036854775807 := by
 have hu := wr_ofC (Kd.R_mono h (fun _ _ => trivial))
 refine ⟨?_, by have := hu.2.2.1; omega⟩
 rcases Nat.eq_zero_or_pos xs.length with h0 | h0
 ·
  exact .inl h0
 ·
  exact .inr (hu.2.2.2 h0)
def decC : DecidableEq S33 := fun x y => decidable_of_iff (x.f0 = y.f0 ∧ x.f1 = y.f1) ⟨fun h => by cases x; cases y; simp_all, fun h => by rw [h]; exact ⟨rfl, rfl⟩⟩
def lawRoB (k : Nat) (id : Int) (l r t : List S33) : Option Bool :=
 haveI := decC; (aumbryref06_Copy.f id l r).bind fun c => (aumbryref04_Copy.f t).bind fun t2 => (rule_Plain.f k id l r).bind fun p => (rule_Apply.f k id l r t).bind fun a =>
  if (id, l, r) = c ∧ t = t2 ∧ aumbryref06_Same.f k id l r id l r = some true ∧ aumbryref04_Same.f k t t = some true then some true else none
def lawRo (k : Nat) (id : Int) (l r t : List S33) : Option Bool := (aumbrylaw06_wakes.f k).bind fun q => if q = true then lawRoB k id l r t else none
theorem ro_calls {k c1 c2 c3 : Nat} {A1 A2 A3 : Option Addr} {id : Int} {l r t : List S33} {w : World} (hLl : Kd.C k33 w A1 l.length l) (hc1 : l.length ≤ c1) (hRr : Kd.C k33 w A2 r.length r) (hc2 : r.length ≤ c2) (hT : Kd.C k33 w A3 t.length t) (hc3 : t.length ≤ c3) (h : lawRo k id l r t = some true) :
 Calls Tryd.prog 9 #[.agg #[.int .i64 id, .slice A1 l.length c1, .slice A2 r.length c2], .slice A3 t.length c3] w fun e w' => e = .returned (.bool true) ∧ Below w.heap.size w w' := by
 unfold lawRo at h
 obtain ⟨q, hw, h⟩ := Option.bind_eq_some_iff.mp h
 by_cases c1_ : q = true
 case neg => rw [if_neg c1_] at h; cases h
 rw [if_pos c1_] at h
 subst c1_
 unfold lawRoB at h
 obtain ⟨⟨i2, l2, r2⟩, g1, h⟩ := Option.bind_eq_some_iff.mp h
 obtain ⟨t2, g2, h⟩ := Option.bind_eq_some_iff.mp h
 obtain ⟨⟨pi, pl, pr, pe⟩, g3, h⟩ := Option.bind_eq_some_iff.mp h
 obtain ⟨⟨x, xok, xe⟩, g4, h⟩ := Option.bind_eq_some_iff.mp h
 haveI := decC
 by_cases cc : (id, l, r) = (i2, l2, r2) ∧ t = t2 ∧ aumbryref06_Same.f k id l r id l r = some true ∧ aumbryref04_Same.f k t t = some true
 case neg => rw [if_neg cc] at h; cases h
 have HL := Aside0.mk cc
 obtain ⟨cc, rfl, _⟩ := cc
 simp only [Prod.mk.injEq] at cc
 obtain ⟨rfl, rfl, rfl⟩ := cc
 have hlt : t.length < 5864062014805 := by
  unfold aumbryref04_Copy.f at g2
  by_cases q : ([] : List S33).length + t.length < 5864062014805
  ·
   simpa using q
  ·
   rw [if_neg q] at g2; cases g2
 have HLT := Aside0.mk hlt
 have HLl := Aside0.mk hLl
 have HRr := Aside0.mk hRr
 have HT := Aside0.mk hT
 have HC1 := Aside0.mk hc1
 have HC2 := Aside0.mk hc2
 have HC3 := Aside0.mk hc3
 have C0 := fun W => aumbrylaw06_wakes.calls k true W hw
 have D1 := fun (W : World) (hW : Below w.heap.size w W) => aumbryref06_Copy.calls id A1 c1 l A2 c2 r id l r W (Kd.C_below hLl hW) hc1 (Kd.C_below hRr hW) hc2 g1
 have D2 := fun (W : World) (hW : Below w.heap.size w W) => aumbryref04_Copy.calls A3 c3 t t W (Kd.C_below hT hW) hc3 g2
 obtain ⟨Y, hY⟩ : ∃ Y, Y = t ++ [(⟨⟨#[107, 101, 101, 112]⟩, 0⟩ : S33)] := ⟨_, rfl⟩
 have HY := Aside0.mk (show Y = t ++ [(⟨⟨#[107, 101, 101, 112]⟩, 0⟩ : S33)] ∧ Y.length = t.length + 1 from ⟨hY, by rw [hY]; simp⟩)
 have H3 := Aside0.mk g3
 have H4 := Aside0.mk g4
 obtain ⟨i33, hi33, _⟩ := info_parts info33
 have HZ0 := Aside0.mk (heap_alloc_new w (.cells #[.int .i64 id, .slice A1 l.length c1, .slice A2 r.length c2] 25))
 have HB := Aside0.mk (below_alloc (Below.refl w.heap.size w) (.cells #[.int .i64 id, .slice A1 l.length c1, .slice A2 r.length c2] 25))
 clear hLl hRr hT hc1 hc2 hc3 hw h g1 g2 g3 g4 hlt hY
 go_enter Tryd.func9, Tryd.ntmps9
 go_upto_region 1 with fail
 generalize (w.alloc (.cells #[.int .i64 id, .slice A1 l.length c1, .slice A2 r.length c2] 25)) = W0 at HZ0 HB ⊢
 go_upto_region 3 with (first | (go_at_call 10; (with_reducible refine (C0 _).mono ?_); rintro e w1 ⟨rfl, hb_⟩; have HX1 := Aside0.mk hb_; clear hb_))
 have HB1 := Aside0.mk (below_step HB.out HX1.out)
 have HZ1 := Aside0.mk (blk_below HZ0.out HX1.out)
 clear HX1 HB HZ0 C0
 have x0 := (blk_cell HZ1.out 0).trans rfl; have x1 := (blk_cell HZ1.out 1).trans rfl; have x2 := (blk_cell HZ1.out 2).trans rfl
 go_upto_region 4 with (first | (go_at_call 12; (with_reducible refine (D1 _ HB1.out).mono ?_); rintro e w2 ⟨u1, u2, rfl, h1_, h2_, hb_⟩; obtain ⟨AL, cL, rfl⟩ := Kd.R_slice h1_; obtain ⟨AR, cR, rfl⟩ := Kd.R_slice h2_; have HCL := Aside0.mk (And.intro (Kd.R_reads' h1_).2.1 (Kd.R_reads' h1_).2.2); have HCR := Aside0.mk (And.intro (Kd.R_reads' h2_).2.1 (Kd.R_reads' h2_).2.2); have HX2 := Aside0.mk hb_; have HB2 := Aside0.mk (below_step HB1.out hb_); clear hb_ h1_ h2_) | (go_at_call 23; (with_reducible refine (D2 _ HB2.out).mono ?_); rintro e w3 ⟨v4, rfl, hS, hb_⟩; obtain ⟨At, ct, rfl⟩ := Kd.R_slice hS; have HRT2 := Aside0.mk hS; have HB3 := Aside0.mk (below_step HB2.out hb_); have HXb := Aside0.mk hb_.size; have HX3 := Aside0.mk hb_; clear hb_ hS) | (at_builtin; (with_reducible refine gate_builtin (b := .append) (xs := #[.tmp 20, .tmp 22]) rfl ?_); refine Kd.R_append k33 (w0 := w3) w2.heap.size rfl (.tmp 20) (.tmp 22) 23 33 (.agg #[.string ⟨#[]⟩, .int .i64 0]) 24 rfl Tryd.underlying23 info33 rfl (by decide) (by decide) (.slice At t.length ct) t (⟨⟨#[107, 101, 101, 112]⟩, 0⟩ : S33) [.string ⟨#[107, 101, 101, 112]⟩, .int .i64 0] (fun _ => True) (fun _ => False) rfl rfl (k33_mkM _ _ _ (⟨⟨#[107, 101, 101, 112]⟩, 0⟩ : S33)) (fun _ hk => hk.elim) (fun _ _ => trivial) ?aO ?aB ?aS ?aL ?_; (case aO => exact (zr HRT2.out)); (case aB => exact (below_less (zq (Below.refl _ _)) HXb.out)); (case aS => exact (Nat.le_trans HXb.out (show Below w3.heap.size w3 _ from (zq (Below.refl _ _))).size)); (case aL => have := HLT.out; omega); intro v_ w4 ho hb hg hat; rw [← HY.out.1] at ho; obtain ⟨AY, cY, rfl⟩ := Kd.R_slice ho; have HRY := Aside0.mk ho; have HGY := Aside0.mk hb; clear ho hb hg hat))
 have h24 := below_trB HX3.out HGY.out
 have ha_ := below_alloc (Below.refl w4.heap.size w4) (.cells #[.int .i64 id, .slice AL l.length cL, .slice AR r.length cR] 25)
 have HZ5 := Aside0.mk (heap_alloc_new w4 (.cells #[.int .i64 id, .slice AL l.length cL, .slice AR r.length cR] 25))
 have h14 := below_trB HX2.out (below_less h24 HX2.out.size)
 have HBW := Aside0.mk (below_step (below_step HB1.out h14) ha_)
 have HZS := Aside0.mk (blk_below (blk_below HZ1.out h14) ha_)
 replace HCL := Aside0.mk (And.intro HCL.out.1 (Kd.C_below (Kd.C_below HCL.out.2 h24) ha_))
 replace HCR := Aside0.mk (And.intro HCR.out.1 (Kd.C_below (Kd.C_below HCR.out.2 h24) ha_))
 have HYC := Aside0.mk (Kd.C_below (Kd.R_reads' HRY.out).2.2 ha_)
 have HYL := Aside0.mk (Kd.R_reads' HRY.out).2.1
 clear h24 h14 ha_ HX2 HX3 HGY HRY HRT2 HXb HB2 HB3 D1 D2 x0 x1 x2 HZ1 HB1
 generalize (w4.alloc (.cells #[.int .i64 id, .slice AL l.length cL, .slice AR r.length cR] 25)) = W5 at HZ5 HBW HZS HCL HCR HYC ⊢
 generalize w4.heap.size = b5 at HZ5 ⊢
 have HTC := Aside0.mk (Kd.C_below HT.out HBW.out)
 have HLC := Aside0.mk (Kd.C_below HLl.out HBW.out)
 have HRC := Aside0.mk (Kd.C_below HRr.out HBW.out)
 clear HT HLl HRr
 have D3 := rule_Plain.calls k id AL cL l AR cR r pi pl pr pe W5 HCL.out.2 HCL.out.1 HCR.out.2 HCR.out.1 H3.out
 have t0 := (blk_cell HZ5.out 0).trans rfl; have t1 := (blk_cell HZ5.out 1).trans rfl; have t2 := (blk_cell HZ5.out 2).trans rfl
 go_upto_region 5 with (first | (go_at_call 19; (with_reducible refine D3.mono ?_); rintro e w6 ⟨u1, u2, rfl, h1_, h2_, hb_⟩; obtain ⟨APl, cPl, rfl⟩ := Kd.R_slice h1_; obtain ⟨APr, cPr, rfl⟩ := Kd.R_slice h2_; have HRl := Aside0.mk (Kd.R_mono h1_ (ok' := fun _ => True) (fun _ _ => trivial)); have HRr := Aside0.mk (Kd.R_mono h2_ (ok' := fun _ => True) (fun _ _ => trivial)); have HX6 := Aside0.mk hb_; clear hb_ h1_ h2_))
 have HX := Aside0.mk (heap_alloc_new w6 (.cells #[.int .i64 pi, .slice APl pl.length cPl, .slice APr pr.length cPr] 25))
 have ha_ := below_alloc (Below.refl w6.heap.size w6) (.cells #[.int .i64 pi, .slice APl pl.length cPl, .slice APr pr.length cPr] 25)
 have HB7 := Aside0.mk (below_step HX6.out ha_)
 replace HRl := Aside0.mk (Kd.R_below HRl.out ha_)
 replace HRr := Aside0.mk (Kd.R_below HRr.out ha_)
 clear ha_ t0 t1 t2 D3 H3
 generalize (w6.alloc (.cells #[.int .i64 pi, .slice APl pl.length cPl, .slice APr pr.length cPr] 25)) = w7 at HX HB7 HRl HRr ⊢
 generalize w6.heap.size = bp at HX ⊢
 have hyt := Kd.C_take HYC.out (show t.length ≤ Y.length by have := HY.out; omega)
 rw [show Y.take t.length = t by rw [HY.out.1, List.take_left]] at hyt
 have D4 := fun (W : World) (hW : Below W5.heap.size W5 W) => rule_Apply.calls k id AL cL l AR cR r AY cY t x xok xe W (Kd.C_below HCL.out.2 hW) HCL.out.1 (Kd.C_below HCR.out.2 hW) HCR.out.1 (Kd.C_below hyt hW) (by have := HY.out; have := HYL.out; omega) H4.out
 have hcY := cut_to (P := Tryd.prog) 23 33 .i64 Tryd.underlying23 hi33 AY Y.length cY (t.length : Int) (by omega) (by have := HY.out; omega) HYL.out
 rw [Int.toNat_natCast] at hcY
 have t0 := (blk_cell (blk_below HZ5.out HB7.out) 0).trans rfl; have t1 := (blk_cell (blk_below HZ5.out HB7.out) 1).trans rfl; have t2 := (blk_cell (blk_below HZ5.out HB7.out) 2).trans rfl
 clear hyt
 go_region_held3 (fun w' => w'.cell? ⟨b5, 0, none⟩ = some (.int .i64 id) ∧ w'.cell? ⟨b5, 1, none⟩ = some (.slice AL l.length cL) ∧ w'.cell? ⟨b5, 2, none⟩ = some (.slice AR r.length cR)) (first | go_keep | (go_split_ands; refine ⟨?_, ?_, ?_⟩ <;> assumption)) (first | (go_at_call 22; (with_reducible refine (D4 _ ?side1).mono ?_); (case side1 => exact (zq HB7.out)); rintro e w8 ⟨v8, rfl, hS, hb_⟩; obtain ⟨Ax, cx, rfl⟩ := Kd.R_slice hS; have HRx := Aside0.mk (Kd.R_lower hS (Below.size (zq HB7.out))); have HX8 := Aside0.mk (below_step (zq (Below.refl _ _)) hb_ : Below w7.heap.size w7 w8); have q0 := (blk_cell (blk_below HZ5.out (below_step HB7.out HX8.out)) 0).trans rfl; have q1 := (blk_cell (blk_below HZ5.out (below_step HB7.out HX8.out)) 1).trans rfl; have q2 := (blk_cell (blk_below HZ5.out (below_step HB7.out HX8.out)) 2).trans rfl; clear hS hb_))
 have HB := Aside0.mk (below_step HB7.out HX8.out)
 replace HX := Aside0.mk (blk_below HX.out HX8.out)
 replace HRl := Aside0.mk (Kd.R_below HRl.out HX8.out)
 replace HRr := Aside0.mk (Kd.R_below HRr.out HX8.out)
 obtain ⟨S5, hS5⟩ : ∃ S5, S5 = SCof w8 W5.heap.size := ⟨_, rfl⟩
 have HUl := Aside0.mk (ownU_of HRl.out).1
 have HUr := Aside0.mk (ownU_of HRr.out).1
 have HUx := Aside0.mk (ownU_of HRx.out).1
 have HMl := Aside0.mk (ownU_of HRl.out).2
 have HMr := Aside0.mk (ownU_of HRr.out).2
 have HMx := Aside0.mk (ownU_of HRx.out).2
 have HNP := Aside0.mk (sC_not (base := W5.heap.size) HX.out (by decide))
 rw [← hS5] at HUl HUr HUx HNP
 have HS5 := Aside0.mk hS5
 clear hS5 HRl HRr HRx HX8 HB7 D4 hcY t0 t1 t2 q0 q1 q2 H4 HX6
 have z1 := (blk_cell HX.out 1).trans rfl; have z2 := (blk_cell HX.out 2).trans rfl
 go_wp2
 go_loopg [42] pl.length (fun kq v42 w' => ∃ y : Int, v42 = .int .i64 y ∧ Aside0 (0 ≤ y ∧ y + kq = (pl.length : Int)) ∧ Aside0 (OwnU w' S5 APl pl.length) ∧ Aside0 (OwnU w' S5 APr pr.length) ∧ Aside0 (OwnU w' S5 Ax x.length) ∧ Aside0 (w'.heap[bp]? = some (.cells #[.int .i64 pi, .slice APl pl.length cPl, .slice APr pr.length cPr] 25 (0, 0))) ∧ Aside0 (Below W5.heap.size W5 w'))
 case atStart => exact ⟨0, rfl, ⟨by omega⟩, HUl, HUr, HUx, HX, HB⟩
 case round =>
  clear HUl HUr HUx HX HB z1 z2
  obtain ⟨y, rfl, HI, HUl, HUr, HUx, HX, HB⟩ := hrel
  have z1 := (blk_cell HX.out 1).trans rfl; have z2 := (blk_cell HX.out 2).trans rfl
  cases gk with
  | succ k1 =>
   have hi : 0 ≤ y ∧ y < (pl.length : Int) := by have := HI.out; omega
   have hb0 : decide (y < (pl.length : Int)) = true := decide_eq_true hi.2
   have hb2 : decide (0 ≤ y) = true := decide_eq_true hi.1
   have hbA := HUl.out
   rcases hbA with hbA | ⟨g, eG, hSg, hrow⟩
   ·
    omega
   obtain ⟨s0, hcs, hfs⟩ := hrow.cell (j := y.toNat) (by omega)
   have HSG := Aside0.mk hSg
   have HYI := Aside0.mk hi
   have hp := eq_true hi.1
   have hq := eq_true hi.2
   clear hi hrow hSg
   subst eG
   go_wp2
   have hbg : W5.heap.size ≤ g := by have h_ := HSG.out; rw [HS5.out] at h_; exact h_.1
   have hnx : bp ≠ g := fun he => HNP.out (by rw [he]; exact HSG.out)
   go_roundg k1
   case measure => have := HI.out; omega
   case rel => exact ⟨y + 1, by have e_ : wrap64 (y + 1) = y + 1 := (by have := HYI.out; have := HMl.out; unfold wrap64; omega); first | rfl | rw [e_] | (simp [e_]; done), ⟨by have := HI.out; omega⟩, ⟨HUl.out.set _ _ _⟩, ⟨HUr.out.set _ _ _⟩, ⟨HUx.out.set _ _ _⟩, ⟨(Below.heap_setCell _ _ _ _ hnx).trans HX.out⟩, ⟨HB.out.setCell (p := ⟨g, y.toNat * 2, none⟩) hbg _⟩⟩
  | zero =>
   have hb0 : decide (y < (pl.length : Int)) = false := decide_eq_false (by have := HI.out; omega)
   clear HUl HI
   go_wp2
   go_loopg [54] pr.length (fun kq v54 w' => ∃ y : Int, v54 = .int .i64 y ∧ Aside0 (0 ≤ y ∧ y + kq = (pr.length : Int)) ∧ Aside0 (OwnU w' S5 APr pr.length) ∧ Aside0 (OwnU w' S5 Ax x.length) ∧ Aside0 (w'.heap[bp]? = some (.cells #[.int .i64 pi, .slice APl pl.length cPl, .slice APr pr.length cPr] 25 (0, 0))) ∧ Aside0 (Below W5.heap.size W5 w'))
   case atStart => exact ⟨0, rfl, ⟨by omega⟩, HUr, HUx, HX, HB⟩
   case round =>
    clear HUr HUx HX HB z1 z2
    obtain ⟨y, rfl, HI, HUr, HUx, HX, HB⟩ := hrel
    have z1 := (blk_cell HX.out 1).trans rfl; have z2 := (blk_cell HX.out 2).trans rfl
    cases gk with
    | succ k1 =>
     have hi : 0 ≤ y ∧ y < (pr.length : Int) := by have := HI.out; omega
     have hb0 : decide (y < (pr.length : Int)) = true := decide_eq_true hi.2
     have hb2 : decide (0 ≤ y) = true := decide_eq_true hi.1
     have hbA := HUr.out
     rcases hbA with hbA | ⟨g, eG, hSg, hrow⟩
     ·
      omega
     obtain ⟨s0, hcs, hfs⟩ := hrow.cell (j := y.toNat) (by omega)
     have HSG := Aside0.mk hSg
     have HYI := Aside0.mk hi
     have hp := eq_true hi.1
     have hq := eq_true hi.2
     clear hi hrow hSg
     subst eG
     go_wp2
     have hbg : W5.heap.size ≤ g := by have h_ := HSG.out; rw [HS5.out] at h_; exact h_.1
     have hnx : bp ≠ g := fun he => HNP.out (by rw [he]; exact HSG.out)
     go_roundg k1
     case measure => have := HI.out; omega
     case rel => exact ⟨y + 1, by have e_ : wrap64 (y + 1) = y + 1 := (by have := HYI.out; have := HMr.out; unfold wrap64; omega); first | rfl | rw [e_] | (simp [e_]; done), ⟨by have := HI.out; omega⟩, ⟨HUr.out.set _ _ _⟩, ⟨HUx.out.set _ _ _⟩, ⟨(Below.heap_setCell _ _ _ _ hnx).trans HX.out⟩, ⟨HB.out.setCell (p := ⟨g, y.toNat * 2, none⟩) hbg _⟩⟩
    | zero =>
     have hb0 : decide (y < (pr.length : Int)) = false := decide_eq_false (by have := HI.out; omega)
     clear HUr HI
     go_wp2
     go_loopg [65] x.length (fun kq v65 w' => ∃ y : Int, v65 = .int .i64 y ∧ Aside0 (0 ≤ y ∧ y + kq = (x.length : Int)) ∧ Aside0 (OwnU w' S5 Ax x.length) ∧ Aside0 (w'.heap[bp]? = some (.cells #[.int .i64 pi, .slice APl pl.length cPl, .slice APr pr.length cPr] 25 (0, 0))) ∧ Aside0 (Below W5.heap.size W5 w'))
     case atStart => exact ⟨0, rfl, ⟨by omega⟩, HUx, HX, HB⟩
     case round =>
      clear HUx HX HB z1 z2
      obtain ⟨y, rfl, HI, HUx, HX, HB⟩ := hrel
      have z1 := (blk_cell HX.out 1).trans rfl; have z2 := (blk_cell HX.out 2).trans rfl
      cases gk with
      | succ k1 =>
       have hi : 0 ≤ y ∧ y < (x.length : Int) := by have := HI.out; omega
       have hb0 : decide (y < (x.length : Int)) = true := decide_eq_true hi.2
       have hb2 : decide (0 ≤ y) = true := decide_eq_true hi.1
       have hbA := HUx.out
       rcases hbA with hbA | ⟨g, eG, hSg, hrow⟩
       ·
        omega
       obtain ⟨s0, hcs, hfs⟩ := hrow.cell (j := y.toNat) (by omega)
       have HSG := Aside0.mk hSg
       have HYI := Aside0.mk hi
       have hp := eq_true hi.1
       have hq := eq_true hi.2
       clear hi hrow hSg
       subst eG
       go_wp2
       have hbg : W5.heap.size ≤ g := by have h_ := HSG.out; rw [HS5.out] at h_; exact h_.1
       have hnx : bp ≠ g := fun he => HNP.out (by rw [he]; exact HSG.out)
       go_roundg k1
       case measure => have := HI.out; omega
       case rel => exact ⟨y + 1, by have e_ : wrap64 (y + 1) = y + 1 := (by have := HYI.out; have := HMx.out; unfold wrap64; omega); first | rfl | rw [e_] | (simp [e_]; done), ⟨by have := HI.out; omega⟩, ⟨HUx.out.set _ _ _⟩, ⟨(Below.heap_setCell _ _ _ _ hnx).trans HX.out⟩, ⟨HB.out.setCell (p := ⟨g, y.toNat * 2, none⟩) hbg _⟩⟩
      | zero =>
       have hb0 : decide (y < (x.length : Int)) = false := decide_eq_false (by have := HI.out; omega)
       clear HUx HI
       have hy := Kd.C_below HYC.out HB.out
       have hty := Kd.C_below HTC.out HB.out
       have h5 := blk_below HZ5.out HB.out
       have h0 := blk_below HZS.out HB.out
       obtain ⟨ay, eay, y0, _⟩ := at_T33 hy (t.length : Int) (by omega) (by have := HY.out; omega)
       subst eay
       rw [HY.out.1, show rd_T33 (t ++ [(⟨⟨#[107, 101, 101, 112]⟩, 0⟩ : S33)]) (t.length : Int) = (⟨⟨#[107, 101, 101, 112]⟩, 0⟩ : S33) by simp [rd_T33]] at y0
       have hyt := Kd.C_take hy (show t.length ≤ Y.length by have := HY.out; omega)
       rw [show Y.take t.length = t by rw [HY.out.1, List.take_left]] at hyt
       have e3 : (0 ≤ (t.length : Int)) = True := eq_true (by omega)
       have e4 : ((t.length : Int) < (Y.length : Int)) = True := eq_true (by have := HY.out; omega)
       have C1 := aumbryref06_Same.calls k id AL cL l AR cR r id A1 c1 l A2 c2 r true wr (Kd.C_below HCL.out.2 HB.out) HCL.out.1 (Kd.C_below HCR.out.2 HB.out) HCR.out.1 (Kd.C_below HLC.out HB.out) HC1.out (Kd.C_below HRC.out HB.out) HC2.out HL.out.2.2.1
       have C2 := fun (W : World) (hW : Below wr.heap.size wr W) => aumbryref04_Same.calls k (some ay) cY t A3 c3 t true W (Kd.C_below hyt hW) (by have := HY.out; have := HYL.out; omega) (Kd.C_below hty hW) HC3.out HL.out.2.2.2
       have hcY := cut_to (P := Tryd.prog) 23 33 .i64 Tryd.underlying23 hi33 (some ay) Y.length cY (t.length : Int) (by omega) (by have := HY.out; omega) HYL.out
       rw [Int.toNat_natCast] at hcY y0
       have t0 := (blk_cell h5 0).trans rfl; have t1 := (blk_cell h5 1).trans rfl; have t2 := (blk_cell h5 2).trans rfl
       have s0 := (blk_cell h0 0).trans rfl; have s1 := (blk_cell h0 1).trans rfl; have s2 := (blk_cell h0 2).trans rfl
       have HYB := Aside0.mk y0
       clear hy hty h5 h0 hyt HX z1 z2
       go_wp2_with (first | (go_at_call 17; (with_reducible refine C1.mono ?_); rintro e w10 ⟨rfl, hb_⟩; have HBZ := Aside0.mk hb_; have y1 := pw_cell_below hb_ HYB.out; clear hb_) | (go_at_call 25; (with_reducible refine (C2 _ ?side1).mono ?_); (case side1 => exact (zq HBZ.out)); rintro e w11 ⟨rfl, hb_⟩; have HBY := Aside0.mk (below_step (zq HBZ.out) (Drawn0.below hb_)); have y2 := pw_cell_below HBY.out HYB.out; clear hb_))
       go_ret
       exact ⟨by simp, below_trB HBW.out (below_less (below_trB HB.out (below_less HBY.out HB.out.size)) HBW.out.size)⟩
end Go.Proofs.YtpnamhplhdaphaaDoor.P

-- ==== PF9
namespace Go.Proofs.YtpnamhplhdaphaaDoor.P
open Go.RowKit Go.Proofs.YtpnamhplhdaphaaDoorW.PrintWords Go.Proofs.YtpnamhplhdaphaaDoorW.PrintLast Go.Proofs.YtpnamhplhdaphaaDoorW.PrintMore
attribute [local go_sem] max2_int min2_int max_two min_two max_three min_three max_four min_four

def aumbrylaw06_RuleOwn.f (k : Nat) (a0_0 : Int) (l0_1 : List (S33)) (l0_2 : List (S33)) (l1 : List (S33)) : Option Bool := lawRo k a0_0 l0_1 l0_2 l1
theorem aumbrylaw06_RuleOwn.calls (k : Nat) (a0_0 : Int) (A0_1 : Option Addr) (c0_1 : Nat) (l0_1 : List (S33)) (A0_2 : Option Addr) (c0_2 : Nat) (l0_2 : List (S33)) (A1 : Option Addr) (c1 : Nat) (l1 : List (S33)) (r : Bool) (w : World) (hr0_1 : Kd.C k33 w A0_1 l0_1.length l0_1) (hc0_1 : l0_1.length ≤ c0_1) (hr0_2 : Kd.C k33 w A0_2 l0_2.length l0_2) (hc0_2 : l0_2.length ≤ c0_2) (hr1 : Kd.C k33 w A1 l1.length l1) (hc1 : l1.length ≤ c1) (h : aumbrylaw06_RuleOwn.f k a0_0 l0_1 l0_2 l1 = some r) (hr : r = true) :
 Calls Tryd.prog 9 #[.agg #[.int .i64 a0_0, .slice A0_1 l0_1.length c0_1, .slice A0_2 l0_2.length c0_2], .slice A1 l1.length c1] w fun e w' => e = .returned (.bool true) ∧ Below w.heap.size w w' := by
 have HRT := zM hr
 clear hr
 obtain rfl := HRT.out
 exact ro_calls hr0_1 hc0_1 hr0_2 hc0_2 hr1 hc1 h


end Go.Proofs.YtpnamhplhdaphaaDoor.P

-- ==== PO
namespace Go.Proofs.YtpnamhplhdaphaaDoor.P
open Go.RowKit Go.Proofs.YtpnamhplhdaphaaDoorW.PrintWords Go.Proofs.YtpnamhplhdaphaaDoor.Open
def sz3 (a : Int) : Prop := (Lit.int .i64 a).wf = true
def bk3 (_ : Int) : Nat := 1
theorem op3 : Opens Tryd.prog 3 (Kd.int .i64) sz3 bk3 := opens_int Tryd.underlying3 (by kernel_rfl)
def sz9 (s : ByteArray) : Prop := s.size ≤ 140737488351232
def bk9 (s : ByteArray) : Nat := s.size + 1
theorem op9 : Opens Tryd.prog 9 Kd.string sz9 bk9 := opens_string Tryd.underlying9 (by kernel_rfl)
def sz33 (x : S33) : Prop := sz9 x.f0 ∧ sz3 x.f1
def bk33 (x : S33) : Nat := (bk9 x.f0 + bk3 x.f1) + 1
theorem op33 : Opens Tryd.prog 33 k33 sz33 bk33 := opens_struct (P := Tryd.prog) (ts := [9, 3]) (f := fun x : S33 => (x.f0, x.f1)) Tryd.underlying33 (by kernel_rfl) (fun i fl h => by
 match i, h with
 | 0, h => obtain rfl := Option.some.inj h; show (0 : Nat) = offs Tryd.prog [9, 3] 0; kernel_rfl
 | 1, h => obtain rfl := Option.some.inj h; show (1 : Nat) = offs Tryd.prog [9, 3] 1; kernel_rfl
 | i + 2, h => simp at h) (by kernel_rfl) (opensF_cons op9 (opensF_one op3)) (fun x => ⟨x.1, x.2⟩) (fun _ => rfl)
def sz23 (l : List (S33)) : Prop := l.length * 24 ≤ 140737488351232 ∧ ∀ x ∈ l, sz33 x
def bk23 (l : List (S33)) : Nat := bulkAll bk33 l + 1
theorem op23 : Opens Tryd.prog 23 (Kd.slice 33 k33) sz23 bk23 := opens_slice Tryd.underlying23 (by kernel_rfl) (by kernel_rfl) op33
def sz25 (x : S25) : Prop := sz3 x.f0 ∧ sz23 x.f1 ∧ sz23 x.f2
def bk25 (x : S25) : Nat := (bk3 x.f0 + (bk23 x.f1 + bk23 x.f2)) + 1
theorem op25 : Opens Tryd.prog 25 k25 sz25 bk25 := opens_struct (P := Tryd.prog) (ts := [3, 23, 23]) (f := fun x : S25 => (x.f0, x.f1, x.f2)) Tryd.underlying25 (by kernel_rfl) (fun i fl h => by
 match i, h with
 | 0, h => obtain rfl := Option.some.inj h; show (0 : Nat) = offs Tryd.prog [3, 23, 23] 0; kernel_rfl
 | 1, h => obtain rfl := Option.some.inj h; show (1 : Nat) = offs Tryd.prog [3, 23, 23] 1; kernel_rfl
 | 2, h => obtain rfl := Option.some.inj h; show (2 : Nat) = offs Tryd.prog [3, 23, 23] 2; kernel_rfl
 | i + 3, h => simp at h) (by kernel_rfl) (opensF_cons op3 (opensF_cons op23 (opensF_one op23))) (fun x => ⟨x.1, x.2.1, x.2.2⟩) (fun _ => rfl)
end Go.Proofs.YtpnamhplhdaphaaDoor.P

-- ==== PS9
namespace Go.Proofs.YtpnamhplhdaphaaDoor.P
open Go.RowKit Go.Proofs.YtpnamhplhdaphaaDoorW.PrintWords
def aumbrylaw06_RuleOwn.Pure : Prop := ∀ (x0 : S25) (l1 : List (S33)), sz25 x0 → sz23 l1 → ∃ k, aumbrylaw06_RuleOwn.f k (x0).f0 (x0).f1 (x0).f2 l1 = some true
end Go.Proofs.YtpnamhplhdaphaaDoor.P

-- ==== PLz
/- Plain laws: places in lists, sizes that came in. -/
namespace Go.Proofs.YtpnamhplhdaphaaDoor.P
open Go.RowKit Go.Proofs.YtpnamhplhdaphaaDoorW.PrintWords
theorem sz_len {l : List Cel} (h : sz23 l) : l.length < 5864062014805 := by
 have := h.1
 omega
theorem up_cast (a : Nat) (h : a < 9223372036854775807) : wrap64 ((a : Int) + 1) = ((a + 1 : Nat) : Int) := by rw [wrap_up (by omega) (by omega)]; rfl
theorem checkS_len {t : List Cel} (h : checkS t = 0) : t.length ≤ 64 := (checkS_ok h).1
end Go.Proofs.YtpnamhplhdaphaaDoor.P

-- ==== PL4x
/- Plain laws of chapter 4: a text's signs, its words. -/
namespace Go.Proofs.YtpnamhplhdaphaaDoor.P
open Go.RowKit Go.Proofs.YtpnamhplhdaphaaDoorW.PrintWords
abbrev bl (s : ByteArray) : List UInt8 := s.data.toList
end Go.Proofs.YtpnamhplhdaphaaDoor.P

-- ==== PL4t
/- Plain laws of chapter 4: a term's text. -/
namespace Go.Proofs.YtpnamhplhdaphaaDoor.P
open Go.RowKit Go.Proofs.YtpnamhplhdaphaaDoorW.PrintWords
def closeB (n : Nat) : List UInt8 := if n = 0 then [] else [41]
def sepB (i : Nat) : UInt8 := if i = 0 then 40 else 44
inductive Tx : Nat → Nat → List Cel → List UInt8 → Nat → Prop
 | done (n : Nat) : Tx n n [] [] 0
 | arg {i n : Nat} {c : Cel} {l1 l2 : List Cel} {b1 b2 : List UInt8} {d1 d2 : Nat} (h : i < n) (h1 : Tx 0 (ar c) l1 b1 d1) (h2 : Tx (i + 1) n l2 b2 d2) :
  Tx i n (c :: (l1 ++ l2)) (sepB i :: (bl c.f0 ++ b1 ++ closeB (ar c) ++ b2)) (max (d1 + 1) d2)
theorem tx_of : ∀ (m : Nat) (l : List Cel) (i n : Nat), l.length ≤ m → i ≤ n → segN l (n - i) = some [] → ∃ b d, Tx i n l b d := by
 intro m
 induction m with
 | zero =>
  intro l i n hl hi h
  have : l = [] := List.eq_nil_of_length_eq_zero (by omega)
  subst this
  have := segN_nil_pos h
  have : i = n := by omega
  subst this
  exact ⟨[], 0, .done i⟩
 | succ m ih =>
  intro l i n hl hi h
  cases l with
  | nil =>
   have := segN_nil_pos h
   have : i = n := by omega
   subst this
   exact ⟨[], 0, .done i⟩
  | cons c l =>
   have hin : i < n := by
    rcases Nat.lt_or_ge i n with h1 | h1
    ·
     exact h1
    ·
     rw [show n - i = 0 by omega] at h
     cases h
   rw [show n - i = (n - (i + 1)) + 1 by omega] at h
   have h' : segN l (n - (i + 1) + ar c) = some [] := h
   rw [Nat.add_comm, segN_add] at h'
   cases hr : segN l (ar c) with
   | none => rw [hr] at h'; cases h'
   | some r =>
    rw [hr] at h'
    obtain ⟨e, hs⟩ := segN_fst hr
    have hrl := (segN_len hr).1
    simp at hl
    obtain ⟨b1, d1, t1⟩ := ih (fstT l r) 0 (ar c) (by unfold fstT; rw [List.length_take]; omega) (Nat.zero_le _) (by rw [Nat.sub_zero]; exact hs)
    obtain ⟨b2, d2, t2⟩ := ih r (i + 1) n (by omega) (by omega) h'
    have ht := Tx.arg (c := c) hin t1 t2
    rw [← e] at ht
    exact ⟨_, _, ht⟩
theorem tx_term {t : List Cel} (h : checkS t = 0) : ∃ c l b d, t = c :: l ∧ Tx 0 (ar c) l b d ∧ (∀ x ∈ c :: l, Okc x) ∧ (c :: l).length ≤ 64 := by
 obtain ⟨h1, h2, h3⟩ := checkS_ok h
 rcases t with _ | ⟨c, l⟩
 ·
  cases h3
 have h4 : segN l (0 + ar c) = some [] := h3
 rw [Nat.zero_add] at h4
 obtain ⟨b, d, ht⟩ := tx_of l.length l 0 (ar c) (Nat.le_refl _) (Nat.zero_le _) h4
 exact ⟨c, l, b, d, rfl, ht, h2, h1⟩
end Go.Proofs.YtpnamhplhdaphaaDoor.P

-- ==== PLv
/- Plain laws: a term's variables, its arguments and its text: the program's answers and the document's. -/
namespace Go.Proofs.YtpnamhplhdaphaaDoor.P
open Go.RowKit Go.Proofs.YtpnamhplhdaphaaDoorW.PrintWords
instance txtMem (a : ByteArray) (l : List ByteArray) : Decidable (a ∈ l) :=
 if h : l.any (fun b => decide (a = b)) = true then isTrue (by obtain ⟨b, h1, h2⟩ := List.any_eq_true.1 h; rw [of_decide_eq_true h2]; exact h1) else isFalse (fun h1 => h (List.any_eq_true.2 ⟨a, h1, decide_eq_true rfl⟩))
theorem rd_txt {t : List ByteArray} {n : Nat} {c : ByteArray} {s : List ByteArray} (h : t.drop n = c :: s) : rdOf ByteArray.empty t (n : Int) = c := by
 unfold rdOf
 exact (drop_cons h).2.1 _
theorem ev_index_loop (l : List ByteArray) (a : ByteArray) (hl : l.length ≤ 9223372036854775806) : ∀ (u : List ByteArray) (i : Nat), i ≤ l.length → l.drop i = u →
 ∃ r, Ev (fun k => slices_Index_string_string.l0 k l a (l.length : Int) (i : Int)) r ∧ decide (r ≥ 0) = decide (a ∈ u)
 | [], i, hi, hu => by
  have h1 := drop_nil_len hi hu
  refine ⟨-1, Ev.step (fun k => (show slices_Index_string_string.l0 (k + 1) l a (l.length : Int) (i : Int) = _ from by rw [slices_Index_string_string.l0])) ?_, by simp⟩
  exact evIfn (by omega) (Ev.now _)
 | b :: u, i, hi, hu => by
  obtain ⟨h1, _, h3⟩ := drop_cons hu
  by_cases hab : a.toList = b.toList
  ·
   refine ⟨(i : Int), Ev.step (fun k => (show slices_Index_string_string.l0 (k + 1) l a (l.length : Int) (i : Int) = _ from by rw [slices_Index_string_string.l0])) ?_, ?_⟩
   ·
    refine evIfp (by omega) (evIfp (by omega) (evIfp (by omega) ?_))
    rw [rd_txt hu]
    exact evIfp hab (Ev.now _)
   ·
    rw [(bytes_eq a b).1 hab]
    simp
  ·
   obtain ⟨r, hr, he⟩ := ev_index_loop l a hl u (i + 1) (by omega) h3
   refine ⟨r, Ev.step (fun k => (show slices_Index_string_string.l0 (k + 1) l a (l.length : Int) (i : Int) = _ from by rw [slices_Index_string_string.l0])) ?_, ?_⟩
   ·
    refine evIfp (by omega) (evIfp (by omega) (evIfp (by omega) ?_))
    rw [rd_txt hu]
    refine evIfn hab ?_
    rw [up_cast i (by omega)]
    exact hr
   ·
    rw [he]
    have : a ≠ b := fun h => hab (by rw [h])
    simp [this]
theorem ev_contains (l : List ByteArray) (a : ByteArray) (hl : l.length ≤ 9223372036854775806) : Ev (fun k => slices_Contains_string_string.f k l a) (decide (a ∈ l)) := by
 unfold slices_Contains_string_string.f slices_Index_string_string.f
 obtain ⟨r, hr, he⟩ := ev_index_loop l a hl l 0 (by omega) rfl
 refine Ev.bind hr ?_
 rw [he]
 exact Ev.now _
def varsS : List ByteArray → List Cel → List ByteArray
 | out, [] => out
 | out, c :: l => if kindS c.f0 = 2 then (if c.f0 ∈ out then varsS out l else varsS (out ++ [c.f0]) l) else varsS out l
theorem ev_vars_loop (t : List Cel) (ht : t.length ≤ 1000) : ∀ (u : List Cel) (i : Nat) (out : List ByteArray), i ≤ t.length → t.drop i = u → out.length ≤ i →
 Ev (fun k => term_Vars.l0 k out t (t.length : Int) (i : Int)) (varsS out u, 0)
 | [], i, out, hi, hu, ho => by
  have h1 := drop_nil_len hi hu
  refine Ev.step (fun k => (show term_Vars.l0 (k + 1) out t (t.length : Int) (i : Int) = _ from by rw [term_Vars.l0])) ?_
  exact evIfn (by omega) (Ev.now _)
 | c :: u, i, out, hi, hu, ho => by
  obtain ⟨h1, _, h3⟩ := drop_cons hu
  refine Ev.step (fun k => (show term_Vars.l0 (k + 1) out t (t.length : Int) (i : Int) = _ from by rw [term_Vars.l0])) ?_
  refine evIfp (by omega) (evIfp (by omega) (evIfp (by omega) ?_))
  simp only [rd_cel hu, up_cast i (by omega)]
  refine Ev.bind (ev_kind c.f0) ?_
  have hv : varsS out (c :: u) = if kindS c.f0 = 2 then (if c.f0 ∈ out then varsS out u else varsS (out ++ [c.f0]) u) else varsS out u := rfl
  by_cases hk : kindS c.f0 = 2
  ·
   refine evIfp hk ?_
   rw [hv, if_pos hk]
   refine Ev.bind (ev_contains out c.f0 (by omega)) ?_
   by_cases hm : c.f0 ∈ out
   ·
    rw [if_pos hm]
    exact evIfp (decide_eq_true hm) (ev_vars_loop t ht u (i + 1) out (by omega) h3 (by omega))
   ·
    rw [if_neg hm]
    exact evIfn (by simpa using hm) (evIfp (by omega) (ev_vars_loop t ht u (i + 1) (out ++ [c.f0]) (by omega) h3 (by simp; omega)))
  ·
   refine evIfn hk ?_
   rw [hv, if_neg hk]
   exact ev_vars_loop t ht u (i + 1) out (by omega) h3 (by omega)
theorem ev_vars {t : List Cel} (h : checkS t = 0) : Ev (fun k => term_Vars.f k t) (varsS [] t, 0) := by
 have := checkS_len h
 unfold term_Vars.f
 refine Ev.bind (ev_check t) (evIfp h ?_)
 exact ev_vars_loop t (by omega) t 0 [] (by omega) rfl (by simp)
theorem varsS_len : ∀ (u : List Cel) (out : List ByteArray), (varsS out u).length ≤ out.length + u.length
 | [], out => by simp [varsS]
 | c :: u, out => by
  have hv : varsS out (c :: u) = if kindS c.f0 = 2 then (if c.f0 ∈ out then varsS out u else varsS (out ++ [c.f0]) u) else varsS out u := rfl
  have h1 := varsS_len u out
  have h2 := varsS_len u (out ++ [c.f0])
  rw [hv]
  simp only [List.length_append, List.length_cons, List.length_nil] at h2 ⊢
  split
  ·
   split <;> omega
  ·
   omega
end Go.Proofs.YtpnamhplhdaphaaDoor.P

-- ==== PL6
/- Plain laws of chapter 6: whether a rule may be: the program's answer and the document's come to one function. -/
namespace Go.Proofs.YtpnamhplhdaphaaDoor.P
open Go.RowKit Go.Proofs.YtpnamhplhdaphaaDoorW.PrintWords
abbrev zc : Cel := z33
def ruleS (id : Int) (l r : List Cel) : Int := if id < 0 then 1 else if id > 65535 then 1 else if checkS l = 0 then (if checkS r = 0 then (if l.length > 8 then 6 else if r.length > 8 then 6 else
 if kindS (l.getD 0 zc).f0 = 2 then 20 else if (varsS [] r).all (fun v => decide (v ∈ varsS [] l)) = true then 0 else 7) else checkS r) else checkS l
theorem ev_strF (vl : List ByteArray) (hl : vl.length ≤ 9223372036854775806) : ∀ vr : List ByteArray, Ev (fun k => strF k vl vr) (!(vr.all (fun v => decide (v ∈ vl))))
 | [] => Ev.now _
 | v :: u => by
  have e : (fun k => strF k vl (v :: u)) = (fun k => (slices_Contains_string_string.f k vl v).bind fun b => if b = true then strF k vl u else some true) := rfl
  rw [e]
  refine Ev.bind (ev_contains vl v hl) ?_
  by_cases hv : v ∈ vl
  ·
   refine evIfp (decide_eq_true hv) ?_
   have : (v :: u).all (fun v => decide (v ∈ vl)) = u.all (fun v => decide (v ∈ vl)) := by simp [hv]
   rw [this]
   exact ev_strF vl hl u
  ·
   refine evIfn (by simpa using hv) ?_
   have : (v :: u).all (fun v => decide (v ∈ vl)) = false := by simp [hv]
   rw [this]
   exact Ev.now _
theorem ok_pos {l : List Cel} (h : checkS l = 0) : 0 < l.length := by
 obtain ⟨c, u, _, _, rfl, _⟩ := tx_term h
 simp
theorem vars_len {l : List Cel} (h : checkS l = 0) : (varsS [] l).length ≤ 64 := by
 have := varsS_len l []
 have := checkS_len h
 simp only [List.length_nil] at *
 omega
theorem ev_rch (id : Int) (l r : List Cel) : Ev (fun k => rule_Check.f k id l r) (ruleS id l r) := by
 unfold rule_Check.f rchF ruleS
 by_cases h1 : id < 0
 ·
  simp only [if_pos h1]; exact Ev.now _
 simp only [if_neg h1]
 by_cases h2 : id > 65535
 ·
  simp only [if_pos h2]; exact Ev.now _
 simp only [if_neg h2]
 refine Ev.bind (ev_check l) ?_
 by_cases h3 : checkS l = 0
 case neg =>
  refine evIfn h3 ?_
  rw [if_neg h3]
  exact Ev.now _
 refine evIfp h3 ?_
 rw [if_pos h3]
 refine Ev.bind (ev_check r) ?_
 by_cases h4 : checkS r = 0
 case neg =>
  refine evIfn h4 ?_
  rw [if_neg h4]
  exact Ev.now _
 refine evIfp h4 ?_
 rw [if_pos h4]
 by_cases h5 : l.length > 8
 ·
  simp only [if_pos h5]; exact Ev.now _
 simp only [if_neg h5]
 by_cases h6 : r.length > 8
 ·
  simp only [if_pos h6]; exact Ev.now _
 simp only [if_neg h6]
 refine evIfp (ok_pos h3) ?_
 refine Ev.bind (ev_kind _) ?_
 have e : rd_T33 l 0 = l.getD 0 zc := rfl
 rw [e]
 by_cases h7 : kindS (l.getD 0 zc).f0 = 2
 ·
  refine evIfp h7 ?_
  rw [if_pos h7]
  exact Ev.now _
 refine evIfn h7 ?_
 rw [if_neg h7]
 refine Ev.bind (ev_vars h3) (Ev.bind (ev_vars h4) ?_)
 refine Ev.bind (ev_strF (varsS [] l) (by have := vars_len h3; omega) (varsS [] r)) ?_
 by_cases h8 : (varsS [] r).all (fun v => decide (v ∈ varsS [] l)) = true
 ·
  rw [if_pos h8, h8]
  exact Ev.now _
 ·
  have h9 : (varsS [] r).all (fun v => decide (v ∈ varsS [] l)) = false := by simpa using h8
  rw [if_neg h8, h9]
  exact Ev.now _
theorem ruleS_ok {id : Int} {l r : List Cel} (h : ruleS id l r = 0) : checkS l = 0 ∧ checkS r = 0 ∧ l.length ≤ 8 ∧ r.length ≤ 8 ∧ kindS (l.getD 0 zc).f0 ≠ 2 ∧ (∀ v ∈ varsS [] r, v ∈ varsS [] l) ∧ 0 ≤ id ∧ id ≤ 65535 := by
 unfold ruleS at h
 by_cases h1 : id < 0
 ·
  rw [if_pos h1] at h; cases h
 rw [if_neg h1] at h
 by_cases h2 : id > 65535
 ·
  rw [if_pos h2] at h; cases h
 rw [if_neg h2] at h
 by_cases h3 : checkS l = 0
 case neg => rw [if_neg h3] at h; exact absurd h h3
 rw [if_pos h3] at h
 by_cases h4 : checkS r = 0
 case neg => rw [if_neg h4] at h; exact absurd h h4
 rw [if_pos h4] at h
 by_cases h5 : l.length > 8
 ·
  rw [if_pos h5] at h; cases h
 rw [if_neg h5] at h
 by_cases h6 : r.length > 8
 ·
  rw [if_pos h6] at h; cases h
 rw [if_neg h6] at h
 by_cases h7 : kindS (l.getD 0 zc).f0 = 2
 ·
  rw [if_pos h7] at h; cases h
 rw [if_neg h7] at h
 by_cases h8 : (varsS [] r).all (fun v => decide (v ∈ varsS [] l)) = true
 case neg => rw [if_neg h8] at h; cases h
 exact ⟨h3, h4, by omega, by omega, h7, fun v hv => of_decide_eq_true (List.all_eq_true.1 h8 v hv), by omega, by omega⟩
theorem rcopy_at (id : Int) (l r : List Cel) (hl : l.length < 5864062014805) (hr : r.length < 5864062014805) : aumbryref06_Copy.f id l r = some (id, l, r) := by
 unfold aumbryref06_Copy.f
 rw [copy_at l hl]
 simp only [Option.bind_some]
 rw [copy_at r hr]
 rfl
theorem ev_rsame (id : Int) (l r : List Cel) (hl : l.length ≤ 9223372036854775806) (hr : r.length ≤ 9223372036854775806) : Ev (fun k => aumbryref06_Same.f k id l r id l r) true := by
 unfold aumbryref06_Same.f
 refine evIfp rfl ?_
 refine Ev.bind (ev_refSame4 l l (.inl hl)) (evIfp (decide_eq_true rfl) ?_)
 refine Ev.bind (ev_refSame4 r r (.inl hr)) ?_
 rw [decide_eq_true (p := r = r) rfl]
 exact Ev.now _
end Go.Proofs.YtpnamhplhdaphaaDoor.P

-- ==== PL6w
/- Plain laws of chapter 6: what the statements ask ahead (wakes); sizes of what came in. -/
namespace Go.Proofs.YtpnamhplhdaphaaDoor.P
open Go.RowKit Go.Proofs.YtpnamhplhdaphaaDoorW.PrintWords
theorem ev_wakes6 : Ev (fun k => aumbrylaw06_wakes.f k) true := Ev.of (g := fun k => aumbrylaw06_wakes.f k) aumbrylaw06_wakes.mono (k := 40) (by kernel_rfl)
theorem sz_rule {x : S25} (h : sz25 x) : x.f1.length < 5864062014805 ∧ x.f2.length < 5864062014805 := ⟨sz_len h.2.1, sz_len h.2.2⟩
end Go.Proofs.YtpnamhplhdaphaaDoor.P

-- ==== PL4r
/- Plain laws of chapter 4: reading: what the program's reader and the document's come to, for every text; a term's text is read as the term. -/
namespace Go.Proofs.YtpnamhplhdaphaaDoor.P
open Go.RowKit Go.Proofs.YtpnamhplhdaphaaDoorW.PrintWords
def cR : Sum (Nat × Int) (Nat × List Cel) → List Cel × Int × Int
 | .inl x => ([], (x.1 : Int), x.2)
 | .inr y => (y.2, (y.1 : Int), 0)
end Go.Proofs.YtpnamhplhdaphaaDoor.P

-- ==== PL6n
/- Plain laws of chapter 6: the plain form of a rule: its variables are called by their places. -/
namespace Go.Proofs.YtpnamhplhdaphaaDoor.P
open Go.RowKit Go.Proofs.YtpnamhplhdaphaaDoorW.PrintWords
def ixS : List ByteArray → ByteArray → Nat → Option Nat
 | [], _, _ => none
 | v :: u, a, i => if v = a then some i else ixS u a (i + 1)
def ixI : Option Nat → Int
 | none => -1
 | some i => (i : Int)
theorem ixS_cons (v : ByteArray) (u : List ByteArray) (a : ByteArray) (i : Nat) : ixS (v :: u) a i = if v = a then some i else ixS u a (i + 1) := rfl
theorem ixS_lt : ∀ (u : List ByteArray) (a : ByteArray) (i j : Nat), ixS u a i = some j → i ≤ j ∧ j < i + u.length
 | [], a, i, j, h => by cases h
 | v :: u, a, i, j, h => by
  rw [ixS_cons] at h
  by_cases hv : v = a
  ·
   rw [if_pos hv] at h
   injection h with h
   subst h
   simp
  ·
   rw [if_neg hv] at h
   have := ixS_lt u a (i + 1) j h
   simp only [List.length_cons]
   omega
theorem ev_index_at (l : List ByteArray) (a : ByteArray) (hl : l.length ≤ 9223372036854775806) : ∀ (u : List ByteArray) (i : Nat), i ≤ l.length → l.drop i = u →
 Ev (fun k => slices_Index_string_string.l0 k l a (l.length : Int) (i : Int)) (ixI (ixS u a i))
 | [], i, hi, hu => by
  have h1 := drop_nil_len hi hu
  refine Ev.step (fun k => (show slices_Index_string_string.l0 (k + 1) l a (l.length : Int) (i : Int) = _ from by rw [slices_Index_string_string.l0])) ?_
  exact evIfn (by omega) (Ev.now _)
 | b :: u, i, hi, hu => by
  obtain ⟨h1, _, h3⟩ := drop_cons hu
  refine Ev.step (fun k => (show slices_Index_string_string.l0 (k + 1) l a (l.length : Int) (i : Int) = _ from by rw [slices_Index_string_string.l0])) ?_
  refine evIfp (by omega) (evIfp (by omega) (evIfp (by omega) ?_))
  rw [rd_txt hu, ixS_cons]
  by_cases hab : a.toList = b.toList
  ·
   rw [if_pos ((bytes_eq a b).1 hab).symm]
   exact evIfp hab (Ev.now _)
  ·
   rw [if_neg (fun e => hab (by rw [e]))]
   refine evIfn hab ?_
   rw [up_cast i (by omega)]
   exact ev_index_at l a hl u (i + 1) (by omega) h3
theorem ev_index (l : List ByteArray) (a : ByteArray) (hl : l.length ≤ 9223372036854775806) : Ev (fun k => slices_Index_string_string.f k l a) (ixI (ixS l a 0)) := by
 unfold slices_Index_string_string.f
 exact ev_index_at l a hl l 0 (by omega) rfl
def xnm (j : Nat) : ByteArray := (⟨#[88]⟩ : ByteArray) ++ itB (j : Int)
def pnS (vars : List ByteArray) (a : ByteArray) : ByteArray := match ixS vars a 0 with
 | none => a
 | some j => xnm j
def pcS (vars : List ByteArray) (c : Cel) : Cel := ⟨pnS vars c.f0, c.f1⟩
theorem ev_plL (vars : List ByteArray) (hv : vars.length ≤ 8) : ∀ u : List Cel, Ev (fun k => plL k vars u) (u.map (pcS vars))
 | [] => Ev.now _
 | c :: u => by
  have e : (fun k => plL k vars (c :: u)) = (fun k => (slices_Index_string_string.f k vars c.f0).bind fun j => if j ≥ 0 then (if j < 8 then (plL k vars u).bind fun q => some (⟨(⟨#[88]⟩ : ByteArray) ++ itB j, c.f1⟩ :: q) else none) else (plL k vars u).bind fun q => some (c :: q)) := rfl
  rw [e]
  refine Ev.bind (ev_index vars c.f0 (by omega)) ?_
  rw [List.map_cons]
  cases h : ixS vars c.f0 0 with
  | none =>
   have : pcS vars c = c := by unfold pcS pnS; rw [h]
   rw [this]
   exact evIfn (by simp [ixI]) (Ev.bind (ev_plL vars hv u) (Ev.now _))
  | some j =>
   have : pcS vars c = ⟨xnm j, c.f1⟩ := by unfold pcS pnS; rw [h]
   have hj := ixS_lt _ _ _ _ h
   rw [this]
   refine evIfp (by show ((j : Nat) : Int) ≥ 0; omega) (evIfp (by show ((j : Nat) : Int) < 8; omega) ?_)
   exact Ev.bind (ev_plL vars hv u) (Ev.now _)
theorem ev_plF (vars : List ByteArray) (hv : vars.length ≤ 8) (u : List Cel) (hu : u.length ≤ 64) : Ev (fun k => plF k vars u) (u.map (pcS vars)) := by
 unfold plF
 exact evIfp (by omega) (ev_plL vars hv u)
def plS (vars : List ByteArray) (t : List Cel) : List Cel := t.map (pcS vars)
theorem ev_plain {id : Int} {l r : List Cel} (h : ruleS id l r = 0) : Ev (fun k => rule_Plain.f k id l r) (id, plS (varsS [] l) l, plS (varsS [] l) r, 0) := by
 obtain ⟨h1, h2, h3, h4, _⟩ := ruleS_ok h
 have hv := varsS_len l []
 simp only [List.length_nil] at hv
 unfold rule_Plain.f plainF
 refine Ev.bind (ev_rch id l r) (evIfp h ?_)
 have hv' : (varsS [] l).length ≤ 8 := by omega
 refine Ev.bind (ev_vars h1) (Ev.bind (ev_plF _ hv' l (by omega)) (Ev.bind (ev_plF _ hv' r (by omega)) ?_))
 exact Ev.now _
theorem ev_plain_no {id : Int} {l r : List Cel} (h : ¬ ruleS id l r = 0) : Ev (fun k => rule_Plain.f k id l r) (0, [], [], ruleS id l r) := by
 unfold rule_Plain.f plainF
 exact Ev.bind (ev_rch id l r) (evIfn h (Ev.now _))
end Go.Proofs.YtpnamhplhdaphaaDoor.P

-- ==== PL6o
/- Plain laws of chapter 6: the plain form of a rule: a renaming of its variables that keeps them apart; the plain form of it is itself. -/
namespace Go.Proofs.YtpnamhplhdaphaaDoor.P
open Go.RowKit Go.Proofs.YtpnamhplhdaphaaDoorW.PrintWords
structure OkV (V : List ByteArray) : Prop where
 len : V.length ≤ 8
 nodup : V.Nodup
 kind : ∀ v ∈ V, kindS v = 2
section
variable {V : List ByteArray} (hV : OkV V)
include hV
end
section
variable {id : Int} {l r : List Cel} (h : ruleS id l r = 0)
include h
end
end Go.Proofs.YtpnamhplhdaphaaDoor.P

-- ==== PQc
/- Plain laws, part c: where a pattern fits: along the cells, and part by part. -/
namespace Go.Proofs.YtpnamhplhdaphaaDoor.P.M
open Go.RowKit Go.Proofs.YtpnamhplhdaphaaDoorW.PrintWords

abbrev Bnd := S109
def lookB (out : List Bnd) (s : ByteArray) : Option (List Cel) := (out.find? (fun b => decide (b.f0 = s))).map (·.f1)
def fstT (t r : List Cel) : List Cel := t.take (t.length - r.length)
def mat : List Cel → List Cel → List Bnd → Option (List Bnd × List Cel)
 | [], t, out => some (out, t)
 | c :: p, t, out =>
  if kindS c.f0 = 2 then
   match segN t 1 with
   | none => none
   | some r => match lookB out c.f0 with
    | none => mat p r (out ++ [⟨c.f0, fstT t r⟩])
    | some v => if v = fstT t r then mat p r out else none
  else match t with
   | [] => none
   | d :: t' => if d = c then mat p t' out else none

theorem segN_split {t : List Cel} {n : Nat} (h : segN t (n + 1) = some []) : ∃ r, segN t 1 = some r ∧ segN r n = some [] := by
 rw [show n + 1 = 1 + n by omega, segN_add] at h
 cases hr : segN t 1 with
 | none => rw [hr] at h; cases h
 | some r => rw [hr] at h; exact ⟨r, rfl, h⟩
theorem ev_variable (c : Cel) : Ev (fun k => match_variable.f k c.f0 c.f1) (kindS c.f0 == 2) := by
 unfold match_variable.f
 exact Ev.bind (ev_kind c.f0) (Ev.now _)
theorem ev_end_loop (t : List Cel) (ht : t.length ≤ 64) (hok : ∀ c ∈ t, Okc c) : ∀ (s : List Cel) (a n : Nat) (r : List Cel), a ≤ t.length → t.drop a = s → n ≤ 1 + 4 * a → segN s n = some r →
 Ev (fun k => match_end.l0 k t (a : Int) (n : Int)) ((t.length - r.length : Nat) : Int)
 | s, a, 0, r, ha, hs, hn, hr => by
  refine Ev.step (f := fun _ => some (a : Int)) (fun k => by simp only [match_end.l0]; rw [if_neg (by omega)]) ?_
  rw [segN_zero] at hr
  injection hr with hr
  have : ((t.length - r.length : Nat) : Int) = (a : Int) := by rw [← hr, ← hs, List.length_drop]; omega
  rw [this]
  exact Ev.now _
 | [], a, n + 1, r, ha, hs, hn, hr => by cases hr
 | c :: s, a, n + 1, r, ha, hs, hn, hr => by
  obtain ⟨h1, h2, h3⟩ := drop_cons hs
  have hc : Okc c := hok c (List.mem_of_mem_drop (hs ▸ List.mem_cons_self ..))
  have har : (ar c : Int) = c.f1 := by unfold ar; have := hc.lo; omega
  have hh := hc.hi
  have hl0 := hc.lo
  refine Ev.step (f := fun k => match_end.l0 k t ((a + 1 : Nat) : Int) ((n + ar c : Nat) : Int)) (fun k => ?_) (ev_end_loop t ht hok s (a + 1) (n + ar c) r (by omega) h3 (by omega) hr)
  simp only [match_end.l0]
  rw [if_pos (by omega), if_pos (by omega), if_pos (by omega), rd_cel hs, wrap_up (by omega) (by omega)]
  have e : wrap64 (((n + 1 : Nat) : Int) + wrap64 (c.f1 - 1)) = ((n + ar c : Nat) : Int) := by
   rw [wrap_id (i := c.f1 - 1) (by omega) (by omega), wrap_id (by omega) (by omega)]
   omega
  rw [e]
  rfl
theorem ev_end (t : List Cel) (ht : t.length ≤ 64) (hok : ∀ c ∈ t, Okc c) (a : Nat) (ha : a ≤ t.length) {r : List Cel} (hr : segN (t.drop a) 1 = some r) : Ev (fun k => match_end.f k t (a : Int)) ((t.length - r.length : Nat) : Int) := by
 unfold match_end.f
 exact ev_end_loop t ht hok _ a 1 r ha rfl (by omega) hr
theorem bytes_eq (a b : ByteArray) : a.toList = b.toList ↔ a = b := by
 rw [ByteArray.toList_eq, ByteArray.toList_eq]
 constructor
 ·
  intro h
  cases a; cases b
  simp only [ByteArray.mk.injEq]
  exact Array.toList_inj.1 h
 ·
  intro h
  rw [h]
theorem cel_ne (c d : Cel) : ((!((c.f0.toList) == (d.f0.toList)) || (!(c.f1 == d.f1))) = true) ↔ c ≠ d := by
 cases c with | mk a b => cases d with | mk a' b' =>
 simp only [Bool.or_eq_true, Bool.not_eq_true', beq_eq_false_iff_ne, ne_eq, bytes_eq, S33.mk.injEq]
 by_cases h : a = a' <;> simp [h]
theorem ev_cels_loop (F : Nat → List Cel → List Cel → Int → Int → Option Bool)
 (hF : ∀ k x y n i, F (k + 1) x y n i = if i < n then (if 0 ≤ i then (if i < (x.length : Int) then (if i < (y.length : Int) then (if (!((((rd_T33 x i).f0).toList) == (((rd_T33 y i).f0).toList)) || (!(((rd_T33 x i).f1) == ((rd_T33 y i).f1)))) = true then (some false) else (F k x y n (wrap64 (i + 1)))) else (none)) else (none)) else (none)) else (some true))
 (x y : List Cel) (hl : x.length = y.length) (hb : x.length ≤ 9223372036854775806) : ∀ (s u : List Cel) (a : Nat), a ≤ x.length → x.drop a = s → y.drop a = u → Ev (fun k => F k x y (x.length : Int) (a : Int)) (decide (s = u))
 | [], u, a, ha, hs, hu => by
  have h1 := drop_nil_len ha hs
  have h2 : u = [] := by rw [← hu]; exact List.drop_eq_nil_of_le (by omega)
  refine Ev.step (f := fun _ => some true) (fun k => by rw [hF, if_neg (by omega)]) ?_
  rw [h2]
  exact Ev.now _
 | c :: s, u, a, ha, hs, hu => by
  obtain ⟨h1, _, h3⟩ := drop_cons hs
  rcases u with _ | ⟨d, u⟩
  ·
   have := drop_nil_len (by omega) hu
   omega
  obtain ⟨_, _, h4⟩ := drop_cons hu
  by_cases hcd : c = d
  ·
   refine Ev.step (f := fun k => F k x y (x.length : Int) ((a + 1 : Nat) : Int)) (fun k => by
    rw [hF, if_pos (by omega), if_pos (by omega), if_pos (by omega), if_pos (by omega), rd_cel hs, rd_cel hu, if_neg (fun h => (cel_ne c d).1 h hcd), wrap_up (by omega) (by omega)]
    rfl) ?_
   have : decide (c :: s = d :: u) = decide (s = u) := by subst hcd; simp
   rw [this]
   exact ev_cels_loop F hF x y hl hb s u (a + 1) (by omega) h3 h4
  ·
   refine Ev.step (f := fun _ => some false) (fun k => by
    rw [hF, if_pos (by omega), if_pos (by omega), if_pos (by omega), if_pos (by omega), rd_cel hs, rd_cel hu, if_pos ((cel_ne c d).2 hcd)]) ?_
   have : decide (c :: s = d :: u) = false := by simp [hcd]
   rw [this]
   exact Ev.now _
theorem ev_equal (x y : List Cel) (hb : x.length ≤ 9223372036854775806 ∨ y.length ≤ 9223372036854775806) : Ev (fun k => api_Cell_74.f k x y) (decide (x = y)) := by
 unfold api_Cell_74.f
 by_cases h : (x.length : Int) = (y.length : Int)
 ·
  exact Ev.congr (f := fun k => api_Cell_74.l0 k x y (x.length : Int) ((0 : Nat) : Int)) (fun k => by rw [if_pos h]; rfl) (ev_cels_loop _ (fun k x y n i => rfl) x y (by omega) (by omega) x y 0 (by omega) rfl rfl)
 ·
  refine Ev.congr (f := fun _ => some (decide (x = y))) (fun k => ?_) (Ev.now _)
  rw [if_neg h]
  congr 1
  rw [Eq.comm, decide_eq_false_iff_not]
  rintro rfl
  exact h rfl
structure MapOk (m : List Cel) (out : List Bnd) : Prop where
 len : m.length = out.length
 has : ∀ s, mapHas m s = (lookB out s).isSome
 at_ : ∀ s v, lookB out s = some v → ∃ j : Nat, mapAt m s = (j : Int) ∧ j < out.length ∧ ∃ b, out[j]? = some b ∧ b.f1 = v
theorem data_eq (a b : ByteArray) : a.data.toList = b.data.toList ↔ a = b := by
 rw [← bytes_eq, ByteArray.toList_eq, ByteArray.toList_eq]
theorem mapOk_nil : MapOk [] [] := ⟨rfl, fun s => rfl, fun s v h => by cases h⟩
theorem mapOk_put {m : List Cel} {out : List Bnd} (h : MapOk m out) (s : ByteArray) (v : List Cel) (hn : lookB out s = none) : MapOk (mapPut m s (out.length : Int)) (out ++ [⟨s, v⟩]) := by
 have hlook : ∀ s', lookB (out ++ [⟨s, v⟩]) s' = if s = s' then some v else lookB out s' := by
  intro s'
  unfold lookB at hn ⊢
  rw [List.find?_append]
  by_cases hs : s = s'
  ·
   subst hs
   rw [if_pos rfl]
   cases hf : out.find? (fun b => decide (b.f0 = s)) with
   | none => simp
   | some b => rw [hf] at hn; cases hn
  ·
   rw [if_neg hs]
   cases hf : out.find? (fun b => decide (b.f0 = s')) with
   | none => simp [hs]
   | some b => simp
 refine ⟨by simp [mapPut, h.len], fun s' => ?_, fun s' v' hv => ?_⟩
 ·
  rw [hlook]
  by_cases hs : s = s'
  ·
   subst hs
   simp [mapHas, mapPut]
  ·
   rw [if_neg hs, ← h.has s']
   have : (s.data.toList == s'.data.toList) = false := by simp only [beq_eq_false_iff_ne, ne_eq, data_eq]; exact hs
   simp only [mapHas, mapPut, List.any_cons, this, Bool.false_or]
 ·
  rw [hlook] at hv
  by_cases hs : s = s'
  ·
   subst hs
   rw [if_pos rfl] at hv
   injection hv with hv
   subst hv
   exact ⟨out.length, by simp [mapAt, mapPut], by simp, ⟨s, v⟩, by simp, rfl⟩
  ·
   rw [if_neg hs] at hv
   obtain ⟨j, h1, h2, b, h3, h4⟩ := h.at_ s' v' hv
   have : (s.data.toList == s'.data.toList) = false := by simp only [beq_eq_false_iff_ne, ne_eq, data_eq]; exact hs
   refine ⟨j, ?_, by simp; omega, b, by rw [List.getElem?_append_left h2]; exact h3, h4⟩
   rw [← h1]
   simp only [mapAt, mapPut, List.find?_cons, this]
def matR (x : Option (List Bnd × List Cel)) : List Bnd × Bool × Int := match x with
 | none => ([], false, 0)
 | some y => (y.1, true, 0)
theorem ev_match_loop (p t : List Cel) (hp : p.length ≤ 64) (ht : t.length ≤ 64) (hokp : ∀ c ∈ p, Okc c) (hokt : ∀ c ∈ t, Okc c) :
 ∀ (s : List Cel) (i a n : Nat) (out : List Bnd) (m : List Cel), i ≤ p.length → a ≤ t.length → p.drop i = s → segN s n = some [] → segN (t.drop a) n = some [] → MapOk m out → out.length ≤ i →
 Ev (fun k => match_Match.l0 k t out m (a : Int) p (p.length : Int) (i : Int)) (matR (mat s (t.drop a) out))
 | [], i, a, n, out, m, hi, ha, hs, hn, hnt, hm, ho => by
  have h1 := drop_nil_len hi hs
  refine Ev.step (f := fun _ => some (out, true, 0)) (fun k => by simp only [match_Match.l0]; rw [if_neg (by omega)]) ?_
  exact Ev.now _
 | c :: s, i, a, n, out, m, hi, ha, hs, hn, hnt, hm, ho => by
  obtain ⟨h1, _, h3⟩ := drop_cons hs
  have hc : Okc c := hokp c (List.mem_of_mem_drop (hs ▸ List.mem_cons_self ..))
  obtain ⟨n, rfl⟩ : ∃ q, n = q + 1 := by
   cases n with
   | zero => rw [segN_zero] at hn; injection hn with hn; cases hn
   | succ n => exact ⟨n, rfl⟩
  have hn' : segN s (n + ar c) = some [] := hn
  obtain ⟨r, hr1, hrn⟩ := segN_split hnt
  have hks := kindS_size hc.kind
  by_cases hv : kindS c.f0 = 2
  ·
   have hac : ar c = 0 := by unfold ar; rw [hc.var hv]; rfl
   rw [hac, Nat.add_zero] at hn'
   obtain ⟨q, hq, hqr⟩ := segN_suffix hr1
   rw [List.drop_drop] at hqr
   rw [List.length_drop] at hq
   have hrl : r.length = t.length - (a + q) := by rw [← hqr, List.length_drop]
   have hpart : ((t.take (((t.length - r.length : Nat) : Int)).toNat).drop ((a : Int)).toNat : List Cel) = fstT (t.drop a) r := by
    unfold fstT
    rw [List.length_drop]
    simp only [Int.toNat_natCast]
    rw [List.drop_take]
    congr 1
    omega
   have hfl : (fstT (t.drop a) r).length = q := by unfold fstT; rw [List.length_take, List.length_drop]; omega
   have hw1 : True → wrap64 ((a : Int) + ((fstT (t.drop a) r).length : Int)) = ((a + q : Nat) : Int) := fun _ => by rw [hfl, wrap_id (by omega) (by omega)]; omega
   have hw2 : True → wrap64 ((i : Int) + 1) = ((i + 1 : Nat) : Int) := fun _ => by rw [wrap_up (by omega) (by omega)]; rfl
   refine Ev.step (fun k => (show match_Match.l0 (k + 1) t out m (a : Int) p (p.length : Int) (i : Int) = _ from by rw [match_Match.l0])) ?_
   refine evIfp (by omega) (evIfp (by omega) (evIfp (by omega) ?_))
   simp only [rd_cel hs]
   refine Ev.bind (ev_variable c) ?_
   refine evIfp (by simp [hv]) ?_
   refine Ev.bind (ev_end t ht hokt a ha hr1) ?_
   refine evIfp (by omega) (evIfp (by omega) (evIfp (by omega) ?_))
   refine Ev.bind (Ev.now _) ?_
   simp only [hpart, hw1 trivial, hw2 trivial]
   refine evIfp (by omega) ?_
   have hmat : mat (c :: s) (t.drop a) out = (match lookB out c.f0 with | none => mat s r (out ++ [⟨c.f0, fstT (t.drop a) r⟩]) | some v => if v = fstT (t.drop a) r then mat s r out else none) := by
    show (if kindS c.f0 = 2 then _ else _) = _
    rw [if_pos hv, hr1]
   rw [hmat]
   cases hl : lookB out c.f0 with
   | none =>
    refine evIfn (by rw [hm.has, hl]; simp) ?_
    have hml := hm.len
    refine evIfp (by omega) ?_
    refine Ev.bind (evIs (clone_at _ (by omega))) ?_
    refine evIfp (by omega) ?_
    have := ev_match_loop p t hp ht hokp hokt s (i + 1) (a + q) n (out ++ [⟨c.f0, fstT (t.drop a) r⟩]) (mapPut m c.f0 (out.length : Int)) (by omega) (by omega) h3 hn' (by rw [hqr]; exact hrn) (mapOk_put hm _ _ hl) (by simp; omega)
    rw [hqr] at this
    exact this
   | some v =>
    obtain ⟨j, hj1, hj2, b, hj3, hj4⟩ := hm.at_ _ _ hl
    have hrd : (rd_T109 out (mapAt m c.f0)).f1 = v := by
     rw [hj1]
     unfold rd_T109
     rw [List.getD_eq_getElem?_getD, Int.toNat_natCast, hj3]
     exact hj4
    refine evIfp (by rw [hm.has, hl]; simp) ?_
    refine evIfp (by omega) (evIfp (by omega) ?_)
    simp only [hrd]
    refine Ev.bind (ev_equal _ _ (.inr (by omega))) ?_
    by_cases he : v = fstT (t.drop a) r
    ·
     refine evIfp (by simpa using he) ?_
     have := ev_match_loop p t hp ht hokp hokt s (i + 1) (a + q) n out m (by omega) (by omega) h3 hn' (by rw [hqr]; exact hrn) hm (by omega)
     rw [hqr] at this
     simp only [he, if_true]
     exact this
    ·
     refine evIfn (by simpa using he) ?_
     simp only [he, if_false]
     exact Ev.now _
  ·
   rcases ht' : t.drop a with _ | ⟨d, u⟩
   ·
    rw [ht'] at hnt
    cases hnt
   obtain ⟨g1, _, g3⟩ := drop_cons ht'
   have hw1 : True → wrap64 ((a : Int) + 1) = ((a + 1 : Nat) : Int) := fun _ => by rw [wrap_up (by omega) (by omega)]; rfl
   have hw2 : True → wrap64 ((i : Int) + 1) = ((i + 1 : Nat) : Int) := fun _ => by rw [wrap_up (by omega) (by omega)]; rfl
   refine Ev.step (fun k => (show match_Match.l0 (k + 1) t out m (a : Int) p (p.length : Int) (i : Int) = _ from by rw [match_Match.l0])) ?_
   refine evIfp (by omega) (evIfp (by omega) (evIfp (by omega) ?_))
   simp only [rd_cel hs, rd_cel ht']
   refine Ev.bind (ev_variable c) ?_
   refine evIfn (by simp [hv]) ?_
   refine evIfp (by omega) (evIfp (by omega) ?_)
   have hmat : mat (c :: s) (d :: u) out = if d = c then mat s u out else none := by
    show (if kindS c.f0 = 2 then _ else _) = _
    rw [if_neg hv]
   rw [hmat]
   by_cases hdc : d = c
   ·
    refine evIfn (fun h => (cel_ne d c).1 h hdc) ?_
    rw [if_pos hdc]
    simp only [hw1 trivial, hw2 trivial]
    have := ev_match_loop p t hp ht hokp hokt s (i + 1) (a + 1) (n + ar c) out m (by omega) (by omega) h3 hn' (by rw [ht'] at hnt; rw [g3, ← hdc]; exact hnt) hm (by omega)
    rw [g3] at this
    exact this
   ·
    refine evIfp ((cel_ne d c).2 hdc) ?_
    rw [if_neg hdc]
    exact Ev.now _
theorem checkS_ok {t : List Cel} (h : checkS t = 0) : t.length ≤ 64 ∧ (∀ c ∈ t, Okc c) ∧ segN t 1 = some [] := by
 unfold checkS at h
 by_cases h1 : t.length > 64
 ·
  rw [if_pos h1] at h
  cases h
 ·
  rw [if_neg h1] at h
  by_cases h2 : errs t = 0
  ·
   rw [if_pos h2] at h
   by_cases h3 : segN t 1 = some []
   ·
    exact ⟨by omega, errs_ok h2, h3⟩
   ·
    rw [if_neg h3] at h
    cases h
  ·
   rw [if_neg h2] at h
   exact absurd h h2
def matchS (p t : List Cel) : List Bnd × Bool × Int := if checkS p = 0 then (if checkS t = 0 then matR (mat p t []) else ([], false, checkS t)) else ([], false, checkS p)
theorem ev_match (p t : List Cel) : Ev (fun k => match_Match.f k p t) (matchS p t) := by
 unfold match_Match.f matchS
 refine Ev.bind (ev_check p) ?_
 by_cases hp : checkS p = 0
 ·
  rw [if_pos hp]
  refine evIfp hp ?_
  refine Ev.bind (ev_check t) ?_
  by_cases ht : checkS t = 0
  ·
   rw [if_pos ht]
   refine evIfp ht ?_
   obtain ⟨p1, p2, p3⟩ := checkS_ok hp
   obtain ⟨t1, t2, t3⟩ := checkS_ok ht
   exact ev_match_loop p t p1 t1 p2 t2 p 0 0 1 [] [] (by omega) (by omega) rfl p3 t3 mapOk_nil (by simp)
  ·
   rw [if_neg ht]
   exact evIfn ht (Ev.now _)
 ·
  rw [if_neg hp]
  exact evIfn hp (Ev.now _)

end Go.Proofs.YtpnamhplhdaphaaDoor.P.M

-- ==== PQd
/- Plain laws, part d: the document's Match is the program's. -/
namespace Go.Proofs.YtpnamhplhdaphaaDoor.P.M
open Go.RowKit Go.Proofs.YtpnamhplhdaphaaDoorW.PrintWords

theorem rd_bnd {t : List Bnd} {n : Nat} {c : Bnd} {s : List Bnd} (h : t.drop n = c :: s) : rd_T109 t (n : Int) = c := by
 unfold rd_T109
 exact (drop_cons h).2.1 _
theorem up_cast (a : Nat) (h : a < 9223372036854775807) : wrap64 ((a : Int) + 1) = ((a + 1 : Nat) : Int) := by rw [wrap_up (by omega) (by omega)]; rfl

theorem mat_len : ∀ (p t : List Cel) (out o : List Bnd) (r : List Cel), mat p t out = some (o, r) → o.length ≤ out.length + p.length
 | [], t, out, o, r, h => by
  have h' : some (out, t) = some (o, r) := h
  injection h' with h'
  injection h' with h' _
  rw [← h']
  simp
 | c :: p, t, out, o, r, h => by
  have h : (if kindS c.f0 = 2 then _ else _) = some (o, r) := h
  by_cases hv : kindS c.f0 = 2
  ·
   rw [if_pos hv] at h
   cases hq : segN t 1 with
   | none => rw [hq] at h; cases h
   | some q =>
    rw [hq] at h
    simp only at h
    cases hl : lookB out c.f0 with
    | none =>
     rw [hl] at h
     have := mat_len p q _ o r h
     simp at this
     simp
     omega
    | some v =>
     rw [hl] at h
     simp only at h
     by_cases he : v = fstT t q
     ·
      rw [if_pos he] at h
      have := mat_len p q _ o r h
      simp
      omega
     ·
      rw [if_neg he] at h
      cases h
  ·
   rw [if_neg hv] at h
   rcases t with _ | ⟨d, t⟩
   ·
    cases h
   ·
    have h9 : (if d = c then mat p t out else none) = some (o, r) := h
    by_cases he : d = c
    ·
     rw [if_pos he] at h9
     have := mat_len p t _ o r h9
     simp
     omega
    ·
     rw [if_neg he] at h9
     cases h9
theorem mat_vals : ∀ (p t : List Cel) (out o : List Bnd) (r : List Cel) (N : Nat), t.length ≤ N → (∀ b ∈ out, b.f1.length ≤ N) → mat p t out = some (o, r) → ∀ b ∈ o, b.f1.length ≤ N
 | [], t, out, o, r, N, ht, ho, h => by
  have h' : some (out, t) = some (o, r) := h
  injection h' with h'
  injection h' with h' _
  rw [← h']
  exact ho
 | c :: p, t, out, o, r, N, ht, ho, h => by
  have h : (if kindS c.f0 = 2 then _ else _) = some (o, r) := h
  by_cases hv : kindS c.f0 = 2
  ·
   rw [if_pos hv] at h
   cases hq : segN t 1 with
   | none => rw [hq] at h; cases h
   | some q =>
    rw [hq] at h
    have hql := segN_len hq
    simp only at h
    cases hl : lookB out c.f0 with
    | none =>
     rw [hl] at h
     refine mat_vals p q _ o r N (by omega) (fun b hb => ?_) h
     rcases List.mem_append.1 hb with hb | hb
     ·
      exact ho b hb
     ·
      rw [List.mem_singleton.1 hb]
      unfold fstT
      simp only [List.length_take]
      omega
    | some v =>
     rw [hl] at h
     simp only at h
     by_cases he : v = fstT t q
     ·
      rw [if_pos he] at h
      exact mat_vals p q _ o r N (by omega) ho h
     ·
      rw [if_neg he] at h
      cases h
  ·
   rw [if_neg hv] at h
   rcases t with _ | ⟨d, t⟩
   ·
    cases h
   ·
    have h9 : (if d = c then mat p t out else none) = some (o, r) := h
    by_cases he : d = c
    ·
     rw [if_pos he] at h9
     simp only [List.length_cons] at ht
     exact mat_vals p t _ o r N (by omega) ho h9
    ·
     rw [if_neg he] at h9
     cases h9
theorem matchS_small (p t : List Cel) : (matchS p t).1.length ≤ 64 ∧ ∀ b ∈ (matchS p t).1, b.f1.length ≤ 64 := by
 unfold matchS
 by_cases hp : checkS p = 0
 ·
  rw [if_pos hp]
  by_cases ht : checkS t = 0
  ·
   rw [if_pos ht]
   obtain ⟨p1, p2, p3⟩ := checkS_ok hp
   obtain ⟨t1, t2, t3⟩ := checkS_ok ht
   cases hm : mat p t [] with
   | none => exact ⟨by simp [matR], fun b hb => by cases hb⟩
   | some y =>
    obtain ⟨o, r⟩ := y
    have h1 := mat_len p t [] o r hm
    exact ⟨by simp only [matR]; simp at h1; omega, fun b hb => mat_vals p t [] o r 64 t1 (fun b hb => by cases hb) hm b hb⟩
  ·
   rw [if_neg ht]
   exact ⟨by simp, fun b hb => by cases hb⟩
 ·
  rw [if_neg hp]
  exact ⟨by simp, fun b hb => by cases hb⟩
end Go.Proofs.YtpnamhplhdaphaaDoor.P.M

-- ==== PQf
/- Plain laws, part f: what a pattern becomes by binds: the program's Fill is the document's. -/
namespace Go.Proofs.YtpnamhplhdaphaaDoor.P.M
open Go.RowKit Go.Proofs.YtpnamhplhdaphaaDoorW.PrintWords

def bErr : List Bnd → List Bnd → Int
 | _, [] => 0
 | seen, b :: u => if kindS b.f0 = 2 then (if (lookB seen b.f0).isSome = true then 9 else if checkS b.f1 = 0 then bErr (seen ++ [b]) u else checkS b.f1) else 4
def putS : List Cel → List Bnd → Option (List Cel)
 | [], _ => some []
 | c :: p, l => if kindS c.f0 = 2 then (match lookB l c.f0 with | none => none | some v => (putS p l).map (v ++ ·)) else (putS p l).map (c :: ·)
def putR (x : Option (List Cel)) : List Cel × Int := match x with
 | none => ([], 7)
 | some o => if o.length > 64 then ([], 6) else (o, 0)
def fillS (p : List Cel) (l : List Bnd) : List Cel × Int := if checkS p = 0 then (if bErr [] l = 0 then putR (putS p l) else ([], bErr [] l)) else ([], checkS p)

theorem lookB_mem {l : List Bnd} {s : ByteArray} {v : List Cel} (h : lookB l s = some v) : ∃ b ∈ l, b.f0 = s ∧ b.f1 = v := by
 unfold lookB at h
 cases hf : l.find? (fun b => decide (b.f0 = s)) with
 | none => rw [hf] at h; cases h
 | some b =>
  rw [hf] at h
  exact ⟨b, List.mem_of_find?_eq_some hf, by simpa using List.find?_some hf, by simpa using h⟩

theorem ev_fill2 (p : List Cel) (l : List Bnd) (m : List Cel) (hp : p.length ≤ 64) (hok : ∀ c ∈ p, Okc c) (hm : MapOk m l) (hv : ∀ b ∈ l, b.f1.length ≤ 64) (hl : l.length ≤ 9223372036854775806) :
 ∀ (s : List Cel) (i : Nat) (out : List Cel), i ≤ p.length → p.drop i = s → out.length ≤ 64 * i → Ev (fun k => match_Fill.l1 k l m out p (p.length : Int) (i : Int)) (putR ((putS s l).map (out ++ ·)))
 | [], i, out, hi, hs, ho => by
  have h1 := drop_nil_len hi hs
  refine Ev.step (fun k => (show match_Fill.l1 (k + 1) l m out p (p.length : Int) (i : Int) = _ from by rw [match_Fill.l1])) ?_
  refine evIfn (by omega) ?_
  simp only [putS, Option.map_some, List.append_nil, putR]
  by_cases h : out.length > 64
  ·
   rw [if_pos h]
   exact evIfp (by omega) (Ev.now _)
  ·
   rw [if_neg h]
   exact evIfn (by omega) (Ev.now _)
 | c :: s, i, out, hi, hs, ho => by
  obtain ⟨h1, _, h3⟩ := drop_cons hs
  have hc : Okc c := hok c (List.mem_of_mem_drop (hs ▸ List.mem_cons_self ..))
  have hks := kindS_size hc.kind
  refine Ev.step (fun k => (show match_Fill.l1 (k + 1) l m out p (p.length : Int) (i : Int) = _ from by rw [match_Fill.l1])) ?_
  refine evIfp (by omega) (evIfp (by omega) (evIfp (by omega) ?_))
  simp only [rd_cel hs, up_cast i (by omega)]
  refine evIfp (by omega) ?_
  refine Ev.bind (ev_variable c) ?_
  by_cases hk : kindS c.f0 = 2
  ·
   refine evIfp (by simp [hk]) ?_
   cases hlk : lookB l c.f0 with
   | none =>
    refine evIfn (by rw [hm.has, hlk]; simp) ?_
    have : putS (c :: s) l = none := by simp only [putS, hk, if_true, hlk]
    rw [this]
    exact Ev.now _
   | some v =>
    obtain ⟨j, hj1, hj2, b, hj3, hj4⟩ := hm.at_ _ _ hlk
    have hrd : (rd_T109 l (mapAt m c.f0)).f1 = v := by
     rw [hj1]
     unfold rd_T109
     rw [List.getD_eq_getElem?_getD, Int.toNat_natCast, hj3]
     exact hj4
    obtain ⟨b', hb', _, hb2⟩ := lookB_mem hlk
    have hvl : v.length ≤ 64 := by rw [← hb2]; exact hv b' hb'
    refine evIfp (by rw [hm.has, hlk]; simp) ?_
    refine evIfp (by omega) (evIfp (by omega) ?_)
    simp only [hrd]
    refine evIfp (by omega) ?_
    have := ev_fill2 p l m hp hok hm hv hl s (i + 1) (out ++ v) (by omega) h3 (by simp; omega)
    have e : (putS (c :: s) l).map (out ++ ·) = (putS s l).map (out ++ v ++ ·) := by
     simp only [putS, hk, if_true, hlk, Option.map_map]
     congr 1
     funext x
     simp
    rw [e]
    exact this
  ·
   refine evIfn (by simp [hk]) ?_
   refine evIfp (by omega) ?_
   have := ev_fill2 p l m hp hok hm hv hl s (i + 1) (out ++ [c]) (by omega) h3 (by simp; omega)
   have e : (putS (c :: s) l).map (out ++ ·) = (putS s l).map (out ++ [c] ++ ·) := by
    simp only [putS, hk, if_false, Option.map_map]
    congr 1
    funext x
    simp
   rw [e]
   exact this
theorem ev_fill1 (p : List Cel) (l : List Bnd) (hp : p.length ≤ 64) (hok : ∀ c ∈ p, Okc c) (hl : l.length ≤ 9223372036854775806) :
 ∀ (u : List Bnd) (i : Nat) (m : List Cel), i ≤ l.length → l.drop i = u → MapOk m (l.take i) → (∀ b ∈ l.take i, b.f1.length ≤ 64) →
 Ev (fun k => match_Fill.l0 k p l m l (l.length : Int) (i : Int)) (if bErr (l.take i) u = 0 then putR (putS p l) else ([], bErr (l.take i) u))
 | [], i, m, hi, hu, hm, hv => by
  have h1 := drop_nil_len hi hu
  refine Ev.step (fun k => (show match_Fill.l0 (k + 1) p l m l (l.length : Int) (i : Int) = _ from by rw [match_Fill.l0])) ?_
  refine evIfn (by omega) ?_
  rw [h1, List.take_length] at hm hv
  have := ev_fill2 p l m hp hok hm hv hl p 0 [] (by omega) rfl (by simp)
  simp only [bErr, if_true]
  have e : (putS p l).map (([] : List Cel) ++ ·) = putS p l := by cases putS p l <;> rfl
  rw [e] at this
  exact this
 | b :: u, i, m, hi, hu, hm, hv => by
  obtain ⟨h1, h2, h3⟩ := drop_cons hu
  have htk : l.take (i + 1) = l.take i ++ [b] := by
   rw [List.take_succ_eq_append_getElem h1]
   have := h2 b
   rw [List.getD_eq_getElem?_getD, List.getElem?_eq_getElem h1] at this
   rw [show l[i] = b from this]
  have hln : (l.take i).length = i := by rw [List.length_take]; omega
  have hml := hm.len
  refine Ev.step (fun k => (show match_Fill.l0 (k + 1) p l m l (l.length : Int) (i : Int) = _ from by rw [match_Fill.l0])) ?_
  refine evIfp (by omega) (evIfp (by omega) (evIfp (by omega) ?_))
  simp only [rd_bnd hu, up_cast i (by omega)]
  refine Ev.bind (ev_kind b.f0) ?_
  by_cases hk : kindS b.f0 = 2
  ·
   have hks := kindS_size (s := b.f0) (by rw [hk]; decide)
   refine evIfp hk (evIfp (by omega) ?_)
   by_cases hh : (lookB (l.take i) b.f0).isSome = true
   ·
    refine evIfp (by rw [hm.has]; exact hh) ?_
    simp only [bErr, hk, if_true, hh]
    exact Ev.now _
   ·
    refine evIfn (by rw [hm.has]; exact hh) ?_
    refine Ev.bind (ev_check b.f1) ?_
    by_cases hc : checkS b.f1 = 0
    ·
     refine evIfp hc (evIfp (by omega) ?_)
     have hlk : lookB (l.take i) b.f0 = none := by
      cases hq : lookB (l.take i) b.f0 with
      | none => rfl
      | some v => rw [hq] at hh; exact absurd rfl hh
     have hm' : MapOk (mapPut m b.f0 (i : Int)) (l.take (i + 1)) := by
      have := mapOk_put hm b.f0 b.f1 hlk
      rw [hln] at this
      rw [htk]
      exact this
     have := ev_fill1 p l hp hok hl u (i + 1) (mapPut m b.f0 (i : Int)) (by omega) h3 hm' (fun x hx => by
      rw [htk] at hx
      rcases List.mem_append.1 hx with hx | hx
      ·
       exact hv x hx
      ·
       rw [List.mem_singleton.1 hx]
       exact (checkS_ok hc).1)
     have e : bErr (l.take i) (b :: u) = bErr (l.take (i + 1)) u := by
      simp only [bErr, hk, if_true, hh, hc, htk]
      simp
     rw [e]
     exact this
    ·
     refine evIfn hc ?_
     have e : bErr (l.take i) (b :: u) = checkS b.f1 := by
      simp only [bErr, hk, if_true, hh, hc, if_false]
      simp
     rw [e, if_neg hc]
     exact Ev.now _
  ·
   refine evIfn hk ?_
   simp only [bErr, hk, if_false]
   exact Ev.now _
theorem ev_fill (p : List Cel) (l : List Bnd) (hl : l.length ≤ 9223372036854775806) : Ev (fun k => match_Fill.f k p l) (fillS p l) := by
 unfold match_Fill.f fillS
 refine Ev.bind (ev_check p) ?_
 by_cases hp : checkS p = 0
 ·
  obtain ⟨p1, p2, _⟩ := checkS_ok hp
  rw [if_pos hp]
  refine evIfp hp ?_
  have := ev_fill1 p l p1 p2 hl l 0 [] (by omega) rfl mapOk_nil (fun b hb => by simp at hb)
  simp only [List.take_zero] at this
  exact this
 ·
  rw [if_neg hp]
  exact evIfn hp (Ev.now _)

instance decMemB (c : ByteArray) (l : List ByteArray) : Decidable (c ∈ l) := decidable_of_iff (l.any (fun x => decide (x = c)) = true) (by simp)
def varsS : List Cel → List ByteArray → List ByteArray
 | [], acc => acc
 | c :: p, acc => if kindS c.f0 = 2 then (if c.f0 ∈ acc then varsS p acc else varsS p (acc ++ [c.f0])) else varsS p acc
end Go.Proofs.YtpnamhplhdaphaaDoor.P.M

-- ==== PL6p
/- Plain laws of chapter 6: what a rule makes of a term: the program's answer and the document's come to one function. -/
namespace Go.Proofs.YtpnamhplhdaphaaDoor.P
open Go.RowKit Go.Proofs.YtpnamhplhdaphaaDoorW.PrintWords
def applyS (id : Int) (l r t : List Cel) : List Cel × Bool × Int := if ruleS id l r = 0 then (if (M.matchS l t).2.2 = 0 then (if (M.matchS l t).2.1 = true then ((M.fillS r (M.matchS l t).1).1, ((M.fillS r (M.matchS l t).1).2 == 0), (M.fillS r (M.matchS l t).1).2) else ([], false, (M.matchS l t).2.2)) else ([], false, (M.matchS l t).2.2)) else ([], false, ruleS id l r)
theorem ev_apply (id : Int) (l r t : List Cel) : Ev (fun k => rule_Apply.f k id l r t) (applyS id l r t) := by
 have hs := M.matchS_small l t
 unfold rule_Apply.f applyS
 refine Ev.bind (ev_rch id l r) ?_
 by_cases h1 : ruleS id l r = 0
 case neg =>
  rw [if_neg h1]
  exact evIfn h1 (Ev.now _)
 rw [if_pos h1]
 refine evIfp h1 (Ev.bind (M.ev_match l t) ?_)
 by_cases h2 : (M.matchS l t).2.2 = 0
 case neg =>
  rw [if_neg h2]
  exact evIfn h2 (Ev.now _)
 rw [if_pos h2]
 refine evIfp h2 ?_
 by_cases h3 : (M.matchS l t).2.1 = true
 case neg =>
  rw [if_neg h3]
  exact evIfn h3 (Ev.now _)
 rw [if_pos h3]
 refine evIfp h3 (Ev.bind (M.ev_fill r _ (by omega)) (Ev.now _))
end Go.Proofs.YtpnamhplhdaphaaDoor.P

-- ==== PQg
/- Plain laws, part g: filling what a match tells gives the term; what is filled is matched; a term matches itself. -/
namespace Go.Proofs.YtpnamhplhdaphaaDoor.P.M
open Go.RowKit Go.Proofs.YtpnamhplhdaphaaDoorW.PrintWords

def Ext (a b : List Bnd) : Prop := ∀ s v, lookB a s = some v → lookB b s = some v
theorem Ext.refl (a : List Bnd) : Ext a a := fun _ _ h => h
theorem Ext.trans {a b c : List Bnd} (h : Ext a b) (g : Ext b c) : Ext a c := fun s v e => g s v (h s v e)
def Vals (l : List Bnd) : Prop := ∀ s v, lookB l s = some v → segN v 1 = some []
end Go.Proofs.YtpnamhplhdaphaaDoor.P.M

-- ==== PureRuleOwn
/- What is handed in stays; what is answered is new memory: for every rule and term, the law answers true. -/
namespace Go.Proofs.YtpnamhplhdaphaaDoor.Pure
open Go.RowKit Go.Proofs.YtpnamhplhdaphaaDoor.P Go.Proofs.YtpnamhplhdaphaaDoorW.PrintWords
theorem RuleOwn : aumbrylaw06_RuleOwn.Pure := by
 intro x t hx ht
 obtain ⟨h1, h2⟩ := sz_rule hx
 have h3 := sz_len ht
 refine Ev.rounds ?_
 unfold aumbrylaw06_RuleOwn.f lawRo
 refine Ev.bind ev_wakes6 (evIfp rfl ?_)
 unfold lawRoB
 refine Ev.bind (evIs (rcopy_at x.f0 x.f1 x.f2 h1 h2)) (Ev.bind (evIs (copy_at t h3)) ?_)
 have hP : ∃ P, Ev (fun k => rule_Plain.f k x.f0 x.f1 x.f2) P := by
  by_cases hr : ruleS x.f0 x.f1 x.f2 = 0
  ·
   exact ⟨_, ev_plain hr⟩
  ·
   exact ⟨_, ev_plain_no hr⟩
 obtain ⟨P, hP⟩ := hP
 refine Ev.bind hP (Ev.bind (ev_apply x.f0 x.f1 x.f2 t) ?_)
 obtain ⟨K1, hK1⟩ := ev_rsame x.f0 x.f1 x.f2 (by omega) (by omega)
 obtain ⟨K2, hK2⟩ := ev_refSame4 t t (.inl (by omega))
 exact ⟨max K1 K2, fun k hk => if_pos ⟨rfl, rfl, hK1 k (by omega), (hK2 k (by omega)).trans (by rw [decide_eq_true rfl])⟩⟩
end Go.Proofs.YtpnamhplhdaphaaDoor.Pure

-- ==== RowRuleOwn
namespace Go.Proofs.YtpnamhplhdaphaaDoor.ruleOwn
open Go.ChangeShapes Go.WideShapes Go.ChangeAt Go.RowKit Go.Proofs.YtpnamhplhdaphaaDoorW.PrintWords Go.Proofs.YtpnamhplhdaphaaDoor.P Go.Proofs.YtpnamhplhdaphaaDoor.Open
open Go.ChangeMaps (open_string shut_string)
theorem own : ownKnob Tryd.prog.godebug = none := by kernel_rfl
theorem laidOut : laidOutB Tryd.prog = true := by kernel_rfl
theorem core {H : Type} {enc : TypeId × Value → H} (W : World) (base : Nat) (args : Array Value) (ds gs : List (DataW H)) (before : List MemPlace)
 (hval : ∀ (j : Nat) t v, Tryd.f9.params[j]? = some t → args[j]? = some v → Value.okWide Tryd.prog W .any base t v)
 (hW : DataW.Whole enc Tryd.prog Tryd.f9.params.toList Rows.ruleOwnSpec.vars false W args.toList ds gs before)
 (hsz : (DataW.weightsEach Tryd.prog (Tryd.f9.params.toList ++ Rows.ruleOwnSpec.plain.varTypes Tryd.prog) (ds ++ gs)).all (· ≤ reachBytes) = true)
 :
 Calls Tryd.prog 9 args W fun e W' => ∃ v, e = .returned v ∧ Rows.ruleOwnSpec.post enc Tryd.prog Tryd.f9 false true false false W args v W' := by
 have hW' := hW
 obtain ⟨p, q, hA, hV, rfl, hfz, hnd⟩ := hW
 rw [Tryd.params9] at hA hval hsz
 obtain ⟨v0, vs0, d0, ds0, p0, q0, hargs, rfl, rfl, h0, r0⟩ := trodAll_cons hA
 obtain ⟨v1, vs1, d1, ds1, p1, q1, rfl, rfl, rfl, h1, r1⟩ := trodAll_cons r0
 obtain ⟨rfl, rfl, rfl⟩ := trodAll_nil r1
 obtain rfl : args = #[v0, v1] := by cases args; simp_all
 obtain ⟨rfl, rfl⟩ := trodVars_none hV
 have k0 := h0
 obtain ⟨n0, hf0⟩ := h0
 obtain ⟨x0, hK0, hS0, hB0⟩ := op25.go hf0 (fun m hm => by have := List.all_eq_true.1 hsz m (DataW.weights_mem_each (j := 0) rfl rfl m hm); simpa using this)
 have lt0 : ∀ z ∈ p0, z.block < W.heap.size := by obtain ⟨m, hm⟩ := k0; exact DataW.trod_lt m _ _ _ hm
 obtain ⟨cs0, rfl, hz0⟩ := okWide_struct Tryd.underlying25 (hval 0 25 v0 rfl rfl)
 obtain ⟨A0_1, c0_1, A0_2, c0_2, hcs0, hc0_1, hr0_1, hc0_2, hr0_2⟩ := k25_open hK0
 have hcs0' : cs0.toList = _ := hcs0
 obtain rfl : cs0 = #[.int .i64 ((x0).f0), .slice A0_1 (x0).f1.length c0_1, .slice A0_2 (x0).f2.length c0_2] := by apply Array.toList_inj.1; exact hcs0'
 have k1 := h1
 obtain ⟨n1, hf1⟩ := h1
 obtain ⟨x1, hK1, hS1, hB1⟩ := op23.go hf1 (fun m hm => by have := List.all_eq_true.1 hsz m (DataW.weights_mem_each (j := 1) rfl rfl m hm); simpa using this)
 have lt1 : ∀ z ∈ p1, z.block < W.heap.size := by obtain ⟨m, hm⟩ := k1; exact DataW.trod_lt m _ _ _ hm
 obtain ⟨a1, len1, cap1, rfl⟩ := okWide_slice Tryd.underlying23 (hval 1 23 v1 rfl rfl)
 obtain ⟨A1, c1, hcs1, hc1, hr1⟩ := hK1
 have hcs1' : [(Value.slice a1 len1 cap1)] = [.slice A1 x1.length c1] := hcs1
 injection hcs1' with hcs1'
 injection hcs1' with ha1 hl1 hk1
 subst ha1 hl1 hk1
 obtain ⟨k, h⟩ := Pure.RuleOwn x0 x1 hS0 hS1
 refine (aumbrylaw06_RuleOwn.calls k (x0).f0 _ _ (x0).f1 _ _ (x0).f2 _ _ x1 true W hr0_1 hc0_1 hr0_2 hc0_2 hr1 hc1 h rfl).mono ?_
 rintro e W' ⟨rfl, hd⟩
 have bel : Below W.heap.size W W' := hd
 exact ⟨_, rfl, _, _, _, [], _, [], hW', trodAll_mk1 (shut_bool Tryd.underlying4 _), (trodAll_cons_mk (Below.trod laidOut (by kernel_rfl) (of_decide_eq_true (by kernel_rfl)) k0 bel lt0) (trodAll_cons_mk (Below.trod laidOut (by kernel_rfl) (of_decide_eq_true (by kernel_rfl)) k1 bel lt1) trodAll_mk0)), rfl, bel.frame _, fun h => by cases h⟩
theorem laid_met (os : Os) : laidMet Tryd.prog Rows.ruleOwnRow.laid ((World.laidAll Tryd.prog os Rows.ruleOwnRow.laid).forCall (fun _ _ => 0) ⟨#[], #[.agg #[.int .i64 0, .slice none 0 0, .slice none 0 0], .slice none 0 0], []⟩).memory :=
 laidMet_laidAll _ (by kernel_rfl) (by kernel_rfl)
theorem reads (os : Os) {H : Type} (enc : TypeId × Value → H) : (DataW.whole enc Tryd.prog ((World.laidAll Tryd.prog os Rows.ruleOwnRow.laid).forCall (fun _ _ => 0) ⟨#[], #[.agg #[.int .i64 0, .slice none 0 0, .slice none 0 0], .slice none 0 0], []⟩).memory Tryd.f9.params.toList Rows.ruleOwnSpec.vars false (#[.agg #[.int .i64 0, .slice none 0 0, .slice none 0 0], .slice none 0 0] : Array Value).toList 8).isSome = true := by kernel_rfl
theorem lifted (os : Os) (started : os.Started) (H : Type) (enc : TypeId × Value → H) (F : Stop.Interp) :
 ReturnsInHanded {} Tryd.checked os 9 .any ((OpenSpec.ofChange Rows.ruleOwnSpec).preRow enc Tryd.prog Tryd.f9 Rows.ruleOwnRow.domain false Rows.ruleOwnRow.laid) (((OpenSpec.ofChange Rows.ruleOwnSpec).at F).post enc Tryd.prog Tryd.f9 false true false false) := by
 obtain ⟨x, hx⟩ := Option.isSome_iff_exists.1 (reads os enc)
 refine returnsInHanded_of_row (C := Tryd.checked) (s := (OpenSpec.ofChange Rows.ruleOwnSpec)) own started (by kernel_rfl) Tryd.func9
  (witness_row_at (enc := enc) (C := Tryd.checked) false (World.laidAll Tryd.prog os Rows.ruleOwnRow.laid) #[.agg #[.int .i64 0, .slice none 0 0, .slice none 0 0], .slice none 0 0] rfl (by kernel_rfl) (by kernel_rfl) (by kernel_rfl)
   (OpenSpec.preRow_of_cond 8 hx rfl (fun k hk => by cases hk) (by kernel_rfl) (laid_met os))) ?_
 intro W base args ds gs before hval0 hW _ hk hsz0 hL _ _
 exact core W base args ds gs before hval0 hW hsz0
theorem said : Rows.RuleOwnSaid :=
 OpenClaim.holds_of_cond 9 Tryd.f9 rfl rfl rfl rfl rfl rfl rfl ⟨rfl, rfl, rfl, rfl, rfl⟩ rfl rfl rfl rfl rfl (by kernel_rfl) Tryd.func9 (by kernel_rfl)
  (of_decide_eq_true (by kernel_rfl)) (by unfold Func.isWrapper; first | (rw [if_pos (by decide +kernel)]; kernel_rfl) | (rw [if_neg (by decide +kernel)]; exact ⟨rfl, rfl⟩))
  (fun os started H enc _ F => by rw [OpenClaim.pre_eq_preRow]; exact lifted os started H enc F)
theorem plain (f : FuncId) (fn : Func) (hf : Tryd.pinned.checked.prog.funcNamed "aumbry/aumbrylaw06.RuleOwn" = some f) (hfn : Tryd.pinned.checked.prog.funcs[f]? = some fn) :
 true = Tryd.pinned.checked.prog.looks [] ∧ ∀ (j : Nat) t, fn.params[j]? = some t → Tryd.pinned.checked.prog.wantsStandIn t = false := by
 obtain rfl : f = 9 := Option.some.inj ((show Tryd.prog.funcNamed "aumbry/aumbrylaw06.RuleOwn" = some 9 by kernel_rfl).symm.trans hf) |>.symm
 obtain rfl : fn = Tryd.f9 := (Option.some.inj (Tryd.func9.symm.trans hfn)).symm
 refine ⟨by kernel_rfl, fun j t ht => ?_⟩
 rw [Tryd.params9] at ht
 have hm := Array.mem_of_getElem? ht
 have hm' : t = 25 ∨ t = 23 := by simpa using hm
 rcases hm' with rfl | rfl
 ·
  exact (show Tryd.prog.wantsStandIn 25 = false by kernel_rfl)
 ·
  exact (show Tryd.prog.wantsStandIn 23 = false by kernel_rfl)
theorem card : Rows.RuleOwnCardSaid :=
 Claim7.holds_tied_plain_at .later [] _ _ _ _ said (fun _ h => by cases h) (by kernel_rfl) (fun _ h => by cases h) ruleOwn_row_tie rfl ⟨rfl, rfl⟩ (by kernel_rfl) rfl plain (by kernel_rfl)
end Go.Proofs.YtpnamhplhdaphaaDoor.ruleOwn
namespace Go.Proofs.YtpnamhplhdaphaaDoor
theorem ruleOwn_holds : Rows.RuleOwnCardSaid := ruleOwn.card
#print axioms ruleOwn_holds
end Go.Proofs.YtpnamhplhdaphaaDoor
