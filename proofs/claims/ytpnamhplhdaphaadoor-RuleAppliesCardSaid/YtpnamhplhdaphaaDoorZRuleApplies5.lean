/- RuleApplies: the law answers true at every input that the given row speaks of. Conditions: those of the given row, none besides. (Part 6 of 6; written by programs of this session, which drive the kit's print, and by hand.) -/
import Derived.KernelRfl
import Derived.Test.YtpnamhplhdaphaaDoorCards
import Derived.Test.YtpnamhplhdaphaaDoorTie
import Derived.Deep.DeepHandedRow
import Derived.Lay
import Derived.SevenTiedAt
import Derived.Test.YtpnamhplhdaphaaDoorRows
import Derived.WalkKit
import Derived.ProofKit
import Derived.OpenShut
import Derived.ShutString
import Derived.ChangeOld
import Derived.Below
import Derived.Carry
import Derived.SizedLaws
import Derived.Test.YtpnamhplhdaphaaDoorZRuleApplies0
import Derived.Test.YtpnamhplhdaphaaDoorZRuleApplies1
import Derived.Test.YtpnamhplhdaphaaDoorZRuleApplies2
import Derived.Test.YtpnamhplhdaphaaDoorZRuleApplies3
import Derived.Test.YtpnamhplhdaphaaDoorZRuleApplies4
-- ==== PF49
namespace Go.Proofs.YtpnamhplhdaphaaDoor.P
open Go.RowKit Go.Proofs.YtpnamhplhdaphaaDoorW.PrintWords Go.Proofs.YtpnamhplhdaphaaDoorW.PrintLast Go.Proofs.YtpnamhplhdaphaaDoorW.PrintMore
attribute [local go_sem] max2_int min2_int max_two min_two max_three min_three max_four min_four   -- for this text's walks alone
set_option linter.unusedVariables false
set_option linter.unusedSimpArgs false

/-! ### aumbryref04_Text: function 49 -/
mutual
def aumbryref04_Text.l0 : Nat → ByteArray → List (List (S33)) → Int → Int → Option (ByteArray)
 | 0, _, _, _, _ => none
 | k + 1, x3, x4, x13, x14 => if x14 < x13 then (if x14 = 0 then (if x3.size + 1 ≤ 9223372036854775807 then (if 0 ≤ x14 then (if x14 < (x4.length : Int) then ((aumbryref04_Text.f k (rd_L3 x4 x14)).bind fun t106 => (if (x3 ++ (⟨#[40]⟩ : ByteArray)).size + t106.size ≤ 9223372036854775807 then (aumbryref04_Text.l0 k ((x3 ++ (⟨#[40]⟩ : ByteArray)) ++ t106) x4 x13 (wrap64 (x14 + 1))) else (none))) else (none)) else (none)) else (none)) else (if x3.size + 1 ≤ 9223372036854775807 then (if 0 ≤ x14 then (if x14 < (x4.length : Int) then ((aumbryref04_Text.f k (rd_L3 x4 x14)).bind fun t108 => (if (x3 ++ (⟨#[44]⟩ : ByteArray)).size + t108.size ≤ 9223372036854775807 then (aumbryref04_Text.l0 k ((x3 ++ (⟨#[44]⟩ : ByteArray)) ++ t108) x4 x13 (wrap64 (x14 + 1))) else (none))) else (none)) else (none)) else (none))) else (if (x4.length : Int) > 0 then (if x3.size + 1 ≤ 9223372036854775807 then (some (x3 ++ (⟨#[41]⟩ : ByteArray))) else (none)) else (some x3))
def aumbryref04_Text.f : Nat → List (S33) → Option (ByteArray)
 | 0, _ => none
 | k + 1, l0 => if 0 < (l0.length : Int) then ((aumbryref04_Kids.f k l0).bind fun t102 => (aumbryref04_Text.l0 k ((rd_T33 l0 0).f0) t102 (t102.length : Int) 0)) else (none)
end
theorem aumbryref04_Text.mono_l : ∀ k, (∀ y0, LeO (aumbryref04_Text.f k y0) (aumbryref04_Text.f (k + 1) y0)) ∧ (∀ y0 y1 y2 y3, LeO (aumbryref04_Text.l0 k y0 y1 y2 y3) (aumbryref04_Text.l0 (k + 1) y0 y1 y2 y3))
 | 0 => ⟨fun _ r h => by simp [aumbryref04_Text.f] at h, fun _ _ _ _ r h => by simp [aumbryref04_Text.l0] at h⟩
 | k + 1 => by
  obtain ⟨ih0, ih1⟩ := aumbryref04_Text.mono_l k
  refine ⟨?_, ?_⟩
  ·
   intro y0
   unfold aumbryref04_Text.f
   repeat' first
   | (with_reducible exact ih0 _)
   | (with_reducible exact ih1 _ _ _ _)
   | (with_reducible exact aumbryref04_Kids.mono _ _)
   | (with_reducible exact LeO.refl _)
   | (with_reducible exact LeO.none _)
   | (with_reducible refine LeO.ite ?_ ?_)
   | (with_reducible refine LeO.bind ?_ (fun _ => ?_))
   | exact ih0 _
   | exact ih1 _ _ _ _
   | exact aumbryref04_Kids.mono _ _
   | exact LeO.none _
   | refine LeO.ite ?_ ?_
   | refine LeO.bind ?_ (fun _ => ?_)
  ·
   intro y0 y1 y2 y3
   unfold aumbryref04_Text.l0
   repeat' first
   | (with_reducible exact ih0 _)
   | (with_reducible exact ih1 _ _ _ _)
   | (with_reducible exact aumbryref04_Kids.mono _ _)
   | (with_reducible exact LeO.refl _)
   | (with_reducible exact LeO.none _)
   | (with_reducible refine LeO.ite ?_ ?_)
   | (with_reducible refine LeO.bind ?_ (fun _ => ?_))
   | exact ih0 _
   | exact ih1 _ _ _ _
   | exact aumbryref04_Kids.mono _ _
   | exact LeO.none _
   | refine LeO.ite ?_ ?_
   | refine LeO.bind ?_ (fun _ => ?_)
theorem aumbryref04_Text.mono : ∀ a0 k, LeO (aumbryref04_Text.f k a0) (aumbryref04_Text.f (k + 1) a0) := by
 intro a0 k
 obtain ⟨ih0, ih1⟩ := aumbryref04_Text.mono_l k
 exact ih0 a0
set_option maxHeartbeats 8000000 in
set_option maxRecDepth 100000 in
theorem aumbryref04_Text.calls (k : Nat) : ∀ (A0 : Option Addr) (c0 : Nat) (l0 : List (S33)) (r : ByteArray) (w : World) (hr0 : Kd.C k33 w A0 l0.length l0) (hc0 : l0.length ≤ c0) (h : aumbryref04_Text.f k l0 = some r),
 Calls Tryd.prog 49 #[.slice A0 l0.length c0] w fun e w' => e = .returned (.string r) ∧ Below w.heap.size w w' := by
 induction k using Nat.strongRecOn with
 | _ k ih =>
 intro A0 c0 l0 r w hr0 hc0 h
 cases k with
 | zero => exact absurd h (by simp [aumbryref04_Text.f])
 | succ k =>
 simp only [aumbryref04_Text.f] at h
 have HR0 := zM hr0
 have HC0 := zM hc0
 clear hr0 hc0
 have HB := zM (Below.refl w.heap.size w)
 have H : (if 0 < (l0.length : Int) then ((aumbryref04_Kids.f k l0).bind fun t102 => (aumbryref04_Text.l0 k ((rd_T33 l0 0).f0) t102 (t102.length : Int) 0)) else (none)) = some r := h
 clear h
 by_cases c2 : 0 < (l0.length : Int)
 ·
  rw [if_pos c2] at H
  have c2b0 : decide (0 < (l0.length : Int)) = true := zQ c2
  have c2b1 : decide (0 < l0.length) = true := zQ (by omega)
  clear c2
  replace H := zB H
  obtain ⟨t102, A30, H⟩ := H
  try dsimp only at H
  have A3 := zM A30
  clear A30
  have H' := zM H
  clear H
  have p101 : 0 ≤ (0 : Int) := (by omega)
  have q101 : 0 < (l0.length : Int) := zT (by first | (with_reducible assumption) | assumption)
  obtain ⟨ad101, e101, hx101_0, hx101_1⟩ := at_T33 HR0.out 0 p101 q101
  cases e101
  have qi101 : (0 < l0.length) = True := eq_true (by omega)
  (try rw [show ((0 : Int)).toNat = 0 from rfl] at hx101_0)
  (try rw [show 0 * 2 = 0 from rfl] at hx101_0)
  (try rw [Addr.add_zero'] at hx101_0)
  (try rw [show ((0 : Int)).toNat = 0 from rfl] at hx101_1)
  (try rw [show 0 * 2 = 0 from rfl] at hx101_1)
  (try rw [Addr.add_zero'] at hx101_1)
  replace p101 := eq_true p101
  replace q101 := eq_true q101
  go_enter Tryd.func49, Tryd.ntmps49
  go_wp2_with (first | ((with_reducible refine gate_callee (f := 70) rfl ?_); refine goesL_ (some 11) rfl rfl Tryd.func70 (by kernel_rfl) rfl #[.slice (some ad101) l0.length c0] rfl (by (try simp only [List.map_toArray, List.map_cons, List.map_nil]); first | done | rfl) ?_; (with_reducible refine (aumbryref04_Kids.calls k _ _ l0 t102 _ ?side1 ?side2 A3.out).mono ?_); (case side1 => repeat (first | exact HR0.out | (with_reducible first | refine Kd.C_alloc ?_ _ | refine Kd.C_drewN ?_ _ | refine Kd.C_drew ?_))); (case side2 => exact HC0.out); rintro e w4 ⟨v103, rfl, ho0, hb⟩; refine ⟨_, rfl, ?_⟩; have n0_ := zM (Kd.S_lower ho0 (below_size (by repeat (first | (with_reducible first | exact HB.out | apply zA | apply zN | apply zD) | exact HB.out)))); have n1_ := zM (below_step (by repeat (first | (with_reducible first | exact HB.out | apply zA | apply zN | apply zD) | exact HB.out)) hb); clear HB; have HO104 := n0_; have HB := n1_; clear n0_ n1_; (try clear hb); (try clear hb2); (try clear hk); (try clear hi); (try clear ho0); obtain ⟨Ao5, co5, eo5⟩ := Kd.S_slice HO104.out; subst eo5))
  go_loopg [3, 14] k (fun kq v3 v14 w' => ∃ (x3_1 : ByteArray) (x14_1 : Int), v3 = .string x3_1 ∧ v14 = .int .i64 x14_1 ∧ Aside0 (aumbryref04_Text.l0 kq x3_1 t102 (t102.length : Int) x14_1 = some r) ∧ Aside0 (kq ≤ k) ∧ Aside0 (Kd.S (Kd.slice 33 k33) 23 w' w.heap.size (fun _ => True) (.slice Ao5 t102.length co5) t102) ∧ Aside0 (Below w.heap.size w w'))
  case atStart => exact ⟨((rd_T33 l0 0).f0), (0), (by first | rfl | (simp; done) | (simp [*]; done)), (by first | rfl | (simp; done) | (simp [*]; done)), H', ⟨Nat.le_refl _⟩, ⟨by (with_reducible repeat (first | apply Kd.S_alloc | apply Kd.S_drewN | apply Kd.S_drew)); exact HO104.out⟩, ⟨by repeat (first | (with_reducible first | exact HB.out | apply zA | apply zN | apply zD) | exact HB.out)⟩⟩
  case round =>
   clear H'
   try clear p1
   try clear q1
   try clear hx1
   try clear qi1
   try clear c2
   try clear c2b0
   try clear c2b1
   try clear p2
   try clear c4
   try clear hx101_0
   try clear hx101_1
   try clear p101
   try clear q101
   obtain ⟨x3_1, x14_1, rfl, rfl, HA, HK1, HO_4, HB⟩ := hrel
   cases gk with
   | zero => exact absurd HA.out (by simp [aumbryref04_Text.l0])
   | succ k1 =>
    have H := HA.out
    clear HA
    simp only [aumbryref04_Text.l0] at H
    by_cases c6 : x14_1 < (t102.length : Int)
    ·
     rw [if_pos c6] at H
     have c6b0 : decide (x14_1 < (t102.length : Int)) = true := zQ c6
     clear c6
     by_cases c7 : x14_1 = 0
     ·
      rw [if_pos c7] at H
      have c7b0 : (x14_1 == 0) = true := zG c7
      have c7b1 : (x14_1 != 0) = false := zH c7
      clear c7
      by_cases c8 : x3_1.size + 1 ≤ 9223372036854775807
      ·
       rw [if_pos c8] at H
       have c8b0 := eq_true c8
       have c8b1 : decide (x3_1.size + 1 ≤ 9223372036854775807) = true := zQ c8
       try have c8b2 : (9223372036854775807 < x3_1.size + 1) = False := eq_false (Nat.not_lt.2 c8)
       by_cases c9 : 0 ≤ x14_1
       ·
        rw [if_pos c9] at H
        have c9b0 : decide (0 ≤ x14_1) = true := zQ c9
        clear c9
        by_cases c10 : x14_1 < (t102.length : Int)
        ·
         rw [if_pos c10] at H
         have c10b0 : decide (x14_1 < (t102.length : Int)) = true := zQ c10
         clear c10
         replace H := zB H
         obtain ⟨t106, A110, H⟩ := H
         try dsimp only at H
         have A11 := zM A110
         clear A110
         by_cases c12 : (x3_1 ++ (⟨#[40]⟩ : ByteArray)).size + t106.size ≤ 9223372036854775807
         ·
          rw [if_pos c12] at H
          have c12b0 := eq_true c12
          have c12b1 : decide ((x3_1 ++ (⟨#[40]⟩ : ByteArray)).size + t106.size ≤ 9223372036854775807) = true := zQ c12
          try have c12b2 : (9223372036854775807 < (x3_1 ++ (⟨#[40]⟩ : ByteArray)).size + t106.size) = False := eq_false (Nat.not_lt.2 c12)
          try have c12b3 : (9223372036854775807 < x3_1.size + 1 + t106.size) = False := eq_false (Nat.not_lt.2 (by have h_ := c12; rw [ByteArray.size_append] at h_; exact h_))
          have H' := zM H
          clear H
          have p105 : 0 ≤ (x14_1 : Int) := zT (by first | (with_reducible assumption) | assumption)
          have q105 : x14_1 < (t102.length : Int) := zT (by first | (with_reducible assumption) | assumption)
          obtain ⟨ad105, A105_0, c105_0, e105, hx105_0, hl105_0, hi105_0⟩ := at_L3 (Kd.S_reads' HO_4.out).2.2 x14_1 p105 q105
          cases e105
          obtain ⟨ce105, hce105, hMe105, hcc105⟩ := Kd.S_get HO_4.out [] x14_1 p105 (by first | exact q105 | exact zT (by first | (with_reducible assumption) | assumption) | (have e_ := (Kd.S_reads' HO_4.out).1; omega))
          obtain ⟨ve105_0, rfl, ge105_0⟩ := hMe105
          have hv105_0 := hcc105 0 _ rfl
          rw [Nat.add_zero, show ((Kd.slice 33 k33)).sz = 1 from rfl, Nat.mul_one] at hv105_0
          replace hv105_0 := zS (hv105_0.symm.trans hx105_0)
          rw [hv105_0] at ge105_0
          have HL105_0 := zM (show Kd.R k33 33 _ _ _ _ (rd_L3 t102 x14_1) from ge105_0)
          clear hv105_0 ge105_0
          clear hcc105 hce105
          have HR105_0 := zM hi105_0
          have HC105_0 := zM hl105_0
          clear hi105_0 hl105_0
          replace p105 := eq_true p105
          replace q105 := eq_true q105
          go_wp2_with (first | ((with_reducible refine gate_callee (f := 49) rfl ?_); refine goesL_ (some 28) rfl rfl Tryd.func49 (by kernel_rfl) rfl #[.slice A105_0 (rd_L3 t102 x14_1).length c105_0] rfl (by (try simp only [List.map_toArray, List.map_cons, List.map_nil]); first | done | rfl) ?_; (with_reducible refine (ih k1 (by have := HK1.out; omega) _ _ (rd_L3 t102 x14_1) t106 _ ?side1 ?side2 A11.out).mono ?_); (case side1 => repeat (first | exact (by repeat (first | (with_reducible exact HR105_0.out) | (with_reducible first | refine Kd.C_alloc ?_ _ | refine Kd.C_drewN ?_ _ | refine Kd.C_drew ?_) | exact HR105_0.out)) | (with_reducible first | refine Kd.C_alloc ?_ _ | refine Kd.C_drewN ?_ _ | refine Kd.C_drew ?_))); (case side2 => exact HC105_0.out); rintro e w13 ⟨rfl, hb⟩; refine ⟨_, rfl, ?_⟩; have n0_ := zM (Kd.S_below (by (with_reducible repeat (first | apply Kd.S_alloc | apply Kd.S_drewN | apply Kd.S_drew)); exact HO_4.out) hb); have n1_ := zM (Kd.R_below (by (with_reducible repeat (first | apply Kd.R_alloc | apply Kd.R_drewN | apply Kd.R_drew)); exact HL105_0.out) hb); have n2_ := zM (Kd.C_below (by repeat (first | (with_reducible exact HR105_0.out) | (with_reducible first | refine Kd.C_alloc ?_ _ | refine Kd.C_drewN ?_ _ | refine Kd.C_drew ?_) | exact HR105_0.out)) hb); have n3_ := zM (below_step (by repeat (first | (with_reducible first | exact HB.out | apply zA | apply zN | apply zD) | exact HB.out)) hb); clear HO_4; clear HL105_0; clear HR105_0; clear HB; have HO_4 := n0_; have HL105_0 := n1_; have HR105_0 := n2_; have HB := n3_; clear n0_ n1_ n2_ n3_; (try clear hb); (try clear hb2); (try clear hk); (try clear hi)))
          go_roundg k1
          case measure => have := HK1.out; omega
          case rel => exact ⟨((x3_1 ++ (⟨#[40]⟩ : ByteArray)) ++ t106), (wrap64 (x14_1 + 1)), (by first | rfl | (simp; done) | (simp [*]; done)), (by first | rfl | (simp; done) | (simp [*]; done)), H', ⟨by have := HK1.out; omega⟩, ⟨by (with_reducible repeat (first | apply Kd.S_alloc | apply Kd.S_drewN | apply Kd.S_drew)); exact HO_4.out⟩, ⟨by repeat (first | (with_reducible first | exact HB.out | apply zA | apply zN | apply zD) | exact HB.out)⟩⟩
         ·
          rw [if_neg c12] at H
          exact absurd H (by simp)
        ·
         rw [if_neg c10] at H
         exact absurd H (by simp)
       ·
        rw [if_neg c9] at H
        exact absurd H (by simp)
      ·
       rw [if_neg c8] at H
       exact absurd H (by simp)
     ·
      rw [if_neg c7] at H
      have c7b0 : (x14_1 == 0) = false := zE c7
      have c7b1 : (x14_1 != 0) = true := zF c7
      by_cases c14 : x3_1.size + 1 ≤ 9223372036854775807
      ·
       rw [if_pos c14] at H
       have c14b0 := eq_true c14
       have c14b1 : decide (x3_1.size + 1 ≤ 9223372036854775807) = true := zQ c14
       try have c14b2 : (9223372036854775807 < x3_1.size + 1) = False := eq_false (Nat.not_lt.2 c14)
       by_cases c15 : 0 ≤ x14_1
       ·
        rw [if_pos c15] at H
        have c15b0 : decide (0 ≤ x14_1) = true := zQ c15
        clear c15
        by_cases c16 : x14_1 < (t102.length : Int)
        ·
         rw [if_pos c16] at H
         have c16b0 : decide (x14_1 < (t102.length : Int)) = true := zQ c16
         clear c16
         replace H := zB H
         obtain ⟨t108, A170, H⟩ := H
         try dsimp only at H
         have A17 := zM A170
         clear A170
         by_cases c18 : (x3_1 ++ (⟨#[44]⟩ : ByteArray)).size + t108.size ≤ 9223372036854775807
         ·
          rw [if_pos c18] at H
          have c18b0 := eq_true c18
          have c18b1 : decide ((x3_1 ++ (⟨#[44]⟩ : ByteArray)).size + t108.size ≤ 9223372036854775807) = true := zQ c18
          try have c18b2 : (9223372036854775807 < (x3_1 ++ (⟨#[44]⟩ : ByteArray)).size + t108.size) = False := eq_false (Nat.not_lt.2 c18)
          try have c18b3 : (9223372036854775807 < x3_1.size + 1 + t108.size) = False := eq_false (Nat.not_lt.2 (by have h_ := c18; rw [ByteArray.size_append] at h_; exact h_))
          have H' := zM H
          clear H
          have p107 : 0 ≤ (x14_1 : Int) := zT (by first | (with_reducible assumption) | assumption)
          have q107 : x14_1 < (t102.length : Int) := zT (by first | (with_reducible assumption) | assumption)
          obtain ⟨ad107, A107_0, c107_0, e107, hx107_0, hl107_0, hi107_0⟩ := at_L3 (Kd.S_reads' HO_4.out).2.2 x14_1 p107 q107
          cases e107
          obtain ⟨ce107, hce107, hMe107, hcc107⟩ := Kd.S_get HO_4.out [] x14_1 p107 (by first | exact q107 | exact zT (by first | (with_reducible assumption) | assumption) | (have e_ := (Kd.S_reads' HO_4.out).1; omega))
          obtain ⟨ve107_0, rfl, ge107_0⟩ := hMe107
          have hv107_0 := hcc107 0 _ rfl
          rw [Nat.add_zero, show ((Kd.slice 33 k33)).sz = 1 from rfl, Nat.mul_one] at hv107_0
          replace hv107_0 := zS (hv107_0.symm.trans hx107_0)
          rw [hv107_0] at ge107_0
          have HL107_0 := zM (show Kd.R k33 33 _ _ _ _ (rd_L3 t102 x14_1) from ge107_0)
          clear hv107_0 ge107_0
          clear hcc107 hce107
          have HR107_0 := zM hi107_0
          have HC107_0 := zM hl107_0
          clear hi107_0 hl107_0
          replace p107 := eq_true p107
          replace q107 := eq_true q107
          go_wp2_with (first | ((with_reducible refine gate_callee (f := 49) rfl ?_); refine goesL_ (some 28) rfl rfl Tryd.func49 (by kernel_rfl) rfl #[.slice A107_0 (rd_L3 t102 x14_1).length c107_0] rfl (by (try simp only [List.map_toArray, List.map_cons, List.map_nil]); first | done | rfl) ?_; (with_reducible refine (ih k1 (by have := HK1.out; omega) _ _ (rd_L3 t102 x14_1) t108 _ ?side1 ?side2 A17.out).mono ?_); (case side1 => repeat (first | exact (by repeat (first | (with_reducible exact HR107_0.out) | (with_reducible first | refine Kd.C_alloc ?_ _ | refine Kd.C_drewN ?_ _ | refine Kd.C_drew ?_) | exact HR107_0.out)) | (with_reducible first | refine Kd.C_alloc ?_ _ | refine Kd.C_drewN ?_ _ | refine Kd.C_drew ?_))); (case side2 => exact HC107_0.out); rintro e w19 ⟨rfl, hb⟩; refine ⟨_, rfl, ?_⟩; have n0_ := zM (Kd.S_below (by (with_reducible repeat (first | apply Kd.S_alloc | apply Kd.S_drewN | apply Kd.S_drew)); exact HO_4.out) hb); have n1_ := zM (Kd.R_below (by (with_reducible repeat (first | apply Kd.R_alloc | apply Kd.R_drewN | apply Kd.R_drew)); exact HL107_0.out) hb); have n2_ := zM (Kd.C_below (by repeat (first | (with_reducible exact HR107_0.out) | (with_reducible first | refine Kd.C_alloc ?_ _ | refine Kd.C_drewN ?_ _ | refine Kd.C_drew ?_) | exact HR107_0.out)) hb); have n3_ := zM (below_step (by repeat (first | (with_reducible first | exact HB.out | apply zA | apply zN | apply zD) | exact HB.out)) hb); clear HO_4; clear HL107_0; clear HR107_0; clear HB; have HO_4 := n0_; have HL107_0 := n1_; have HR107_0 := n2_; have HB := n3_; clear n0_ n1_ n2_ n3_; (try clear hb); (try clear hb2); (try clear hk); (try clear hi)))
          go_roundg k1
          case measure => have := HK1.out; omega
          case rel => exact ⟨((x3_1 ++ (⟨#[44]⟩ : ByteArray)) ++ t108), (wrap64 (x14_1 + 1)), (by first | rfl | (simp; done) | (simp [*]; done)), (by first | rfl | (simp; done) | (simp [*]; done)), H', ⟨by have := HK1.out; omega⟩, ⟨by (with_reducible repeat (first | apply Kd.S_alloc | apply Kd.S_drewN | apply Kd.S_drew)); exact HO_4.out⟩, ⟨by repeat (first | (with_reducible first | exact HB.out | apply zA | apply zN | apply zD) | exact HB.out)⟩⟩
         ·
          rw [if_neg c18] at H
          exact absurd H (by simp)
        ·
         rw [if_neg c16] at H
         exact absurd H (by simp)
       ·
        rw [if_neg c15] at H
        exact absurd H (by simp)
      ·
       rw [if_neg c14] at H
       exact absurd H (by simp)
    ·
     rw [if_neg c6] at H
     have c6b0 : decide (x14_1 < (t102.length : Int)) = false := zR c6
     clear c6
     by_cases c20 : (t102.length : Int) > 0
     ·
      rw [if_pos c20] at H
      have c20b0 : decide (0 < (t102.length : Int)) = true := zQ c20
      have c20b1 : decide (0 < t102.length) = true := zQ (by omega)
      clear c20
      by_cases c21 : x3_1.size + 1 ≤ 9223372036854775807
      ·
       rw [if_pos c21] at H
       have c21b0 := eq_true c21
       have c21b1 : decide (x3_1.size + 1 ≤ 9223372036854775807) = true := zQ c21
       try have c21b2 : (9223372036854775807 < x3_1.size + 1) = False := eq_false (Nat.not_lt.2 c21)
       obtain rfl := zS H
       go_wp2
       go_ret
       exact ⟨by first | rfl | (simp [*, errW_none, errW_some] <;> rfl), by repeat (first | (with_reducible first | exact HB.out | apply zA | apply zN | apply zD) | exact HB.out)⟩
      ·
       rw [if_neg c21] at H
       exact absurd H (by simp)
     ·
      rw [if_neg c20] at H
      have c20b0 : decide (0 < (t102.length : Int)) = false := zR c20
      have c20b1 : decide (0 < t102.length) = false := zR (by omega)
      clear c20
      obtain rfl := zS H
      go_wp2
      go_ret
      exact ⟨by first | rfl | (simp [*, errW_none, errW_some] <;> rfl), by repeat (first | (with_reducible first | exact HB.out | apply zA | apply zN | apply zD) | exact HB.out)⟩
 ·
  rw [if_neg c2] at H
  exact absurd H (by simp)

end Go.Proofs.YtpnamhplhdaphaaDoor.P

-- ==== PLv
/- Plain laws: a term's variables, its arguments and its text: the program's answers and the document's. -/
namespace Go.Proofs.YtpnamhplhdaphaaDoor.P
open Go.RowKit Go.Proofs.YtpnamhplhdaphaaDoorW.PrintWords
set_option linter.unusedVariables false
set_option linter.unusedSimpArgs false
/-! ### lists of texts -/
instance txtMem (a : ByteArray) (l : List ByteArray) : Decidable (a ∈ l) :=
 if h : l.any (fun b => decide (a = b)) = true then isTrue (by obtain ⟨b, h1, h2⟩ := List.any_eq_true.1 h; rw [of_decide_eq_true h2]; exact h1) else isFalse (fun h1 => h (List.any_eq_true.2 ⟨a, h1, decide_eq_true rfl⟩))
theorem rd_txt {t : List ByteArray} {n : Nat} {c : ByteArray} {s : List ByteArray} (h : t.drop n = c :: s) : rdOf ByteArray.empty t (n : Int) = c := by
 unfold rdOf
 exact (drop_cons h).2.1 _
theorem ev_index_loop (l : List ByteArray) (a : ByteArray) (hl : l.length ≤ 9223372036854775806) : ∀ (u : List ByteArray) (i : Nat), i ≤ l.length → l.drop i = u →
 ∃ r, Ev (fun k => slices_Index_string_string.l0 k l a (l.length : Int) (i : Int)) r ∧ decide (r ≥ 0) = decide (a ∈ u)
 | [], i, hi, hu => by
  have h1 := drop_nil_len hi hu
  refine ⟨-1, Ev.step (fun k => (show slices_Index_string_string.l0 (k + 1) l a (l.length : Int) (i : Int) = _ from by rw [slices_Index_string_string.l0])) ?_, by simp⟩
  exact evIfn (by omega) (Ev.now _)
 | b :: u, i, hi, hu => by
  obtain ⟨h1, _, h3⟩ := drop_cons hu
  by_cases hab : a.toList = b.toList
  ·
   refine ⟨(i : Int), Ev.step (fun k => (show slices_Index_string_string.l0 (k + 1) l a (l.length : Int) (i : Int) = _ from by rw [slices_Index_string_string.l0])) ?_, ?_⟩
   ·
    refine evIfp (by omega) (evIfp (by omega) (evIfp (by omega) ?_))
    rw [rd_txt hu]
    exact evIfp hab (Ev.now _)
   ·
    rw [(bytes_eq a b).1 hab]
    simp
  ·
   obtain ⟨r, hr, he⟩ := ev_index_loop l a hl u (i + 1) (by omega) h3
   refine ⟨r, Ev.step (fun k => (show slices_Index_string_string.l0 (k + 1) l a (l.length : Int) (i : Int) = _ from by rw [slices_Index_string_string.l0])) ?_, ?_⟩
   ·
    refine evIfp (by omega) (evIfp (by omega) (evIfp (by omega) ?_))
    rw [rd_txt hu]
    refine evIfn hab ?_
    rw [up_cast i (by omega)]
    exact hr
   ·
    rw [he]
    have : a ≠ b := fun h => hab (by rw [h])
    simp [this]
theorem ev_contains (l : List ByteArray) (a : ByteArray) (hl : l.length ≤ 9223372036854775806) : Ev (fun k => slices_Contains_string_string.f k l a) (decide (a ∈ l)) := by
 unfold slices_Contains_string_string.f slices_Index_string_string.f
 obtain ⟨r, hr, he⟩ := ev_index_loop l a hl l 0 (by omega) rfl
 refine Ev.bind hr ?_
 rw [he]
 exact Ev.now _
theorem ev_has_loop (l : List ByteArray) (a : ByteArray) (hl : l.length ≤ 9223372036854775806) : ∀ (u : List ByteArray) (i : Nat), i ≤ l.length → l.drop i = u →
 Ev (fun k => aumbryref03_Has.l0 k l a (l.length : Int) (i : Int)) (decide (a ∈ u))
 | [], i, hi, hu => by
  have h1 := drop_nil_len hi hu
  refine Ev.step (fun k => (show aumbryref03_Has.l0 (k + 1) l a (l.length : Int) (i : Int) = _ from by rw [aumbryref03_Has.l0])) ?_
  exact evIfn (by omega) (Ev.now _)
 | b :: u, i, hi, hu => by
  obtain ⟨h1, _, h3⟩ := drop_cons hu
  refine Ev.step (fun k => (show aumbryref03_Has.l0 (k + 1) l a (l.length : Int) (i : Int) = _ from by rw [aumbryref03_Has.l0])) ?_
  refine evIfp (by omega) (evIfp (by omega) (evIfp (by omega) ?_))
  rw [rd_txt hu]
  by_cases hab : b.toList = a.toList
  ·
   have : decide (a ∈ b :: u) = true := by rw [(bytes_eq b a).1 hab]; simp
   rw [this]
   exact evIfp hab (Ev.now _)
  ·
   have : decide (a ∈ b :: u) = decide (a ∈ u) := by
    have : a ≠ b := fun h => hab (by rw [h])
    simp [this]
   rw [this]
   refine evIfn hab ?_
   rw [up_cast i (by omega)]
   exact ev_has_loop l a hl u (i + 1) (by omega) h3
theorem ev_has (l : List ByteArray) (a : ByteArray) (hl : l.length ≤ 9223372036854775806) : Ev (fun k => aumbryref03_Has.f k l a) (decide (a ∈ l)) := by
 unfold aumbryref03_Has.f
 exact ev_has_loop l a hl l 0 (by omega) rfl
/-! ### variables -/
def varsS : List ByteArray → List Cel → List ByteArray
 | out, [] => out
 | out, c :: l => if kindS c.f0 = 2 then (if c.f0 ∈ out then varsS out l else varsS (out ++ [c.f0]) l) else varsS out l
theorem ev_vars_loop (t : List Cel) (ht : t.length ≤ 1000) : ∀ (u : List Cel) (i : Nat) (out : List ByteArray), i ≤ t.length → t.drop i = u → out.length ≤ i →
 Ev (fun k => term_Vars.l0 k out t (t.length : Int) (i : Int)) (varsS out u, 0)
 | [], i, out, hi, hu, ho => by
  have h1 := drop_nil_len hi hu
  refine Ev.step (fun k => (show term_Vars.l0 (k + 1) out t (t.length : Int) (i : Int) = _ from by rw [term_Vars.l0])) ?_
  exact evIfn (by omega) (Ev.now _)
 | c :: u, i, out, hi, hu, ho => by
  obtain ⟨h1, _, h3⟩ := drop_cons hu
  refine Ev.step (fun k => (show term_Vars.l0 (k + 1) out t (t.length : Int) (i : Int) = _ from by rw [term_Vars.l0])) ?_
  refine evIfp (by omega) (evIfp (by omega) (evIfp (by omega) ?_))
  simp only [rd_cel hu, up_cast i (by omega)]
  refine Ev.bind (ev_kind c.f0) ?_
  have hv : varsS out (c :: u) = if kindS c.f0 = 2 then (if c.f0 ∈ out then varsS out u else varsS (out ++ [c.f0]) u) else varsS out u := rfl
  by_cases hk : kindS c.f0 = 2
  ·
   refine evIfp hk ?_
   rw [hv, if_pos hk]
   refine Ev.bind (ev_contains out c.f0 (by omega)) ?_
   by_cases hm : c.f0 ∈ out
   ·
    rw [if_pos hm]
    exact evIfp (decide_eq_true hm) (ev_vars_loop t ht u (i + 1) out (by omega) h3 (by omega))
   ·
    rw [if_neg hm]
    exact evIfn (by simpa using hm) (evIfp (by omega) (ev_vars_loop t ht u (i + 1) (out ++ [c.f0]) (by omega) h3 (by simp; omega)))
  ·
   refine evIfn hk ?_
   rw [hv, if_neg hk]
   exact ev_vars_loop t ht u (i + 1) out (by omega) h3 (by omega)
theorem ev_rvars_loop (t : List Cel) (ht : t.length ≤ 1000) : ∀ (u : List Cel) (i : Nat) (out : List ByteArray), i ≤ t.length → t.drop i = u → out.length ≤ i →
 Ev (fun k => aumbryref04_Vars.l0 k t out (t.length : Int) (i : Int)) (varsS out u)
 | [], i, out, hi, hu, ho => by
  have h1 := drop_nil_len hi hu
  refine Ev.step (fun k => (show aumbryref04_Vars.l0 (k + 1) t out (t.length : Int) (i : Int) = _ from by rw [aumbryref04_Vars.l0])) ?_
  exact evIfn (by omega) (Ev.now _)
 | c :: u, i, out, hi, hu, ho => by
  obtain ⟨h1, _, h3⟩ := drop_cons hu
  refine Ev.step (fun k => (show aumbryref04_Vars.l0 (k + 1) t out (t.length : Int) (i : Int) = _ from by rw [aumbryref04_Vars.l0])) ?_
  refine evIfp (by omega) (evIfp (by omega) (evIfp (by omega) ?_))
  simp only [rd_cel hu, up_cast i (by omega)]
  refine Ev.bind (ev_refKind c.f0) ?_
  have hv : varsS out (c :: u) = if kindS c.f0 = 2 then (if c.f0 ∈ out then varsS out u else varsS (out ++ [c.f0]) u) else varsS out u := rfl
  by_cases hk : kindS c.f0 = 2
  ·
   refine evIfp hk ?_
   rw [hv, if_pos hk]
   refine Ev.bind (ev_has out c.f0 (by omega)) ?_
   by_cases hm : c.f0 ∈ out
   ·
    rw [if_pos hm]
    exact evIfp (decide_eq_true hm) (ev_rvars_loop t ht u (i + 1) out (by omega) h3 (by omega))
   ·
    rw [if_neg hm]
    exact evIfn (by simpa using hm) (evIfp (by omega) (ev_rvars_loop t ht u (i + 1) (out ++ [c.f0]) (by omega) h3 (by simp; omega)))
  ·
   refine evIfn hk ?_
   rw [hv, if_neg hk]
   exact ev_rvars_loop t ht u (i + 1) out (by omega) h3 (by omega)
theorem ev_vars {t : List Cel} (h : checkS t = 0) : Ev (fun k => term_Vars.f k t) (varsS [] t, 0) := by
 have := checkS_len h
 unfold term_Vars.f
 refine Ev.bind (ev_check t) (evIfp h ?_)
 exact ev_vars_loop t (by omega) t 0 [] (by omega) rfl (by simp)
theorem ev_rvars {t : List Cel} (h : t.length ≤ 1000) : Ev (fun k => aumbryref04_Vars.f k t) (varsS [] t) := by
 unfold aumbryref04_Vars.f
 exact ev_rvars_loop t h t 0 [] (by omega) rfl (by simp)
theorem varsS_len : ∀ (u : List Cel) (out : List ByteArray), (varsS out u).length ≤ out.length + u.length
 | [], out => by simp [varsS]
 | c :: u, out => by
  have hv : varsS out (c :: u) = if kindS c.f0 = 2 then (if c.f0 ∈ out then varsS out u else varsS (out ++ [c.f0]) u) else varsS out u := rfl
  have h1 := varsS_len u out
  have h2 := varsS_len u (out ++ [c.f0])
  rw [hv]
  simp only [List.length_append, List.length_cons, List.length_nil] at h2 ⊢
  split
  ·
   split <;> omega
  ·
   omega
/-! ### the document's arguments -/
/-! ### the document's text -/
end Go.Proofs.YtpnamhplhdaphaaDoor.P

-- ==== PF17
namespace Go.Proofs.YtpnamhplhdaphaaDoor.P
open Go.RowKit Go.Proofs.YtpnamhplhdaphaaDoorW.PrintWords Go.Proofs.YtpnamhplhdaphaaDoorW.PrintLast Go.Proofs.YtpnamhplhdaphaaDoorW.PrintMore
attribute [local go_sem] max2_int min2_int max_two min_two max_three min_three max_four min_four   -- for this text's walks alone
set_option linter.unusedVariables false
set_option linter.unusedSimpArgs false

/-! ### aumbryref06_Same: function 17 -/
def aumbryref06_Same.f (k : Nat) (a0_0 : Int) (l0_1 : List (S33)) (l0_2 : List (S33)) (a1_0 : Int) (l1_1 : List (S33)) (l1_2 : List (S33)) : Option (Bool) := if a0_0 = a1_0 then ((aumbryref04_Same.f k l0_1 l1_1).bind fun t103 => (if t103 = true then ((aumbryref04_Same.f k l0_2 l1_2).bind fun t104 => (some t104)) else (some false))) else (some false)
theorem aumbryref06_Same.mono : ∀ a0 a1 a2 a3 a4 a5 k, LeO (aumbryref06_Same.f k a0 a1 a2 a3 a4 a5) (aumbryref06_Same.f (k + 1) a0 a1 a2 a3 a4 a5) := by
 intro a0 a1 a2 a3 a4 a5 k
 unfold aumbryref06_Same.f
 repeat' first
  | (with_reducible exact aumbryref04_Same.mono _ _ _)
  | (with_reducible exact LeO.refl _)
  | (with_reducible exact LeO.none _)
  | (with_reducible refine LeO.ite ?_ ?_)
  | (with_reducible refine LeO.bind ?_ (fun _ => ?_))
  | exact LeO.none _
  | refine LeO.ite ?_ ?_
  | refine LeO.bind ?_ (fun _ => ?_)
set_option maxHeartbeats 8000000 in
set_option maxRecDepth 100000 in
theorem aumbryref06_Same.calls (k : Nat) (a0_0 : Int) (A0_1 : Option Addr) (c0_1 : Nat) (l0_1 : List (S33)) (A0_2 : Option Addr) (c0_2 : Nat) (l0_2 : List (S33)) (a1_0 : Int) (A1_1 : Option Addr) (c1_1 : Nat) (l1_1 : List (S33)) (A1_2 : Option Addr) (c1_2 : Nat) (l1_2 : List (S33)) (r : Bool) (w : World) (hr0_1 : Kd.C k33 w A0_1 l0_1.length l0_1) (hc0_1 : l0_1.length ≤ c0_1) (hr0_2 : Kd.C k33 w A0_2 l0_2.length l0_2) (hc0_2 : l0_2.length ≤ c0_2) (hr1_1 : Kd.C k33 w A1_1 l1_1.length l1_1) (hc1_1 : l1_1.length ≤ c1_1) (hr1_2 : Kd.C k33 w A1_2 l1_2.length l1_2) (hc1_2 : l1_2.length ≤ c1_2) (h : aumbryref06_Same.f k a0_0 l0_1 l0_2 a1_0 l1_1 l1_2 = some r) :
 Calls Tryd.prog 17 #[.agg #[.int .i64 a0_0, .slice A0_1 l0_1.length c0_1, .slice A0_2 l0_2.length c0_2], .agg #[.int .i64 a1_0, .slice A1_1 l1_1.length c1_1, .slice A1_2 l1_2.length c1_2]] w fun e w' => e = .returned (.bool r) ∧ Below w.heap.size w w' := by
 have hu25 := Tryd.underlying25
 have HR0_1 := zM hr0_1
 have HC0_1 := zM hc0_1
 clear hr0_1 hc0_1
 have HR0_2 := zM hr0_2
 have HC0_2 := zM hc0_2
 clear hr0_2 hc0_2
 have HR1_1 := zM hr1_1
 have HC1_1 := zM hc1_1
 clear hr1_1 hc1_1
 have HR1_2 := zM hr1_2
 have HC1_2 := zM hc1_2
 clear hr1_2 hc1_2
 have HB := zM (Below.refl w.heap.size w)
 have H : (if a0_0 = a1_0 then ((aumbryref04_Same.f k l0_1 l1_1).bind fun t103 => (if t103 = true then ((aumbryref04_Same.f k l0_2 l1_2).bind fun t104 => (some t104)) else (some false))) else (some false)) = some r := h
 clear h
 by_cases c3 : a0_0 = a1_0
 ·
  rw [if_pos c3] at H
  have c3b0 : (a0_0 == a1_0) = true := zG c3
  have c3b1 : (a0_0 != a1_0) = false := zH c3
  clear c3
  replace H := zB H
  obtain ⟨t103, A40, H⟩ := H
  try dsimp only at H
  have A4 := zM A40
  clear A40
  by_cases c5 : t103 = true
  ·
   subst c5
   rw [if_pos rfl] at H
   replace H := zB H
   obtain ⟨t104, A60, H⟩ := H
   try dsimp only at H
   have A6 := zM A60
   clear A60
   obtain rfl := zS H
   go_enter Tryd.func17, Tryd.ntmps17
   go_wp2_with (first | ((with_reducible refine gate_dst (N := 2) rfl ?_); refine box_event ?hg (N := 2) ?hd (cs := #[.int .i64 a0_0, .slice A0_1 l0_1.length c0_1, .slice A0_2 l0_2.length c0_2]) (t := 25) ?hr ?_; (case hd => rfl); (case hg => rfl); (case hr => first | (go_simp; done) | (go_simp; rfl)); intro gb101 hg w7 hbox hb; have n0_ := zM (below_step (by repeat (first | (with_reducible first | exact HB.out | apply zA | apply zN | apply zD) | exact HB.out)) hb); have n1_ := zM (hbox); have n2_ := zM ((by rw [hg]; exact (below_size (by repeat (first | (with_reducible first | exact HB.out | apply zA | apply zN | apply zD) | exact HB.out))) : w.heap.size ≤ gb101)); have n3_ := zM ((by rw [hg]; exact (below_size (by repeat (first | (with_reducible first | exact HB.out | apply zA | apply zN | apply zD) | exact HB.out))) : w.heap.size ≤ gb101)); clear HB; have HB := n0_; have BK101 := n1_; have GW101 := n2_; have GE101 := n3_; clear n0_ n1_ n2_ n3_; clear hb hbox hg) | ((with_reducible refine gate_dst (N := 3) rfl ?_); refine box_event ?hg (N := 3) ?hd (cs := #[.int .i64 a1_0, .slice A1_1 l1_1.length c1_1, .slice A1_2 l1_2.length c1_2]) (t := 25) ?hr ?_; (case hd => rfl); (case hg => rfl); (case hr => first | (go_simp; done) | (go_simp; rfl)); intro gb102 hg w8 hbox hb; have n0_ := zM (blk_below (g := gb101) (o := .cells #[.int .i64 a0_0, .slice A0_1 l0_1.length c0_1, .slice A0_2 l0_2.length c0_2] 25 (0, 0)) (by (with_reducible repeat (first | refine blk_drewN ?_ _ | refine blk_drew ?_ | refine blk_alloc ?_ _)); exact BK101.out) hb); have n1_ := zM (below_step (by repeat (first | (with_reducible first | exact HB.out | apply zA | apply zN | apply zD | refine below_set ?_ GE101.out) | exact HB.out)) hb); have n2_ := zM (hbox); have n3_ := zM ((by rw [hg]; exact (below_size (by repeat (first | (with_reducible first | exact HB.out | apply zA | apply zN | apply zD | refine below_set ?_ GE101.out) | exact HB.out))) : w.heap.size ≤ gb102)); have n4_ := zM ((by rw [hg]; exact (below_size (by repeat (first | (with_reducible first | exact HB.out | apply zA | apply zN | apply zD | refine below_set ?_ GE101.out) | exact HB.out))) : w.heap.size ≤ gb102)); have n5_ := zM ((by rw [hg]; exact Nat.ne_of_lt (blk_lt (g := gb101) (o := .cells #[.int .i64 a0_0, .slice A0_1 l0_1.length c0_1, .slice A0_2 l0_2.length c0_2] 25 (0, 0)) (by (with_reducible repeat (first | refine blk_drewN ?_ _ | refine blk_drew ?_ | refine blk_alloc ?_ _)); exact BK101.out)) : gb101 ≠ gb102)); have n6_ := zM ((by rw [hg]; exact Nat.ne_of_gt (blk_lt (g := gb101) (o := .cells #[.int .i64 a0_0, .slice A0_1 l0_1.length c0_1, .slice A0_2 l0_2.length c0_2] 25 (0, 0)) (by (with_reducible repeat (first | refine blk_drewN ?_ _ | refine blk_drew ?_ | refine blk_alloc ?_ _)); exact BK101.out)) : gb102 ≠ gb101)); clear BK101; clear HB; have BK101 := n0_; have HB := n1_; have BK102 := n2_; have GW102 := n3_; have GE102 := n4_; have NB101_102 := n5_; have NB102_101 := n6_; clear n0_ n1_ n2_ n3_ n4_ n5_ n6_; clear hb hbox hg; have hnb9 := NB101_102.out; have hnc9 := NB102_101.out; have hcz10_0 : w8.cell? ⟨gb101, 0, none⟩ = some (.int .i64 a0_0) := (zX BK101.out 0).trans rfl; have hcz10_1 : w8.cell? ⟨gb101, 1, none⟩ = some (.slice A0_1 l0_1.length c0_1) := (zX BK101.out 1).trans rfl; have hcz10_2 : w8.cell? ⟨gb101, 2, none⟩ = some (.slice A0_2 l0_2.length c0_2) := (zX BK101.out 2).trans rfl; have hfz10_0 := zY BK101.out 0; have hfz10_1 := zY BK101.out 1; have hfz10_2 := zY BK101.out 2; have hcz11_0 : w8.cell? ⟨gb102, 0, none⟩ = some (.int .i64 a1_0) := (zX BK102.out 0).trans rfl; have hcz11_1 : w8.cell? ⟨gb102, 1, none⟩ = some (.slice A1_1 l1_1.length c1_1) := (zX BK102.out 1).trans rfl; have hcz11_2 : w8.cell? ⟨gb102, 2, none⟩ = some (.slice A1_2 l1_2.length c1_2) := (zX BK102.out 2).trans rfl; have hfz11_0 := zY BK102.out 0; have hfz11_1 := zY BK102.out 1; have hfz11_2 := zY BK102.out 2) | (go_at_call 25; (with_reducible refine (aumbryref04_Same.calls k _ _ l0_1 _ _ l1_1 true _ ?side1 ?side2 ?side3 ?side4 A4.out).mono ?_); (case side1 => repeat (first | exact (Kd.C_below HR0_1.out HB.out) | (with_reducible first | refine Kd.C_alloc ?_ _ | refine Kd.C_drewN ?_ _ | refine Kd.C_drew ?_))); (case side2 => exact HC0_1.out); (case side3 => repeat (first | exact (Kd.C_below HR1_1.out HB.out) | (with_reducible first | refine Kd.C_alloc ?_ _ | refine Kd.C_drewN ?_ _ | refine Kd.C_drew ?_))); (case side4 => exact HC1_1.out); rintro e w' ⟨rfl, ⟨nd, rfl⟩⟩) | (go_at_call 25; (with_reducible refine (aumbryref04_Same.calls k _ _ l0_2 _ _ l1_2 t104 _ ?side1 ?side2 ?side3 ?side4 A6.out).mono ?_); (case side1 => repeat (first | exact (Kd.C_below HR0_2.out (by repeat (first | (with_reducible first | exact HB.out | apply zA | apply zN | apply zD | refine below_set ?_ GE101.out | refine below_set ?_ GE102.out) | exact HB.out))) | (with_reducible first | refine Kd.C_alloc ?_ _ | refine Kd.C_drewN ?_ _ | refine Kd.C_drew ?_))); (case side2 => exact HC0_2.out); (case side3 => repeat (first | exact (Kd.C_below HR1_2.out (by repeat (first | (with_reducible first | exact HB.out | apply zA | apply zN | apply zD | refine below_set ?_ GE101.out | refine below_set ?_ GE102.out) | exact HB.out))) | (with_reducible first | refine Kd.C_alloc ?_ _ | refine Kd.C_drewN ?_ _ | refine Kd.C_drew ?_))); (case side4 => exact HC1_2.out); rintro e w' ⟨rfl, ⟨nd, rfl⟩⟩))
   go_ret
   exact ⟨by first | rfl | (simp [*, errW_none, errW_some] <;> rfl), by repeat (first | (with_reducible first | exact HB.out | apply zA | apply zN | apply zD | refine below_set ?_ GE101.out | refine below_set ?_ GE102.out) | exact HB.out)⟩
  ·
   replace c5 := zI c5
   subst c5
   rw [if_neg (show ¬ (false = true) by decide)] at H
   obtain rfl := zS H
   go_enter Tryd.func17, Tryd.ntmps17
   go_wp2_with (first | ((with_reducible refine gate_dst (N := 2) rfl ?_); refine box_event ?hg (N := 2) ?hd (cs := #[.int .i64 a0_0, .slice A0_1 l0_1.length c0_1, .slice A0_2 l0_2.length c0_2]) (t := 25) ?hr ?_; (case hd => rfl); (case hg => rfl); (case hr => first | (go_simp; done) | (go_simp; rfl)); intro gb101 hg w12 hbox hb; have n0_ := zM (below_step (by repeat (first | (with_reducible first | exact HB.out | apply zA | apply zN | apply zD) | exact HB.out)) hb); have n1_ := zM (hbox); have n2_ := zM ((by rw [hg]; exact (below_size (by repeat (first | (with_reducible first | exact HB.out | apply zA | apply zN | apply zD) | exact HB.out))) : w.heap.size ≤ gb101)); have n3_ := zM ((by rw [hg]; exact (below_size (by repeat (first | (with_reducible first | exact HB.out | apply zA | apply zN | apply zD) | exact HB.out))) : w.heap.size ≤ gb101)); clear HB; have HB := n0_; have BK101 := n1_; have GW101 := n2_; have GE101 := n3_; clear n0_ n1_ n2_ n3_; clear hb hbox hg) | ((with_reducible refine gate_dst (N := 3) rfl ?_); refine box_event ?hg (N := 3) ?hd (cs := #[.int .i64 a1_0, .slice A1_1 l1_1.length c1_1, .slice A1_2 l1_2.length c1_2]) (t := 25) ?hr ?_; (case hd => rfl); (case hg => rfl); (case hr => first | (go_simp; done) | (go_simp; rfl)); intro gb102 hg w13 hbox hb; have n0_ := zM (blk_below (g := gb101) (o := .cells #[.int .i64 a0_0, .slice A0_1 l0_1.length c0_1, .slice A0_2 l0_2.length c0_2] 25 (0, 0)) (by (with_reducible repeat (first | refine blk_drewN ?_ _ | refine blk_drew ?_ | refine blk_alloc ?_ _)); exact BK101.out) hb); have n1_ := zM (below_step (by repeat (first | (with_reducible first | exact HB.out | apply zA | apply zN | apply zD | refine below_set ?_ GE101.out) | exact HB.out)) hb); have n2_ := zM (hbox); have n3_ := zM ((by rw [hg]; exact (below_size (by repeat (first | (with_reducible first | exact HB.out | apply zA | apply zN | apply zD | refine below_set ?_ GE101.out) | exact HB.out))) : w.heap.size ≤ gb102)); have n4_ := zM ((by rw [hg]; exact (below_size (by repeat (first | (with_reducible first | exact HB.out | apply zA | apply zN | apply zD | refine below_set ?_ GE101.out) | exact HB.out))) : w.heap.size ≤ gb102)); have n5_ := zM ((by rw [hg]; exact Nat.ne_of_lt (blk_lt (g := gb101) (o := .cells #[.int .i64 a0_0, .slice A0_1 l0_1.length c0_1, .slice A0_2 l0_2.length c0_2] 25 (0, 0)) (by (with_reducible repeat (first | refine blk_drewN ?_ _ | refine blk_drew ?_ | refine blk_alloc ?_ _)); exact BK101.out)) : gb101 ≠ gb102)); have n6_ := zM ((by rw [hg]; exact Nat.ne_of_gt (blk_lt (g := gb101) (o := .cells #[.int .i64 a0_0, .slice A0_1 l0_1.length c0_1, .slice A0_2 l0_2.length c0_2] 25 (0, 0)) (by (with_reducible repeat (first | refine blk_drewN ?_ _ | refine blk_drew ?_ | refine blk_alloc ?_ _)); exact BK101.out)) : gb102 ≠ gb101)); clear BK101; clear HB; have BK101 := n0_; have HB := n1_; have BK102 := n2_; have GW102 := n3_; have GE102 := n4_; have NB101_102 := n5_; have NB102_101 := n6_; clear n0_ n1_ n2_ n3_ n4_ n5_ n6_; clear hb hbox hg; have hnb14 := NB101_102.out; have hnc14 := NB102_101.out; have hcz15_0 : w13.cell? ⟨gb101, 0, none⟩ = some (.int .i64 a0_0) := (zX BK101.out 0).trans rfl; have hcz15_1 : w13.cell? ⟨gb101, 1, none⟩ = some (.slice A0_1 l0_1.length c0_1) := (zX BK101.out 1).trans rfl; have hcz15_2 : w13.cell? ⟨gb101, 2, none⟩ = some (.slice A0_2 l0_2.length c0_2) := (zX BK101.out 2).trans rfl; have hfz15_0 := zY BK101.out 0; have hfz15_1 := zY BK101.out 1; have hfz15_2 := zY BK101.out 2; have hcz16_0 : w13.cell? ⟨gb102, 0, none⟩ = some (.int .i64 a1_0) := (zX BK102.out 0).trans rfl; have hcz16_1 : w13.cell? ⟨gb102, 1, none⟩ = some (.slice A1_1 l1_1.length c1_1) := (zX BK102.out 1).trans rfl; have hcz16_2 : w13.cell? ⟨gb102, 2, none⟩ = some (.slice A1_2 l1_2.length c1_2) := (zX BK102.out 2).trans rfl; have hfz16_0 := zY BK102.out 0; have hfz16_1 := zY BK102.out 1; have hfz16_2 := zY BK102.out 2) | (go_at_call 25; (with_reducible refine (aumbryref04_Same.calls k _ _ l0_1 _ _ l1_1 false _ ?side1 ?side2 ?side3 ?side4 A4.out).mono ?_); (case side1 => repeat (first | exact (Kd.C_below HR0_1.out HB.out) | (with_reducible first | refine Kd.C_alloc ?_ _ | refine Kd.C_drewN ?_ _ | refine Kd.C_drew ?_))); (case side2 => exact HC0_1.out); (case side3 => repeat (first | exact (Kd.C_below HR1_1.out HB.out) | (with_reducible first | refine Kd.C_alloc ?_ _ | refine Kd.C_drewN ?_ _ | refine Kd.C_drew ?_))); (case side4 => exact HC1_1.out); rintro e w' ⟨rfl, ⟨nd, rfl⟩⟩))
   go_ret
   exact ⟨by first | rfl | (simp [*, errW_none, errW_some] <;> rfl), by repeat (first | (with_reducible first | exact HB.out | apply zA | apply zN | apply zD | refine below_set ?_ GE101.out | refine below_set ?_ GE102.out) | exact HB.out)⟩
 ·
  rw [if_neg c3] at H
  have c3b0 : (a0_0 == a1_0) = false := zE c3
  have c3b1 : (a0_0 != a1_0) = true := zF c3
  obtain rfl := zS H
  go_enter Tryd.func17, Tryd.ntmps17
  go_wp2_with (first | ((with_reducible refine gate_dst (N := 2) rfl ?_); refine box_event ?hg (N := 2) ?hd (cs := #[.int .i64 a0_0, .slice A0_1 l0_1.length c0_1, .slice A0_2 l0_2.length c0_2]) (t := 25) ?hr ?_; (case hd => rfl); (case hg => rfl); (case hr => first | (go_simp; done) | (go_simp; rfl)); intro gb101 hg w17 hbox hb; have n0_ := zM (below_step (by repeat (first | (with_reducible first | exact HB.out | apply zA | apply zN | apply zD) | exact HB.out)) hb); have n1_ := zM (hbox); have n2_ := zM ((by rw [hg]; exact (below_size (by repeat (first | (with_reducible first | exact HB.out | apply zA | apply zN | apply zD) | exact HB.out))) : w.heap.size ≤ gb101)); have n3_ := zM ((by rw [hg]; exact (below_size (by repeat (first | (with_reducible first | exact HB.out | apply zA | apply zN | apply zD) | exact HB.out))) : w.heap.size ≤ gb101)); clear HB; have HB := n0_; have BK101 := n1_; have GW101 := n2_; have GE101 := n3_; clear n0_ n1_ n2_ n3_; clear hb hbox hg) | ((with_reducible refine gate_dst (N := 3) rfl ?_); refine box_event ?hg (N := 3) ?hd (cs := #[.int .i64 a1_0, .slice A1_1 l1_1.length c1_1, .slice A1_2 l1_2.length c1_2]) (t := 25) ?hr ?_; (case hd => rfl); (case hg => rfl); (case hr => first | (go_simp; done) | (go_simp; rfl)); intro gb102 hg w18 hbox hb; have n0_ := zM (blk_below (g := gb101) (o := .cells #[.int .i64 a0_0, .slice A0_1 l0_1.length c0_1, .slice A0_2 l0_2.length c0_2] 25 (0, 0)) (by (with_reducible repeat (first | refine blk_drewN ?_ _ | refine blk_drew ?_ | refine blk_alloc ?_ _)); exact BK101.out) hb); have n1_ := zM (below_step (by repeat (first | (with_reducible first | exact HB.out | apply zA | apply zN | apply zD | refine below_set ?_ GE101.out) | exact HB.out)) hb); have n2_ := zM (hbox); have n3_ := zM ((by rw [hg]; exact (below_size (by repeat (first | (with_reducible first | exact HB.out | apply zA | apply zN | apply zD | refine below_set ?_ GE101.out) | exact HB.out))) : w.heap.size ≤ gb102)); have n4_ := zM ((by rw [hg]; exact (below_size (by repeat (first | (with_reducible first | exact HB.out | apply zA | apply zN | apply zD | refine below_set ?_ GE101.out) | exact HB.out))) : w.heap.size ≤ gb102)); have n5_ := zM ((by rw [hg]; exact Nat.ne_of_lt (blk_lt (g := gb101) (o := .cells #[.int .i64 a0_0, .slice A0_1 l0_1.length c0_1, .slice A0_2 l0_2.length c0_2] 25 (0, 0)) (by (with_reducible repeat (first | refine blk_drewN ?_ _ | refine blk_drew ?_ | refine blk_alloc ?_ _)); exact BK101.out)) : gb101 ≠ gb102)); have n6_ := zM ((by rw [hg]; exact Nat.ne_of_gt (blk_lt (g := gb101) (o := .cells #[.int .i64 a0_0, .slice A0_1 l0_1.length c0_1, .slice A0_2 l0_2.length c0_2] 25 (0, 0)) (by (with_reducible repeat (first | refine blk_drewN ?_ _ | refine blk_drew ?_ | refine blk_alloc ?_ _)); exact BK101.out)) : gb102 ≠ gb101)); clear BK101; clear HB; have BK101 := n0_; have HB := n1_; have BK102 := n2_; have GW102 := n3_; have GE102 := n4_; have NB101_102 := n5_; have NB102_101 := n6_; clear n0_ n1_ n2_ n3_ n4_ n5_ n6_; clear hb hbox hg; have hnb19 := NB101_102.out; have hnc19 := NB102_101.out; have hcz20_0 : w18.cell? ⟨gb101, 0, none⟩ = some (.int .i64 a0_0) := (zX BK101.out 0).trans rfl; have hcz20_1 : w18.cell? ⟨gb101, 1, none⟩ = some (.slice A0_1 l0_1.length c0_1) := (zX BK101.out 1).trans rfl; have hcz20_2 : w18.cell? ⟨gb101, 2, none⟩ = some (.slice A0_2 l0_2.length c0_2) := (zX BK101.out 2).trans rfl; have hfz20_0 := zY BK101.out 0; have hfz20_1 := zY BK101.out 1; have hfz20_2 := zY BK101.out 2; have hcz21_0 : w18.cell? ⟨gb102, 0, none⟩ = some (.int .i64 a1_0) := (zX BK102.out 0).trans rfl; have hcz21_1 : w18.cell? ⟨gb102, 1, none⟩ = some (.slice A1_1 l1_1.length c1_1) := (zX BK102.out 1).trans rfl; have hcz21_2 : w18.cell? ⟨gb102, 2, none⟩ = some (.slice A1_2 l1_2.length c1_2) := (zX BK102.out 2).trans rfl; have hfz21_0 := zY BK102.out 0; have hfz21_1 := zY BK102.out 1; have hfz21_2 := zY BK102.out 2))
  go_ret
  exact ⟨by first | rfl | (simp [*, errW_none, errW_some] <;> rfl), by repeat (first | (with_reducible first | exact HB.out | apply zA | apply zN | apply zD | refine below_set ?_ GE101.out | refine below_set ?_ GE102.out) | exact HB.out)⟩

end Go.Proofs.YtpnamhplhdaphaaDoor.P

-- ==== PL6
/- Plain laws of chapter 6: whether a rule may be: the program's answer and the document's come to one function. -/
namespace Go.Proofs.YtpnamhplhdaphaaDoor.P
open Go.RowKit Go.Proofs.YtpnamhplhdaphaaDoorW.PrintWords
set_option linter.unusedVariables false
set_option linter.unusedSimpArgs false
abbrev zc : Cel := z33
def ruleS (id : Int) (l r : List Cel) : Int := if id < 0 then 1 else if id > 65535 then 1 else if checkS l = 0 then (if checkS r = 0 then (if l.length > 8 then 6 else if r.length > 8 then 6 else
 if kindS (l.getD 0 zc).f0 = 2 then 20 else if (varsS [] r).all (fun v => decide (v ∈ varsS [] l)) = true then 0 else 7) else checkS r) else checkS l
theorem ev_strF (vl : List ByteArray) (hl : vl.length ≤ 9223372036854775806) : ∀ vr : List ByteArray, Ev (fun k => strF k vl vr) (!(vr.all (fun v => decide (v ∈ vl))))
 | [] => Ev.now _
 | v :: u => by
  have e : (fun k => strF k vl (v :: u)) = (fun k => (slices_Contains_string_string.f k vl v).bind fun b => if b = true then strF k vl u else some true) := rfl
  rw [e]
  refine Ev.bind (ev_contains vl v hl) ?_
  by_cases hv : v ∈ vl
  ·
   refine evIfp (decide_eq_true hv) ?_
   have : (v :: u).all (fun v => decide (v ∈ vl)) = u.all (fun v => decide (v ∈ vl)) := by simp [hv]
   rw [this]
   exact ev_strF vl hl u
  ·
   refine evIfn (by simpa using hv) ?_
   have : (v :: u).all (fun v => decide (v ∈ vl)) = false := by simp [hv]
   rw [this]
   exact Ev.now _
theorem ok_pos {l : List Cel} (h : checkS l = 0) : 0 < l.length := by
 obtain ⟨c, u, _, _, rfl, _⟩ := tx_term h
 simp
theorem vars_len {l : List Cel} (h : checkS l = 0) : (varsS [] l).length ≤ 64 := by
 have := varsS_len l []
 have := checkS_len h
 simp only [List.length_nil] at *
 omega
theorem ev_rch (id : Int) (l r : List Cel) : Ev (fun k => rule_Check.f k id l r) (ruleS id l r) := by
 unfold rule_Check.f rchF ruleS
 by_cases h1 : id < 0
 ·
  simp only [if_pos h1]; exact Ev.now _
 simp only [if_neg h1]
 by_cases h2 : id > 65535
 ·
  simp only [if_pos h2]; exact Ev.now _
 simp only [if_neg h2]
 refine Ev.bind (ev_check l) ?_
 by_cases h3 : checkS l = 0
 case neg =>
  refine evIfn h3 ?_
  rw [if_neg h3]
  exact Ev.now _
 refine evIfp h3 ?_
 rw [if_pos h3]
 refine Ev.bind (ev_check r) ?_
 by_cases h4 : checkS r = 0
 case neg =>
  refine evIfn h4 ?_
  rw [if_neg h4]
  exact Ev.now _
 refine evIfp h4 ?_
 rw [if_pos h4]
 by_cases h5 : l.length > 8
 ·
  simp only [if_pos h5]; exact Ev.now _
 simp only [if_neg h5]
 by_cases h6 : r.length > 8
 ·
  simp only [if_pos h6]; exact Ev.now _
 simp only [if_neg h6]
 refine evIfp (ok_pos h3) ?_
 refine Ev.bind (ev_kind _) ?_
 have e : rd_T33 l 0 = l.getD 0 zc := rfl
 rw [e]
 by_cases h7 : kindS (l.getD 0 zc).f0 = 2
 ·
  refine evIfp h7 ?_
  rw [if_pos h7]
  exact Ev.now _
 refine evIfn h7 ?_
 rw [if_neg h7]
 refine Ev.bind (ev_vars h3) (Ev.bind (ev_vars h4) ?_)
 refine Ev.bind (ev_strF (varsS [] l) (by have := vars_len h3; omega) (varsS [] r)) ?_
 by_cases h8 : (varsS [] r).all (fun v => decide (v ∈ varsS [] l)) = true
 ·
  rw [if_pos h8, h8]
  exact Ev.now _
 ·
  have h9 : (varsS [] r).all (fun v => decide (v ∈ varsS [] l)) = false := by simpa using h8
  rw [if_neg h8, h9]
  exact Ev.now _
/-! ### the document's -/
theorem one_var {l : List Cel} (h : checkS l = 0) (hk : kindS (l.getD 0 zc).f0 = 2) : l.length = 1 := by
 obtain ⟨c, u, b, d, rfl, h1, h2, _⟩ := tx_term h
 have hc := h2 c (List.mem_cons_self ..)
 have ha : ar c = 0 := by unfold ar; rw [hc.var hk]; rfl
 rw [ha] at h1
 have := tx_seg h1
 rw [Nat.sub_zero, segN_zero] at this
 injection this with this
 rw [this]
 rfl
theorem ev_rcheck_loop (vl vr : List ByteArray) (hl : vl.length ≤ 9223372036854775806) (hr : vr.length ≤ 9223372036854775806) : ∀ (u : List ByteArray) (i : Nat), i ≤ vr.length → vr.drop i = u →
 Ev (fun k => aumbryref06_Check.l0 k vl vr (vr.length : Int) (i : Int)) (if u.all (fun v => decide (v ∈ vl)) = true then 0 else 7)
 | [], i, hi, hu => by
  have h1 := drop_nil_len hi hu
  refine Ev.step (fun k => (show aumbryref06_Check.l0 (k + 1) vl vr (vr.length : Int) (i : Int) = _ from by rw [aumbryref06_Check.l0])) ?_
  exact evIfn (by omega) (Ev.now _)
 | v :: u, i, hi, hu => by
  obtain ⟨h1, _, h3⟩ := drop_cons hu
  refine Ev.step (fun k => (show aumbryref06_Check.l0 (k + 1) vl vr (vr.length : Int) (i : Int) = _ from by rw [aumbryref06_Check.l0])) ?_
  refine evIfp (by omega) (evIfp (by omega) (evIfp (by omega) ?_))
  rw [rd_txt hu, up_cast i (by omega)]
  refine Ev.bind (ev_has vl v hl) ?_
  by_cases hv : v ∈ vl
  ·
   refine evIfp (decide_eq_true hv) ?_
   have : (v :: u).all (fun v => decide (v ∈ vl)) = u.all (fun v => decide (v ∈ vl)) := by simp [hv]
   rw [this]
   exact ev_rcheck_loop vl vr hl hr u (i + 1) (by omega) h3
  ·
   refine evIfn (by simpa using hv) ?_
   have : (v :: u).all (fun v => decide (v ∈ vl)) = false := by simp [hv]
   rw [this]
   exact Ev.now _
theorem ev_rcheck (id : Int) (l r : List Cel) : Ev (fun k => aumbryref06_Check.f k id l r) (ruleS id l r) := by
 have hj0t : ∀ q : Int, q = 1 → Ev (fun k => aumbryref06_Check.j0 k true id l r) q := fun q hq => by
  subst hq
  refine Ev.step (fun k => (show aumbryref06_Check.j0 (k + 1) true id l r = _ from by rw [aumbryref06_Check.j0])) ?_
  exact evIfp rfl (Ev.now _)
 have hj1t : ∀ q : Int, q = 6 → Ev (fun k => aumbryref06_Check.j1 k true id l r) q := fun q hq => by
  subst hq
  refine Ev.step (fun k => (show aumbryref06_Check.j1 (k + 1) true id l r = _ from by rw [aumbryref06_Check.j1])) ?_
  exact evIfp rfl (Ev.now _)
 unfold aumbryref06_Check.f ruleS
 by_cases h1 : id < 0
 ·
  rw [if_pos h1]
  exact evIfp h1 (hj0t _ rfl)
 rw [if_neg h1]
 refine evIfn h1 ?_
 by_cases h2 : id > 65535
 ·
  rw [if_pos h2, decide_eq_true h2]
  exact hj0t _ rfl
 rw [if_neg h2, decide_eq_false h2]
 refine Ev.step (fun k => (show aumbryref06_Check.j0 (k + 1) false id l r = _ from by rw [aumbryref06_Check.j0])) ?_
 refine evIfn (by simp) ?_
 refine Ev.bind (ev_refCheck l) ?_
 by_cases h3 : checkS l = 0
 case neg =>
  refine evIfn h3 ?_
  rw [if_neg h3]
  exact Ev.now _
 refine evIfp h3 ?_
 rw [if_pos h3]
 refine Ev.bind (ev_refCheck r) ?_
 by_cases h4 : checkS r = 0
 case neg =>
  refine evIfn h4 ?_
  rw [if_neg h4]
  exact Ev.now _
 refine evIfp h4 ?_
 rw [if_pos h4]
 have hl64 := checkS_len h3
 have hr64 := checkS_len h4
 by_cases h5 : l.length > 8
 ·
  rw [if_pos h5]
  exact evIfp (by omega) (hj1t _ rfl)
 rw [if_neg h5]
 refine evIfn (by omega) ?_
 by_cases h6 : r.length > 8
 ·
  rw [if_pos h6, decide_eq_true (show (r.length : Int) > 8 by omega)]
  exact hj1t _ rfl
 rw [if_neg h6, decide_eq_false (show ¬ (r.length : Int) > 8 by omega)]
 refine Ev.step (fun k => (show aumbryref06_Check.j1 (k + 1) false id l r = _ from by rw [aumbryref06_Check.j1])) ?_
 refine evIfn (by simp) ?_
 have hvar : Ev (fun k => aumbryref05_Var.f k l) (decide (kindS (l.getD 0 zc).f0 = 2)) := by
  unfold aumbryref05_Var.f
  by_cases h7 : (l.length : Int) = 1
  ·
   refine evIfp h7 (evIfp (by omega) ?_)
   refine Ev.bind (ev_refKind _) ?_
   have e : rd_T33 l 0 = l.getD 0 zc := rfl
   rw [e]
   exact Ev.now _
  ·
   refine evIfn h7 ?_
   have : ¬ kindS (l.getD 0 zc).f0 = 2 := fun hk => h7 (by have := one_var h3 hk; omega)
   rw [decide_eq_false this]
   exact Ev.now _
 refine Ev.bind hvar ?_
 by_cases h7 : kindS (l.getD 0 zc).f0 = 2
 ·
  rw [if_pos h7]
  exact evIfp (decide_eq_true h7) (Ev.now _)
 rw [if_neg h7]
 refine evIfn (by simpa using h7) ?_
 refine Ev.bind (ev_rvars (by omega)) (Ev.bind (ev_rvars (by omega)) ?_)
 exact ev_rcheck_loop _ _ (by have := vars_len h3; omega) (by have := vars_len h4; omega) _ 0 (by omega) rfl
theorem rcopy_at (id : Int) (l r : List Cel) (hl : l.length < 5864062014805) (hr : r.length < 5864062014805) : aumbryref06_Copy.f id l r = some (id, l, r) := by
 unfold aumbryref06_Copy.f
 rw [copy_at l hl]
 simp only [Option.bind_some]
 rw [copy_at r hr]
 rfl
end Go.Proofs.YtpnamhplhdaphaaDoor.P

-- ==== PL6w
/- Plain laws of chapter 6: what the statements ask ahead (wakes); sizes of what came in. -/
namespace Go.Proofs.YtpnamhplhdaphaaDoor.P
open Go.RowKit Go.Proofs.YtpnamhplhdaphaaDoorW.PrintWords
set_option linter.unusedVariables false
set_option maxRecDepth 100000 in
theorem ev_wakes6 : Ev (fun k => aumbrylaw06_wakes.f k) true := Ev.of (g := fun k => aumbrylaw06_wakes.f k) aumbrylaw06_wakes.mono (k := 40) (by kernel_rfl)
theorem sz_rule {x : S25} (h : sz25 x) : x.f1.length < 5864062014805 ∧ x.f2.length < 5864062014805 := ⟨sz_len h.2.1, sz_len h.2.2⟩
end Go.Proofs.YtpnamhplhdaphaaDoor.P

-- ==== PQc
/- Plain laws, part c: where a pattern fits: along the cells, and part by part. -/
namespace Go.Proofs.YtpnamhplhdaphaaDoor.P.M
open Go.RowKit Go.Proofs.YtpnamhplhdaphaaDoorW.PrintWords
set_option linter.unusedVariables false
set_option linter.unusedSimpArgs false

abbrev Bnd := S109
def lookB (out : List Bnd) (s : ByteArray) : Option (List Cel) := (out.find? (fun b => decide (b.f0 = s))).map (·.f1)
/-- The first term of a list. -/
def fstT (t r : List Cel) : List Cel := t.take (t.length - r.length)
def mat : List Cel → List Cel → List Bnd → Option (List Bnd × List Cel)
 | [], t, out => some (out, t)
 | c :: p, t, out =>
  if kindS c.f0 = 2 then
   match segN t 1 with
   | none => none
   | some r => match lookB out c.f0 with
    | none => mat p r (out ++ [⟨c.f0, fstT t r⟩])
    | some v => if v = fstT t r then mat p r out else none
  else match t with
   | [] => none
   | d :: t' => if d = c then mat p t' out else none

/-! ### segments -/
theorem segN_append : ∀ {l r : List Cel} {n : Nat} (q : List Cel), segN l n = some r → segN (l ++ q) n = some (r ++ q)
 | l, r, 0, q, h => by
  rw [segN_zero] at h ⊢
  injection h with h
  rw [h]
 | [], r, n + 1, q, h => by cases h
 | c :: l, r, n + 1, q, h => segN_append (l := l) (r := r) (n := n + ar c) q h
theorem segN_split {t : List Cel} {n : Nat} (h : segN t (n + 1) = some []) : ∃ r, segN t 1 = some r ∧ segN r n = some [] := by
 rw [show n + 1 = 1 + n by omega, segN_add] at h
 cases hr : segN t 1 with
 | none => rw [hr] at h; cases h
 | some r => rw [hr] at h; exact ⟨r, rfl, h⟩
theorem segN_nil_pos {n : Nat} (h : segN [] n = some []) : n = 0 := by
 cases n with
 | zero => rfl
 | succ n => cases h
theorem segN_fst {t r : List Cel} {n : Nat} (h : segN t n = some r) : t = fstT t r ++ r ∧ segN (fstT t r) n = some [] := by
 obtain ⟨m, hm, hd⟩ := segN_suffix h
 have hl : r.length = t.length - m := by rw [← hd, List.length_drop]
 have he : fstT t r = t.take m := by unfold fstT; rw [show t.length - r.length = m by omega]
 rw [he]
 refine ⟨by rw [← hd]; exact (List.take_append_drop m t).symm, ?_⟩
 have : ∀ (l : List Cel) (n m : Nat), m ≤ l.length → segN l n = some (l.drop m) → segN (l.take m) n = some [] := by
  intro l
  induction l with
  | nil =>
   intro n m hm h
   have hm0 : m = 0 := by simpa using hm
   subst hm0
   simpa using h
  | cons c l ih =>
   intro n m hm h
   cases n with
   | zero =>
    rw [segN_zero] at h ⊢
    injection h with h
    have := congrArg List.length h
    simp only [List.length_cons, List.length_drop] at this
    have hm0 : m = 0 := by simp at hm; omega
    rw [hm0]
    rfl
   | succ n =>
    cases m with
    | zero =>
     have := segN_len h
     simp at this
    | succ m =>
     simp only [List.drop_succ_cons] at h
     exact ih (n + ar c) m (by simpa using hm) h
 rw [← hd] at h
 exact this t n m hm h

/-! ### the program's Match -/
theorem ev_variable (c : Cel) : Ev (fun k => match_variable.f k c.f0 c.f1) (kindS c.f0 == 2) := by
 unfold match_variable.f
 exact Ev.bind (ev_kind c.f0) (Ev.now _)
theorem ev_end_loop (t : List Cel) (ht : t.length ≤ 64) (hok : ∀ c ∈ t, Okc c) : ∀ (s : List Cel) (a n : Nat) (r : List Cel), a ≤ t.length → t.drop a = s → n ≤ 1 + 4 * a → segN s n = some r →
 Ev (fun k => match_end.l0 k t (a : Int) (n : Int)) ((t.length - r.length : Nat) : Int)
 | s, a, 0, r, ha, hs, hn, hr => by
  refine Ev.step (f := fun _ => some (a : Int)) (fun k => by simp only [match_end.l0]; rw [if_neg (by omega)]) ?_
  rw [segN_zero] at hr
  injection hr with hr
  have : ((t.length - r.length : Nat) : Int) = (a : Int) := by rw [← hr, ← hs, List.length_drop]; omega
  rw [this]
  exact Ev.now _
 | [], a, n + 1, r, ha, hs, hn, hr => by cases hr
 | c :: s, a, n + 1, r, ha, hs, hn, hr => by
  obtain ⟨h1, h2, h3⟩ := drop_cons hs
  have hc : Okc c := hok c (List.mem_of_mem_drop (hs ▸ List.mem_cons_self ..))
  have har : (ar c : Int) = c.f1 := by unfold ar; have := hc.lo; omega
  have hh := hc.hi
  have hl0 := hc.lo
  refine Ev.step (f := fun k => match_end.l0 k t ((a + 1 : Nat) : Int) ((n + ar c : Nat) : Int)) (fun k => ?_) (ev_end_loop t ht hok s (a + 1) (n + ar c) r (by omega) h3 (by omega) hr)
  simp only [match_end.l0]
  rw [if_pos (by omega), if_pos (by omega), if_pos (by omega), rd_cel hs, wrap_up (by omega) (by omega)]
  have e : wrap64 (((n + 1 : Nat) : Int) + wrap64 (c.f1 - 1)) = ((n + ar c : Nat) : Int) := by
   rw [wrap_id (i := c.f1 - 1) (by omega) (by omega), wrap_id (by omega) (by omega)]
   omega
  rw [e]
  rfl
theorem ev_end (t : List Cel) (ht : t.length ≤ 64) (hok : ∀ c ∈ t, Okc c) (a : Nat) (ha : a ≤ t.length) {r : List Cel} (hr : segN (t.drop a) 1 = some r) : Ev (fun k => match_end.f k t (a : Int)) ((t.length - r.length : Nat) : Int) := by
 unfold match_end.f
 exact ev_end_loop t ht hok _ a 1 r ha rfl (by omega) hr
theorem bytes_eq (a b : ByteArray) : a.toList = b.toList ↔ a = b := by
 rw [ByteArray.toList_eq, ByteArray.toList_eq]
 constructor
 ·
  intro h
  cases a; cases b
  simp only [ByteArray.mk.injEq]
  exact Array.toList_inj.1 h
 ·
  intro h
  rw [h]
theorem cel_ne (c d : Cel) : ((!((c.f0.toList) == (d.f0.toList)) || (!(c.f1 == d.f1))) = true) ↔ c ≠ d := by
 cases c with | mk a b => cases d with | mk a' b' =>
 simp only [Bool.or_eq_true, Bool.not_eq_true', beq_eq_false_iff_ne, ne_eq, bytes_eq, S33.mk.injEq]
 by_cases h : a = a' <;> simp [h]
theorem ev_cels_loop (F : Nat → List Cel → List Cel → Int → Int → Option Bool)
 (hF : ∀ k x y n i, F (k + 1) x y n i = if i < n then (if 0 ≤ i then (if i < (x.length : Int) then (if i < (y.length : Int) then (if (!((((rd_T33 x i).f0).toList) == (((rd_T33 y i).f0).toList)) || (!(((rd_T33 x i).f1) == ((rd_T33 y i).f1)))) = true then (some false) else (F k x y n (wrap64 (i + 1)))) else (none)) else (none)) else (none)) else (some true))
 (x y : List Cel) (hl : x.length = y.length) (hb : x.length ≤ 9223372036854775806) : ∀ (s u : List Cel) (a : Nat), a ≤ x.length → x.drop a = s → y.drop a = u → Ev (fun k => F k x y (x.length : Int) (a : Int)) (decide (s = u))
 | [], u, a, ha, hs, hu => by
  have h1 := drop_nil_len ha hs
  have h2 : u = [] := by rw [← hu]; exact List.drop_eq_nil_of_le (by omega)
  refine Ev.step (f := fun _ => some true) (fun k => by rw [hF, if_neg (by omega)]) ?_
  rw [h2]
  exact Ev.now _
 | c :: s, u, a, ha, hs, hu => by
  obtain ⟨h1, _, h3⟩ := drop_cons hs
  rcases u with _ | ⟨d, u⟩
  ·
   have := drop_nil_len (by omega) hu
   omega
  obtain ⟨_, _, h4⟩ := drop_cons hu
  by_cases hcd : c = d
  ·
   refine Ev.step (f := fun k => F k x y (x.length : Int) ((a + 1 : Nat) : Int)) (fun k => by
    rw [hF, if_pos (by omega), if_pos (by omega), if_pos (by omega), if_pos (by omega), rd_cel hs, rd_cel hu, if_neg (fun h => (cel_ne c d).1 h hcd), wrap_up (by omega) (by omega)]
    rfl) ?_
   have : decide (c :: s = d :: u) = decide (s = u) := by subst hcd; simp
   rw [this]
   exact ev_cels_loop F hF x y hl hb s u (a + 1) (by omega) h3 h4
  ·
   refine Ev.step (f := fun _ => some false) (fun k => by
    rw [hF, if_pos (by omega), if_pos (by omega), if_pos (by omega), if_pos (by omega), rd_cel hs, rd_cel hu, if_pos ((cel_ne c d).2 hcd)]) ?_
   have : decide (c :: s = d :: u) = false := by simp [hcd]
   rw [this]
   exact Ev.now _
theorem ev_equal (x y : List Cel) (hb : x.length ≤ 9223372036854775806 ∨ y.length ≤ 9223372036854775806) : Ev (fun k => api_Cell_74.f k x y) (decide (x = y)) := by
 unfold api_Cell_74.f
 by_cases h : (x.length : Int) = (y.length : Int)
 ·
  exact Ev.congr (f := fun k => api_Cell_74.l0 k x y (x.length : Int) ((0 : Nat) : Int)) (fun k => by rw [if_pos h]; rfl) (ev_cels_loop _ (fun k x y n i => rfl) x y (by omega) (by omega) x y 0 (by omega) rfl rfl)
 ·
  refine Ev.congr (f := fun _ => some (decide (x = y))) (fun k => ?_) (Ev.now _)
  rw [if_neg h]
  congr 1
  rw [Eq.comm, decide_eq_false_iff_not]
  rintro rfl
  exact h rfl
theorem ev_refSame4 (x y : List Cel) (hb : x.length ≤ 9223372036854775806 ∨ y.length ≤ 9223372036854775806) : Ev (fun k => aumbryref04_Same.f k x y) (decide (x = y)) := by
 unfold aumbryref04_Same.f
 by_cases h : (x.length : Int) = (y.length : Int)
 ·
  exact Ev.congr (f := fun k => aumbryref04_Same.l0 k x y (x.length : Int) ((0 : Nat) : Int)) (fun k => by rw [if_pos h]; rfl) (ev_cels_loop _ (fun k x y n i => rfl) x y (by omega) (by omega) x y 0 (by omega) rfl rfl)
 ·
  refine Ev.congr (f := fun _ => some (decide (x = y))) (fun k => ?_) (Ev.now _)
  rw [if_neg h]
  congr 1
  rw [Eq.comm, decide_eq_false_iff_not]
  rintro rfl
  exact h rfl
/-- The map of places is that of the binds. -/
structure MapOk (m : List Cel) (out : List Bnd) : Prop where
 len : m.length = out.length
 has : ∀ s, mapHas m s = (lookB out s).isSome
 at_ : ∀ s v, lookB out s = some v → ∃ j : Nat, mapAt m s = (j : Int) ∧ j < out.length ∧ ∃ b, out[j]? = some b ∧ b.f1 = v
theorem data_eq (a b : ByteArray) : a.data.toList = b.data.toList ↔ a = b := by
 rw [← bytes_eq, ByteArray.toList_eq, ByteArray.toList_eq]
theorem mapOk_nil : MapOk [] [] := ⟨rfl, fun s => rfl, fun s v h => by cases h⟩
theorem mapOk_put {m : List Cel} {out : List Bnd} (h : MapOk m out) (s : ByteArray) (v : List Cel) (hn : lookB out s = none) : MapOk (mapPut m s (out.length : Int)) (out ++ [⟨s, v⟩]) := by
 have hlook : ∀ s', lookB (out ++ [⟨s, v⟩]) s' = if s = s' then some v else lookB out s' := by
  intro s'
  unfold lookB at hn ⊢
  rw [List.find?_append]
  by_cases hs : s = s'
  ·
   subst hs
   rw [if_pos rfl]
   cases hf : out.find? (fun b => decide (b.f0 = s)) with
   | none => simp
   | some b => rw [hf] at hn; cases hn
  ·
   rw [if_neg hs]
   cases hf : out.find? (fun b => decide (b.f0 = s')) with
   | none => simp [hs]
   | some b => simp
 refine ⟨by simp [mapPut, h.len], fun s' => ?_, fun s' v' hv => ?_⟩
 ·
  rw [hlook]
  by_cases hs : s = s'
  ·
   subst hs
   simp [mapHas, mapPut]
  ·
   rw [if_neg hs, ← h.has s']
   have : (s.data.toList == s'.data.toList) = false := by simp only [beq_eq_false_iff_ne, ne_eq, data_eq]; exact hs
   simp only [mapHas, mapPut, List.any_cons, this, Bool.false_or]
 ·
  rw [hlook] at hv
  by_cases hs : s = s'
  ·
   subst hs
   rw [if_pos rfl] at hv
   injection hv with hv
   subst hv
   exact ⟨out.length, by simp [mapAt, mapPut], by simp, ⟨s, v⟩, by simp, rfl⟩
  ·
   rw [if_neg hs] at hv
   obtain ⟨j, h1, h2, b, h3, h4⟩ := h.at_ s' v' hv
   have : (s.data.toList == s'.data.toList) = false := by simp only [beq_eq_false_iff_ne, ne_eq, data_eq]; exact hs
   refine ⟨j, ?_, by simp; omega, b, by rw [List.getElem?_append_left h2]; exact h3, h4⟩
   rw [← h1]
   simp only [mapAt, mapPut, List.find?_cons, this]
def matR (x : Option (List Bnd × List Cel)) : List Bnd × Bool × Int := match x with
 | none => ([], false, 0)
 | some y => (y.1, true, 0)
theorem ev_match_loop (p t : List Cel) (hp : p.length ≤ 64) (ht : t.length ≤ 64) (hokp : ∀ c ∈ p, Okc c) (hokt : ∀ c ∈ t, Okc c) :
 ∀ (s : List Cel) (i a n : Nat) (out : List Bnd) (m : List Cel), i ≤ p.length → a ≤ t.length → p.drop i = s → segN s n = some [] → segN (t.drop a) n = some [] → MapOk m out → out.length ≤ i →
 Ev (fun k => match_Match.l0 k t out m (a : Int) p (p.length : Int) (i : Int)) (matR (mat s (t.drop a) out))
 | [], i, a, n, out, m, hi, ha, hs, hn, hnt, hm, ho => by
  have h1 := drop_nil_len hi hs
  refine Ev.step (f := fun _ => some (out, true, 0)) (fun k => by simp only [match_Match.l0]; rw [if_neg (by omega)]) ?_
  exact Ev.now _
 | c :: s, i, a, n, out, m, hi, ha, hs, hn, hnt, hm, ho => by
  obtain ⟨h1, _, h3⟩ := drop_cons hs
  have hc : Okc c := hokp c (List.mem_of_mem_drop (hs ▸ List.mem_cons_self ..))
  obtain ⟨n, rfl⟩ : ∃ q, n = q + 1 := by
   cases n with
   | zero => rw [segN_zero] at hn; injection hn with hn; cases hn
   | succ n => exact ⟨n, rfl⟩
  have hn' : segN s (n + ar c) = some [] := hn
  obtain ⟨r, hr1, hrn⟩ := segN_split hnt
  have hks := kindS_size hc.kind
  by_cases hv : kindS c.f0 = 2
  ·
   have hac : ar c = 0 := by unfold ar; rw [hc.var hv]; rfl
   rw [hac, Nat.add_zero] at hn'
   obtain ⟨q, hq, hqr⟩ := segN_suffix hr1
   rw [List.drop_drop] at hqr
   rw [List.length_drop] at hq
   have hrl : r.length = t.length - (a + q) := by rw [← hqr, List.length_drop]
   have hpart : ((t.take (((t.length - r.length : Nat) : Int)).toNat).drop ((a : Int)).toNat : List Cel) = fstT (t.drop a) r := by
    unfold fstT
    rw [List.length_drop]
    simp only [Int.toNat_natCast]
    rw [List.drop_take]
    congr 1
    omega
   have hfl : (fstT (t.drop a) r).length = q := by unfold fstT; rw [List.length_take, List.length_drop]; omega
   have hw1 : True → wrap64 ((a : Int) + ((fstT (t.drop a) r).length : Int)) = ((a + q : Nat) : Int) := fun _ => by rw [hfl, wrap_id (by omega) (by omega)]; omega
   have hw2 : True → wrap64 ((i : Int) + 1) = ((i + 1 : Nat) : Int) := fun _ => by rw [wrap_up (by omega) (by omega)]; rfl
   refine Ev.step (fun k => (show match_Match.l0 (k + 1) t out m (a : Int) p (p.length : Int) (i : Int) = _ from by rw [match_Match.l0])) ?_
   refine evIfp (by omega) (evIfp (by omega) (evIfp (by omega) ?_))
   simp only [rd_cel hs]
   refine Ev.bind (ev_variable c) ?_
   refine evIfp (by simp [hv]) ?_
   refine Ev.bind (ev_end t ht hokt a ha hr1) ?_
   refine evIfp (by omega) (evIfp (by omega) (evIfp (by omega) ?_))
   refine Ev.bind (Ev.now _) ?_
   simp only [hpart, hw1 trivial, hw2 trivial]
   refine evIfp (by omega) ?_
   have hmat : mat (c :: s) (t.drop a) out = (match lookB out c.f0 with | none => mat s r (out ++ [⟨c.f0, fstT (t.drop a) r⟩]) | some v => if v = fstT (t.drop a) r then mat s r out else none) := by
    show (if kindS c.f0 = 2 then _ else _) = _
    rw [if_pos hv, hr1]
   rw [hmat]
   cases hl : lookB out c.f0 with
   | none =>
    refine evIfn (by rw [hm.has, hl]; simp) ?_
    have hml := hm.len
    refine evIfp (by omega) ?_
    refine Ev.bind (evIs (clone_at _ (by omega))) ?_
    refine evIfp (by omega) ?_
    have := ev_match_loop p t hp ht hokp hokt s (i + 1) (a + q) n (out ++ [⟨c.f0, fstT (t.drop a) r⟩]) (mapPut m c.f0 (out.length : Int)) (by omega) (by omega) h3 hn' (by rw [hqr]; exact hrn) (mapOk_put hm _ _ hl) (by simp; omega)
    rw [hqr] at this
    exact this
   | some v =>
    obtain ⟨j, hj1, hj2, b, hj3, hj4⟩ := hm.at_ _ _ hl
    have hrd : (rd_T109 out (mapAt m c.f0)).f1 = v := by
     rw [hj1]
     unfold rd_T109
     rw [List.getD_eq_getElem?_getD, Int.toNat_natCast, hj3]
     exact hj4
    refine evIfp (by rw [hm.has, hl]; simp) ?_
    refine evIfp (by omega) (evIfp (by omega) ?_)
    simp only [hrd]
    refine Ev.bind (ev_equal _ _ (.inr (by omega))) ?_
    by_cases he : v = fstT (t.drop a) r
    ·
     refine evIfp (by simpa using he) ?_
     have := ev_match_loop p t hp ht hokp hokt s (i + 1) (a + q) n out m (by omega) (by omega) h3 hn' (by rw [hqr]; exact hrn) hm (by omega)
     rw [hqr] at this
     simp only [he, if_true]
     exact this
    ·
     refine evIfn (by simpa using he) ?_
     simp only [he, if_false]
     exact Ev.now _
  ·
   rcases ht' : t.drop a with _ | ⟨d, u⟩
   ·
    rw [ht'] at hnt
    cases hnt
   obtain ⟨g1, _, g3⟩ := drop_cons ht'
   have hw1 : True → wrap64 ((a : Int) + 1) = ((a + 1 : Nat) : Int) := fun _ => by rw [wrap_up (by omega) (by omega)]; rfl
   have hw2 : True → wrap64 ((i : Int) + 1) = ((i + 1 : Nat) : Int) := fun _ => by rw [wrap_up (by omega) (by omega)]; rfl
   refine Ev.step (fun k => (show match_Match.l0 (k + 1) t out m (a : Int) p (p.length : Int) (i : Int) = _ from by rw [match_Match.l0])) ?_
   refine evIfp (by omega) (evIfp (by omega) (evIfp (by omega) ?_))
   simp only [rd_cel hs, rd_cel ht']
   refine Ev.bind (ev_variable c) ?_
   refine evIfn (by simp [hv]) ?_
   refine evIfp (by omega) (evIfp (by omega) ?_)
   have hmat : mat (c :: s) (d :: u) out = if d = c then mat s u out else none := by
    show (if kindS c.f0 = 2 then _ else _) = _
    rw [if_neg hv]
   rw [hmat]
   by_cases hdc : d = c
   ·
    refine evIfn (fun h => (cel_ne d c).1 h hdc) ?_
    rw [if_pos hdc]
    simp only [hw1 trivial, hw2 trivial]
    have := ev_match_loop p t hp ht hokp hokt s (i + 1) (a + 1) (n + ar c) out m (by omega) (by omega) h3 hn' (by rw [ht'] at hnt; rw [g3, ← hdc]; exact hnt) hm (by omega)
    rw [g3] at this
    exact this
   ·
    refine evIfp ((cel_ne d c).2 hdc) ?_
    rw [if_neg hdc]
    exact Ev.now _
theorem checkS_ok {t : List Cel} (h : checkS t = 0) : t.length ≤ 64 ∧ (∀ c ∈ t, Okc c) ∧ segN t 1 = some [] := by
 unfold checkS at h
 by_cases h1 : t.length > 64
 ·
  rw [if_pos h1] at h
  cases h
 ·
  rw [if_neg h1] at h
  by_cases h2 : errs t = 0
  ·
   rw [if_pos h2] at h
   by_cases h3 : segN t 1 = some []
   ·
    exact ⟨by omega, errs_ok h2, h3⟩
   ·
    rw [if_neg h3] at h
    cases h
  ·
   rw [if_neg h2] at h
   exact absurd h h2
def matchS (p t : List Cel) : List Bnd × Bool × Int := if checkS p = 0 then (if checkS t = 0 then matR (mat p t []) else ([], false, checkS t)) else ([], false, checkS p)
theorem ev_match (p t : List Cel) : Ev (fun k => match_Match.f k p t) (matchS p t) := by
 unfold match_Match.f matchS
 refine Ev.bind (ev_check p) ?_
 by_cases hp : checkS p = 0
 ·
  rw [if_pos hp]
  refine evIfp hp ?_
  refine Ev.bind (ev_check t) ?_
  by_cases ht : checkS t = 0
  ·
   rw [if_pos ht]
   refine evIfp ht ?_
   obtain ⟨p1, p2, p3⟩ := checkS_ok hp
   obtain ⟨t1, t2, t3⟩ := checkS_ok ht
   exact ev_match_loop p t p1 t1 p2 t2 p 0 0 1 [] [] (by omega) (by omega) rfl p3 t3 mapOk_nil (by simp)
  ·
   rw [if_neg ht]
   exact evIfn ht (Ev.now _)
 ·
  rw [if_neg hp]
  exact evIfn hp (Ev.now _)

/-! ### the document's Match -/
/-- n terms, each for itself. -/
def splitT : Nat → List Cel → List (List Cel)
 | 0, _ => []
 | n + 1, l => match segN l 1 with
  | none => []
  | some r => fstT l r :: splitT n r
def kidsS : List Cel → List (List Cel)
 | [] => []
 | c :: l => splitT (ar c) l
theorem splitT_spec : ∀ (n : Nat) (l : List Cel), segN l n = some [] → (splitT n l).flatten = l ∧ (splitT n l).length = n ∧ ∀ a ∈ splitT n l, segN a 1 = some []
 | 0, l, h => by
  rw [segN_zero] at h
  injection h with h
  subst h
  exact ⟨rfl, rfl, fun a ha => by cases ha⟩
 | n + 1, l, h => by
  obtain ⟨r, h1, h2⟩ := segN_split h
  obtain ⟨g1, g2, g3⟩ := splitT_spec n r h2
  have hf := segN_fst h1
  simp only [splitT, h1, List.flatten_cons, List.length_cons, List.mem_cons]
  refine ⟨by rw [g1]; exact hf.1.symm, by omega, fun a ha => ?_⟩
  rcases ha with rfl | ha
  ·
   exact hf.2
  ·
   exact g3 a ha
theorem ev_kids_loop (t : List Cel) (ht : t.length ≤ 64) (hok : ∀ c ∈ t, Okc c) : ∀ (n a : Nat) (out : List (List Cel)), a ≤ t.length → segN (t.drop a) n = some [] → out.length ≤ 64 → out.length + n ≤ 64 → 0 < a →
 Ev (fun k => aumbryref04_Kids.l0 k t out (a : Int)) (out ++ splitT n (t.drop a))
 | 0, a, out, ha, hn, ho, hon, hp => by
  rw [segN_zero] at hn
  injection hn with hn
  have := drop_nil_len ha hn
  refine Ev.step (fun k => (show aumbryref04_Kids.l0 (k + 1) t out (a : Int) = _ from by rw [aumbryref04_Kids.l0])) ?_
  refine evIfn (by omega) ?_
  simp only [splitT, List.append_nil]
  exact Ev.now _
 | n + 1, a, out, ha, hn, ho, hon, hp => by
  obtain ⟨r, hr, hrn⟩ := segN_split hn
  have hlt : a < t.length := by
   rcases Nat.lt_or_ge a t.length with h | h
   ·
    exact h
   ·
    rw [List.drop_eq_nil_of_le h] at hr
    cases hr
  obtain ⟨q, hq, hqr⟩ := segN_suffix hr
  rw [List.drop_drop] at hqr
  rw [List.length_drop] at hq
  have hrl : r.length = t.length - (a + q) := by rw [← hqr, List.length_drop]
  have hbeh : behS t a 1 = ((a + q : Nat) : Int) := by unfold behS; rw [hr]; simp only; omega
  have hpart : ((t.take ((((a + q : Nat) : Int)) : Int).toNat).drop (a : Int).toNat) = fstT (t.drop a) r := by
   unfold fstT
   rw [List.length_drop]
   simp only [Int.toNat_natCast]
   rw [List.drop_take]
   congr 1
   omega
  have hfl : (fstT (t.drop a) r).length ≤ 64 := by unfold fstT; rw [List.length_take, List.length_drop]; omega
  refine Ev.step (fun k => (show aumbryref04_Kids.l0 (k + 1) t out (a : Int) = _ from by rw [aumbryref04_Kids.l0])) ?_
  refine evIfp (by omega) ?_
  refine Ev.bind (ev_refBehind t ht hok a ha) ?_
  rw [hbeh]
  refine evIfp (by omega) (evIfp (by omega) (evIfp (by omega) ?_))
  rw [hpart]
  refine Ev.bind (evIs (copy_at _ (by omega))) ?_
  refine evIfp (by omega) ?_
  refine Ev.bind (ev_refBehind t ht hok a ha) ?_
  rw [hbeh]
  have := ev_kids_loop t ht hok n (a + q) (out ++ [fstT (t.drop a) r]) (by omega) (by rw [hqr]; exact hrn) (by simp; omega) (by simp; omega) (by omega)
  have e : out ++ splitT (n + 1) (t.drop a) = out ++ [fstT (t.drop a) r] ++ splitT n (t.drop (a + q)) := by
   simp only [splitT, hr, hqr, List.append_assoc, List.singleton_append]
  rw [e]
  exact this
theorem ev_kids {t : List Cel} (ht : t.length ≤ 64) (hok : ∀ c ∈ t, Okc c) (hs : segN t 1 = some []) : Ev (fun k => aumbryref04_Kids.f k t) (kidsS t) := by
 unfold aumbryref04_Kids.f
 rcases t with _ | ⟨c, l⟩
 ·
  cases hs
 have hc := hok c (List.mem_cons_self ..)
 have hh := hc.hi
 have hs' : segN l (ar c) = some [] := by have : segN l (0 + ar c) = some [] := hs; rwa [Nat.zero_add] at this
 have har : ar c ≤ 4 := by unfold ar; omega
 exact ev_kids_loop (c :: l) ht hok (ar c) 1 [] (by simp) hs' (by simp) (by simp; omega) (by omega)

theorem mat_append : ∀ (p t : List Cel) (n : Nat) (out : List Bnd) (p2 t2 : List Cel), (∀ c ∈ p, Okc c) → segN p n = some [] → segN t n = some [] →
 mat (p ++ p2) (t ++ t2) out = (mat p t out).bind fun x => mat p2 t2 x.1
 | [], t, n, out, p2, t2, hp, h1, h2 => by
  have h0 := segN_nil_pos h1
  subst h0
  rw [segN_zero] at h2
  injection h2 with h2
  subst h2
  rfl
 | c :: p, t, n, out, p2, t2, hp, h1, h2 => by
  have hc := hp c (List.mem_cons_self ..)
  have hp' : ∀ x ∈ p, Okc x := fun x hx => hp x (List.mem_cons_of_mem _ hx)
  obtain ⟨n, rfl⟩ : ∃ q, n = q + 1 := by
   cases n with
   | zero => rw [segN_zero] at h1; injection h1 with h1; cases h1
   | succ n => exact ⟨n, rfl⟩
  have h1' : segN p (n + ar c) = some [] := h1
  show (if kindS c.f0 = 2 then _ else _) = Option.bind (if kindS c.f0 = 2 then _ else _) _
  by_cases hv : kindS c.f0 = 2
  ·
   have hac : ar c = 0 := by unfold ar; rw [hc.var hv]; rfl
   rw [hac, Nat.add_zero] at h1'
   rw [if_pos hv, if_pos hv]
   obtain ⟨q, hq1, hq2⟩ := segN_split h2
   have hf : fstT (t ++ t2) (q ++ t2) = fstT t q := by
    have := segN_len hq1
    unfold fstT
    simp only [List.length_append]
    rw [List.take_append_of_le_length (by omega)]
    congr 1
    omega
   rw [segN_append t2 hq1, hq1]
   simp only [hf]
   cases hl : lookB out c.f0 with
   | none => exact mat_append p q n _ p2 t2 hp' h1' hq2
   | some v =>
    simp only
    by_cases he : v = fstT t q
    ·
     rw [if_pos he, if_pos he]
     exact mat_append p q n _ p2 t2 hp' h1' hq2
    ·
     rw [if_neg he, if_neg he]
     rfl
  ·
   rw [if_neg hv, if_neg hv]
   rcases t with _ | ⟨d, t⟩
   ·
    cases h2
   ·
    show (if d = c then mat (p ++ p2) (t ++ t2) out else none) = Option.bind (if d = c then mat p t out else none) _
    by_cases he : d = c
    ·
     rw [if_pos he, if_pos he]
     subst he
     exact mat_append p t (n + ar d) out p2 t2 hp' h1' h2
    ·
     rw [if_neg he, if_neg he]
     rfl
end Go.Proofs.YtpnamhplhdaphaaDoor.P.M

-- ==== PQd
/- Plain laws, part d: the document's Match is the program's. -/
namespace Go.Proofs.YtpnamhplhdaphaaDoor.P.M
open Go.RowKit Go.Proofs.YtpnamhplhdaphaaDoorW.PrintWords
set_option linter.unusedVariables false
set_option linter.unusedSimpArgs false

theorem rd_bnd {t : List Bnd} {n : Nat} {c : Bnd} {s : List Bnd} (h : t.drop n = c :: s) : rd_T109 t (n : Int) = c := by
 unfold rd_T109
 exact (drop_cons h).2.1 _
theorem rd_trm {t : List (List Cel)} {n : Nat} {c : List Cel} {s : List (List Cel)} (h : t.drop n = c :: s) : rd_L3 t (n : Int) = c := by
 unfold rd_L3
 exact (drop_cons h).2.1 _
theorem up_cast (a : Nat) (h : a < 9223372036854775807) : wrap64 ((a : Int) + 1) = ((a + 1 : Nat) : Int) := by rw [wrap_up (by omega) (by omega)]; rfl

def atS (l : List Bnd) (s : ByteArray) : Int := match l.findIdx? (fun b => decide (b.f0 = s)) with
 | none => -1
 | some j => (j : Int)
theorem ev_at_loop (l : List Bnd) (s : ByteArray) (hl : l.length ≤ 9223372036854775806) : ∀ (u : List Bnd) (a : Nat), a ≤ l.length → l.drop a = u →
 Ev (fun k => aumbryref05_At.l0 k l s (l.length : Int) (a : Int)) (match u.findIdx? (fun b => decide (b.f0 = s)) with | none => -1 | some j => ((a + j : Nat) : Int))
 | [], a, ha, hu => by
  have h1 := drop_nil_len ha hu
  refine Ev.step (fun k => (show aumbryref05_At.l0 (k + 1) l s (l.length : Int) (a : Int) = _ from by rw [aumbryref05_At.l0])) ?_
  exact evIfn (by omega) (Ev.now _)
 | b :: u, a, ha, hu => by
  obtain ⟨h1, _, h3⟩ := drop_cons hu
  refine Ev.step (fun k => (show aumbryref05_At.l0 (k + 1) l s (l.length : Int) (a : Int) = _ from by rw [aumbryref05_At.l0])) ?_
  refine evIfp (by omega) (evIfp (by omega) (evIfp (by omega) ?_))
  simp only [rd_bnd hu, up_cast a (by omega)]
  by_cases hb : b.f0 = s
  ·
   refine evIfp ((bytes_eq _ _).2 hb) ?_
   simp only [List.findIdx?_cons, hb, decide_true, if_true]
   exact Ev.now _
  ·
   refine evIfn (fun h => hb ((bytes_eq _ _).1 h)) ?_
   have := ev_at_loop l s hl u (a + 1) (by omega) h3
   have e : (match (b :: u).findIdx? (fun b => decide (b.f0 = s)) with | none => (-1 : Int) | some j => ((a + j : Nat) : Int)) = (match u.findIdx? (fun b => decide (b.f0 = s)) with | none => -1 | some j => ((a + 1 + j : Nat) : Int)) := by
    simp only [List.findIdx?_cons, hb, decide_false]
    cases u.findIdx? (fun b => decide (b.f0 = s)) with
    | none => rfl
    | some j => show ((a + (j + 1) : Nat) : Int) = ((a + 1 + j : Nat) : Int); omega
   rw [e]
   exact this
theorem ev_at (l : List Bnd) (s : ByteArray) (hl : l.length ≤ 9223372036854775806) : Ev (fun k => aumbryref05_At.f k l s) (atS l s) := by
 unfold aumbryref05_At.f atS
 have := ev_at_loop l s hl l 0 (by omega) rfl
 simp only [Nat.zero_add] at this
 exact this
theorem atS_look (l : List Bnd) (s : ByteArray) : (lookB l s = none ∧ atS l s = -1) ∨ ∃ (j : Nat) (b : Bnd), l[j]? = some b ∧ b.f0 = s ∧ lookB l s = some b.f1 ∧ atS l s = (j : Int) ∧ j < l.length ∧ ∀ i : Nat, i < j → ∀ c, l[i]? = some c → c.f0 ≠ s := by
 unfold lookB atS
 induction l with
 | nil => exact .inl ⟨rfl, rfl⟩
 | cons b l ih =>
  by_cases hb : b.f0 = s
  ·
   refine .inr ⟨0, b, rfl, hb, ?_, ?_, by simp, fun i hi => by omega⟩
   ·
    simp [hb]
   ·
    simp [List.findIdx?_cons, hb]
  ·
   rcases ih with ⟨h1, h2⟩ | ⟨j, c, h1, h2, h3, h4, h5, h6⟩
   ·
    refine .inl ⟨?_, ?_⟩
    ·
     rw [List.find?_cons_of_neg (by simp [hb])]
     exact h1
    ·
     simp only [List.findIdx?_cons, hb, decide_false]
     cases hf : l.findIdx? (fun b => decide (b.f0 = s)) with
     | none => rfl
     | some j => rw [hf] at h2; simp only at h2; omega
   ·
    refine .inr ⟨j + 1, c, by simpa using h1, h2, ?_, ?_, by simp; omega, fun i hi x hx => ?_⟩
    ·
     rw [List.find?_cons_of_neg (by simp [hb])]
     exact h3
    ·
     simp only [List.findIdx?_cons, hb, decide_false]
     cases hf : l.findIdx? (fun b => decide (b.f0 = s)) with
     | none => rw [hf] at h4; simp only at h4; omega
     | some q => rw [hf] at h4; simp only at h4; simp; omega
    ·
     cases i with
     | zero => simp at hx; subst hx; exact hb
     | succ i => exact h6 i (by omega) x (by simpa using hx)
theorem ev_var (p : List Cel) : Ev (fun k => aumbryref05_Var.f k p) (match p with | [c] => kindS c.f0 == 2 | _ => false) := by
 unfold aumbryref05_Var.f
 match p with
 | [] => exact evIfn (by simp) (Ev.now _)
 | [c] =>
  refine evIfp (by simp) (evIfp (by simp) ?_)
  exact Ev.bind (ev_refKind c.f0) (Ev.now _)
 | a :: b :: l => exact evIfn (by simp; omega) (Ev.now _)

def fitL : List (List Cel) → List (List Cel) → List Bnd → Option (List Bnd)
 | [], _, out => some out
 | _ :: _, [], _ => none
 | a :: aa, b :: bb, out => (mat a b out).bind fun x => fitL aa bb x.1
theorem mat_flat : ∀ (aa bb : List (List Cel)) (out : List Bnd), aa.length = bb.length → (∀ a ∈ aa, segN a 1 = some [] ∧ ∀ c ∈ a, Okc c) → (∀ b ∈ bb, segN b 1 = some []) →
 mat aa.flatten bb.flatten out = (fitL aa bb out).map fun o => (o, [])
 | [], [], out, _, _, _ => rfl
 | [], b :: bb, out, h, _, _ => by cases h
 | a :: aa, [], out, h, _, _ => by cases h
 | a :: aa, b :: bb, out, h, ha, hb => by
  have h1 := ha a (List.mem_cons_self ..)
  have h2 := hb b (List.mem_cons_self ..)
  simp only [List.flatten_cons, fitL]
  rw [mat_append a b 1 out aa.flatten bb.flatten h1.2 h1.1 h2]
  cases hm : mat a b out with
  | none => rfl
  | some x =>
   simp only [Option.bind_some]
   exact mat_flat aa bb x.1 (by simpa using h) (fun x hx => ha x (List.mem_cons_of_mem _ hx)) (fun x hx => hb x (List.mem_cons_of_mem _ hx))
theorem mat_len : ∀ (p t : List Cel) (out o : List Bnd) (r : List Cel), mat p t out = some (o, r) → o.length ≤ out.length + p.length
 | [], t, out, o, r, h => by
  have h' : some (out, t) = some (o, r) := h
  injection h' with h'
  injection h' with h' _
  rw [← h']
  simp
 | c :: p, t, out, o, r, h => by
  have h : (if kindS c.f0 = 2 then _ else _) = some (o, r) := h
  by_cases hv : kindS c.f0 = 2
  ·
   rw [if_pos hv] at h
   cases hq : segN t 1 with
   | none => rw [hq] at h; cases h
   | some q =>
    rw [hq] at h
    simp only at h
    cases hl : lookB out c.f0 with
    | none =>
     rw [hl] at h
     have := mat_len p q _ o r h
     simp at this
     simp
     omega
    | some v =>
     rw [hl] at h
     simp only at h
     by_cases he : v = fstT t q
     ·
      rw [if_pos he] at h
      have := mat_len p q _ o r h
      simp
      omega
     ·
      rw [if_neg he] at h
      cases h
  ·
   rw [if_neg hv] at h
   rcases t with _ | ⟨d, t⟩
   ·
    cases h
   ·
    have h9 : (if d = c then mat p t out else none) = some (o, r) := h
    by_cases he : d = c
    ·
     rw [if_pos he] at h9
     have := mat_len p t _ o r h9
     simp
     omega
    ·
     rw [if_neg he] at h9
     cases h9
def sumLen (aa : List (List Cel)) : Nat := (aa.map List.length).sum
theorem sumLen_flat (aa : List (List Cel)) : aa.flatten.length = sumLen aa := by simp [sumLen, List.length_flatten]

theorem ev_fit : ∀ (n : Nat) (p t : List Cel) (l : List Bnd), p.length ≤ n → p.length ≤ 64 → t.length ≤ 64 → (∀ c ∈ p, Okc c) → (∀ c ∈ t, Okc c) → segN p 1 = some [] → segN t 1 = some [] → l.length + p.length ≤ 1000000 →
 ∃ x, Ev (fun k => aumbryref05_Fit.f k p t l) (x, (mat p t l).isSome) ∧ ∀ o r, mat p t l = some (o, r) → x = o
 | 0, p, t, l, hn, hp, ht, hop, hot, hsp, hst, hl => by
  have : p = [] := List.eq_nil_of_length_eq_zero (by omega)
  subst this
  cases hsp
 | n + 1, p, t, l, hn, hp, ht, hop, hot, hsp, hst, hl => by
  rcases p with _ | ⟨c, p⟩
  ·
   cases hsp
  rcases t with _ | ⟨d, t⟩
  ·
   cases hst
  have hc := hop c (List.mem_cons_self ..)
  have hsp' : segN p (ar c) = some [] := by have : segN p (0 + ar c) = some [] := hsp; rwa [Nat.zero_add] at this
  have hst' : segN t (ar d) = some [] := by have : segN t (0 + ar d) = some [] := hst; rwa [Nat.zero_add] at this
  simp only [List.length_cons] at hn hp ht hl
  by_cases hv : kindS c.f0 = 2
  ·
   have hac : ar c = 0 := by unfold ar; rw [hc.var hv]; rfl
   rw [hac, segN_zero] at hsp'
   injection hsp' with hsp'
   subst hsp'
   have hm : mat [c] (d :: t) l = (match lookB l c.f0 with | none => some (l ++ [⟨c.f0, d :: t⟩], []) | some v => if v = d :: t then some (l, []) else none) := by
    show (if kindS c.f0 = 2 then _ else _) = _
    rw [if_pos hv, hst]
    have : fstT (d :: t) [] = d :: t := by unfold fstT; simp
    simp only [this]
    cases lookB l c.f0 with
    | none => rfl
    | some v => rfl
   rw [hm]
   rcases atS_look l c.f0 with ⟨hl1, hl2⟩ | ⟨j, b, h1, h2, h3, h4, h5, _⟩
   ·
    rw [hl1]
    refine ⟨l ++ [⟨c.f0, d :: t⟩], ?_, fun o r h => ?_⟩
    ·
     refine Ev.step (fun k => (show aumbryref05_Fit.f (k + 1) [c] (d :: t) l = _ from by rw [aumbryref05_Fit.f])) ?_
     refine Ev.bind (ev_var [c]) ?_
     refine evIfp (by simp [hv]) (evIfp (by simp) ?_)
     simp only [rd_cel (t := [c]) (n := 0) (c := c) (s := []) rfl, show ((0 : Int)) = ((0 : Nat) : Int) from rfl]
     refine Ev.bind (ev_at l c.f0 (by omega)) ?_
     rw [hl2]
     refine evIfp (by omega) ?_
     refine Ev.bind (evIs (copy_at (d :: t) (by simp; omega))) ?_
     exact evIfp (by omega) (Ev.now _)
    ·
     injection h with h
     injection h with h _
   ·
    rw [h3]
    have hrd : (rd_T109 l (j : Int)).f1 = b.f1 := by
     unfold rd_T109
     rw [List.getD_eq_getElem?_getD, Int.toNat_natCast, h1]
     rfl
    refine ⟨l, ?_, fun o r h => ?_⟩
    ·
     refine Ev.step (fun k => (show aumbryref05_Fit.f (k + 1) [c] (d :: t) l = _ from by rw [aumbryref05_Fit.f])) ?_
     refine Ev.bind (ev_var [c]) ?_
     refine evIfp (by simp [hv]) (evIfp (by simp) ?_)
     simp only [rd_cel (t := [c]) (n := 0) (c := c) (s := []) rfl, show ((0 : Int)) = ((0 : Nat) : Int) from rfl]
     refine Ev.bind (ev_at l c.f0 (by omega)) ?_
     rw [h4]
     refine evIfn (by omega) (evIfp (by omega) (evIfp (by omega) ?_))
     simp only [hrd]
     refine Ev.bind (ev_refSame4 b.f1 (d :: t) (.inr (by simp; omega))) ?_
     have : (match some b.f1 with | none => some (l ++ [(⟨c.f0, d :: t⟩ : Bnd)], ([] : List Cel)) | some v => if v = d :: t then some (l, ([] : List Cel)) else none).isSome = decide (b.f1 = d :: t) := by
      by_cases he : b.f1 = d :: t <;> simp [he]
     rw [this]
     exact Ev.now _
    ·
     simp only at h
     by_cases he : b.f1 = d :: t
     ·
      rw [if_pos he] at h
      injection h with h
      injection h with h _
     ·
      rw [if_neg he] at h
      cases h
  ·
   have hm : mat (c :: p) (d :: t) l = if d = c then mat p t l else none := by
    show (if kindS c.f0 = 2 then _ else _) = _
    rw [if_neg hv]
   rw [hm]
   have hvar : (match (c :: p) with | [c] => kindS c.f0 == 2 | _ => false) = false := by
    rcases p with _ | ⟨a, p⟩
    ·
     simp [hv]
    ·
     rfl
   by_cases hdc : d = c
   ·
    rw [if_pos hdc]
    subst hdc
    obtain ⟨a1, a2, a3⟩ := splitT_spec _ _ hsp'
    obtain ⟨b1, b2, b3⟩ := splitT_spec _ _ hst'
    have hpo : ∀ x ∈ p, Okc x := fun x hx => hop x (List.mem_cons_of_mem _ hx)
    have hto : ∀ x ∈ t, Okc x := fun x hx => hot x (List.mem_cons_of_mem _ hx)
    have hh := hc.hi
    have har : ar d ≤ 4 := by unfold ar; omega
    obtain ⟨aa, has⟩ : ∃ aa, aa = splitT (ar d) p := ⟨_, rfl⟩
    obtain ⟨bb, hbs⟩ : ∃ bb, bb = splitT (ar d) t := ⟨_, rfl⟩
    rw [← has] at a1 a2 a3
    rw [← hbs] at b1 b2 b3
    have hka : kidsS (d :: p) = aa := by rw [has]; rfl
    have hkb : kidsS (d :: t) = bb := by rw [hbs]; rfl
    have haok : ∀ a ∈ aa, segN a 1 = some [] ∧ ∀ c ∈ a, Okc c := fun a ha => ⟨a3 a ha, fun x hx => hpo x (by rw [← a1]; exact List.mem_flatten.2 ⟨a, ha, hx⟩)⟩
    have hbok : ∀ b ∈ bb, segN b 1 = some [] ∧ ∀ c ∈ b, Okc c := fun b hb => ⟨b3 b hb, fun x hx => hto x (by rw [← b1]; exact List.mem_flatten.2 ⟨b, hb, hx⟩)⟩
    have hsum : sumLen aa = p.length := by rw [← sumLen_flat, a1]
    have hsumb : sumLen bb = t.length := by rw [← sumLen_flat, b1]
    have hflat : mat p t l = (fitL aa bb l).map fun o => (o, []) := by
     rw [← a1, ← b1]
     exact mat_flat aa bb l (by omega) haok (fun b hb => (hbok b hb).1)
    have loop : ∀ (A B : List (List Cel)) (i : Nat) (l2 : List Bnd), i ≤ aa.length → aa.drop i = A → bb.drop i = B → l2.length + sumLen A ≤ 1000000 → sumLen A ≤ p.length → sumLen B ≤ t.length →
     ∃ x, Ev (fun k => aumbryref05_Fit.l0 k l2 aa bb (aa.length : Int) (i : Int)) (x, (fitL A B l2).isSome) ∧ ∀ o, fitL A B l2 = some o → x = o := by
     intro A
     induction A with
     | nil =>
      intro B i l2 hi hA hB hl2 _ _
      have := drop_nil_len hi hA
      refine ⟨l2, ?_, fun o h => by injection h⟩
      refine Ev.step (fun k => (show aumbryref05_Fit.l0 (k + 1) l2 aa bb (aa.length : Int) (i : Int) = _ from by rw [aumbryref05_Fit.l0])) ?_
      exact evIfn (by omega) (Ev.now _)
     | cons a A ihA =>
      intro B i l2 hi hA hB hl2 hsA hsB
      obtain ⟨g1, _, g3⟩ := drop_cons hA
      rcases B with _ | ⟨b, B⟩
      ·
       have := drop_nil_len (by omega) hB
       omega
      obtain ⟨g4, _, g6⟩ := drop_cons hB
      have hma : a ∈ aa := List.mem_of_mem_drop (hA ▸ List.mem_cons_self ..)
      have hmb : b ∈ bb := List.mem_of_mem_drop (hB ▸ List.mem_cons_self ..)
      simp only [sumLen, List.map_cons, List.sum_cons] at hl2 hsA hsB
      obtain ⟨x, hx1, hx2⟩ := ev_fit n a b l2 (by omega) (by omega) (by omega) (haok a hma).2 (hbok b hmb).2 (haok a hma).1 (hbok b hmb).1 (by omega)
      cases hab : mat a b l2 with
      | none =>
       rw [hab] at hx1
       refine ⟨[], ?_, fun o h => by simp only [fitL, hab] at h; cases h⟩
       simp only [fitL, hab]
       refine Ev.step (fun k => (show aumbryref05_Fit.l0 (k + 1) l2 aa bb (aa.length : Int) (i : Int) = _ from by rw [aumbryref05_Fit.l0])) ?_
       refine evIfp (by omega) (evIfp (by omega) (evIfp (by omega) (evIfp (by omega) ?_)))
       simp only [rd_trm hA, rd_trm hB]
       refine Ev.bind hx1 ?_
       exact evIfn (by simp) (Ev.now _)
      | some y =>
       obtain ⟨o, r⟩ := y
       rw [hab] at hx1
       have hxo : x = o := hx2 o r hab
       subst hxo
       have hlen := mat_len a b l2 x r hab
       obtain ⟨z, hz1, hz2⟩ := ihA B (i + 1) x (by omega) g3 g6 (by simp only [sumLen]; omega) (by simp only [sumLen]; omega) (by simp only [sumLen]; omega)
       refine ⟨z, ?_, fun o h => hz2 o (by simpa [fitL, hab] using h)⟩
       simp only [fitL, hab, Option.bind_some]
       refine Ev.step (fun k => (show aumbryref05_Fit.l0 (k + 1) l2 aa bb (aa.length : Int) (i : Int) = _ from by rw [aumbryref05_Fit.l0])) ?_
       refine evIfp (by omega) (evIfp (by omega) (evIfp (by omega) (evIfp (by omega) ?_)))
       simp only [rd_trm hA, rd_trm hB, up_cast i (by omega)]
       refine Ev.bind hx1 ?_
       exact evIfp (by simp) hz1
    obtain ⟨x, hx1, hx2⟩ := loop aa bb 0 l (by omega) rfl rfl (by omega) (by omega) (by omega)
    refine ⟨x, ?_, fun o r h => ?_⟩
    ·
     refine Ev.step (fun k => (show aumbryref05_Fit.f (k + 1) (d :: p) (d :: t) l = _ from by rw [aumbryref05_Fit.f])) ?_
     refine Ev.bind (ev_var (d :: p)) ?_
     refine evIfn (by rw [hvar]; simp) (evIfp (by simp) (evIfp (by simp) ?_))
     simp only [rd_cel (t := d :: p) (n := 0) (c := d) (s := p) rfl, rd_cel (t := d :: t) (n := 0) (c := d) (s := t) rfl, show ((0 : Int)) = ((0 : Nat) : Int) from rfl]
     refine evIfn (fun h => (cel_ne d d).1 h rfl) ?_
     refine Ev.bind (ev_kids (t := d :: p) (by simp; omega) hop hsp) ?_
     refine Ev.bind (ev_kids (t := d :: t) (by simp; omega) hot hst) ?_
     rw [hka, hkb]
     have e : (mat p t l).isSome = (fitL aa bb l).isSome := by rw [hflat]; cases fitL aa bb l <;> rfl
     rw [e]
     exact hx1
    ·
     rw [hflat] at h
     cases hf : fitL aa bb l with
     | none => rw [hf] at h; cases h
     | some o2 =>
      rw [hf] at h
      injection h with h
      injection h with h _
      rw [← h]
      exact hx2 o2 hf
   ·
    rw [if_neg hdc]
    refine ⟨[], ?_, fun o r h => by cases h⟩
    refine Ev.step (fun k => (show aumbryref05_Fit.f (k + 1) (c :: p) (d :: t) l = _ from by rw [aumbryref05_Fit.f])) ?_
    refine Ev.bind (ev_var (c :: p)) ?_
    refine evIfn (by rw [hvar]; simp) (evIfp (by simp) (evIfp (by simp) ?_))
    simp only [rd_cel (t := c :: p) (n := 0) (c := c) (s := p) rfl, rd_cel (t := d :: t) (n := 0) (c := d) (s := t) rfl, show ((0 : Int)) = ((0 : Nat) : Int) from rfl]
    exact evIfp ((cel_ne c d).2 (fun h => hdc h.symm)) (Ev.now _)
theorem ev_refMatch (p t : List Cel) : Ev (fun k => aumbryref05_Match.f k p t) (matchS p t) := by
 unfold aumbryref05_Match.f matchS
 refine Ev.bind (ev_refCheck p) ?_
 by_cases hp : checkS p = 0
 ·
  rw [if_pos hp]
  refine evIfp hp ?_
  refine Ev.bind (ev_refCheck t) ?_
  by_cases ht : checkS t = 0
  ·
   rw [if_pos ht]
   refine evIfp ht ?_
   obtain ⟨p1, p2, p3⟩ := checkS_ok hp
   obtain ⟨t1, t2, t3⟩ := checkS_ok ht
   obtain ⟨x, hx1, hx2⟩ := ev_fit p.length p t [] (Nat.le_refl _) p1 t1 p2 t2 p3 t3 (by simp; omega)
   refine Ev.bind hx1 ?_
   cases hm : mat p t [] with
   | none => exact evIfn (by simp) (Ev.now _)
   | some y =>
    obtain ⟨o, r⟩ := y
    have := hx2 o r hm
    subst this
    exact evIfp (by simp) (Ev.now _)
  ·
   rw [if_neg ht]
   exact evIfn ht (Ev.now _)
 ·
  rw [if_neg hp]
  exact evIfn hp (Ev.now _)

/-! ### binds alike -/
theorem mat_vals : ∀ (p t : List Cel) (out o : List Bnd) (r : List Cel) (N : Nat), t.length ≤ N → (∀ b ∈ out, b.f1.length ≤ N) → mat p t out = some (o, r) → ∀ b ∈ o, b.f1.length ≤ N
 | [], t, out, o, r, N, ht, ho, h => by
  have h' : some (out, t) = some (o, r) := h
  injection h' with h'
  injection h' with h' _
  rw [← h']
  exact ho
 | c :: p, t, out, o, r, N, ht, ho, h => by
  have h : (if kindS c.f0 = 2 then _ else _) = some (o, r) := h
  by_cases hv : kindS c.f0 = 2
  ·
   rw [if_pos hv] at h
   cases hq : segN t 1 with
   | none => rw [hq] at h; cases h
   | some q =>
    rw [hq] at h
    have hql := segN_len hq
    simp only at h
    cases hl : lookB out c.f0 with
    | none =>
     rw [hl] at h
     refine mat_vals p q _ o r N (by omega) (fun b hb => ?_) h
     rcases List.mem_append.1 hb with hb | hb
     ·
      exact ho b hb
     ·
      rw [List.mem_singleton.1 hb]
      unfold fstT
      simp only [List.length_take]
      omega
    | some v =>
     rw [hl] at h
     simp only at h
     by_cases he : v = fstT t q
     ·
      rw [if_pos he] at h
      exact mat_vals p q _ o r N (by omega) ho h
     ·
      rw [if_neg he] at h
      cases h
  ·
   rw [if_neg hv] at h
   rcases t with _ | ⟨d, t⟩
   ·
    cases h
   ·
    have h9 : (if d = c then mat p t out else none) = some (o, r) := h
    by_cases he : d = c
    ·
     rw [if_pos he] at h9
     simp only [List.length_cons] at ht
     exact mat_vals p t _ o r N (by omega) ho h9
    ·
     rw [if_neg he] at h9
     cases h9
theorem matchS_small (p t : List Cel) : (matchS p t).1.length ≤ 64 ∧ ∀ b ∈ (matchS p t).1, b.f1.length ≤ 64 := by
 unfold matchS
 by_cases hp : checkS p = 0
 ·
  rw [if_pos hp]
  by_cases ht : checkS t = 0
  ·
   rw [if_pos ht]
   obtain ⟨p1, p2, p3⟩ := checkS_ok hp
   obtain ⟨t1, t2, t3⟩ := checkS_ok ht
   cases hm : mat p t [] with
   | none => exact ⟨by simp [matR], fun b hb => by cases hb⟩
   | some y =>
    obtain ⟨o, r⟩ := y
    have h1 := mat_len p t [] o r hm
    exact ⟨by simp only [matR]; simp at h1; omega, fun b hb => mat_vals p t [] o r 64 t1 (fun b hb => by cases hb) hm b hb⟩
  ·
   rw [if_neg ht]
   exact ⟨by simp, fun b hb => by cases hb⟩
 ·
  rw [if_neg hp]
  exact ⟨by simp, fun b hb => by cases hb⟩
end Go.Proofs.YtpnamhplhdaphaaDoor.P.M

-- ==== PQf
/- Plain laws, part f: what a pattern becomes by binds: the program's Fill is the document's. -/
namespace Go.Proofs.YtpnamhplhdaphaaDoor.P.M
open Go.RowKit Go.Proofs.YtpnamhplhdaphaaDoorW.PrintWords
set_option linter.unusedVariables false
set_option linter.unusedSimpArgs false

def bErr : List Bnd → List Bnd → Int
 | _, [] => 0
 | seen, b :: u => if kindS b.f0 = 2 then (if (lookB seen b.f0).isSome = true then 9 else if checkS b.f1 = 0 then bErr (seen ++ [b]) u else checkS b.f1) else 4
def putS : List Cel → List Bnd → Option (List Cel)
 | [], _ => some []
 | c :: p, l => if kindS c.f0 = 2 then (match lookB l c.f0 with | none => none | some v => (putS p l).map (v ++ ·)) else (putS p l).map (c :: ·)
def putR (x : Option (List Cel)) : List Cel × Int := match x with
 | none => ([], 7)
 | some o => if o.length > 64 then ([], 6) else (o, 0)
def fillS (p : List Cel) (l : List Bnd) : List Cel × Int := if checkS p = 0 then (if bErr [] l = 0 then putR (putS p l) else ([], bErr [] l)) else ([], checkS p)

theorem lookB_mem {l : List Bnd} {s : ByteArray} {v : List Cel} (h : lookB l s = some v) : ∃ b ∈ l, b.f0 = s ∧ b.f1 = v := by
 unfold lookB at h
 cases hf : l.find? (fun b => decide (b.f0 = s)) with
 | none => rw [hf] at h; cases h
 | some b =>
  rw [hf] at h
  exact ⟨b, List.mem_of_find?_eq_some hf, by simpa using List.find?_some hf, by simpa using h⟩

/-! ### the program's -/
theorem ev_fill2 (p : List Cel) (l : List Bnd) (m : List Cel) (hp : p.length ≤ 64) (hok : ∀ c ∈ p, Okc c) (hm : MapOk m l) (hv : ∀ b ∈ l, b.f1.length ≤ 64) (hl : l.length ≤ 9223372036854775806) :
 ∀ (s : List Cel) (i : Nat) (out : List Cel), i ≤ p.length → p.drop i = s → out.length ≤ 64 * i → Ev (fun k => match_Fill.l1 k l m out p (p.length : Int) (i : Int)) (putR ((putS s l).map (out ++ ·)))
 | [], i, out, hi, hs, ho => by
  have h1 := drop_nil_len hi hs
  refine Ev.step (fun k => (show match_Fill.l1 (k + 1) l m out p (p.length : Int) (i : Int) = _ from by rw [match_Fill.l1])) ?_
  refine evIfn (by omega) ?_
  simp only [putS, Option.map_some, List.append_nil, putR]
  by_cases h : out.length > 64
  ·
   rw [if_pos h]
   exact evIfp (by omega) (Ev.now _)
  ·
   rw [if_neg h]
   exact evIfn (by omega) (Ev.now _)
 | c :: s, i, out, hi, hs, ho => by
  obtain ⟨h1, _, h3⟩ := drop_cons hs
  have hc : Okc c := hok c (List.mem_of_mem_drop (hs ▸ List.mem_cons_self ..))
  have hks := kindS_size hc.kind
  refine Ev.step (fun k => (show match_Fill.l1 (k + 1) l m out p (p.length : Int) (i : Int) = _ from by rw [match_Fill.l1])) ?_
  refine evIfp (by omega) (evIfp (by omega) (evIfp (by omega) ?_))
  simp only [rd_cel hs, up_cast i (by omega)]
  refine evIfp (by omega) ?_
  refine Ev.bind (ev_variable c) ?_
  by_cases hk : kindS c.f0 = 2
  ·
   refine evIfp (by simp [hk]) ?_
   cases hlk : lookB l c.f0 with
   | none =>
    refine evIfn (by rw [hm.has, hlk]; simp) ?_
    have : putS (c :: s) l = none := by simp only [putS, hk, if_true, hlk]
    rw [this]
    exact Ev.now _
   | some v =>
    obtain ⟨j, hj1, hj2, b, hj3, hj4⟩ := hm.at_ _ _ hlk
    have hrd : (rd_T109 l (mapAt m c.f0)).f1 = v := by
     rw [hj1]
     unfold rd_T109
     rw [List.getD_eq_getElem?_getD, Int.toNat_natCast, hj3]
     exact hj4
    obtain ⟨b', hb', _, hb2⟩ := lookB_mem hlk
    have hvl : v.length ≤ 64 := by rw [← hb2]; exact hv b' hb'
    refine evIfp (by rw [hm.has, hlk]; simp) ?_
    refine evIfp (by omega) (evIfp (by omega) ?_)
    simp only [hrd]
    refine evIfp (by omega) ?_
    have := ev_fill2 p l m hp hok hm hv hl s (i + 1) (out ++ v) (by omega) h3 (by simp; omega)
    have e : (putS (c :: s) l).map (out ++ ·) = (putS s l).map (out ++ v ++ ·) := by
     simp only [putS, hk, if_true, hlk, Option.map_map]
     congr 1
     funext x
     simp
    rw [e]
    exact this
  ·
   refine evIfn (by simp [hk]) ?_
   refine evIfp (by omega) ?_
   have := ev_fill2 p l m hp hok hm hv hl s (i + 1) (out ++ [c]) (by omega) h3 (by simp; omega)
   have e : (putS (c :: s) l).map (out ++ ·) = (putS s l).map (out ++ [c] ++ ·) := by
    simp only [putS, hk, if_false, Option.map_map]
    congr 1
    funext x
    simp
   rw [e]
   exact this
theorem ev_fill1 (p : List Cel) (l : List Bnd) (hp : p.length ≤ 64) (hok : ∀ c ∈ p, Okc c) (hl : l.length ≤ 9223372036854775806) :
 ∀ (u : List Bnd) (i : Nat) (m : List Cel), i ≤ l.length → l.drop i = u → MapOk m (l.take i) → (∀ b ∈ l.take i, b.f1.length ≤ 64) →
 Ev (fun k => match_Fill.l0 k p l m l (l.length : Int) (i : Int)) (if bErr (l.take i) u = 0 then putR (putS p l) else ([], bErr (l.take i) u))
 | [], i, m, hi, hu, hm, hv => by
  have h1 := drop_nil_len hi hu
  refine Ev.step (fun k => (show match_Fill.l0 (k + 1) p l m l (l.length : Int) (i : Int) = _ from by rw [match_Fill.l0])) ?_
  refine evIfn (by omega) ?_
  rw [h1, List.take_length] at hm hv
  have := ev_fill2 p l m hp hok hm hv hl p 0 [] (by omega) rfl (by simp)
  simp only [bErr, if_true]
  have e : (putS p l).map (([] : List Cel) ++ ·) = putS p l := by cases putS p l <;> rfl
  rw [e] at this
  exact this
 | b :: u, i, m, hi, hu, hm, hv => by
  obtain ⟨h1, h2, h3⟩ := drop_cons hu
  have htk : l.take (i + 1) = l.take i ++ [b] := by
   rw [List.take_succ_eq_append_getElem h1]
   have := h2 b
   rw [List.getD_eq_getElem?_getD, List.getElem?_eq_getElem h1] at this
   rw [show l[i] = b from this]
  have hln : (l.take i).length = i := by rw [List.length_take]; omega
  have hml := hm.len
  refine Ev.step (fun k => (show match_Fill.l0 (k + 1) p l m l (l.length : Int) (i : Int) = _ from by rw [match_Fill.l0])) ?_
  refine evIfp (by omega) (evIfp (by omega) (evIfp (by omega) ?_))
  simp only [rd_bnd hu, up_cast i (by omega)]
  refine Ev.bind (ev_kind b.f0) ?_
  by_cases hk : kindS b.f0 = 2
  ·
   have hks := kindS_size (s := b.f0) (by rw [hk]; decide)
   refine evIfp hk (evIfp (by omega) ?_)
   by_cases hh : (lookB (l.take i) b.f0).isSome = true
   ·
    refine evIfp (by rw [hm.has]; exact hh) ?_
    simp only [bErr, hk, if_true, hh]
    exact Ev.now _
   ·
    refine evIfn (by rw [hm.has]; exact hh) ?_
    refine Ev.bind (ev_check b.f1) ?_
    by_cases hc : checkS b.f1 = 0
    ·
     refine evIfp hc (evIfp (by omega) ?_)
     have hlk : lookB (l.take i) b.f0 = none := by
      cases hq : lookB (l.take i) b.f0 with
      | none => rfl
      | some v => rw [hq] at hh; exact absurd rfl hh
     have hm' : MapOk (mapPut m b.f0 (i : Int)) (l.take (i + 1)) := by
      have := mapOk_put hm b.f0 b.f1 hlk
      rw [hln] at this
      rw [htk]
      exact this
     have := ev_fill1 p l hp hok hl u (i + 1) (mapPut m b.f0 (i : Int)) (by omega) h3 hm' (fun x hx => by
      rw [htk] at hx
      rcases List.mem_append.1 hx with hx | hx
      ·
       exact hv x hx
      ·
       rw [List.mem_singleton.1 hx]
       exact (checkS_ok hc).1)
     have e : bErr (l.take i) (b :: u) = bErr (l.take (i + 1)) u := by
      simp only [bErr, hk, if_true, hh, hc, htk]
      simp
     rw [e]
     exact this
    ·
     refine evIfn hc ?_
     have e : bErr (l.take i) (b :: u) = checkS b.f1 := by
      simp only [bErr, hk, if_true, hh, hc, if_false]
      simp
     rw [e, if_neg hc]
     exact Ev.now _
  ·
   refine evIfn hk ?_
   simp only [bErr, hk, if_false]
   exact Ev.now _
theorem ev_fill (p : List Cel) (l : List Bnd) (hl : l.length ≤ 9223372036854775806) : Ev (fun k => match_Fill.f k p l) (fillS p l) := by
 unfold match_Fill.f fillS
 refine Ev.bind (ev_check p) ?_
 by_cases hp : checkS p = 0
 ·
  obtain ⟨p1, p2, _⟩ := checkS_ok hp
  rw [if_pos hp]
  refine evIfp hp ?_
  have := ev_fill1 p l p1 p2 hl l 0 [] (by omega) rfl mapOk_nil (fun b hb => by simp at hb)
  simp only [List.take_zero] at this
  exact this
 ·
  rw [if_neg hp]
  exact evIfn hp (Ev.now _)

/-! ### the document's -/
theorem atS_before (l : List Bnd) (i : Nat) (b : Bnd) (h : l[i]? = some b) : (atS l b.f0 < (i : Int)) ↔ (lookB (l.take i) b.f0).isSome = true := by
 rcases atS_look l b.f0 with ⟨h1, h2⟩ | ⟨j, c, h1, h2, h3, h4, h5, h6⟩
 ·
  exfalso
  have hi := (List.getElem?_eq_some_iff.1 h).1
  have hm : b ∈ l := List.mem_of_getElem? h
  unfold lookB at h1
  cases hf : l.find? (fun x => decide (x.f0 = b.f0)) with
  | none =>
   have := List.find?_eq_none.1 hf b hm
   simp at this
  | some x => rw [hf] at h1; cases h1
 ·
  rw [h4]
  constructor
  ·
   intro hj
   have hji : j < i := by omega
   unfold lookB
   cases hf : (l.take i).find? (fun x => decide (x.f0 = b.f0)) with
   | none =>
    have hmem : c ∈ l.take i := by
     rw [List.mem_iff_getElem?]
     exact ⟨j, by rw [List.getElem?_take, if_pos hji]; exact h1⟩
    have := List.find?_eq_none.1 hf c hmem
    simp [h2] at this
   | some x => rfl
  ·
   intro hs
   rcases Nat.lt_or_ge j i with hji | hji
   ·
    omega
   ·
    exfalso
    cases hq : lookB (l.take i) b.f0 with
    | none => rw [hq] at hs; cases hs
    | some v =>
     obtain ⟨x, hx, hx2, _⟩ := lookB_mem hq
     obtain ⟨q, hq1⟩ := List.mem_iff_getElem?.1 hx
     have hqi : q < i := by
      have := (List.getElem?_eq_some_iff.1 hq1).1
      rw [List.length_take] at this
      omega
     rw [List.getElem?_take, if_pos hqi] at hq1
     exact h6 q (by omega) x hq1 hx2
instance decMemB (c : ByteArray) (l : List ByteArray) : Decidable (c ∈ l) := decidable_of_iff (l.any (fun x => decide (x = c)) = true) (by simp)
def varsS : List Cel → List ByteArray → List ByteArray
 | [], acc => acc
 | c :: p, acc => if kindS c.f0 = 2 then (if c.f0 ∈ acc then varsS p acc else varsS p (acc ++ [c.f0])) else varsS p acc
theorem mem_varsS : ∀ (p : List Cel) (acc : List ByteArray) (v : ByteArray), v ∈ varsS p acc ↔ v ∈ acc ∨ ∃ c ∈ p, kindS c.f0 = 2 ∧ c.f0 = v
 | [], acc, v => by simp [varsS]
 | c :: p, acc, v => by
  simp only [varsS]
  by_cases hk : kindS c.f0 = 2
  ·
   rw [if_pos hk]
   by_cases hm : c.f0 ∈ acc
   ·
    rw [if_pos hm, mem_varsS p acc v]
    constructor
    ·
     rintro (h | ⟨d, h1, h2⟩)
     ·
      exact .inl h
     ·
      exact .inr ⟨d, List.mem_cons_of_mem _ h1, h2⟩
    ·
     rintro (h | ⟨d, h1, h2, h3⟩)
     ·
      exact .inl h
     ·
      rcases List.mem_cons.1 h1 with rfl | h1
      ·
       exact .inl (h3 ▸ hm)
      ·
       exact .inr ⟨d, h1, h2, h3⟩
   ·
    rw [if_neg hm, mem_varsS p (acc ++ [c.f0]) v]
    simp only [List.mem_append, List.mem_singleton]
    constructor
    ·
     rintro ((h | h) | ⟨d, h1, h2⟩)
     ·
      exact .inl h
     ·
      exact .inr ⟨c, List.mem_cons_self .., hk, h.symm⟩
     ·
      exact .inr ⟨d, List.mem_cons_of_mem _ h1, h2⟩
    ·
     rintro (h | ⟨d, h1, h2, h3⟩)
     ·
      exact .inl (.inl h)
     ·
      rcases List.mem_cons.1 h1 with rfl | h1
      ·
       exact .inl (.inr h3.symm)
      ·
       exact .inr ⟨d, h1, h2, h3⟩
  ·
   rw [if_neg hk, mem_varsS p acc v]
   constructor
   ·
    rintro (h | ⟨d, h1, h2⟩)
    ·
     exact .inl h
    ·
     exact .inr ⟨d, List.mem_cons_of_mem _ h1, h2⟩
   ·
    rintro (h | ⟨d, h1, h2, h3⟩)
    ·
     exact .inl h
    ·
     rcases List.mem_cons.1 h1 with rfl | h1
     ·
      exact absurd h2 hk
     ·
      exact .inr ⟨d, h1, h2, h3⟩
theorem varsS_len : ∀ (p : List Cel) (acc : List ByteArray), (varsS p acc).length ≤ acc.length + p.length
 | [], acc => by simp [varsS]
 | c :: p, acc => by
  simp only [varsS, List.length_cons]
  split
  ·
   split
   ·
    have := varsS_len p acc; omega
   ·
    have := varsS_len p (acc ++ [c.f0]); simp at this; omega
  ·
   have := varsS_len p acc; omega
theorem rd_str {t : List ByteArray} {n : Nat} {c : ByteArray} {s : List ByteArray} (h : t.drop n = c :: s) : rdOf ByteArray.empty t (n : Int) = c := by
 unfold rdOf
 exact (drop_cons h).2.1 _
theorem ev_has_loop (l : List ByteArray) (s : ByteArray) (hl : l.length ≤ 9223372036854775806) : ∀ (u : List ByteArray) (a : Nat), a ≤ l.length → l.drop a = u → Ev (fun k => aumbryref03_Has.l0 k l s (l.length : Int) (a : Int)) (decide (s ∈ u))
 | [], a, ha, hu => by
  have h1 := drop_nil_len ha hu
  refine Ev.step (fun k => (show aumbryref03_Has.l0 (k + 1) l s (l.length : Int) (a : Int) = _ from by rw [aumbryref03_Has.l0])) ?_
  exact evIfn (by omega) (Ev.now _)
 | b :: u, a, ha, hu => by
  obtain ⟨h1, _, h3⟩ := drop_cons hu
  refine Ev.step (fun k => (show aumbryref03_Has.l0 (k + 1) l s (l.length : Int) (a : Int) = _ from by rw [aumbryref03_Has.l0])) ?_
  refine evIfp (by omega) (evIfp (by omega) (evIfp (by omega) ?_))
  simp only [rd_str hu, up_cast a (by omega)]
  by_cases hb : b = s
  ·
   refine evIfp ((bytes_eq _ _).2 hb) ?_
   simp only [hb, List.mem_cons, true_or, decide_true]
   exact Ev.now _
  ·
   refine evIfn (fun h => hb ((bytes_eq _ _).1 h)) ?_
   have := ev_has_loop l s hl u (a + 1) (by omega) h3
   have e : decide (s ∈ b :: u) = decide (s ∈ u) := by
    have : ¬ s = b := fun h => hb h.symm
    simp [this]
   rw [e]
   exact this
theorem ev_has (l : List ByteArray) (s : ByteArray) (hl : l.length ≤ 9223372036854775806) : Ev (fun k => aumbryref03_Has.f k l s) (decide (s ∈ l)) := by
 unfold aumbryref03_Has.f
 exact ev_has_loop l s hl l 0 (by omega) rfl
theorem ev_vars_loop (p : List Cel) (hp : p.length ≤ 5864062014805) : ∀ (s : List Cel) (i : Nat) (acc : List ByteArray), i ≤ p.length → p.drop i = s → acc.length ≤ i → Ev (fun k => aumbryref04_Vars.l0 k p acc (p.length : Int) (i : Int)) (varsS s acc)
 | [], i, acc, hi, hs, ha => by
  have h1 := drop_nil_len hi hs
  refine Ev.step (fun k => (show aumbryref04_Vars.l0 (k + 1) p acc (p.length : Int) (i : Int) = _ from by rw [aumbryref04_Vars.l0])) ?_
  exact evIfn (by omega) (Ev.now _)
 | c :: s, i, acc, hi, hs, ha => by
  obtain ⟨h1, _, h3⟩ := drop_cons hs
  refine Ev.step (fun k => (show aumbryref04_Vars.l0 (k + 1) p acc (p.length : Int) (i : Int) = _ from by rw [aumbryref04_Vars.l0])) ?_
  refine evIfp (by omega) (evIfp (by omega) (evIfp (by omega) ?_))
  simp only [rd_cel hs, up_cast i (by omega)]
  refine Ev.bind (ev_refKind c.f0) ?_
  simp only [varsS]
  by_cases hk : kindS c.f0 = 2
  ·
   rw [if_pos hk]
   refine evIfp hk ?_
   refine Ev.bind (ev_has acc c.f0 (by omega)) ?_
   by_cases hm : c.f0 ∈ acc
   ·
    rw [if_pos hm]
    exact evIfp (by simpa using hm) (ev_vars_loop p hp s (i + 1) acc (by omega) h3 (by omega))
   ·
    rw [if_neg hm]
    refine evIfn (by simpa using hm) (evIfp (by omega) ?_)
    exact ev_vars_loop p hp s (i + 1) (acc ++ [c.f0]) (by omega) h3 (by simp; omega)
  ·
   rw [if_neg hk]
   exact evIfn hk (ev_vars_loop p hp s (i + 1) acc (by omega) h3 (by omega))
theorem ev_vars (p : List Cel) (hp : p.length ≤ 5864062014805) : Ev (fun k => aumbryref04_Vars.f k p) (varsS p []) := by
 unfold aumbryref04_Vars.f
 exact ev_vars_loop p hp p 0 [] (by omega) rfl (by simp)
theorem putS_none (p : List Cel) (l : List Bnd) : putS p l = none ↔ ∃ c ∈ p, kindS c.f0 = 2 ∧ lookB l c.f0 = none := by
 induction p with
 | nil => simp [putS]
 | cons c p ih =>
  simp only [putS]
  by_cases hk : kindS c.f0 = 2
  ·
   rw [if_pos hk]
   cases hl : lookB l c.f0 with
   | none => simp [hk, hl]
   | some v =>
    simp only [Option.map_eq_none_iff, ih, List.mem_cons]
    constructor
    ·
     rintro ⟨d, h1, h2⟩
     exact ⟨d, .inr h1, h2⟩
    ·
     rintro ⟨d, h1 | h1, h2, h3⟩
     ·
      subst h1; rw [hl] at h3; cases h3
     ·
      exact ⟨d, h1, h2, h3⟩
  ·
   rw [if_neg hk]
   simp only [Option.map_eq_none_iff, ih, List.mem_cons]
   constructor
   ·
    rintro ⟨d, h1, h2⟩
    exact ⟨d, .inr h1, h2⟩
   ·
    rintro ⟨d, h1 | h1, h2, h3⟩
    ·
     subst h1; exact absurd h2 hk
    ·
     exact ⟨d, h1, h2, h3⟩
theorem ev_put_loop (p : List Cel) (l : List Bnd) (hp : p.length ≤ 64) (hv : ∀ b ∈ l, b.f1.length ≤ 64) (hl : l.length ≤ 9223372036854775806) :
 ∀ (s : List Cel) (i : Nat) (out o : List Cel), i ≤ p.length → p.drop i = s → out.length ≤ 64 * i → putS s l = some o → Ev (fun k => aumbryref05_Put.l0 k p l out (p.length : Int) (i : Int)) (out ++ o)
 | [], i, out, o, hi, hs, ho, hput => by
  have h1 := drop_nil_len hi hs
  refine Ev.step (fun k => (show aumbryref05_Put.l0 (k + 1) p l out (p.length : Int) (i : Int) = _ from by rw [aumbryref05_Put.l0])) ?_
  refine evIfn (by omega) ?_
  injection hput with hput
  rw [← hput, List.append_nil]
  exact Ev.now _
 | c :: s, i, out, o, hi, hs, ho, hput => by
  obtain ⟨h1, _, h3⟩ := drop_cons hs
  refine Ev.step (fun k => (show aumbryref05_Put.l0 (k + 1) p l out (p.length : Int) (i : Int) = _ from by rw [aumbryref05_Put.l0])) ?_
  refine evIfp (by omega) (evIfp (by omega) (evIfp (by omega) ?_))
  simp only [rd_cel hs, up_cast i (by omega)]
  refine Ev.bind (ev_refKind c.f0) ?_
  simp only [putS] at hput
  by_cases hk : kindS c.f0 = 2
  ·
   rw [if_pos hk] at hput
   refine evIfp hk ?_
   rcases atS_look l c.f0 with ⟨hl1, hl2⟩ | ⟨j, b, j1, j2, j3, j4, j5, _⟩
   ·
    rw [hl1] at hput
    cases hput
   ·
    rw [j3] at hput
    simp only at hput
    obtain ⟨o2, ho2, rfl⟩ := Option.map_eq_some_iff.1 hput
    have hrd : (rd_T109 l (j : Int)).f1 = b.f1 := by
     unfold rd_T109
     rw [List.getD_eq_getElem?_getD, Int.toNat_natCast, j1]
     rfl
    have hbl := hv b (List.mem_of_getElem? j1)
    refine Ev.bind (ev_at l c.f0 hl) ?_
    rw [j4]
    refine evIfp (by omega) (evIfp (by omega) ?_)
    simp only [hrd]
    refine evIfp (by omega) ?_
    have := ev_put_loop p l hp hv hl s (i + 1) (out ++ b.f1) o2 (by omega) h3 (by simp; omega) ho2
    rw [List.append_assoc] at this
    exact this
  ·
   rw [if_neg hk] at hput
   obtain ⟨o2, ho2, rfl⟩ := Option.map_eq_some_iff.1 hput
   refine evIfn hk (evIfp (by omega) ?_)
   have := ev_put_loop p l hp hv hl s (i + 1) (out ++ [c]) o2 (by omega) h3 (by simp; omega) ho2
   rw [List.append_assoc] at this
   exact this
theorem ev_refFill2 (p : List Cel) (l : List Bnd) (hp : p.length ≤ 64) (hv : ∀ b ∈ l, b.f1.length ≤ 64) (hl : l.length ≤ 9223372036854775806) (vs : List ByteArray) (hvs : vs.length ≤ 64) (hvm : ∀ v, v ∈ vs ↔ ∃ c ∈ p, kindS c.f0 = 2 ∧ c.f0 = v) :
 ∀ (u : List ByteArray) (i : Nat), i ≤ vs.length → vs.drop i = u → (∀ v ∈ vs.take i, lookB l v ≠ none) → Ev (fun k => aumbryref05_Fill.l1 k p l vs (vs.length : Int) (i : Int)) (putR (putS p l))
 | [], i, hi, hu, ha => by
  have h1 := drop_nil_len hi hu
  rw [h1, List.take_length] at ha
  refine Ev.step (fun k => (show aumbryref05_Fill.l1 (k + 1) p l vs (vs.length : Int) (i : Int) = _ from by rw [aumbryref05_Fill.l1])) ?_
  refine evIfn (by omega) ?_
  cases hput : putS p l with
  | none =>
   obtain ⟨c, hc, hk, hn⟩ := (putS_none p l).1 hput
   exact absurd hn (ha c.f0 ((hvm _).2 ⟨c, hc, hk, rfl⟩))
  | some o =>
   have := ev_put_loop p l hp hv hl p 0 [] o (by omega) rfl (by simp) hput
   refine Ev.bind (g := fun k => aumbryref05_Put.f k p l) (by unfold aumbryref05_Put.f; exact this) ?_
   simp only [List.nil_append, putR]
   by_cases h : o.length > 64
   ·
    rw [if_pos h]
    exact evIfp (by omega) (Ev.now _)
   ·
    rw [if_neg h]
    exact evIfn (by omega) (Ev.now _)
 | v :: u, i, hi, hu, ha => by
  obtain ⟨h1, h2, h3⟩ := drop_cons hu
  refine Ev.step (fun k => (show aumbryref05_Fill.l1 (k + 1) p l vs (vs.length : Int) (i : Int) = _ from by rw [aumbryref05_Fill.l1])) ?_
  refine evIfp (by omega) (evIfp (by omega) (evIfp (by omega) ?_))
  simp only [rd_str hu, up_cast i (by omega)]
  refine Ev.bind (ev_at l v hl) ?_
  rcases atS_look l v with ⟨hl1, hl2⟩ | ⟨j, b, j1, j2, j3, j4, j5, _⟩
  ·
   rw [hl2]
   refine evIfp (by omega) ?_
   have hmv : v ∈ vs := List.mem_of_mem_drop (hu ▸ List.mem_cons_self ..)
   obtain ⟨c, hc, hk, hcv⟩ := (hvm v).1 hmv
   have : putS p l = none := (putS_none p l).2 ⟨c, hc, hk, by rw [hcv]; exact hl1⟩
   rw [this]
   exact Ev.now _
  ·
   rw [j4]
   refine evIfn (by omega) ?_
   refine ev_refFill2 p l hp hv hl vs hvs hvm u (i + 1) (by omega) h3 (fun x hx => ?_)
   rw [List.take_succ_eq_append_getElem h1] at hx
   rcases List.mem_append.1 hx with hx | hx
   ·
    exact ha x hx
   ·
    have hce : vs[i] = v := by have := h2 v; rw [List.getD_eq_getElem?_getD, List.getElem?_eq_getElem h1] at this; exact this
    rw [List.mem_singleton.1 hx, hce, j3]
    simp
theorem ev_refFill1 (p : List Cel) (l : List Bnd) (hp : p.length ≤ 64) (hl : l.length ≤ 9223372036854775806) :
 ∀ (u : List Bnd) (i : Nat), i ≤ l.length → l.drop i = u → (∀ b ∈ l.take i, b.f1.length ≤ 64) →
 Ev (fun k => aumbryref05_Fill.l0 k p l (l.length : Int) (i : Int)) (if bErr (l.take i) u = 0 then putR (putS p l) else ([], bErr (l.take i) u))
 | [], i, hi, hu, hv => by
  have h1 := drop_nil_len hi hu
  rw [h1, List.take_length] at hv
  refine Ev.step (fun k => (show aumbryref05_Fill.l0 (k + 1) p l (l.length : Int) (i : Int) = _ from by rw [aumbryref05_Fill.l0])) ?_
  refine evIfn (by omega) ?_
  refine Ev.bind (ev_vars p (by omega)) ?_
  simp only [bErr, if_true]
  have hvl := varsS_len p []
  exact ev_refFill2 p l hp hv hl (varsS p []) (by simp at hvl; omega) (fun v => by rw [mem_varsS]; simp) _ 0 (by omega) rfl (fun v hv => by simp at hv)
 | b :: u, i, hi, hu, hv => by
  obtain ⟨h1, h2, h3⟩ := drop_cons hu
  have hget : l[i]? = some b := by
   have := h2 b
   rw [List.getD_eq_getElem?_getD, List.getElem?_eq_getElem h1] at this
   rw [List.getElem?_eq_getElem h1]
   exact congrArg some this
  have htk : l.take (i + 1) = l.take i ++ [b] := by
   rw [List.take_succ_eq_append_getElem h1]
   rw [List.getElem?_eq_getElem h1] at hget
   injection hget with hget
   rw [hget]
  refine Ev.step (fun k => (show aumbryref05_Fill.l0 (k + 1) p l (l.length : Int) (i : Int) = _ from by rw [aumbryref05_Fill.l0])) ?_
  refine evIfp (by omega) (evIfp (by omega) (evIfp (by omega) ?_))
  simp only [rd_bnd hu, up_cast i (by omega)]
  refine Ev.bind (ev_refKind b.f0) ?_
  by_cases hk : kindS b.f0 = 2
  ·
   refine evIfp hk ?_
   refine Ev.bind (ev_at l b.f0 hl) ?_
   have hb := atS_before l i b hget
   by_cases hh : (lookB (l.take i) b.f0).isSome = true
   ·
    refine evIfp (hb.2 hh) ?_
    simp only [bErr, hk, if_true, hh]
    exact Ev.now _
   ·
    refine evIfn (fun h => hh (hb.1 h)) ?_
    refine Ev.bind (ev_refCheck b.f1) ?_
    by_cases hc : checkS b.f1 = 0
    ·
     refine evIfp hc ?_
     have := ev_refFill1 p l hp hl u (i + 1) (by omega) h3 (fun x hx => by
      rw [htk] at hx
      rcases List.mem_append.1 hx with hx | hx
      ·
       exact hv x hx
      ·
       rw [List.mem_singleton.1 hx]
       exact (checkS_ok hc).1)
     have e : bErr (l.take i) (b :: u) = bErr (l.take (i + 1)) u := by
      simp only [bErr, hk, if_true, hh, hc, htk]
      simp
     rw [e]
     exact this
    ·
     refine evIfn hc ?_
     have e : bErr (l.take i) (b :: u) = checkS b.f1 := by
      simp only [bErr, hk, if_true, hh, hc, if_false]
      simp
     rw [e, if_neg hc]
     exact Ev.now _
  ·
   refine evIfn hk ?_
   simp only [bErr, hk, if_false]
   exact Ev.now _
theorem ev_refFill (p : List Cel) (l : List Bnd) (hl : l.length ≤ 9223372036854775806) : Ev (fun k => aumbryref05_Fill.f k p l) (fillS p l) := by
 unfold aumbryref05_Fill.f fillS
 refine Ev.bind (ev_refCheck p) ?_
 by_cases hp : checkS p = 0
 ·
  obtain ⟨p1, p2, _⟩ := checkS_ok hp
  rw [if_pos hp]
  refine evIfp hp ?_
  have := ev_refFill1 p l p1 hl l 0 (by omega) rfl (fun b hb => by simp at hb)
  simp only [List.take_zero] at this
  exact this
 ·
  rw [if_neg hp]
  exact evIfn hp (Ev.now _)
theorem fillS_small (p : List Cel) (l : List Bnd) : (fillS p l).1.length ≤ 64 := by
 unfold fillS
 split
 ·
  split
  ·
   unfold putR
   split
   ·
    simp
   ·
    split
    ·
     simp
    ·
     next h => exact Nat.le_of_not_gt h
  ·
   simp
 ·
  simp

/-! ### copies of binds -/
end Go.Proofs.YtpnamhplhdaphaaDoor.P.M

-- ==== PL6p
/- Plain laws of chapter 6: what a rule makes of a term: the program's answer and the document's come to one function. -/
namespace Go.Proofs.YtpnamhplhdaphaaDoor.P
open Go.RowKit Go.Proofs.YtpnamhplhdaphaaDoorW.PrintWords
set_option linter.unusedVariables false
set_option linter.unusedSimpArgs false
def applyS (id : Int) (l r t : List Cel) : List Cel × Bool × Int := if ruleS id l r = 0 then (if (M.matchS l t).2.2 = 0 then (if (M.matchS l t).2.1 = true then ((M.fillS r (M.matchS l t).1).1, ((M.fillS r (M.matchS l t).1).2 == 0), (M.fillS r (M.matchS l t).1).2) else ([], false, (M.matchS l t).2.2)) else ([], false, (M.matchS l t).2.2)) else ([], false, ruleS id l r)
theorem ev_apply (id : Int) (l r t : List Cel) : Ev (fun k => rule_Apply.f k id l r t) (applyS id l r t) := by
 have hs := M.matchS_small l t
 unfold rule_Apply.f applyS
 refine Ev.bind (ev_rch id l r) ?_
 by_cases h1 : ruleS id l r = 0
 case neg =>
  rw [if_neg h1]
  exact evIfn h1 (Ev.now _)
 rw [if_pos h1]
 refine evIfp h1 (Ev.bind (M.ev_match l t) ?_)
 by_cases h2 : (M.matchS l t).2.2 = 0
 case neg =>
  rw [if_neg h2]
  exact evIfn h2 (Ev.now _)
 rw [if_pos h2]
 refine evIfp h2 ?_
 by_cases h3 : (M.matchS l t).2.1 = true
 case neg =>
  rw [if_neg h3]
  exact evIfn h3 (Ev.now _)
 rw [if_pos h3]
 refine evIfp h3 (Ev.bind (M.ev_fill r _ (by omega)) (Ev.now _))
theorem ev_rapply (id : Int) (l r t : List Cel) : Ev (fun k => aumbryref06_Apply.f k id l r t) (applyS id l r t) := by
 have hs := M.matchS_small l t
 unfold aumbryref06_Apply.f applyS
 refine Ev.bind (ev_rcheck id l r) ?_
 by_cases h1 : ruleS id l r = 0
 case neg =>
  rw [if_neg h1]
  exact evIfn h1 (Ev.now _)
 rw [if_pos h1]
 refine evIfp h1 (Ev.bind (M.ev_refMatch l t) ?_)
 by_cases h2 : (M.matchS l t).2.2 = 0
 case neg =>
  rw [if_neg h2]
  exact evIfn h2 (Ev.now _)
 rw [if_pos h2]
 refine evIfp h2 ?_
 by_cases h3 : (M.matchS l t).2.1 = true
 case neg =>
  rw [if_neg h3]
  exact evIfn h3 (Ev.now _)
 rw [if_pos h3]
 refine evIfp h3 (Ev.bind (M.ev_refFill r _ (by omega)) (Ev.now _))
theorem applyS_small (id : Int) (l r t : List Cel) : (applyS id l r t).1.length ≤ 64 := by
 unfold applyS
 split
 ·
  split
  ·
   split
   ·
    exact M.fillS_small _ _
   ·
    simp
  ·
   simp
 ·
  simp
end Go.Proofs.YtpnamhplhdaphaaDoor.P

-- ==== PureRuleApplies
/- What any rule makes of any term, or that it doesn't fit, as the document says: for every rule and term, the law answers true. -/
namespace Go.Proofs.YtpnamhplhdaphaaDoor.Pure
open Go.RowKit Go.Proofs.YtpnamhplhdaphaaDoor.P Go.Proofs.YtpnamhplhdaphaaDoorW.PrintWords
set_option linter.unusedVariables false
theorem RuleApplies : aumbrylaw06_RuleApplies.Pure := by
 intro x t hx ht
 obtain ⟨h1, h2⟩ := sz_rule hx
 have h3 := sz_len ht
 refine Ev.rounds ?_
 unfold aumbrylaw06_RuleApplies.f
 refine Ev.bind ev_wakes6 (evIfp rfl ?_)
 refine Ev.bind (evIs (rcopy_at x.f0 x.f1 x.f2 h1 h2)) (Ev.bind (evIs (copy_at t h3)) ?_)
 refine Ev.bind (ev_apply x.f0 x.f1 x.f2 t) (Ev.bind (ev_rapply x.f0 x.f1 x.f2 t) ?_)
 have hs := applyS_small x.f0 x.f1 x.f2 t
 refine Ev.bind (ev_refSame4 _ _ (.inl (by omega))) (evIfp (decide_eq_true rfl) (evIfp (by simp) ?_))
 have he : ((applyS x.f0 x.f1 x.f2 t).2.2 == (applyS x.f0 x.f1 x.f2 t).2.2) = true := by simp
 rw [he]
 exact Ev.now _
end Go.Proofs.YtpnamhplhdaphaaDoor.Pure

-- ==== RowRuleApplies
namespace Go.Proofs.YtpnamhplhdaphaaDoor.ruleApplies
open Go.ChangeShapes Go.WideShapes Go.ChangeAt Go.RowKit Go.Proofs.YtpnamhplhdaphaaDoorW.PrintWords Go.Proofs.YtpnamhplhdaphaaDoor.P Go.Proofs.YtpnamhplhdaphaaDoor.Open
open Go.ChangeMaps (open_string shut_string)
set_option linter.unusedVariables false
theorem own : ownKnob Tryd.prog.godebug = none := by kernel_rfl
theorem laidOut : laidOutB Tryd.prog = true := by kernel_rfl
set_option maxRecDepth 100000 in
theorem core {H : Type} {enc : TypeId × Value → H} (W : World) (base : Nat) (args : Array Value) (ds gs : List (DataW H)) (before : List MemPlace)
 (hval : ∀ (j : Nat) t v, Tryd.f7.params[j]? = some t → args[j]? = some v → Value.okWide Tryd.prog W .any base t v)
 (hW : DataW.Whole enc Tryd.prog Tryd.f7.params.toList Rows.ruleAppliesSpec.vars false W args.toList ds gs before)
 (hsz : (DataW.weightsEach Tryd.prog (Tryd.f7.params.toList ++ Rows.ruleAppliesSpec.plain.varTypes Tryd.prog) (ds ++ gs)).all (· ≤ reachBytes) = true)
 :
 Calls Tryd.prog 7 args W fun e W' => ∃ v, e = .returned v ∧ Rows.ruleAppliesSpec.post enc Tryd.prog Tryd.f7 false true false false W args v W' := by
 have hW' := hW
 obtain ⟨p, q, hA, hV, rfl, hfz, hnd⟩ := hW
 rw [Tryd.params7] at hA hval hsz
 obtain ⟨v0, vs0, d0, ds0, p0, q0, hargs, rfl, rfl, h0, r0⟩ := trodAll_cons hA
 obtain ⟨v1, vs1, d1, ds1, p1, q1, rfl, rfl, rfl, h1, r1⟩ := trodAll_cons r0
 obtain ⟨rfl, rfl, rfl⟩ := trodAll_nil r1
 obtain rfl : args = #[v0, v1] := by cases args; simp_all
 obtain ⟨rfl, rfl⟩ := trodVars_none hV
 have k0 := h0
 obtain ⟨n0, hf0⟩ := h0
 obtain ⟨x0, hK0, hS0, hB0⟩ := op25.go hf0 (fun m hm => by have := List.all_eq_true.1 hsz m (DataW.weights_mem_each (j := 0) rfl rfl m hm); simpa using this)
 have lt0 : ∀ z ∈ p0, z.block < W.heap.size := by obtain ⟨m, hm⟩ := k0; exact DataW.trod_lt m _ _ _ hm
 obtain ⟨cs0, rfl, hz0⟩ := okWide_struct Tryd.underlying25 (hval 0 25 v0 rfl rfl)
 obtain ⟨A0_1, c0_1, A0_2, c0_2, hcs0, hc0_1, hr0_1, hc0_2, hr0_2⟩ := k25_open hK0
 have hcs0' : cs0.toList = _ := hcs0
 obtain rfl : cs0 = #[.int .i64 ((x0).f0), .slice A0_1 (x0).f1.length c0_1, .slice A0_2 (x0).f2.length c0_2] := by apply Array.toList_inj.1; exact hcs0'
 have k1 := h1
 obtain ⟨n1, hf1⟩ := h1
 obtain ⟨x1, hK1, hS1, hB1⟩ := op23.go hf1 (fun m hm => by have := List.all_eq_true.1 hsz m (DataW.weights_mem_each (j := 1) rfl rfl m hm); simpa using this)
 have lt1 : ∀ z ∈ p1, z.block < W.heap.size := by obtain ⟨m, hm⟩ := k1; exact DataW.trod_lt m _ _ _ hm
 obtain ⟨a1, len1, cap1, rfl⟩ := okWide_slice Tryd.underlying23 (hval 1 23 v1 rfl rfl)
 obtain ⟨A1, c1, hcs1, hc1, hr1⟩ := hK1
 have hcs1' : [(Value.slice a1 len1 cap1)] = [.slice A1 x1.length c1] := hcs1
 injection hcs1' with hcs1'
 injection hcs1' with ha1 hl1 hk1
 subst ha1 hl1 hk1
 obtain ⟨k, h⟩ := Pure.RuleApplies x0 x1 hS0 hS1
 refine (aumbrylaw06_RuleApplies.calls k (x0).f0 _ _ (x0).f1 _ _ (x0).f2 _ _ x1 true W hr0_1 hc0_1 hr0_2 hc0_2 hr1 hc1 h rfl).mono ?_
 rintro e W' ⟨rfl, hd⟩
 have bel : Below W.heap.size W W' := hd
 exact ⟨_, rfl, _, _, _, [], _, [], hW', trodAll_mk1 (shut_bool Tryd.underlying4 _), (trodAll_cons_mk (Below.trod laidOut (by kernel_rfl) (of_decide_eq_true (by kernel_rfl)) k0 bel lt0) (trodAll_cons_mk (Below.trod laidOut (by kernel_rfl) (of_decide_eq_true (by kernel_rfl)) k1 bel lt1) trodAll_mk0)), rfl, bel.frame _, fun h => by cases h⟩
set_option maxRecDepth 100000 in
theorem laid_met (os : Os) : laidMet Tryd.prog Rows.ruleAppliesRow.laid ((World.laidAll Tryd.prog os Rows.ruleAppliesRow.laid).forCall (fun _ _ => 0) ⟨#[], #[.agg #[.int .i64 0, .slice none 0 0, .slice none 0 0], .slice none 0 0], []⟩).memory :=
 laidMet_laidAll _ (by kernel_rfl) (by kernel_rfl)
set_option maxRecDepth 100000 in
theorem reads (os : Os) {H : Type} (enc : TypeId × Value → H) : (DataW.whole enc Tryd.prog ((World.laidAll Tryd.prog os Rows.ruleAppliesRow.laid).forCall (fun _ _ => 0) ⟨#[], #[.agg #[.int .i64 0, .slice none 0 0, .slice none 0 0], .slice none 0 0], []⟩).memory Tryd.f7.params.toList Rows.ruleAppliesSpec.vars false (#[.agg #[.int .i64 0, .slice none 0 0, .slice none 0 0], .slice none 0 0] : Array Value).toList 8).isSome = true := by kernel_rfl
set_option maxRecDepth 100000 in
theorem lifted (os : Os) (started : os.Started) (H : Type) (enc : TypeId × Value → H) (F : Stop.Interp) :
 ReturnsInHanded {} Tryd.checked os 7 .any ((OpenSpec.ofChange Rows.ruleAppliesSpec).preRow enc Tryd.prog Tryd.f7 Rows.ruleAppliesRow.domain false Rows.ruleAppliesRow.laid) (((OpenSpec.ofChange Rows.ruleAppliesSpec).at F).post enc Tryd.prog Tryd.f7 false true false false) := by
 obtain ⟨x, hx⟩ := Option.isSome_iff_exists.1 (reads os enc)
 refine returnsInHanded_of_row (C := Tryd.checked) (s := (OpenSpec.ofChange Rows.ruleAppliesSpec)) own started (by kernel_rfl) Tryd.func7
  (witness_row_at (enc := enc) (C := Tryd.checked) false (World.laidAll Tryd.prog os Rows.ruleAppliesRow.laid) #[.agg #[.int .i64 0, .slice none 0 0, .slice none 0 0], .slice none 0 0] rfl (by kernel_rfl) (by kernel_rfl) (by kernel_rfl)
   (OpenSpec.preRow_of_cond 8 hx rfl (fun k hk => by cases hk) (by kernel_rfl) (laid_met os))) ?_
 intro W base args ds gs before hval0 hW _ hk hsz0 hL _ _
 exact core W base args ds gs before hval0 hW hsz0
theorem said : Rows.RuleAppliesSaid :=
 OpenClaim.holds_of_cond 7 Tryd.f7 rfl rfl rfl rfl rfl rfl rfl ⟨rfl, rfl, rfl, rfl, rfl⟩ rfl rfl rfl rfl rfl (by kernel_rfl) Tryd.func7 (by kernel_rfl)
  (of_decide_eq_true (by kernel_rfl)) (by unfold Func.isWrapper; first | (rw [if_pos (by decide +kernel)]; kernel_rfl) | (rw [if_neg (by decide +kernel)]; exact ⟨rfl, rfl⟩))
  (fun os started H enc _ F => by rw [OpenClaim.pre_eq_preRow]; exact lifted os started H enc F)
theorem plain (f : FuncId) (fn : Func) (hf : Tryd.pinned.checked.prog.funcNamed "aumbry/aumbrylaw06.RuleApplies" = some f) (hfn : Tryd.pinned.checked.prog.funcs[f]? = some fn) :
 true = Tryd.pinned.checked.prog.looks [] ∧ ∀ (j : Nat) t, fn.params[j]? = some t → Tryd.pinned.checked.prog.wantsStandIn t = false := by
 obtain rfl : f = 7 := Option.some.inj ((show Tryd.prog.funcNamed "aumbry/aumbrylaw06.RuleApplies" = some 7 by kernel_rfl).symm.trans hf) |>.symm
 obtain rfl : fn = Tryd.f7 := (Option.some.inj (Tryd.func7.symm.trans hfn)).symm
 refine ⟨by kernel_rfl, fun j t ht => ?_⟩
 rw [Tryd.params7] at ht
 have hm := Array.mem_of_getElem? ht
 have hm' : t = 25 ∨ t = 23 := by simpa using hm
 rcases hm' with rfl | rfl
 ·
  exact (show Tryd.prog.wantsStandIn 25 = false by kernel_rfl)
 ·
  exact (show Tryd.prog.wantsStandIn 23 = false by kernel_rfl)
theorem card : Rows.RuleAppliesCardSaid :=
 Claim7.holds_tied_plain_at .later [] _ _ _ _ said (fun _ h => by cases h) (by kernel_rfl) (fun _ h => by cases h) ruleApplies_row_tie rfl ⟨rfl, rfl⟩ (by kernel_rfl) rfl plain (by kernel_rfl)
end Go.Proofs.YtpnamhplhdaphaaDoor.ruleApplies
namespace Go.Proofs.YtpnamhplhdaphaaDoor
/-- The card, under a short name, for the claim. -/
theorem ruleApplies_holds : Rows.RuleAppliesCardSaid := ruleApplies.card
#print axioms ruleApplies_holds
end Go.Proofs.YtpnamhplhdaphaaDoor
