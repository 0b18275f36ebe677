/- RuleApplies: the law answers true at every input that the given row speaks of. Conditions: those of the given row, none besides. (Part 4 of 6; written by programs of this session, which drive the kit's print, and by hand.) -/
import Derived.Test.YtpnamhplhdaphaaDoorZRuleApplies0
import Derived.Test.YtpnamhplhdaphaaDoorZRuleApplies1
import Derived.Test.YtpnamhplhdaphaaDoorZRuleApplies2
-- ==== PF61
namespace Go.Proofs.YtpnamhplhdaphaaDoor.P
open Go.RowKit Go.Proofs.YtpnamhplhdaphaaDoorW.PrintWords Go.Proofs.YtpnamhplhdaphaaDoorW.PrintLast Go.Proofs.YtpnamhplhdaphaaDoorW.PrintMore
attribute [local go_sem] max2_int min2_int max_two min_two max_three min_three max_four min_four   -- for this text's walks alone
set_option linter.unusedVariables false
set_option linter.unusedSimpArgs false

/-! ### aumbryref03_Kind: function 61 -/
mutual
def aumbryref03_Kind.j0 : Nat → ByteArray → Bool → Option (Int)
 | 0, _, _ => none
 | k + 1, x0, x15 => if x15 = true then (some 0) else (aumbryref03_Kind.l0 k x0 true true 0)
def aumbryref03_Kind.l0 : Nat → ByteArray → Bool → Bool → Int → Option (Int)
 | 0, _, _, _, _ => none
 | k + 1, x0, x3, x4, x5 => if x5 < (x0.size : Int) then (if 0 ≤ x5 then (if (bt x0 x5) ≥ 48 then (if (bt x0 x5) ≤ 57 then (if x3 = true then (if (bt x0 x5) ≥ 97 then (if (bt x0 x5) ≤ 122 then (if x4 = true then (if (bt x0 x5) ≥ 65 then (if (bt x0 x5) ≤ 90 then (aumbryref03_Kind.l0 k x0 true true (wrap64 (x5 + 1))) else (aumbryref03_Kind.l0 k x0 true (decide (x5 > 0)) (wrap64 (x5 + 1)))) else (aumbryref03_Kind.l0 k x0 true (decide (x5 > 0)) (wrap64 (x5 + 1)))) else (aumbryref03_Kind.l0 k x0 true false (wrap64 (x5 + 1)))) else (if x4 = true then (if (bt x0 x5) ≥ 65 then (if (bt x0 x5) ≤ 90 then (aumbryref03_Kind.l0 k x0 (decide (x5 > 0)) true (wrap64 (x5 + 1))) else (aumbryref03_Kind.l0 k x0 (decide (x5 > 0)) (decide (x5 > 0)) (wrap64 (x5 + 1)))) else (aumbryref03_Kind.l0 k x0 (decide (x5 > 0)) (decide (x5 > 0)) (wrap64 (x5 + 1)))) else (aumbryref03_Kind.l0 k x0 (decide (x5 > 0)) false (wrap64 (x5 + 1))))) else (if x4 = true then (if (bt x0 x5) ≥ 65 then (if (bt x0 x5) ≤ 90 then (aumbryref03_Kind.l0 k x0 (decide (x5 > 0)) true (wrap64 (x5 + 1))) else (aumbryref03_Kind.l0 k x0 (decide (x5 > 0)) (decide (x5 > 0)) (wrap64 (x5 + 1)))) else (aumbryref03_Kind.l0 k x0 (decide (x5 > 0)) (decide (x5 > 0)) (wrap64 (x5 + 1)))) else (aumbryref03_Kind.l0 k x0 (decide (x5 > 0)) false (wrap64 (x5 + 1))))) else (if x4 = true then (if (bt x0 x5) ≥ 65 then (if (bt x0 x5) ≤ 90 then (aumbryref03_Kind.l0 k x0 false true (wrap64 (x5 + 1))) else (aumbryref03_Kind.l0 k x0 false (decide (x5 > 0)) (wrap64 (x5 + 1)))) else (aumbryref03_Kind.l0 k x0 false (decide (x5 > 0)) (wrap64 (x5 + 1)))) else (aumbryref03_Kind.l0 k x0 false false (wrap64 (x5 + 1))))) else (if x3 = true then (if (bt x0 x5) ≥ 97 then (if (bt x0 x5) ≤ 122 then (if x4 = true then (if (bt x0 x5) ≥ 65 then (if (bt x0 x5) ≤ 90 then (aumbryref03_Kind.l0 k x0 true true (wrap64 (x5 + 1))) else (aumbryref03_Kind.l0 k x0 true false (wrap64 (x5 + 1)))) else (aumbryref03_Kind.l0 k x0 true false (wrap64 (x5 + 1)))) else (aumbryref03_Kind.l0 k x0 true false (wrap64 (x5 + 1)))) else (if x4 = true then (if (bt x0 x5) ≥ 65 then (if (bt x0 x5) ≤ 90 then (aumbryref03_Kind.l0 k x0 false true (wrap64 (x5 + 1))) else (aumbryref03_Kind.l0 k x0 false false (wrap64 (x5 + 1)))) else (aumbryref03_Kind.l0 k x0 false false (wrap64 (x5 + 1)))) else (aumbryref03_Kind.l0 k x0 false false (wrap64 (x5 + 1))))) else (if x4 = true then (if (bt x0 x5) ≥ 65 then (if (bt x0 x5) ≤ 90 then (aumbryref03_Kind.l0 k x0 false true (wrap64 (x5 + 1))) else (aumbryref03_Kind.l0 k x0 false false (wrap64 (x5 + 1)))) else (aumbryref03_Kind.l0 k x0 false false (wrap64 (x5 + 1)))) else (aumbryref03_Kind.l0 k x0 false false (wrap64 (x5 + 1))))) else (if x4 = true then (if (bt x0 x5) ≥ 65 then (if (bt x0 x5) ≤ 90 then (aumbryref03_Kind.l0 k x0 false true (wrap64 (x5 + 1))) else (aumbryref03_Kind.l0 k x0 false false (wrap64 (x5 + 1)))) else (aumbryref03_Kind.l0 k x0 false false (wrap64 (x5 + 1)))) else (aumbryref03_Kind.l0 k x0 false false (wrap64 (x5 + 1)))))) else (if x3 = true then (if (bt x0 x5) ≥ 97 then (if (bt x0 x5) ≤ 122 then (if x4 = true then (if (bt x0 x5) ≥ 65 then (if (bt x0 x5) ≤ 90 then (aumbryref03_Kind.l0 k x0 true true (wrap64 (x5 + 1))) else (aumbryref03_Kind.l0 k x0 true false (wrap64 (x5 + 1)))) else (aumbryref03_Kind.l0 k x0 true false (wrap64 (x5 + 1)))) else (aumbryref03_Kind.l0 k x0 true false (wrap64 (x5 + 1)))) else (if x4 = true then (if (bt x0 x5) ≥ 65 then (if (bt x0 x5) ≤ 90 then (aumbryref03_Kind.l0 k x0 false true (wrap64 (x5 + 1))) else (aumbryref03_Kind.l0 k x0 false false (wrap64 (x5 + 1)))) else (aumbryref03_Kind.l0 k x0 false false (wrap64 (x5 + 1)))) else (aumbryref03_Kind.l0 k x0 false false (wrap64 (x5 + 1))))) else (if x4 = true then (if (bt x0 x5) ≥ 65 then (if (bt x0 x5) ≤ 90 then (aumbryref03_Kind.l0 k x0 false true (wrap64 (x5 + 1))) else (aumbryref03_Kind.l0 k x0 false false (wrap64 (x5 + 1)))) else (aumbryref03_Kind.l0 k x0 false false (wrap64 (x5 + 1)))) else (aumbryref03_Kind.l0 k x0 false false (wrap64 (x5 + 1))))) else (if x4 = true then (if (bt x0 x5) ≥ 65 then (if (bt x0 x5) ≤ 90 then (aumbryref03_Kind.l0 k x0 false true (wrap64 (x5 + 1))) else (aumbryref03_Kind.l0 k x0 false false (wrap64 (x5 + 1)))) else (aumbryref03_Kind.l0 k x0 false false (wrap64 (x5 + 1)))) else (aumbryref03_Kind.l0 k x0 false false (wrap64 (x5 + 1)))))) else (none)) else (if x3 = true then (some 1) else (if x4 = true then (some 2) else (some 0)))
end
def aumbryref03_Kind.f (k : Nat) (a0 : ByteArray) : Option (Int) := if (a0.size : Int) < 1 then (aumbryref03_Kind.j0 k a0 true) else (aumbryref03_Kind.j0 k a0 (decide ((a0.size : Int) > 8)))
theorem aumbryref03_Kind.mono_l : ∀ k, (∀ y0 y1, LeO (aumbryref03_Kind.j0 k y0 y1) (aumbryref03_Kind.j0 (k + 1) y0 y1)) ∧ (∀ y0 y1 y2 y3, LeO (aumbryref03_Kind.l0 k y0 y1 y2 y3) (aumbryref03_Kind.l0 (k + 1) y0 y1 y2 y3))
 | 0 => ⟨fun _ _ r h => by simp [aumbryref03_Kind.j0] at h, fun _ _ _ _ r h => by simp [aumbryref03_Kind.l0] at h⟩
 | k + 1 => by
  obtain ⟨ih0, ih1⟩ := aumbryref03_Kind.mono_l k
  refine ⟨?_, ?_⟩
  ·
   intro y0 y1
   unfold aumbryref03_Kind.j0
   repeat' first
   | (with_reducible exact ih0 _ _)
   | (with_reducible exact ih1 _ _ _ _)
   | (with_reducible exact LeO.refl _)
   | (with_reducible exact LeO.none _)
   | (with_reducible refine LeO.ite ?_ ?_)
   | (with_reducible refine LeO.bind ?_ (fun _ => ?_))
   | exact ih0 _ _
   | exact ih1 _ _ _ _
   | exact LeO.none _
   | refine LeO.ite ?_ ?_
   | refine LeO.bind ?_ (fun _ => ?_)
  ·
   intro y0 y1 y2 y3
   unfold aumbryref03_Kind.l0
   repeat' first
   | (with_reducible exact ih0 _ _)
   | (with_reducible exact ih1 _ _ _ _)
   | (with_reducible exact LeO.refl _)
   | (with_reducible exact LeO.none _)
   | (with_reducible refine LeO.ite ?_ ?_)
   | (with_reducible refine LeO.bind ?_ (fun _ => ?_))
   | exact ih0 _ _
   | exact ih1 _ _ _ _
   | exact LeO.none _
   | refine LeO.ite ?_ ?_
   | refine LeO.bind ?_ (fun _ => ?_)
theorem aumbryref03_Kind.mono : ∀ a0 k, LeO (aumbryref03_Kind.f k a0) (aumbryref03_Kind.f (k + 1) a0) := by
 intro a0 k
 obtain ⟨ih0, ih1⟩ := aumbryref03_Kind.mono_l k
 unfold aumbryref03_Kind.f
 repeat' first
  | (with_reducible exact ih0 _ _)
  | (with_reducible exact ih1 _ _ _ _)
  | (with_reducible exact LeO.refl _)
  | (with_reducible exact LeO.none _)
  | (with_reducible refine LeO.ite ?_ ?_)
  | (with_reducible refine LeO.bind ?_ (fun _ => ?_))
  | exact ih0 _ _
  | exact ih1 _ _ _ _
  | exact LeO.none _
  | refine LeO.ite ?_ ?_
  | refine LeO.bind ?_ (fun _ => ?_)
set_option maxHeartbeats 8000000 in
set_option maxRecDepth 100000 in
theorem aumbryref03_Kind.calls (k : Nat) (a0 : ByteArray) (r : Int) (w : World) (h : aumbryref03_Kind.f k a0 = some r) :
 Calls Tryd.prog 61 #[.string a0] w fun e w' => e = .returned (.int .i64 r) ∧ Drawn0 w w' := by
 have H : (if (a0.size : Int) < 1 then (aumbryref03_Kind.j0 k a0 true) else (aumbryref03_Kind.j0 k a0 (decide ((a0.size : Int) > 8)))) = some r := h
 clear h
 have HC2 := zM H
 clear H
 go_enter Tryd.func61, Tryd.ntmps61
 go_upto_region 1 with (fail)
 go_cut [15] (fun v15 wc => ∃ (kq : Nat) (x15_1 : Bool), v15 = .bool x15_1 ∧ Aside0 (aumbryref03_Kind.j0 kq a0 x15_1 = some r) ∧ Aside0 (kq ≤ k) ∧ Drawn0 w wc)
 case first =>
  have H := HC2.out
  clear HC2
  by_cases c3 : (a0.size : Int) < 1
  ·
   rw [if_pos c3] at H
   have c3b0 : decide ((a0.size : Int) < 1) = true := zQ c3
   have c3b1 : decide (a0.size < 1) = true := zQ (by omega)
   clear c3
   (first | rw [c3b0] | (simp only [i64_w, i32_w]; rw [c3b0]) | skip)
   have H' := zM H
   clear H
   go_wp2
   go_meet
   case rel => exact ⟨_, (true), (by first | rfl | (simp; done) | (simp [*]; done)), H', ⟨by first | omega | exact Nat.le_refl _⟩, by repeat (first | exact Drawn0.refl _ | apply Drawn0.step)⟩
  ·
   rw [if_neg c3] at H
   have c3b0 : decide ((a0.size : Int) < 1) = false := zR c3
   have c3b1 : decide (a0.size < 1) = false := zR (by omega)
   clear c3
   (first | rw [c3b0] | (simp only [i64_w, i32_w]; rw [c3b0]) | skip)
   have H' := zM H
   clear H
   go_wp2
   go_meet
   case rel => exact ⟨_, (decide ((a0.size : Int) > 8)), (by first | rfl | (simp; done) | (simp [*]; done)), H', ⟨by first | omega | exact Nat.le_refl _⟩, by repeat (first | exact Drawn0.refl _ | apply Drawn0.step)⟩
 case rest =>
  clear HC2
  try clear p2
  try clear c3
  try clear c3b0
  try clear c3b1
  obtain ⟨kq, x15_1, rfl, HA, HJ1, ⟨mc1, rfl⟩⟩ := hcut
  cases kq with
  | zero => exact absurd HA.out (by simp [aumbryref03_Kind.j0])
  | succ kj1 =>
   have H := HA.out
   clear HA
   simp only [aumbryref03_Kind.j0] at H
   by_cases c4 : x15_1 = true
   ·
    subst c4
    rw [if_pos rfl] at H
    obtain rfl := zS H
    go_wp2
    go_ret
    exact ⟨by first | rfl | (simp; done) | (simp [*]; done), by repeat (first | exact Drawn0.refl _ | apply Drawn0.step)⟩
   ·
    replace c4 := zI c4
    subst c4
    rw [if_neg (show ¬ (false = true) by decide)] at H
    have H' := zM H
    clear H
    go_wp2
    go_loopg [3, 4, 5] kj1 (fun kq v3 v4 v5 w' => ∃ (x3_2 : Bool) (x4_2 : Bool) (x5_2 : Int), v3 = .bool x3_2 ∧ v4 = .bool x4_2 ∧ v5 = .int .i64 x5_2 ∧ Aside0 (aumbryref03_Kind.l0 kq a0 x3_2 x4_2 x5_2 = some r) ∧ Aside0 (kq ≤ kj1) ∧ Drawn0 w w')
    case atStart => exact ⟨(true), (true), (0), (by first | rfl | (simp; done) | (simp [*]; done)), (by first | rfl | (simp; done) | (simp [*]; done)), (by first | rfl | (simp; done) | (simp [*]; done)), H', ⟨Nat.le_refl _⟩, by repeat (first | exact Drawn0.refl _ | apply Drawn0.step)⟩
    case round =>
     clear H'
     try clear c1
     try clear p2
     try clear c3
     try clear c3b0
     try clear c3b1
     try clear c4
     try clear p2
     obtain ⟨x3_2, x4_2, x5_2, rfl, rfl, rfl, HA, HK2, ⟨m2, rfl⟩⟩ := hrel
     cases gk with
     | zero => exact absurd HA.out (by simp [aumbryref03_Kind.l0])
     | succ k2 =>
      have H := HA.out
      clear HA
      simp only [aumbryref03_Kind.l0] at H
      by_cases c5 : x5_2 < (a0.size : Int)
      ·
       rw [if_pos c5] at H
       have c5b0 : decide (x5_2 < (a0.size : Int)) = true := zQ c5
       clear c5
       by_cases c6 : 0 ≤ x5_2
       ·
        rw [if_pos c6] at H
        have c6b0 : decide (0 ≤ x5_2) = true := zQ c6
        clear c6
        by_cases c8 : (bt a0 x5_2) ≥ 48
        ·
         rw [if_pos c8] at H
         have c8b0 : decide (48 ≤ (bt a0 x5_2)) = true := zQ c8
         clear c8
         by_cases c9 : (bt a0 x5_2) ≤ 57
         ·
          rw [if_pos c9] at H
          have c9b0 : decide ((bt a0 x5_2) ≤ 57) = true := zQ c9
          clear c9
          by_cases c10 : x3_2 = true
          ·
           subst c10
           rw [if_pos rfl] at H
           by_cases c11 : (bt a0 x5_2) ≥ 97
           ·
            rw [if_pos c11] at H
            have c11b0 : decide (97 ≤ (bt a0 x5_2)) = true := zQ c11
            clear c11
            by_cases c12 : (bt a0 x5_2) ≤ 122
            ·
             rw [if_pos c12] at H
             have c12b0 : decide ((bt a0 x5_2) ≤ 122) = true := zQ c12
             clear c12
             by_cases c13 : x4_2 = true
             ·
              subst c13
              rw [if_pos rfl] at H
              by_cases c14 : (bt a0 x5_2) ≥ 65
              ·
               rw [if_pos c14] at H
               have c14b0 : decide (65 ≤ (bt a0 x5_2)) = true := zQ c14
               clear c14
               by_cases c15 : (bt a0 x5_2) ≤ 90
               ·
                rw [if_pos c15] at H
                have c15b0 : decide ((bt a0 x5_2) ≤ 90) = true := zQ c15
                clear c15
                have H' := zM H
                clear H
                have p7 : 0 ≤ (x5_2 : Int) := zT (by first | (with_reducible assumption) | assumption)
                have q7 : x5_2 < (a0.size : Int) := zT (by first | (with_reducible assumption) | assumption)
                have hx7 := bt_at a0 x5_2
                replace p7 := eq_true p7
                replace q7 := eq_true q7
                go_wp2
                go_roundg k2
                case measure => have := HJ1.out; have := HK2.out; omega
                case rel => exact ⟨(true), (true), (wrap64 (x5_2 + 1)), (by first | rfl | (simp; done) | (simp [*]; done)), (by first | rfl | (simp; done) | (simp [*]; done)), (by first | rfl | (simp; done) | (simp [*]; done)), H', ⟨by have := HJ1.out; have := HK2.out; omega⟩, by repeat (first | exact Drawn0.refl _ | apply Drawn0.step)⟩
               ·
                rw [if_neg c15] at H
                have c15b0 : decide ((bt a0 x5_2) ≤ 90) = false := zR c15
                clear c15
                have H' := zM H
                clear H
                have p7 : 0 ≤ (x5_2 : Int) := zT (by first | (with_reducible assumption) | assumption)
                have q7 : x5_2 < (a0.size : Int) := zT (by first | (with_reducible assumption) | assumption)
                have hx7 := bt_at a0 x5_2
                replace p7 := eq_true p7
                replace q7 := eq_true q7
                go_wp2
                go_roundg k2
                case measure => have := HJ1.out; have := HK2.out; omega
                case rel => exact ⟨(true), (decide (x5_2 > 0)), (wrap64 (x5_2 + 1)), (by first | rfl | (simp; done) | (simp [*]; done)), (by first | rfl | (simp; done) | (simp [*]; done)), (by first | rfl | (simp; done) | (simp [*]; done)), H', ⟨by have := HJ1.out; have := HK2.out; omega⟩, by repeat (first | exact Drawn0.refl _ | apply Drawn0.step)⟩
              ·
               rw [if_neg c14] at H
               have c14b0 : decide (65 ≤ (bt a0 x5_2)) = false := zR c14
               clear c14
               have H' := zM H
               clear H
               have p7 : 0 ≤ (x5_2 : Int) := zT (by first | (with_reducible assumption) | assumption)
               have q7 : x5_2 < (a0.size : Int) := zT (by first | (with_reducible assumption) | assumption)
               have hx7 := bt_at a0 x5_2
               replace p7 := eq_true p7
               replace q7 := eq_true q7
               go_wp2
               go_roundg k2
               case measure => have := HJ1.out; have := HK2.out; omega
               case rel => exact ⟨(true), (decide (x5_2 > 0)), (wrap64 (x5_2 + 1)), (by first | rfl | (simp; done) | (simp [*]; done)), (by first | rfl | (simp; done) | (simp [*]; done)), (by first | rfl | (simp; done) | (simp [*]; done)), H', ⟨by have := HJ1.out; have := HK2.out; omega⟩, by repeat (first | exact Drawn0.refl _ | apply Drawn0.step)⟩
             ·
              replace c13 := zI c13
              subst c13
              rw [if_neg (show ¬ (false = true) by decide)] at H
              have H' := zM H
              clear H
              have p7 : 0 ≤ (x5_2 : Int) := zT (by first | (with_reducible assumption) | assumption)
              have q7 : x5_2 < (a0.size : Int) := zT (by first | (with_reducible assumption) | assumption)
              have hx7 := bt_at a0 x5_2
              replace p7 := eq_true p7
              replace q7 := eq_true q7
              go_wp2
              go_roundg k2
              case measure => have := HJ1.out; have := HK2.out; omega
              case rel => exact ⟨(true), (false), (wrap64 (x5_2 + 1)), (by first | rfl | (simp; done) | (simp [*]; done)), (by first | rfl | (simp; done) | (simp [*]; done)), (by first | rfl | (simp; done) | (simp [*]; done)), H', ⟨by have := HJ1.out; have := HK2.out; omega⟩, by repeat (first | exact Drawn0.refl _ | apply Drawn0.step)⟩
            ·
             rw [if_neg c12] at H
             have c12b0 : decide ((bt a0 x5_2) ≤ 122) = false := zR c12
             clear c12
             by_cases c16 : x4_2 = true
             ·
              subst c16
              rw [if_pos rfl] at H
              by_cases c17 : (bt a0 x5_2) ≥ 65
              ·
               rw [if_pos c17] at H
               have c17b0 : decide (65 ≤ (bt a0 x5_2)) = true := zQ c17
               clear c17
               by_cases c18 : (bt a0 x5_2) ≤ 90
               ·
                rw [if_pos c18] at H
                have c18b0 : decide ((bt a0 x5_2) ≤ 90) = true := zQ c18
                clear c18
                have H' := zM H
                clear H
                have p7 : 0 ≤ (x5_2 : Int) := zT (by first | (with_reducible assumption) | assumption)
                have q7 : x5_2 < (a0.size : Int) := zT (by first | (with_reducible assumption) | assumption)
                have hx7 := bt_at a0 x5_2
                replace p7 := eq_true p7
                replace q7 := eq_true q7
                go_wp2
                go_roundg k2
                case measure => have := HJ1.out; have := HK2.out; omega
                case rel => exact ⟨(decide (x5_2 > 0)), (true), (wrap64 (x5_2 + 1)), (by first | rfl | (simp; done) | (simp [*]; done)), (by first | rfl | (simp; done) | (simp [*]; done)), (by first | rfl | (simp; done) | (simp [*]; done)), H', ⟨by have := HJ1.out; have := HK2.out; omega⟩, by repeat (first | exact Drawn0.refl _ | apply Drawn0.step)⟩
               ·
                rw [if_neg c18] at H
                have c18b0 : decide ((bt a0 x5_2) ≤ 90) = false := zR c18
                clear c18
                have H' := zM H
                clear H
                have p7 : 0 ≤ (x5_2 : Int) := zT (by first | (with_reducible assumption) | assumption)
                have q7 : x5_2 < (a0.size : Int) := zT (by first | (with_reducible assumption) | assumption)
                have hx7 := bt_at a0 x5_2
                replace p7 := eq_true p7
                replace q7 := eq_true q7
                go_wp2
                go_roundg k2
                case measure => have := HJ1.out; have := HK2.out; omega
                case rel => exact ⟨(decide (x5_2 > 0)), (decide (x5_2 > 0)), (wrap64 (x5_2 + 1)), (by first | rfl | (simp; done) | (simp [*]; done)), (by first | rfl | (simp; done) | (simp [*]; done)), (by first | rfl | (simp; done) | (simp [*]; done)), H', ⟨by have := HJ1.out; have := HK2.out; omega⟩, by repeat (first | exact Drawn0.refl _ | apply Drawn0.step)⟩
              ·
               rw [if_neg c17] at H
               have c17b0 : decide (65 ≤ (bt a0 x5_2)) = false := zR c17
               clear c17
               have H' := zM H
               clear H
               have p7 : 0 ≤ (x5_2 : Int) := zT (by first | (with_reducible assumption) | assumption)
               have q7 : x5_2 < (a0.size : Int) := zT (by first | (with_reducible assumption) | assumption)
               have hx7 := bt_at a0 x5_2
               replace p7 := eq_true p7
               replace q7 := eq_true q7
               go_wp2
               go_roundg k2
               case measure => have := HJ1.out; have := HK2.out; omega
               case rel => exact ⟨(decide (x5_2 > 0)), (decide (x5_2 > 0)), (wrap64 (x5_2 + 1)), (by first | rfl | (simp; done) | (simp [*]; done)), (by first | rfl | (simp; done) | (simp [*]; done)), (by first | rfl | (simp; done) | (simp [*]; done)), H', ⟨by have := HJ1.out; have := HK2.out; omega⟩, by repeat (first | exact Drawn0.refl _ | apply Drawn0.step)⟩
             ·
              replace c16 := zI c16
              subst c16
              rw [if_neg (show ¬ (false = true) by decide)] at H
              have H' := zM H
              clear H
              have p7 : 0 ≤ (x5_2 : Int) := zT (by first | (with_reducible assumption) | assumption)
              have q7 : x5_2 < (a0.size : Int) := zT (by first | (with_reducible assumption) | assumption)
              have hx7 := bt_at a0 x5_2
              replace p7 := eq_true p7
              replace q7 := eq_true q7
              go_wp2
              go_roundg k2
              case measure => have := HJ1.out; have := HK2.out; omega
              case rel => exact ⟨(decide (x5_2 > 0)), (false), (wrap64 (x5_2 + 1)), (by first | rfl | (simp; done) | (simp [*]; done)), (by first | rfl | (simp; done) | (simp [*]; done)), (by first | rfl | (simp; done) | (simp [*]; done)), H', ⟨by have := HJ1.out; have := HK2.out; omega⟩, by repeat (first | exact Drawn0.refl _ | apply Drawn0.step)⟩
           ·
            rw [if_neg c11] at H
            have c11b0 : decide (97 ≤ (bt a0 x5_2)) = false := zR c11
            clear c11
            by_cases c19 : x4_2 = true
            ·
             subst c19
             rw [if_pos rfl] at H
             by_cases c20 : (bt a0 x5_2) ≥ 65
             ·
              rw [if_pos c20] at H
              have c20b0 : decide (65 ≤ (bt a0 x5_2)) = true := zQ c20
              clear c20
              by_cases c21 : (bt a0 x5_2) ≤ 90
              ·
               rw [if_pos c21] at H
               have c21b0 : decide ((bt a0 x5_2) ≤ 90) = true := zQ c21
               clear c21
               have H' := zM H
               clear H
               have p7 : 0 ≤ (x5_2 : Int) := zT (by first | (with_reducible assumption) | assumption)
               have q7 : x5_2 < (a0.size : Int) := zT (by first | (with_reducible assumption) | assumption)
               have hx7 := bt_at a0 x5_2
               replace p7 := eq_true p7
               replace q7 := eq_true q7
               go_wp2
               go_roundg k2
               case measure => have := HJ1.out; have := HK2.out; omega
               case rel => exact ⟨(decide (x5_2 > 0)), (true), (wrap64 (x5_2 + 1)), (by first | rfl | (simp; done) | (simp [*]; done)), (by first | rfl | (simp; done) | (simp [*]; done)), (by first | rfl | (simp; done) | (simp [*]; done)), H', ⟨by have := HJ1.out; have := HK2.out; omega⟩, by repeat (first | exact Drawn0.refl _ | apply Drawn0.step)⟩
              ·
               rw [if_neg c21] at H
               have c21b0 : decide ((bt a0 x5_2) ≤ 90) = false := zR c21
               clear c21
               have H' := zM H
               clear H
               have p7 : 0 ≤ (x5_2 : Int) := zT (by first | (with_reducible assumption) | assumption)
               have q7 : x5_2 < (a0.size : Int) := zT (by first | (with_reducible assumption) | assumption)
               have hx7 := bt_at a0 x5_2
               replace p7 := eq_true p7
               replace q7 := eq_true q7
               go_wp2
               go_roundg k2
               case measure => have := HJ1.out; have := HK2.out; omega
               case rel => exact ⟨(decide (x5_2 > 0)), (decide (x5_2 > 0)), (wrap64 (x5_2 + 1)), (by first | rfl | (simp; done) | (simp [*]; done)), (by first | rfl | (simp; done) | (simp [*]; done)), (by first | rfl | (simp; done) | (simp [*]; done)), H', ⟨by have := HJ1.out; have := HK2.out; omega⟩, by repeat (first | exact Drawn0.refl _ | apply Drawn0.step)⟩
             ·
              rw [if_neg c20] at H
              have c20b0 : decide (65 ≤ (bt a0 x5_2)) = false := zR c20
              clear c20
              have H' := zM H
              clear H
              have p7 : 0 ≤ (x5_2 : Int) := zT (by first | (with_reducible assumption) | assumption)
              have q7 : x5_2 < (a0.size : Int) := zT (by first | (with_reducible assumption) | assumption)
              have hx7 := bt_at a0 x5_2
              replace p7 := eq_true p7
              replace q7 := eq_true q7
              go_wp2
              go_roundg k2
              case measure => have := HJ1.out; have := HK2.out; omega
              case rel => exact ⟨(decide (x5_2 > 0)), (decide (x5_2 > 0)), (wrap64 (x5_2 + 1)), (by first | rfl | (simp; done) | (simp [*]; done)), (by first | rfl | (simp; done) | (simp [*]; done)), (by first | rfl | (simp; done) | (simp [*]; done)), H', ⟨by have := HJ1.out; have := HK2.out; omega⟩, by repeat (first | exact Drawn0.refl _ | apply Drawn0.step)⟩
            ·
             replace c19 := zI c19
             subst c19
             rw [if_neg (show ¬ (false = true) by decide)] at H
             have H' := zM H
             clear H
             have p7 : 0 ≤ (x5_2 : Int) := zT (by first | (with_reducible assumption) | assumption)
             have q7 : x5_2 < (a0.size : Int) := zT (by first | (with_reducible assumption) | assumption)
             have hx7 := bt_at a0 x5_2
             replace p7 := eq_true p7
             replace q7 := eq_true q7
             go_wp2
             go_roundg k2
             case measure => have := HJ1.out; have := HK2.out; omega
             case rel => exact ⟨(decide (x5_2 > 0)), (false), (wrap64 (x5_2 + 1)), (by first | rfl | (simp; done) | (simp [*]; done)), (by first | rfl | (simp; done) | (simp [*]; done)), (by first | rfl | (simp; done) | (simp [*]; done)), H', ⟨by have := HJ1.out; have := HK2.out; omega⟩, by repeat (first | exact Drawn0.refl _ | apply Drawn0.step)⟩
          ·
           replace c10 := zI c10
           subst c10
           rw [if_neg (show ¬ (false = true) by decide)] at H
           by_cases c22 : x4_2 = true
           ·
            subst c22
            rw [if_pos rfl] at H
            by_cases c23 : (bt a0 x5_2) ≥ 65
            ·
             rw [if_pos c23] at H
             have c23b0 : decide (65 ≤ (bt a0 x5_2)) = true := zQ c23
             clear c23
             by_cases c24 : (bt a0 x5_2) ≤ 90
             ·
              rw [if_pos c24] at H
              have c24b0 : decide ((bt a0 x5_2) ≤ 90) = true := zQ c24
              clear c24
              have H' := zM H
              clear H
              have p7 : 0 ≤ (x5_2 : Int) := zT (by first | (with_reducible assumption) | assumption)
              have q7 : x5_2 < (a0.size : Int) := zT (by first | (with_reducible assumption) | assumption)
              have hx7 := bt_at a0 x5_2
              replace p7 := eq_true p7
              replace q7 := eq_true q7
              go_wp2
              go_roundg k2
              case measure => have := HJ1.out; have := HK2.out; omega
              case rel => exact ⟨(false), (true), (wrap64 (x5_2 + 1)), (by first | rfl | (simp; done) | (simp [*]; done)), (by first | rfl | (simp; done) | (simp [*]; done)), (by first | rfl | (simp; done) | (simp [*]; done)), H', ⟨by have := HJ1.out; have := HK2.out; omega⟩, by repeat (first | exact Drawn0.refl _ | apply Drawn0.step)⟩
             ·
              rw [if_neg c24] at H
              have c24b0 : decide ((bt a0 x5_2) ≤ 90) = false := zR c24
              clear c24
              have H' := zM H
              clear H
              have p7 : 0 ≤ (x5_2 : Int) := zT (by first | (with_reducible assumption) | assumption)
              have q7 : x5_2 < (a0.size : Int) := zT (by first | (with_reducible assumption) | assumption)
              have hx7 := bt_at a0 x5_2
              replace p7 := eq_true p7
              replace q7 := eq_true q7
              go_wp2
              go_roundg k2
              case measure => have := HJ1.out; have := HK2.out; omega
              case rel => exact ⟨(false), (decide (x5_2 > 0)), (wrap64 (x5_2 + 1)), (by first | rfl | (simp; done) | (simp [*]; done)), (by first | rfl | (simp; done) | (simp [*]; done)), (by first | rfl | (simp; done) | (simp [*]; done)), H', ⟨by have := HJ1.out; have := HK2.out; omega⟩, by repeat (first | exact Drawn0.refl _ | apply Drawn0.step)⟩
            ·
             rw [if_neg c23] at H
             have c23b0 : decide (65 ≤ (bt a0 x5_2)) = false := zR c23
             clear c23
             have H' := zM H
             clear H
             have p7 : 0 ≤ (x5_2 : Int) := zT (by first | (with_reducible assumption) | assumption)
             have q7 : x5_2 < (a0.size : Int) := zT (by first | (with_reducible assumption) | assumption)
             have hx7 := bt_at a0 x5_2
             replace p7 := eq_true p7
             replace q7 := eq_true q7
             go_wp2
             go_roundg k2
             case measure => have := HJ1.out; have := HK2.out; omega
             case rel => exact ⟨(false), (decide (x5_2 > 0)), (wrap64 (x5_2 + 1)), (by first | rfl | (simp; done) | (simp [*]; done)), (by first | rfl | (simp; done) | (simp [*]; done)), (by first | rfl | (simp; done) | (simp [*]; done)), H', ⟨by have := HJ1.out; have := HK2.out; omega⟩, by repeat (first | exact Drawn0.refl _ | apply Drawn0.step)⟩
           ·
            replace c22 := zI c22
            subst c22
            rw [if_neg (show ¬ (false = true) by decide)] at H
            have H' := zM H
            clear H
            have p7 : 0 ≤ (x5_2 : Int) := zT (by first | (with_reducible assumption) | assumption)
            have q7 : x5_2 < (a0.size : Int) := zT (by first | (with_reducible assumption) | assumption)
            have hx7 := bt_at a0 x5_2
            replace p7 := eq_true p7
            replace q7 := eq_true q7
            go_wp2
            go_roundg k2
            case measure => have := HJ1.out; have := HK2.out; omega
            case rel => exact ⟨(false), (false), (wrap64 (x5_2 + 1)), (by first | rfl | (simp; done) | (simp [*]; done)), (by first | rfl | (simp; done) | (simp [*]; done)), (by first | rfl | (simp; done) | (simp [*]; done)), H', ⟨by have := HJ1.out; have := HK2.out; omega⟩, by repeat (first | exact Drawn0.refl _ | apply Drawn0.step)⟩
         ·
          rw [if_neg c9] at H
          have c9b0 : decide ((bt a0 x5_2) ≤ 57) = false := zR c9
          clear c9
          by_cases c25 : x3_2 = true
          ·
           subst c25
           rw [if_pos rfl] at H
           by_cases c26 : (bt a0 x5_2) ≥ 97
           ·
            rw [if_pos c26] at H
            have c26b0 : decide (97 ≤ (bt a0 x5_2)) = true := zQ c26
            clear c26
            by_cases c27 : (bt a0 x5_2) ≤ 122
            ·
             rw [if_pos c27] at H
             have c27b0 : decide ((bt a0 x5_2) ≤ 122) = true := zQ c27
             clear c27
             by_cases c28 : x4_2 = true
             ·
              subst c28
              rw [if_pos rfl] at H
              by_cases c29 : (bt a0 x5_2) ≥ 65
              ·
               rw [if_pos c29] at H
               have c29b0 : decide (65 ≤ (bt a0 x5_2)) = true := zQ c29
               clear c29
               by_cases c30 : (bt a0 x5_2) ≤ 90
               ·
                rw [if_pos c30] at H
                have c30b0 : decide ((bt a0 x5_2) ≤ 90) = true := zQ c30
                clear c30
                have H' := zM H
                clear H
                have p7 : 0 ≤ (x5_2 : Int) := zT (by first | (with_reducible assumption) | assumption)
                have q7 : x5_2 < (a0.size : Int) := zT (by first | (with_reducible assumption) | assumption)
                have hx7 := bt_at a0 x5_2
                replace p7 := eq_true p7
                replace q7 := eq_true q7
                go_wp2
                go_roundg k2
                case measure => have := HJ1.out; have := HK2.out; omega
                case rel => exact ⟨(true), (true), (wrap64 (x5_2 + 1)), (by first | rfl | (simp; done) | (simp [*]; done)), (by first | rfl | (simp; done) | (simp [*]; done)), (by first | rfl | (simp; done) | (simp [*]; done)), H', ⟨by have := HJ1.out; have := HK2.out; omega⟩, by repeat (first | exact Drawn0.refl _ | apply Drawn0.step)⟩
               ·
                rw [if_neg c30] at H
                have c30b0 : decide ((bt a0 x5_2) ≤ 90) = false := zR c30
                clear c30
                have H' := zM H
                clear H
                have p7 : 0 ≤ (x5_2 : Int) := zT (by first | (with_reducible assumption) | assumption)
                have q7 : x5_2 < (a0.size : Int) := zT (by first | (with_reducible assumption) | assumption)
                have hx7 := bt_at a0 x5_2
                replace p7 := eq_true p7
                replace q7 := eq_true q7
                go_wp2
                go_roundg k2
                case measure => have := HJ1.out; have := HK2.out; omega
                case rel => exact ⟨(true), (false), (wrap64 (x5_2 + 1)), (by first | rfl | (simp; done) | (simp [*]; done)), (by first | rfl | (simp; done) | (simp [*]; done)), (by first | rfl | (simp; done) | (simp [*]; done)), H', ⟨by have := HJ1.out; have := HK2.out; omega⟩, by repeat (first | exact Drawn0.refl _ | apply Drawn0.step)⟩
              ·
               rw [if_neg c29] at H
               have c29b0 : decide (65 ≤ (bt a0 x5_2)) = false := zR c29
               clear c29
               have H' := zM H
               clear H
               have p7 : 0 ≤ (x5_2 : Int) := zT (by first | (with_reducible assumption) | assumption)
               have q7 : x5_2 < (a0.size : Int) := zT (by first | (with_reducible assumption) | assumption)
               have hx7 := bt_at a0 x5_2
               replace p7 := eq_true p7
               replace q7 := eq_true q7
               go_wp2
               go_roundg k2
               case measure => have := HJ1.out; have := HK2.out; omega
               case rel => exact ⟨(true), (false), (wrap64 (x5_2 + 1)), (by first | rfl | (simp; done) | (simp [*]; done)), (by first | rfl | (simp; done) | (simp [*]; done)), (by first | rfl | (simp; done) | (simp [*]; done)), H', ⟨by have := HJ1.out; have := HK2.out; omega⟩, by repeat (first | exact Drawn0.refl _ | apply Drawn0.step)⟩
             ·
              replace c28 := zI c28
              subst c28
              rw [if_neg (show ¬ (false = true) by decide)] at H
              have H' := zM H
              clear H
              have p7 : 0 ≤ (x5_2 : Int) := zT (by first | (with_reducible assumption) | assumption)
              have q7 : x5_2 < (a0.size : Int) := zT (by first | (with_reducible assumption) | assumption)
              have hx7 := bt_at a0 x5_2
              replace p7 := eq_true p7
              replace q7 := eq_true q7
              go_wp2
              go_roundg k2
              case measure => have := HJ1.out; have := HK2.out; omega
              case rel => exact ⟨(true), (false), (wrap64 (x5_2 + 1)), (by first | rfl | (simp; done) | (simp [*]; done)), (by first | rfl | (simp; done) | (simp [*]; done)), (by first | rfl | (simp; done) | (simp [*]; done)), H', ⟨by have := HJ1.out; have := HK2.out; omega⟩, by repeat (first | exact Drawn0.refl _ | apply Drawn0.step)⟩
            ·
             rw [if_neg c27] at H
             have c27b0 : decide ((bt a0 x5_2) ≤ 122) = false := zR c27
             clear c27
             by_cases c31 : x4_2 = true
             ·
              subst c31
              rw [if_pos rfl] at H
              by_cases c32 : (bt a0 x5_2) ≥ 65
              ·
               rw [if_pos c32] at H
               have c32b0 : decide (65 ≤ (bt a0 x5_2)) = true := zQ c32
               clear c32
               by_cases c33 : (bt a0 x5_2) ≤ 90
               ·
                rw [if_pos c33] at H
                have c33b0 : decide ((bt a0 x5_2) ≤ 90) = true := zQ c33
                clear c33
                have H' := zM H
                clear H
                have p7 : 0 ≤ (x5_2 : Int) := zT (by first | (with_reducible assumption) | assumption)
                have q7 : x5_2 < (a0.size : Int) := zT (by first | (with_reducible assumption) | assumption)
                have hx7 := bt_at a0 x5_2
                replace p7 := eq_true p7
                replace q7 := eq_true q7
                go_wp2
                go_roundg k2
                case measure => have := HJ1.out; have := HK2.out; omega
                case rel => exact ⟨(false), (true), (wrap64 (x5_2 + 1)), (by first | rfl | (simp; done) | (simp [*]; done)), (by first | rfl | (simp; done) | (simp [*]; done)), (by first | rfl | (simp; done) | (simp [*]; done)), H', ⟨by have := HJ1.out; have := HK2.out; omega⟩, by repeat (first | exact Drawn0.refl _ | apply Drawn0.step)⟩
               ·
                rw [if_neg c33] at H
                have c33b0 : decide ((bt a0 x5_2) ≤ 90) = false := zR c33
                clear c33
                have H' := zM H
                clear H
                have p7 : 0 ≤ (x5_2 : Int) := zT (by first | (with_reducible assumption) | assumption)
                have q7 : x5_2 < (a0.size : Int) := zT (by first | (with_reducible assumption) | assumption)
                have hx7 := bt_at a0 x5_2
                replace p7 := eq_true p7
                replace q7 := eq_true q7
                go_wp2
                go_roundg k2
                case measure => have := HJ1.out; have := HK2.out; omega
                case rel => exact ⟨(false), (false), (wrap64 (x5_2 + 1)), (by first | rfl | (simp; done) | (simp [*]; done)), (by first | rfl | (simp; done) | (simp [*]; done)), (by first | rfl | (simp; done) | (simp [*]; done)), H', ⟨by have := HJ1.out; have := HK2.out; omega⟩, by repeat (first | exact Drawn0.refl _ | apply Drawn0.step)⟩
              ·
               rw [if_neg c32] at H
               have c32b0 : decide (65 ≤ (bt a0 x5_2)) = false := zR c32
               clear c32
               have H' := zM H
               clear H
               have p7 : 0 ≤ (x5_2 : Int) := zT (by first | (with_reducible assumption) | assumption)
               have q7 : x5_2 < (a0.size : Int) := zT (by first | (with_reducible assumption) | assumption)
               have hx7 := bt_at a0 x5_2
               replace p7 := eq_true p7
               replace q7 := eq_true q7
               go_wp2
               go_roundg k2
               case measure => have := HJ1.out; have := HK2.out; omega
               case rel => exact ⟨(false), (false), (wrap64 (x5_2 + 1)), (by first | rfl | (simp; done) | (simp [*]; done)), (by first | rfl | (simp; done) | (simp [*]; done)), (by first | rfl | (simp; done) | (simp [*]; done)), H', ⟨by have := HJ1.out; have := HK2.out; omega⟩, by repeat (first | exact Drawn0.refl _ | apply Drawn0.step)⟩
             ·
              replace c31 := zI c31
              subst c31
              rw [if_neg (show ¬ (false = true) by decide)] at H
              have H' := zM H
              clear H
              have p7 : 0 ≤ (x5_2 : Int) := zT (by first | (with_reducible assumption) | assumption)
              have q7 : x5_2 < (a0.size : Int) := zT (by first | (with_reducible assumption) | assumption)
              have hx7 := bt_at a0 x5_2
              replace p7 := eq_true p7
              replace q7 := eq_true q7
              go_wp2
              go_roundg k2
              case measure => have := HJ1.out; have := HK2.out; omega
              case rel => exact ⟨(false), (false), (wrap64 (x5_2 + 1)), (by first | rfl | (simp; done) | (simp [*]; done)), (by first | rfl | (simp; done) | (simp [*]; done)), (by first | rfl | (simp; done) | (simp [*]; done)), H', ⟨by have := HJ1.out; have := HK2.out; omega⟩, by repeat (first | exact Drawn0.refl _ | apply Drawn0.step)⟩
           ·
            rw [if_neg c26] at H
            have c26b0 : decide (97 ≤ (bt a0 x5_2)) = false := zR c26
            clear c26
            by_cases c34 : x4_2 = true
            ·
             subst c34
             rw [if_pos rfl] at H
             by_cases c35 : (bt a0 x5_2) ≥ 65
             ·
              rw [if_pos c35] at H
              have c35b0 : decide (65 ≤ (bt a0 x5_2)) = true := zQ c35
              clear c35
              by_cases c36 : (bt a0 x5_2) ≤ 90
              ·
               rw [if_pos c36] at H
               have c36b0 : decide ((bt a0 x5_2) ≤ 90) = true := zQ c36
               clear c36
               have H' := zM H
               clear H
               have p7 : 0 ≤ (x5_2 : Int) := zT (by first | (with_reducible assumption) | assumption)
               have q7 : x5_2 < (a0.size : Int) := zT (by first | (with_reducible assumption) | assumption)
               have hx7 := bt_at a0 x5_2
               replace p7 := eq_true p7
               replace q7 := eq_true q7
               go_wp2
               go_roundg k2
               case measure => have := HJ1.out; have := HK2.out; omega
               case rel => exact ⟨(false), (true), (wrap64 (x5_2 + 1)), (by first | rfl | (simp; done) | (simp [*]; done)), (by first | rfl | (simp; done) | (simp [*]; done)), (by first | rfl | (simp; done) | (simp [*]; done)), H', ⟨by have := HJ1.out; have := HK2.out; omega⟩, by repeat (first | exact Drawn0.refl _ | apply Drawn0.step)⟩
              ·
               rw [if_neg c36] at H
               have c36b0 : decide ((bt a0 x5_2) ≤ 90) = false := zR c36
               clear c36
               have H' := zM H
               clear H
               have p7 : 0 ≤ (x5_2 : Int) := zT (by first | (with_reducible assumption) | assumption)
               have q7 : x5_2 < (a0.size : Int) := zT (by first | (with_reducible assumption) | assumption)
               have hx7 := bt_at a0 x5_2
               replace p7 := eq_true p7
               replace q7 := eq_true q7
               go_wp2
               go_roundg k2
               case measure => have := HJ1.out; have := HK2.out; omega
               case rel => exact ⟨(false), (false), (wrap64 (x5_2 + 1)), (by first | rfl | (simp; done) | (simp [*]; done)), (by first | rfl | (simp; done) | (simp [*]; done)), (by first | rfl | (simp; done) | (simp [*]; done)), H', ⟨by have := HJ1.out; have := HK2.out; omega⟩, by repeat (first | exact Drawn0.refl _ | apply Drawn0.step)⟩
             ·
              rw [if_neg c35] at H
              have c35b0 : decide (65 ≤ (bt a0 x5_2)) = false := zR c35
              clear c35
              have H' := zM H
              clear H
              have p7 : 0 ≤ (x5_2 : Int) := zT (by first | (with_reducible assumption) | assumption)
              have q7 : x5_2 < (a0.size : Int) := zT (by first | (with_reducible assumption) | assumption)
              have hx7 := bt_at a0 x5_2
              replace p7 := eq_true p7
              replace q7 := eq_true q7
              go_wp2
              go_roundg k2
              case measure => have := HJ1.out; have := HK2.out; omega
              case rel => exact ⟨(false), (false), (wrap64 (x5_2 + 1)), (by first | rfl | (simp; done) | (simp [*]; done)), (by first | rfl | (simp; done) | (simp [*]; done)), (by first | rfl | (simp; done) | (simp [*]; done)), H', ⟨by have := HJ1.out; have := HK2.out; omega⟩, by repeat (first | exact Drawn0.refl _ | apply Drawn0.step)⟩
            ·
             replace c34 := zI c34
             subst c34
             rw [if_neg (show ¬ (false = true) by decide)] at H
             have H' := zM H
             clear H
             have p7 : 0 ≤ (x5_2 : Int) := zT (by first | (with_reducible assumption) | assumption)
             have q7 : x5_2 < (a0.size : Int) := zT (by first | (with_reducible assumption) | assumption)
             have hx7 := bt_at a0 x5_2
             replace p7 := eq_true p7
             replace q7 := eq_true q7
             go_wp2
             go_roundg k2
             case measure => have := HJ1.out; have := HK2.out; omega
             case rel => exact ⟨(false), (false), (wrap64 (x5_2 + 1)), (by first | rfl | (simp; done) | (simp [*]; done)), (by first | rfl | (simp; done) | (simp [*]; done)), (by first | rfl | (simp; done) | (simp [*]; done)), H', ⟨by have := HJ1.out; have := HK2.out; omega⟩, by repeat (first | exact Drawn0.refl _ | apply Drawn0.step)⟩
          ·
           replace c25 := zI c25
           subst c25
           rw [if_neg (show ¬ (false = true) by decide)] at H
           by_cases c37 : x4_2 = true
           ·
            subst c37
            rw [if_pos rfl] at H
            by_cases c38 : (bt a0 x5_2) ≥ 65
            ·
             rw [if_pos c38] at H
             have c38b0 : decide (65 ≤ (bt a0 x5_2)) = true := zQ c38
             clear c38
             by_cases c39 : (bt a0 x5_2) ≤ 90
             ·
              rw [if_pos c39] at H
              have c39b0 : decide ((bt a0 x5_2) ≤ 90) = true := zQ c39
              clear c39
              have H' := zM H
              clear H
              have p7 : 0 ≤ (x5_2 : Int) := zT (by first | (with_reducible assumption) | assumption)
              have q7 : x5_2 < (a0.size : Int) := zT (by first | (with_reducible assumption) | assumption)
              have hx7 := bt_at a0 x5_2
              replace p7 := eq_true p7
              replace q7 := eq_true q7
              go_wp2
              go_roundg k2
              case measure => have := HJ1.out; have := HK2.out; omega
              case rel => exact ⟨(false), (true), (wrap64 (x5_2 + 1)), (by first | rfl | (simp; done) | (simp [*]; done)), (by first | rfl | (simp; done) | (simp [*]; done)), (by first | rfl | (simp; done) | (simp [*]; done)), H', ⟨by have := HJ1.out; have := HK2.out; omega⟩, by repeat (first | exact Drawn0.refl _ | apply Drawn0.step)⟩
             ·
              rw [if_neg c39] at H
              have c39b0 : decide ((bt a0 x5_2) ≤ 90) = false := zR c39
              clear c39
              have H' := zM H
              clear H
              have p7 : 0 ≤ (x5_2 : Int) := zT (by first | (with_reducible assumption) | assumption)
              have q7 : x5_2 < (a0.size : Int) := zT (by first | (with_reducible assumption) | assumption)
              have hx7 := bt_at a0 x5_2
              replace p7 := eq_true p7
              replace q7 := eq_true q7
              go_wp2
              go_roundg k2
              case measure => have := HJ1.out; have := HK2.out; omega
              case rel => exact ⟨(false), (false), (wrap64 (x5_2 + 1)), (by first | rfl | (simp; done) | (simp [*]; done)), (by first | rfl | (simp; done) | (simp [*]; done)), (by first | rfl | (simp; done) | (simp [*]; done)), H', ⟨by have := HJ1.out; have := HK2.out; omega⟩, by repeat (first | exact Drawn0.refl _ | apply Drawn0.step)⟩
            ·
             rw [if_neg c38] at H
             have c38b0 : decide (65 ≤ (bt a0 x5_2)) = false := zR c38
             clear c38
             have H' := zM H
             clear H
             have p7 : 0 ≤ (x5_2 : Int) := zT (by first | (with_reducible assumption) | assumption)
             have q7 : x5_2 < (a0.size : Int) := zT (by first | (with_reducible assumption) | assumption)
             have hx7 := bt_at a0 x5_2
             replace p7 := eq_true p7
             replace q7 := eq_true q7
             go_wp2
             go_roundg k2
             case measure => have := HJ1.out; have := HK2.out; omega
             case rel => exact ⟨(false), (false), (wrap64 (x5_2 + 1)), (by first | rfl | (simp; done) | (simp [*]; done)), (by first | rfl | (simp; done) | (simp [*]; done)), (by first | rfl | (simp; done) | (simp [*]; done)), H', ⟨by have := HJ1.out; have := HK2.out; omega⟩, by repeat (first | exact Drawn0.refl _ | apply Drawn0.step)⟩
           ·
            replace c37 := zI c37
            subst c37
            rw [if_neg (show ¬ (false = true) by decide)] at H
            have H' := zM H
            clear H
            have p7 : 0 ≤ (x5_2 : Int) := zT (by first | (with_reducible assumption) | assumption)
            have q7 : x5_2 < (a0.size : Int) := zT (by first | (with_reducible assumption) | assumption)
            have hx7 := bt_at a0 x5_2
            replace p7 := eq_true p7
            replace q7 := eq_true q7
            go_wp2
            go_roundg k2
            case measure => have := HJ1.out; have := HK2.out; omega
            case rel => exact ⟨(false), (false), (wrap64 (x5_2 + 1)), (by first | rfl | (simp; done) | (simp [*]; done)), (by first | rfl | (simp; done) | (simp [*]; done)), (by first | rfl | (simp; done) | (simp [*]; done)), H', ⟨by have := HJ1.out; have := HK2.out; omega⟩, by repeat (first | exact Drawn0.refl _ | apply Drawn0.step)⟩
        ·
         rw [if_neg c8] at H
         have c8b0 : decide (48 ≤ (bt a0 x5_2)) = false := zR c8
         clear c8
         by_cases c40 : x3_2 = true
         ·
          subst c40
          rw [if_pos rfl] at H
          by_cases c41 : (bt a0 x5_2) ≥ 97
          ·
           rw [if_pos c41] at H
           have c41b0 : decide (97 ≤ (bt a0 x5_2)) = true := zQ c41
           clear c41
           by_cases c42 : (bt a0 x5_2) ≤ 122
           ·
            rw [if_pos c42] at H
            have c42b0 : decide ((bt a0 x5_2) ≤ 122) = true := zQ c42
            clear c42
            by_cases c43 : x4_2 = true
            ·
             subst c43
             rw [if_pos rfl] at H
             by_cases c44 : (bt a0 x5_2) ≥ 65
             ·
              rw [if_pos c44] at H
              have c44b0 : decide (65 ≤ (bt a0 x5_2)) = true := zQ c44
              clear c44
              by_cases c45 : (bt a0 x5_2) ≤ 90
              ·
               rw [if_pos c45] at H
               have c45b0 : decide ((bt a0 x5_2) ≤ 90) = true := zQ c45
               clear c45
               have H' := zM H
               clear H
               have p7 : 0 ≤ (x5_2 : Int) := zT (by first | (with_reducible assumption) | assumption)
               have q7 : x5_2 < (a0.size : Int) := zT (by first | (with_reducible assumption) | assumption)
               have hx7 := bt_at a0 x5_2
               replace p7 := eq_true p7
               replace q7 := eq_true q7
               go_wp2
               go_roundg k2
               case measure => have := HJ1.out; have := HK2.out; omega
               case rel => exact ⟨(true), (true), (wrap64 (x5_2 + 1)), (by first | rfl | (simp; done) | (simp [*]; done)), (by first | rfl | (simp; done) | (simp [*]; done)), (by first | rfl | (simp; done) | (simp [*]; done)), H', ⟨by have := HJ1.out; have := HK2.out; omega⟩, by repeat (first | exact Drawn0.refl _ | apply Drawn0.step)⟩
              ·
               rw [if_neg c45] at H
               have c45b0 : decide ((bt a0 x5_2) ≤ 90) = false := zR c45
               clear c45
               have H' := zM H
               clear H
               have p7 : 0 ≤ (x5_2 : Int) := zT (by first | (with_reducible assumption) | assumption)
               have q7 : x5_2 < (a0.size : Int) := zT (by first | (with_reducible assumption) | assumption)
               have hx7 := bt_at a0 x5_2
               replace p7 := eq_true p7
               replace q7 := eq_true q7
               go_wp2
               go_roundg k2
               case measure => have := HJ1.out; have := HK2.out; omega
               case rel => exact ⟨(true), (false), (wrap64 (x5_2 + 1)), (by first | rfl | (simp; done) | (simp [*]; done)), (by first | rfl | (simp; done) | (simp [*]; done)), (by first | rfl | (simp; done) | (simp [*]; done)), H', ⟨by have := HJ1.out; have := HK2.out; omega⟩, by repeat (first | exact Drawn0.refl _ | apply Drawn0.step)⟩
             ·
              rw [if_neg c44] at H
              have c44b0 : decide (65 ≤ (bt a0 x5_2)) = false := zR c44
              clear c44
              have H' := zM H
              clear H
              have p7 : 0 ≤ (x5_2 : Int) := zT (by first | (with_reducible assumption) | assumption)
              have q7 : x5_2 < (a0.size : Int) := zT (by first | (with_reducible assumption) | assumption)
              have hx7 := bt_at a0 x5_2
              replace p7 := eq_true p7
              replace q7 := eq_true q7
              go_wp2
              go_roundg k2
              case measure => have := HJ1.out; have := HK2.out; omega
              case rel => exact ⟨(true), (false), (wrap64 (x5_2 + 1)), (by first | rfl | (simp; done) | (simp [*]; done)), (by first | rfl | (simp; done) | (simp [*]; done)), (by first | rfl | (simp; done) | (simp [*]; done)), H', ⟨by have := HJ1.out; have := HK2.out; omega⟩, by repeat (first | exact Drawn0.refl _ | apply Drawn0.step)⟩
            ·
             replace c43 := zI c43
             subst c43
             rw [if_neg (show ¬ (false = true) by decide)] at H
             have H' := zM H
             clear H
             have p7 : 0 ≤ (x5_2 : Int) := zT (by first | (with_reducible assumption) | assumption)
             have q7 : x5_2 < (a0.size : Int) := zT (by first | (with_reducible assumption) | assumption)
             have hx7 := bt_at a0 x5_2
             replace p7 := eq_true p7
             replace q7 := eq_true q7
             go_wp2
             go_roundg k2
             case measure => have := HJ1.out; have := HK2.out; omega
             case rel => exact ⟨(true), (false), (wrap64 (x5_2 + 1)), (by first | rfl | (simp; done) | (simp [*]; done)), (by first | rfl | (simp; done) | (simp [*]; done)), (by first | rfl | (simp; done) | (simp [*]; done)), H', ⟨by have := HJ1.out; have := HK2.out; omega⟩, by repeat (first | exact Drawn0.refl _ | apply Drawn0.step)⟩
           ·
            rw [if_neg c42] at H
            have c42b0 : decide ((bt a0 x5_2) ≤ 122) = false := zR c42
            clear c42
            by_cases c46 : x4_2 = true
            ·
             subst c46
             rw [if_pos rfl] at H
             by_cases c47 : (bt a0 x5_2) ≥ 65
             ·
              rw [if_pos c47] at H
              have c47b0 : decide (65 ≤ (bt a0 x5_2)) = true := zQ c47
              clear c47
              by_cases c48 : (bt a0 x5_2) ≤ 90
              ·
               rw [if_pos c48] at H
               have c48b0 : decide ((bt a0 x5_2) ≤ 90) = true := zQ c48
               clear c48
               have H' := zM H
               clear H
               have p7 : 0 ≤ (x5_2 : Int) := zT (by first | (with_reducible assumption) | assumption)
               have q7 : x5_2 < (a0.size : Int) := zT (by first | (with_reducible assumption) | assumption)
               have hx7 := bt_at a0 x5_2
               replace p7 := eq_true p7
               replace q7 := eq_true q7
               go_wp2
               go_roundg k2
               case measure => have := HJ1.out; have := HK2.out; omega
               case rel => exact ⟨(false), (true), (wrap64 (x5_2 + 1)), (by first | rfl | (simp; done) | (simp [*]; done)), (by first | rfl | (simp; done) | (simp [*]; done)), (by first | rfl | (simp; done) | (simp [*]; done)), H', ⟨by have := HJ1.out; have := HK2.out; omega⟩, by repeat (first | exact Drawn0.refl _ | apply Drawn0.step)⟩
              ·
               rw [if_neg c48] at H
               have c48b0 : decide ((bt a0 x5_2) ≤ 90) = false := zR c48
               clear c48
               have H' := zM H
               clear H
               have p7 : 0 ≤ (x5_2 : Int) := zT (by first | (with_reducible assumption) | assumption)
               have q7 : x5_2 < (a0.size : Int) := zT (by first | (with_reducible assumption) | assumption)
               have hx7 := bt_at a0 x5_2
               replace p7 := eq_true p7
               replace q7 := eq_true q7
               go_wp2
               go_roundg k2
               case measure => have := HJ1.out; have := HK2.out; omega
               case rel => exact ⟨(false), (false), (wrap64 (x5_2 + 1)), (by first | rfl | (simp; done) | (simp [*]; done)), (by first | rfl | (simp; done) | (simp [*]; done)), (by first | rfl | (simp; done) | (simp [*]; done)), H', ⟨by have := HJ1.out; have := HK2.out; omega⟩, by repeat (first | exact Drawn0.refl _ | apply Drawn0.step)⟩
             ·
              rw [if_neg c47] at H
              have c47b0 : decide (65 ≤ (bt a0 x5_2)) = false := zR c47
              clear c47
              have H' := zM H
              clear H
              have p7 : 0 ≤ (x5_2 : Int) := zT (by first | (with_reducible assumption) | assumption)
              have q7 : x5_2 < (a0.size : Int) := zT (by first | (with_reducible assumption) | assumption)
              have hx7 := bt_at a0 x5_2
              replace p7 := eq_true p7
              replace q7 := eq_true q7
              go_wp2
              go_roundg k2
              case measure => have := HJ1.out; have := HK2.out; omega
              case rel => exact ⟨(false), (false), (wrap64 (x5_2 + 1)), (by first | rfl | (simp; done) | (simp [*]; done)), (by first | rfl | (simp; done) | (simp [*]; done)), (by first | rfl | (simp; done) | (simp [*]; done)), H', ⟨by have := HJ1.out; have := HK2.out; omega⟩, by repeat (first | exact Drawn0.refl _ | apply Drawn0.step)⟩
            ·
             replace c46 := zI c46
             subst c46
             rw [if_neg (show ¬ (false = true) by decide)] at H
             have H' := zM H
             clear H
             have p7 : 0 ≤ (x5_2 : Int) := zT (by first | (with_reducible assumption) | assumption)
             have q7 : x5_2 < (a0.size : Int) := zT (by first | (with_reducible assumption) | assumption)
             have hx7 := bt_at a0 x5_2
             replace p7 := eq_true p7
             replace q7 := eq_true q7
             go_wp2
             go_roundg k2
             case measure => have := HJ1.out; have := HK2.out; omega
             case rel => exact ⟨(false), (false), (wrap64 (x5_2 + 1)), (by first | rfl | (simp; done) | (simp [*]; done)), (by first | rfl | (simp; done) | (simp [*]; done)), (by first | rfl | (simp; done) | (simp [*]; done)), H', ⟨by have := HJ1.out; have := HK2.out; omega⟩, by repeat (first | exact Drawn0.refl _ | apply Drawn0.step)⟩
          ·
           rw [if_neg c41] at H
           have c41b0 : decide (97 ≤ (bt a0 x5_2)) = false := zR c41
           clear c41
           by_cases c49 : x4_2 = true
           ·
            subst c49
            rw [if_pos rfl] at H
            by_cases c50 : (bt a0 x5_2) ≥ 65
            ·
             rw [if_pos c50] at H
             have c50b0 : decide (65 ≤ (bt a0 x5_2)) = true := zQ c50
             clear c50
             by_cases c51 : (bt a0 x5_2) ≤ 90
             ·
              rw [if_pos c51] at H
              have c51b0 : decide ((bt a0 x5_2) ≤ 90) = true := zQ c51
              clear c51
              have H' := zM H
              clear H
              have p7 : 0 ≤ (x5_2 : Int) := zT (by first | (with_reducible assumption) | assumption)
              have q7 : x5_2 < (a0.size : Int) := zT (by first | (with_reducible assumption) | assumption)
              have hx7 := bt_at a0 x5_2
              replace p7 := eq_true p7
              replace q7 := eq_true q7
              go_wp2
              go_roundg k2
              case measure => have := HJ1.out; have := HK2.out; omega
              case rel => exact ⟨(false), (true), (wrap64 (x5_2 + 1)), (by first | rfl | (simp; done) | (simp [*]; done)), (by first | rfl | (simp; done) | (simp [*]; done)), (by first | rfl | (simp; done) | (simp [*]; done)), H', ⟨by have := HJ1.out; have := HK2.out; omega⟩, by repeat (first | exact Drawn0.refl _ | apply Drawn0.step)⟩
             ·
              rw [if_neg c51] at H
              have c51b0 : decide ((bt a0 x5_2) ≤ 90) = false := zR c51
              clear c51
              have H' := zM H
              clear H
              have p7 : 0 ≤ (x5_2 : Int) := zT (by first | (with_reducible assumption) | assumption)
              have q7 : x5_2 < (a0.size : Int) := zT (by first | (with_reducible assumption) | assumption)
              have hx7 := bt_at a0 x5_2
              replace p7 := eq_true p7
              replace q7 := eq_true q7
              go_wp2
              go_roundg k2
              case measure => have := HJ1.out; have := HK2.out; omega
              case rel => exact ⟨(false), (false), (wrap64 (x5_2 + 1)), (by first | rfl | (simp; done) | (simp [*]; done)), (by first | rfl | (simp; done) | (simp [*]; done)), (by first | rfl | (simp; done) | (simp [*]; done)), H', ⟨by have := HJ1.out; have := HK2.out; omega⟩, by repeat (first | exact Drawn0.refl _ | apply Drawn0.step)⟩
            ·
             rw [if_neg c50] at H
             have c50b0 : decide (65 ≤ (bt a0 x5_2)) = false := zR c50
             clear c50
             have H' := zM H
             clear H
             have p7 : 0 ≤ (x5_2 : Int) := zT (by first | (with_reducible assumption) | assumption)
             have q7 : x5_2 < (a0.size : Int) := zT (by first | (with_reducible assumption) | assumption)
             have hx7 := bt_at a0 x5_2
             replace p7 := eq_true p7
             replace q7 := eq_true q7
             go_wp2
             go_roundg k2
             case measure => have := HJ1.out; have := HK2.out; omega
             case rel => exact ⟨(false), (false), (wrap64 (x5_2 + 1)), (by first | rfl | (simp; done) | (simp [*]; done)), (by first | rfl | (simp; done) | (simp [*]; done)), (by first | rfl | (simp; done) | (simp [*]; done)), H', ⟨by have := HJ1.out; have := HK2.out; omega⟩, by repeat (first | exact Drawn0.refl _ | apply Drawn0.step)⟩
           ·
            replace c49 := zI c49
            subst c49
            rw [if_neg (show ¬ (false = true) by decide)] at H
            have H' := zM H
            clear H
            have p7 : 0 ≤ (x5_2 : Int) := zT (by first | (with_reducible assumption) | assumption)
            have q7 : x5_2 < (a0.size : Int) := zT (by first | (with_reducible assumption) | assumption)
            have hx7 := bt_at a0 x5_2
            replace p7 := eq_true p7
            replace q7 := eq_true q7
            go_wp2
            go_roundg k2
            case measure => have := HJ1.out; have := HK2.out; omega
            case rel => exact ⟨(false), (false), (wrap64 (x5_2 + 1)), (by first | rfl | (simp; done) | (simp [*]; done)), (by first | rfl | (simp; done) | (simp [*]; done)), (by first | rfl | (simp; done) | (simp [*]; done)), H', ⟨by have := HJ1.out; have := HK2.out; omega⟩, by repeat (first | exact Drawn0.refl _ | apply Drawn0.step)⟩
         ·
          replace c40 := zI c40
          subst c40
          rw [if_neg (show ¬ (false = true) by decide)] at H
          by_cases c52 : x4_2 = true
          ·
           subst c52
           rw [if_pos rfl] at H
           by_cases c53 : (bt a0 x5_2) ≥ 65
           ·
            rw [if_pos c53] at H
            have c53b0 : decide (65 ≤ (bt a0 x5_2)) = true := zQ c53
            clear c53
            by_cases c54 : (bt a0 x5_2) ≤ 90
            ·
             rw [if_pos c54] at H
             have c54b0 : decide ((bt a0 x5_2) ≤ 90) = true := zQ c54
             clear c54
             have H' := zM H
             clear H
             have p7 : 0 ≤ (x5_2 : Int) := zT (by first | (with_reducible assumption) | assumption)
             have q7 : x5_2 < (a0.size : Int) := zT (by first | (with_reducible assumption) | assumption)
             have hx7 := bt_at a0 x5_2
             replace p7 := eq_true p7
             replace q7 := eq_true q7
             go_wp2
             go_roundg k2
             case measure => have := HJ1.out; have := HK2.out; omega
             case rel => exact ⟨(false), (true), (wrap64 (x5_2 + 1)), (by first | rfl | (simp; done) | (simp [*]; done)), (by first | rfl | (simp; done) | (simp [*]; done)), (by first | rfl | (simp; done) | (simp [*]; done)), H', ⟨by have := HJ1.out; have := HK2.out; omega⟩, by repeat (first | exact Drawn0.refl _ | apply Drawn0.step)⟩
            ·
             rw [if_neg c54] at H
             have c54b0 : decide ((bt a0 x5_2) ≤ 90) = false := zR c54
             clear c54
             have H' := zM H
             clear H
             have p7 : 0 ≤ (x5_2 : Int) := zT (by first | (with_reducible assumption) | assumption)
             have q7 : x5_2 < (a0.size : Int) := zT (by first | (with_reducible assumption) | assumption)
             have hx7 := bt_at a0 x5_2
             replace p7 := eq_true p7
             replace q7 := eq_true q7
             go_wp2
             go_roundg k2
             case measure => have := HJ1.out; have := HK2.out; omega
             case rel => exact ⟨(false), (false), (wrap64 (x5_2 + 1)), (by first | rfl | (simp; done) | (simp [*]; done)), (by first | rfl | (simp; done) | (simp [*]; done)), (by first | rfl | (simp; done) | (simp [*]; done)), H', ⟨by have := HJ1.out; have := HK2.out; omega⟩, by repeat (first | exact Drawn0.refl _ | apply Drawn0.step)⟩
           ·
            rw [if_neg c53] at H
            have c53b0 : decide (65 ≤ (bt a0 x5_2)) = false := zR c53
            clear c53
            have H' := zM H
            clear H
            have p7 : 0 ≤ (x5_2 : Int) := zT (by first | (with_reducible assumption) | assumption)
            have q7 : x5_2 < (a0.size : Int) := zT (by first | (with_reducible assumption) | assumption)
            have hx7 := bt_at a0 x5_2
            replace p7 := eq_true p7
            replace q7 := eq_true q7
            go_wp2
            go_roundg k2
            case measure => have := HJ1.out; have := HK2.out; omega
            case rel => exact ⟨(false), (false), (wrap64 (x5_2 + 1)), (by first | rfl | (simp; done) | (simp [*]; done)), (by first | rfl | (simp; done) | (simp [*]; done)), (by first | rfl | (simp; done) | (simp [*]; done)), H', ⟨by have := HJ1.out; have := HK2.out; omega⟩, by repeat (first | exact Drawn0.refl _ | apply Drawn0.step)⟩
          ·
           replace c52 := zI c52
           subst c52
           rw [if_neg (show ¬ (false = true) by decide)] at H
           have H' := zM H
           clear H
           have p7 : 0 ≤ (x5_2 : Int) := zT (by first | (with_reducible assumption) | assumption)
           have q7 : x5_2 < (a0.size : Int) := zT (by first | (with_reducible assumption) | assumption)
           have hx7 := bt_at a0 x5_2
           replace p7 := eq_true p7
           replace q7 := eq_true q7
           go_wp2
           go_roundg k2
           case measure => have := HJ1.out; have := HK2.out; omega
           case rel => exact ⟨(false), (false), (wrap64 (x5_2 + 1)), (by first | rfl | (simp; done) | (simp [*]; done)), (by first | rfl | (simp; done) | (simp [*]; done)), (by first | rfl | (simp; done) | (simp [*]; done)), H', ⟨by have := HJ1.out; have := HK2.out; omega⟩, by repeat (first | exact Drawn0.refl _ | apply Drawn0.step)⟩
       ·
        rw [if_neg c6] at H
        exact absurd H (by simp)
      ·
       rw [if_neg c5] at H
       have c5b0 : decide (x5_2 < (a0.size : Int)) = false := zR c5
       clear c5
       by_cases c55 : x3_2 = true
       ·
        subst c55
        rw [if_pos rfl] at H
        obtain rfl := zS H
        go_wp2
        go_ret
        exact ⟨by first | rfl | (simp; done) | (simp [*]; done), by repeat (first | exact Drawn0.refl _ | apply Drawn0.step)⟩
       ·
        replace c55 := zI c55
        subst c55
        rw [if_neg (show ¬ (false = true) by decide)] at H
        by_cases c56 : x4_2 = true
        ·
         subst c56
         rw [if_pos rfl] at H
         obtain rfl := zS H
         go_wp2
         go_ret
         exact ⟨by first | rfl | (simp; done) | (simp [*]; done), by repeat (first | exact Drawn0.refl _ | apply Drawn0.step)⟩
        ·
         replace c56 := zI c56
         subst c56
         rw [if_neg (show ¬ (false = true) by decide)] at H
         obtain rfl := zS H
         go_wp2
         go_ret
         exact ⟨by first | rfl | (simp; done) | (simp [*]; done), by repeat (first | exact Drawn0.refl _ | apply Drawn0.step)⟩


-- ==== PF62

/-! ### aumbryref04_Behind: function 62 -/
mutual
def aumbryref04_Behind.j0 : Nat → List (S33) → Int → Bool → Option (Int)
 | 0, _, _, _ => none
 | k + 1, x0, x1, x14 => if x14 = true then (some (-1)) else (if 0 ≤ x1 then (if x1 < (x0.length : Int) then (aumbryref04_Behind.l0 k x0 (wrap64 (x1 + 1)) ((rd_T33 x0 x1).f1) 0) else (none)) else (none))
def aumbryref04_Behind.l0 : Nat → List (S33) → Int → Int → Int → Option (Int)
 | 0, _, _, _, _ => none
 | k + 1, x0, x1, x5, x6 => if x6 < x5 then (if x1 ≥ 0 then ((aumbryref04_Behind.f k x0 x1).bind fun t102 => (aumbryref04_Behind.l0 k x0 t102 x5 (wrap64 (x6 + 1)))) else (some x1)) else (some x1)
def aumbryref04_Behind.f : Nat → List (S33) → Int → Option (Int)
 | 0, _, _ => none
 | k + 1, l0, a1 => if a1 < 0 then (aumbryref04_Behind.j0 k l0 a1 true) else (aumbryref04_Behind.j0 k l0 a1 (decide (a1 ≥ (l0.length : Int))))
end
theorem aumbryref04_Behind.mono_l : ∀ k, (∀ y0 y1, LeO (aumbryref04_Behind.f k y0 y1) (aumbryref04_Behind.f (k + 1) y0 y1)) ∧ (∀ y0 y1 y2, LeO (aumbryref04_Behind.j0 k y0 y1 y2) (aumbryref04_Behind.j0 (k + 1) y0 y1 y2)) ∧ (∀ y0 y1 y2 y3, LeO (aumbryref04_Behind.l0 k y0 y1 y2 y3) (aumbryref04_Behind.l0 (k + 1) y0 y1 y2 y3))
 | 0 => ⟨fun _ _ r h => by simp [aumbryref04_Behind.f] at h, fun _ _ _ r h => by simp [aumbryref04_Behind.j0] at h, fun _ _ _ _ r h => by simp [aumbryref04_Behind.l0] at h⟩
 | k + 1 => by
  obtain ⟨ih0, ih1, ih2⟩ := aumbryref04_Behind.mono_l k
  refine ⟨?_, ?_, ?_⟩
  ·
   intro y0 y1
   unfold aumbryref04_Behind.f
   repeat' first
   | (with_reducible exact ih0 _ _)
   | (with_reducible exact ih1 _ _ _)
   | (with_reducible exact ih2 _ _ _ _)
   | (with_reducible exact LeO.refl _)
   | (with_reducible exact LeO.none _)
   | (with_reducible refine LeO.ite ?_ ?_)
   | (with_reducible refine LeO.bind ?_ (fun _ => ?_))
   | exact ih0 _ _
   | exact ih1 _ _ _
   | exact ih2 _ _ _ _
   | exact LeO.none _
   | refine LeO.ite ?_ ?_
   | refine LeO.bind ?_ (fun _ => ?_)
  ·
   intro y0 y1 y2
   unfold aumbryref04_Behind.j0
   repeat' first
   | (with_reducible exact ih0 _ _)
   | (with_reducible exact ih1 _ _ _)
   | (with_reducible exact ih2 _ _ _ _)
   | (with_reducible exact LeO.refl _)
   | (with_reducible exact LeO.none _)
   | (with_reducible refine LeO.ite ?_ ?_)
   | (with_reducible refine LeO.bind ?_ (fun _ => ?_))
   | exact ih0 _ _
   | exact ih1 _ _ _
   | exact ih2 _ _ _ _
   | exact LeO.none _
   | refine LeO.ite ?_ ?_
   | refine LeO.bind ?_ (fun _ => ?_)
  ·
   intro y0 y1 y2 y3
   unfold aumbryref04_Behind.l0
   repeat' first
   | (with_reducible exact ih0 _ _)
   | (with_reducible exact ih1 _ _ _)
   | (with_reducible exact ih2 _ _ _ _)
   | (with_reducible exact LeO.refl _)
   | (with_reducible exact LeO.none _)
   | (with_reducible refine LeO.ite ?_ ?_)
   | (with_reducible refine LeO.bind ?_ (fun _ => ?_))
   | exact ih0 _ _
   | exact ih1 _ _ _
   | exact ih2 _ _ _ _
   | exact LeO.none _
   | refine LeO.ite ?_ ?_
   | refine LeO.bind ?_ (fun _ => ?_)
theorem aumbryref04_Behind.mono : ∀ a0 a1 k, LeO (aumbryref04_Behind.f k a0 a1) (aumbryref04_Behind.f (k + 1) a0 a1) := by
 intro a0 a1 k
 obtain ⟨ih0, ih1, ih2⟩ := aumbryref04_Behind.mono_l k
 exact ih0 a0 a1
set_option maxHeartbeats 8000000 in
set_option maxRecDepth 100000 in
theorem aumbryref04_Behind.calls (k : Nat) : ∀ (A0 : Option Addr) (c0 : Nat) (l0 : List (S33)) (a1 : Int) (r : Int) (w : World) (hr0 : Kd.C k33 w A0 l0.length l0) (hc0 : l0.length ≤ c0) (h : aumbryref04_Behind.f k l0 a1 = some r),
 Calls Tryd.prog 62 #[.slice A0 l0.length c0, .int .i64 a1] w fun e w' => e = .returned (.int .i64 r) ∧ Drawn0 w w' := by
 induction k using Nat.strongRecOn with
 | _ k ih =>
 intro A0 c0 l0 a1 r w hr0 hc0 h
 cases k with
 | zero => exact absurd h (by simp [aumbryref04_Behind.f])
 | succ k =>
 simp only [aumbryref04_Behind.f] at h
 have HR0 := zM hr0
 have HC0 := zM hc0
 clear hr0 hc0
 have H : (if a1 < 0 then (aumbryref04_Behind.j0 k l0 a1 true) else (aumbryref04_Behind.j0 k l0 a1 (decide (a1 ≥ (l0.length : Int))))) = some r := h
 clear h
 have HC3 := zM H
 clear H
 go_enter Tryd.func62, Tryd.ntmps62
 go_upto_region 1 with (fail)
 go_cut [14] (fun v14 wc => ∃ (kq : Nat) (x14_2 : Bool), v14 = .bool x14_2 ∧ Aside0 (aumbryref04_Behind.j0 kq l0 a1 x14_2 = some r) ∧ Aside0 (kq ≤ k) ∧ Drawn0 w wc)
 case first =>
  have H := HC3.out
  clear HC3
  by_cases c4 : a1 < 0
  ·
   rw [if_pos c4] at H
   have c4b0 : decide (a1 < 0) = true := zQ c4
   clear c4
   (first | rw [c4b0] | (simp only [i64_w, i32_w]; rw [c4b0]) | skip)
   have H' := zM H
   clear H
   go_wp2
   go_meet
   case rel => exact ⟨_, (true), (by first | rfl | (simp; done) | (simp [*]; done)), H', ⟨by first | omega | exact Nat.le_refl _⟩, by repeat (first | exact Drawn0.refl _ | apply Drawn0.step)⟩
  ·
   rw [if_neg c4] at H
   have c4b0 : decide (a1 < 0) = false := zR c4
   clear c4
   (first | rw [c4b0] | (simp only [i64_w, i32_w]; rw [c4b0]) | skip)
   have H' := zM H
   clear H
   go_wp2
   go_meet
   case rel => exact ⟨_, (decide (a1 ≥ (l0.length : Int))), (by first | rfl | (simp; done) | (simp [*]; done)), H', ⟨by first | omega | exact Nat.le_refl _⟩, by repeat (first | exact Drawn0.refl _ | apply Drawn0.step)⟩
 case rest =>
  clear HC3
  try clear p2
  try clear c4
  try clear c4b0
  obtain ⟨kq, x14_2, rfl, HA, HJ2, ⟨mc2, rfl⟩⟩ := hcut
  cases kq with
  | zero => exact absurd HA.out (by simp [aumbryref04_Behind.j0])
  | succ kj2 =>
   have H := HA.out
   clear HA
   simp only [aumbryref04_Behind.j0] at H
   by_cases c5 : x14_2 = true
   ·
    subst c5
    rw [if_pos rfl] at H
    obtain rfl := zS H
    go_wp2
    go_ret
    exact ⟨by first | rfl | (simp; done) | (simp [*]; done), by repeat (first | exact Drawn0.refl _ | apply Drawn0.step)⟩
   ·
    replace c5 := zI c5
    subst c5
    rw [if_neg (show ¬ (false = true) by decide)] at H
    by_cases c6 : 0 ≤ a1
    ·
     rw [if_pos c6] at H
     have c6b0 : decide (0 ≤ a1) = true := zQ c6
     clear c6
     by_cases c7 : a1 < (l0.length : Int)
     ·
      rw [if_pos c7] at H
      have c7b0 : decide (a1 < (l0.length : Int)) = true := zQ c7
      clear c7
      have H' := zM H
      clear H
      have p101 : 0 ≤ (a1 : Int) := zT (by first | (with_reducible assumption) | assumption)
      have q101 : a1 < (l0.length : Int) := zT (by first | (with_reducible assumption) | assumption)
      obtain ⟨ad101, e101, hx101_0, hx101_1⟩ := at_T33 HR0.out a1 p101 q101
      cases e101
      replace p101 := eq_true p101
      replace q101 := eq_true q101
      go_wp2
      go_loopg [1, 6] kj2 (fun kq v1 v6 w' => ∃ (x1_2 : Int) (x6_2 : Int), v1 = .int .i64 x1_2 ∧ v6 = .int .i64 x6_2 ∧ Aside0 (aumbryref04_Behind.l0 kq l0 x1_2 ((rd_T33 l0 a1).f1) x6_2 = some r) ∧ Aside0 (kq ≤ kj2) ∧ Drawn0 w w')
      case atStart => exact ⟨(wrap64 (a1 + 1)), (0), (by first | rfl | (simp; done) | (simp [*]; done)), (by first | rfl | (simp; done) | (simp [*]; done)), H', ⟨Nat.le_refl _⟩, by repeat (first | exact Drawn0.refl _ | apply Drawn0.step)⟩
      case round =>
       clear H'
       try clear p1
       try clear q1
       try clear hx1
       try clear c2
       try clear p2
       try clear c4
       try clear c4b0
       try clear c5
       try clear c6
       try clear c6b0
       try clear p6
       try clear c7
       try clear c7b0
       try clear hx101_0
       try clear hx101_1
       try clear p101
       try clear p2
       try clear q101
       obtain ⟨x1_2, x6_2, rfl, rfl, HA, HK2, ⟨m2, rfl⟩⟩ := hrel
       cases gk with
       | zero => exact absurd HA.out (by simp [aumbryref04_Behind.l0])
       | succ k2 =>
        have H := HA.out
        clear HA
        simp only [aumbryref04_Behind.l0] at H
        by_cases c8 : x6_2 < ((rd_T33 l0 a1).f1)
        ·
         rw [if_pos c8] at H
         have c8b0 : decide (x6_2 < ((rd_T33 l0 a1).f1)) = true := zQ c8
         clear c8
         by_cases c9 : x1_2 ≥ 0
         ·
          rw [if_pos c9] at H
          have c9b0 : decide (0 ≤ x1_2) = true := zQ c9
          clear c9
          replace H := zB H
          obtain ⟨t102, A100, H⟩ := H
          try dsimp only at H
          have A10 := zM A100
          clear A100
          have H' := zM H
          clear H
          go_wp2_with (first | ((with_reducible refine gate_callee (f := 62) rfl ?_); refine goesL_ (some 33) rfl rfl Tryd.func62 (by kernel_rfl) rfl #[.slice (some ad101) l0.length c0, .int .i64 x1_2] rfl (by (try simp only [List.map_toArray, List.map_cons, List.map_nil]); first | done | rfl) ?_; (with_reducible refine (ih k2 (by have := HJ2.out; have := HK2.out; omega) _ _ l0 x1_2 t102 _ ?side1 ?side2 A10.out).mono ?_); (case side1 => repeat (first | exact HR0.out | (with_reducible first | refine Kd.C_alloc ?_ _ | refine Kd.C_drewN ?_ _ | refine Kd.C_drew ?_))); (case side2 => exact HC0.out); rintro e w' ⟨rfl, ⟨nd, rfl⟩⟩; refine ⟨_, rfl, ?_⟩))
          go_roundg k2
          case measure => have := HJ2.out; have := HK2.out; omega
          case rel => exact ⟨(t102), (wrap64 (x6_2 + 1)), (by first | rfl | (simp; done) | (simp [*]; done)), (by first | rfl | (simp; done) | (simp [*]; done)), H', ⟨by have := HJ2.out; have := HK2.out; omega⟩, by repeat (first | exact Drawn0.refl _ | apply Drawn0.step)⟩
         ·
          rw [if_neg c9] at H
          have c9b0 : decide (0 ≤ x1_2) = false := zR c9
          clear c9
          obtain rfl := zS H
          go_wp2
          go_ret
          exact ⟨by first | rfl | (simp; done) | (simp [*]; done), by repeat (first | exact Drawn0.refl _ | apply Drawn0.step)⟩
        ·
         rw [if_neg c8] at H
         have c8b0 : decide (x6_2 < ((rd_T33 l0 a1).f1)) = false := zR c8
         clear c8
         obtain rfl := zS H
         go_wp2
         go_ret
         exact ⟨by first | rfl | (simp; done) | (simp [*]; done), by repeat (first | exact Drawn0.refl _ | apply Drawn0.step)⟩
     ·
      rw [if_neg c7] at H
      exact absurd H (by simp)
    ·
     rw [if_neg c6] at H
     exact absurd H (by simp)


-- ==== PF37

/-! ### aumbryref04_Check: function 37 -/
def aumbryref04_Check.l0 : Nat → List (S33) → Int → Int → Option (Int)
 | 0, _, _, _ => none
 | k + 1, x0, x9, x10 => if x10 < x9 then (if 0 ≤ x10 then (if x10 < (x0.length : Int) then ((aumbryref03_Kind.f k ((rd_T33 x0 x10).f0)).bind fun t103 => (if t103 = 0 then (some 4) else (if ((rd_T33 x0 x10).f1) < 0 then (some 5) else (if ((rd_T33 x0 x10).f1) > 4 then (some 5) else (if t103 = 2 then (if ((rd_T33 x0 x10).f1) = 0 then (aumbryref04_Check.l0 k x0 x9 (wrap64 (x10 + 1))) else (some 5)) else (aumbryref04_Check.l0 k x0 x9 (wrap64 (x10 + 1)))))))) else (none)) else (none)) else ((aumbryref04_Behind.f k x0 0).bind fun t101 => (if t101 = (x0.length : Int) then (some 0) else (some 3)))
def aumbryref04_Check.f (k : Nat) (l0 : List (S33)) : Option (Int) := if (l0.length : Int) > 64 then (some 6) else (aumbryref04_Check.l0 k l0 (l0.length : Int) 0)
theorem aumbryref04_Check.mono_l : ∀ k, (∀ y0 y1 y2, LeO (aumbryref04_Check.l0 k y0 y1 y2) (aumbryref04_Check.l0 (k + 1) y0 y1 y2))
 | 0 => fun _ _ _ r h => by simp [aumbryref04_Check.l0] at h
 | k + 1 => by
  have ih0 := aumbryref04_Check.mono_l k
  ·
   intro y0 y1 y2
   unfold aumbryref04_Check.l0
   repeat' first
   | (with_reducible exact ih0 _ _ _)
   | (with_reducible exact aumbryref03_Kind.mono _ _)
   | (with_reducible exact aumbryref04_Behind.mono _ _ _)
   | (with_reducible exact LeO.refl _)
   | (with_reducible exact LeO.none _)
   | (with_reducible refine LeO.ite ?_ ?_)
   | (with_reducible refine LeO.bind ?_ (fun _ => ?_))
   | exact ih0 _ _ _
   | exact aumbryref03_Kind.mono _ _
   | exact aumbryref04_Behind.mono _ _ _
   | exact LeO.none _
   | refine LeO.ite ?_ ?_
   | refine LeO.bind ?_ (fun _ => ?_)
theorem aumbryref04_Check.mono : ∀ a0 k, LeO (aumbryref04_Check.f k a0) (aumbryref04_Check.f (k + 1) a0) := by
 intro a0 k
 have ih0 := aumbryref04_Check.mono_l k
 unfold aumbryref04_Check.f
 repeat' first
  | (with_reducible exact ih0 _ _ _)
  | (with_reducible exact aumbryref03_Kind.mono _ _)
  | (with_reducible exact aumbryref04_Behind.mono _ _ _)
  | (with_reducible exact LeO.refl _)
  | (with_reducible exact LeO.none _)
  | (with_reducible refine LeO.ite ?_ ?_)
  | (with_reducible refine LeO.bind ?_ (fun _ => ?_))
  | exact ih0 _ _ _
  | exact aumbryref03_Kind.mono _ _
  | exact aumbryref04_Behind.mono _ _ _
  | exact LeO.none _
  | refine LeO.ite ?_ ?_
  | refine LeO.bind ?_ (fun _ => ?_)
set_option maxHeartbeats 8000000 in
set_option maxRecDepth 100000 in
theorem aumbryref04_Check.calls (k : Nat) (A0 : Option Addr) (c0 : Nat) (l0 : List (S33)) (r : Int) (w : World) (hr0 : Kd.C k33 w A0 l0.length l0) (hc0 : l0.length ≤ c0) (h : aumbryref04_Check.f k l0 = some r) :
 Calls Tryd.prog 37 #[.slice A0 l0.length c0] w fun e w' => e = .returned (.int .i64 r) ∧ Drawn0 w w' := by
 have HR0 := zM hr0
 have HC0 := zM hc0
 clear hr0 hc0
 have H : (if (l0.length : Int) > 64 then (some 6) else (aumbryref04_Check.l0 k l0 (l0.length : Int) 0)) = some r := h
 clear h
 by_cases c2 : (l0.length : Int) > 64
 ·
  rw [if_pos c2] at H
  have c2b0 : decide (64 < (l0.length : Int)) = true := zQ c2
  have c2b1 : decide (64 < l0.length) = true := zQ (by omega)
  clear c2
  obtain rfl := zS H
  go_enter Tryd.func37, Tryd.ntmps37
  go_wp2
  go_ret
  exact ⟨by first | rfl | (simp; done) | (simp [*]; done), by repeat (first | exact Drawn0.refl _ | apply Drawn0.step)⟩
 ·
  rw [if_neg c2] at H
  have c2b0 : decide (64 < (l0.length : Int)) = false := zR c2
  have c2b1 : decide (64 < l0.length) = false := zR (by omega)
  clear c2
  have H' := zM H
  clear H
  go_enter Tryd.func37, Tryd.ntmps37
  go_wp2
  go_loopg [10] k (fun kq v10 w' => ∃ (x10_1 : Int), v10 = .int .i64 x10_1 ∧ Aside0 (aumbryref04_Check.l0 kq l0 (l0.length : Int) x10_1 = some r) ∧ Aside0 (kq ≤ k) ∧ Drawn0 w w')
  case atStart => exact ⟨(0), (by first | rfl | (simp; done) | (simp [*]; done)), H', ⟨Nat.le_refl _⟩, by repeat (first | exact Drawn0.refl _ | apply Drawn0.step)⟩
  case round =>
   clear H'
   try clear c2
   try clear c2b0
   try clear c2b1
   try clear p2
   obtain ⟨x10_1, rfl, HA, HK1, ⟨m1, rfl⟩⟩ := hrel
   cases gk with
   | zero => exact absurd HA.out (by simp [aumbryref04_Check.l0])
   | succ k1 =>
    have H := HA.out
    clear HA
    simp only [aumbryref04_Check.l0] at H
    by_cases c3 : x10_1 < (l0.length : Int)
    ·
     rw [if_pos c3] at H
     have c3b0 : decide (x10_1 < (l0.length : Int)) = true := zQ c3
     clear c3
     by_cases c4 : 0 ≤ x10_1
     ·
      rw [if_pos c4] at H
      have c4b0 : decide (0 ≤ x10_1) = true := zQ c4
      clear c4
      by_cases c5 : x10_1 < (l0.length : Int)
      ·
       rw [if_pos c5] at H
       have c5b0 : decide (x10_1 < (l0.length : Int)) = true := zQ c5
       clear c5
       replace H := zB H
       obtain ⟨t103, A60, H⟩ := H
       try dsimp only at H
       have A6 := zM A60
       clear A60
       by_cases c7 : t103 = 0
       ·
        rw [if_pos c7] at H
        have c7b0 : (t103 == 0) = true := zG c7
        have c7b1 : (t103 != 0) = false := zH c7
        clear c7
        obtain rfl := zS H
        have p102 : 0 ≤ (x10_1 : Int) := zT (by first | (with_reducible assumption) | assumption)
        have q102 : x10_1 < (l0.length : Int) := zT (by first | (with_reducible assumption) | assumption)
        obtain ⟨ad102, e102, hx102_0, hx102_1⟩ := at_T33 HR0.out x10_1 p102 q102
        cases e102
        replace p102 := eq_true p102
        replace q102 := eq_true q102
        go_wp2_with (first | ((with_reducible refine gate_callee (f := 61) rfl ?_); refine goesL_ (some 18) rfl rfl Tryd.func61 (by kernel_rfl) rfl #[.string ((rd_T33 l0 x10_1).f0)] rfl (by (try simp only [List.map_toArray, List.map_cons, List.map_nil]); first | done | rfl) ?_; (with_reducible refine (aumbryref03_Kind.calls k1 ((rd_T33 l0 x10_1).f0) t103 _ A6.out).mono ?_); rintro e w' ⟨rfl, ⟨nd, rfl⟩⟩; refine ⟨_, rfl, ?_⟩))
        go_ret
        exact ⟨by first | rfl | (simp; done) | (simp [*]; done), by repeat (first | exact Drawn0.refl _ | apply Drawn0.step)⟩
       ·
        rw [if_neg c7] at H
        have c7b0 : (t103 == 0) = false := zE c7
        have c7b1 : (t103 != 0) = true := zF c7
        by_cases c8 : ((rd_T33 l0 x10_1).f1) < 0
        ·
         rw [if_pos c8] at H
         have c8b0 : decide (((rd_T33 l0 x10_1).f1) < 0) = true := zQ c8
         clear c8
         obtain rfl := zS H
         have p102 : 0 ≤ (x10_1 : Int) := zT (by first | (with_reducible assumption) | assumption)
         have q102 : x10_1 < (l0.length : Int) := zT (by first | (with_reducible assumption) | assumption)
         obtain ⟨ad102, e102, hx102_0, hx102_1⟩ := at_T33 HR0.out x10_1 p102 q102
         cases e102
         replace p102 := eq_true p102
         replace q102 := eq_true q102
         go_wp2_with (first | ((with_reducible refine gate_callee (f := 61) rfl ?_); refine goesL_ (some 18) rfl rfl Tryd.func61 (by kernel_rfl) rfl #[.string ((rd_T33 l0 x10_1).f0)] rfl (by (try simp only [List.map_toArray, List.map_cons, List.map_nil]); first | done | rfl) ?_; (with_reducible refine (aumbryref03_Kind.calls k1 ((rd_T33 l0 x10_1).f0) t103 _ A6.out).mono ?_); rintro e w' ⟨rfl, ⟨nd, rfl⟩⟩; refine ⟨_, rfl, ?_⟩; have p104 : 0 ≤ (x10_1 : Int) := zT (by first | (with_reducible assumption) | assumption); have q104 : x10_1 < (l0.length : Int) := zT (by first | (with_reducible assumption) | assumption); obtain ⟨ad104, e104, hx104_0, hx104_1⟩ := at_T33 HR0.out x10_1 p104 q104; obtain rfl : ad102 = ad104 := (by injection e104); replace p104 := eq_true p104; replace q104 := eq_true q104))
         go_ret
         exact ⟨by first | rfl | (simp; done) | (simp [*]; done), by repeat (first | exact Drawn0.refl _ | apply Drawn0.step)⟩
        ·
         rw [if_neg c8] at H
         have c8b0 : decide (((rd_T33 l0 x10_1).f1) < 0) = false := zR c8
         clear c8
         by_cases c9 : ((rd_T33 l0 x10_1).f1) > 4
         ·
          rw [if_pos c9] at H
          have c9b0 : decide (4 < ((rd_T33 l0 x10_1).f1)) = true := zQ c9
          clear c9
          obtain rfl := zS H
          have p102 : 0 ≤ (x10_1 : Int) := zT (by first | (with_reducible assumption) | assumption)
          have q102 : x10_1 < (l0.length : Int) := zT (by first | (with_reducible assumption) | assumption)
          obtain ⟨ad102, e102, hx102_0, hx102_1⟩ := at_T33 HR0.out x10_1 p102 q102
          cases e102
          replace p102 := eq_true p102
          replace q102 := eq_true q102
          go_wp2_with (first | ((with_reducible refine gate_callee (f := 61) rfl ?_); refine goesL_ (some 18) rfl rfl Tryd.func61 (by kernel_rfl) rfl #[.string ((rd_T33 l0 x10_1).f0)] rfl (by (try simp only [List.map_toArray, List.map_cons, List.map_nil]); first | done | rfl) ?_; (with_reducible refine (aumbryref03_Kind.calls k1 ((rd_T33 l0 x10_1).f0) t103 _ A6.out).mono ?_); rintro e w' ⟨rfl, ⟨nd, rfl⟩⟩; refine ⟨_, rfl, ?_⟩; have p104 : 0 ≤ (x10_1 : Int) := zT (by first | (with_reducible assumption) | assumption); have q104 : x10_1 < (l0.length : Int) := zT (by first | (with_reducible assumption) | assumption); obtain ⟨ad104, e104, hx104_0, hx104_1⟩ := at_T33 HR0.out x10_1 p104 q104; obtain rfl : ad102 = ad104 := (by injection e104); replace p104 := eq_true p104; replace q104 := eq_true q104; have p105 : 0 ≤ (x10_1 : Int) := zT (by first | (with_reducible assumption) | assumption); have q105 : x10_1 < (l0.length : Int) := zT (by first | (with_reducible assumption) | assumption); obtain ⟨ad105, e105, hx105_0, hx105_1⟩ := at_T33 HR0.out x10_1 p105 q105; obtain rfl : ad102 = ad105 := (by injection e105); replace p105 := eq_true p105; replace q105 := eq_true q105))
          go_ret
          exact ⟨by first | rfl | (simp; done) | (simp [*]; done), by repeat (first | exact Drawn0.refl _ | apply Drawn0.step)⟩
         ·
          rw [if_neg c9] at H
          have c9b0 : decide (4 < ((rd_T33 l0 x10_1).f1)) = false := zR c9
          clear c9
          by_cases c10 : t103 = 2
          ·
           rw [if_pos c10] at H
           have c10b0 : (t103 == 2) = true := zG c10
           have c10b1 : (t103 != 2) = false := zH c10
           clear c10
           by_cases c11 : ((rd_T33 l0 x10_1).f1) = 0
           ·
            rw [if_pos c11] at H
            have c11b0 : (((rd_T33 l0 x10_1).f1) == 0) = true := zG c11
            have c11b1 : (((rd_T33 l0 x10_1).f1) != 0) = false := zH c11
            clear c11
            have H' := zM H
            clear H
            have p102 : 0 ≤ (x10_1 : Int) := zT (by first | (with_reducible assumption) | assumption)
            have q102 : x10_1 < (l0.length : Int) := zT (by first | (with_reducible assumption) | assumption)
            obtain ⟨ad102, e102, hx102_0, hx102_1⟩ := at_T33 HR0.out x10_1 p102 q102
            cases e102
            replace p102 := eq_true p102
            replace q102 := eq_true q102
            go_wp2_with (first | ((with_reducible refine gate_callee (f := 61) rfl ?_); refine goesL_ (some 18) rfl rfl Tryd.func61 (by kernel_rfl) rfl #[.string ((rd_T33 l0 x10_1).f0)] rfl (by (try simp only [List.map_toArray, List.map_cons, List.map_nil]); first | done | rfl) ?_; (with_reducible refine (aumbryref03_Kind.calls k1 ((rd_T33 l0 x10_1).f0) t103 _ A6.out).mono ?_); rintro e w' ⟨rfl, ⟨nd, rfl⟩⟩; refine ⟨_, rfl, ?_⟩; have p104 : 0 ≤ (x10_1 : Int) := zT (by first | (with_reducible assumption) | assumption); have q104 : x10_1 < (l0.length : Int) := zT (by first | (with_reducible assumption) | assumption); obtain ⟨ad104, e104, hx104_0, hx104_1⟩ := at_T33 HR0.out x10_1 p104 q104; obtain rfl : ad102 = ad104 := (by injection e104); replace p104 := eq_true p104; replace q104 := eq_true q104; have p105 : 0 ≤ (x10_1 : Int) := zT (by first | (with_reducible assumption) | assumption); have q105 : x10_1 < (l0.length : Int) := zT (by first | (with_reducible assumption) | assumption); obtain ⟨ad105, e105, hx105_0, hx105_1⟩ := at_T33 HR0.out x10_1 p105 q105; obtain rfl : ad102 = ad105 := (by injection e105); replace p105 := eq_true p105; replace q105 := eq_true q105; have p106 : 0 ≤ (x10_1 : Int) := zT (by first | (with_reducible assumption) | assumption); have q106 : x10_1 < (l0.length : Int) := zT (by first | (with_reducible assumption) | assumption); obtain ⟨ad106, e106, hx106_0, hx106_1⟩ := at_T33 HR0.out x10_1 p106 q106; obtain rfl : ad102 = ad106 := (by injection e106); replace p106 := eq_true p106; replace q106 := eq_true q106))
            go_roundg k1
            case measure => have := HK1.out; omega
            case rel => exact ⟨(wrap64 (x10_1 + 1)), (by first | rfl | (simp; done) | (simp [*]; done)), H', ⟨by have := HK1.out; omega⟩, by repeat (first | exact Drawn0.refl _ | apply Drawn0.step)⟩
           ·
            rw [if_neg c11] at H
            have c11b0 : (((rd_T33 l0 x10_1).f1) == 0) = false := zE c11
            have c11b1 : (((rd_T33 l0 x10_1).f1) != 0) = true := zF c11
            obtain rfl := zS H
            have p102 : 0 ≤ (x10_1 : Int) := zT (by first | (with_reducible assumption) | assumption)
            have q102 : x10_1 < (l0.length : Int) := zT (by first | (with_reducible assumption) | assumption)
            obtain ⟨ad102, e102, hx102_0, hx102_1⟩ := at_T33 HR0.out x10_1 p102 q102
            cases e102
            replace p102 := eq_true p102
            replace q102 := eq_true q102
            go_wp2_with (first | ((with_reducible refine gate_callee (f := 61) rfl ?_); refine goesL_ (some 18) rfl rfl Tryd.func61 (by kernel_rfl) rfl #[.string ((rd_T33 l0 x10_1).f0)] rfl (by (try simp only [List.map_toArray, List.map_cons, List.map_nil]); first | done | rfl) ?_; (with_reducible refine (aumbryref03_Kind.calls k1 ((rd_T33 l0 x10_1).f0) t103 _ A6.out).mono ?_); rintro e w' ⟨rfl, ⟨nd, rfl⟩⟩; refine ⟨_, rfl, ?_⟩; have p104 : 0 ≤ (x10_1 : Int) := zT (by first | (with_reducible assumption) | assumption); have q104 : x10_1 < (l0.length : Int) := zT (by first | (with_reducible assumption) | assumption); obtain ⟨ad104, e104, hx104_0, hx104_1⟩ := at_T33 HR0.out x10_1 p104 q104; obtain rfl : ad102 = ad104 := (by injection e104); replace p104 := eq_true p104; replace q104 := eq_true q104; have p105 : 0 ≤ (x10_1 : Int) := zT (by first | (with_reducible assumption) | assumption); have q105 : x10_1 < (l0.length : Int) := zT (by first | (with_reducible assumption) | assumption); obtain ⟨ad105, e105, hx105_0, hx105_1⟩ := at_T33 HR0.out x10_1 p105 q105; obtain rfl : ad102 = ad105 := (by injection e105); replace p105 := eq_true p105; replace q105 := eq_true q105; have p106 : 0 ≤ (x10_1 : Int) := zT (by first | (with_reducible assumption) | assumption); have q106 : x10_1 < (l0.length : Int) := zT (by first | (with_reducible assumption) | assumption); obtain ⟨ad106, e106, hx106_0, hx106_1⟩ := at_T33 HR0.out x10_1 p106 q106; obtain rfl : ad102 = ad106 := (by injection e106); replace p106 := eq_true p106; replace q106 := eq_true q106))
            go_ret
            exact ⟨by first | rfl | (simp; done) | (simp [*]; done), by repeat (first | exact Drawn0.refl _ | apply Drawn0.step)⟩
          ·
           rw [if_neg c10] at H
           have c10b0 : (t103 == 2) = false := zE c10
           have c10b1 : (t103 != 2) = true := zF c10
           have H' := zM H
           clear H
           have p102 : 0 ≤ (x10_1 : Int) := zT (by first | (with_reducible assumption) | assumption)
           have q102 : x10_1 < (l0.length : Int) := zT (by first | (with_reducible assumption) | assumption)
           obtain ⟨ad102, e102, hx102_0, hx102_1⟩ := at_T33 HR0.out x10_1 p102 q102
           cases e102
           replace p102 := eq_true p102
           replace q102 := eq_true q102
           go_wp2_with (first | ((with_reducible refine gate_callee (f := 61) rfl ?_); refine goesL_ (some 18) rfl rfl Tryd.func61 (by kernel_rfl) rfl #[.string ((rd_T33 l0 x10_1).f0)] rfl (by (try simp only [List.map_toArray, List.map_cons, List.map_nil]); first | done | rfl) ?_; (with_reducible refine (aumbryref03_Kind.calls k1 ((rd_T33 l0 x10_1).f0) t103 _ A6.out).mono ?_); rintro e w' ⟨rfl, ⟨nd, rfl⟩⟩; refine ⟨_, rfl, ?_⟩; have p104 : 0 ≤ (x10_1 : Int) := zT (by first | (with_reducible assumption) | assumption); have q104 : x10_1 < (l0.length : Int) := zT (by first | (with_reducible assumption) | assumption); obtain ⟨ad104, e104, hx104_0, hx104_1⟩ := at_T33 HR0.out x10_1 p104 q104; obtain rfl : ad102 = ad104 := (by injection e104); replace p104 := eq_true p104; replace q104 := eq_true q104; have p105 : 0 ≤ (x10_1 : Int) := zT (by first | (with_reducible assumption) | assumption); have q105 : x10_1 < (l0.length : Int) := zT (by first | (with_reducible assumption) | assumption); obtain ⟨ad105, e105, hx105_0, hx105_1⟩ := at_T33 HR0.out x10_1 p105 q105; obtain rfl : ad102 = ad105 := (by injection e105); replace p105 := eq_true p105; replace q105 := eq_true q105))
           go_roundg k1
           case measure => have := HK1.out; omega
           case rel => exact ⟨(wrap64 (x10_1 + 1)), (by first | rfl | (simp; done) | (simp [*]; done)), H', ⟨by have := HK1.out; omega⟩, by repeat (first | exact Drawn0.refl _ | apply Drawn0.step)⟩
      ·
       rw [if_neg c5] at H
       exact absurd H (by simp)
     ·
      rw [if_neg c4] at H
      exact absurd H (by simp)
    ·
     rw [if_neg c3] at H
     have c3b0 : decide (x10_1 < (l0.length : Int)) = false := zR c3
     clear c3
     replace H := zB H
     obtain ⟨t101, A120, H⟩ := H
     try dsimp only at H
     have A12 := zM A120
     clear A120
     by_cases c13 : t101 = (l0.length : Int)
     ·
      rw [if_pos c13] at H
      have c13b0 : (t101 == (l0.length : Int)) = true := zG c13
      have c13b1 : (t101 != (l0.length : Int)) = false := zH c13
      clear c13
      obtain rfl := zS H
      go_wp2_with (first | ((with_reducible refine gate_callee (f := 62) rfl ?_); refine goesL_ (some 49) rfl rfl Tryd.func62 (by kernel_rfl) rfl #[.slice A0 l0.length c0, .int .i64 0] rfl (by (try simp only [List.map_toArray, List.map_cons, List.map_nil]); first | done | rfl) ?_; (with_reducible refine (aumbryref04_Behind.calls k1 _ _ l0 0 t101 _ ?side1 ?side2 A12.out).mono ?_); (case side1 => repeat (first | exact HR0.out | (with_reducible first | refine Kd.C_alloc ?_ _ | refine Kd.C_drewN ?_ _ | refine Kd.C_drew ?_))); (case side2 => exact HC0.out); rintro e w' ⟨rfl, ⟨nd, rfl⟩⟩; refine ⟨_, rfl, ?_⟩))
      go_ret
      exact ⟨by first | rfl | (simp; done) | (simp [*]; done), by repeat (first | exact Drawn0.refl _ | apply Drawn0.step)⟩
     ·
      rw [if_neg c13] at H
      have c13b0 : (t101 == (l0.length : Int)) = false := zE c13
      have c13b1 : (t101 != (l0.length : Int)) = true := zF c13
      obtain rfl := zS H
      go_wp2_with (first | ((with_reducible refine gate_callee (f := 62) rfl ?_); refine goesL_ (some 49) rfl rfl Tryd.func62 (by kernel_rfl) rfl #[.slice A0 l0.length c0, .int .i64 0] rfl (by (try simp only [List.map_toArray, List.map_cons, List.map_nil]); first | done | rfl) ?_; (with_reducible refine (aumbryref04_Behind.calls k1 _ _ l0 0 t101 _ ?side1 ?side2 A12.out).mono ?_); (case side1 => repeat (first | exact HR0.out | (with_reducible first | refine Kd.C_alloc ?_ _ | refine Kd.C_drewN ?_ _ | refine Kd.C_drew ?_))); (case side2 => exact HC0.out); rintro e w' ⟨rfl, ⟨nd, rfl⟩⟩; refine ⟨_, rfl, ?_⟩))
      go_ret
      exact ⟨by first | rfl | (simp; done) | (simp [*]; done), by repeat (first | exact Drawn0.refl _ | apply Drawn0.step)⟩


-- ==== PF38

/-! ### aumbryref05_Var: function 38 -/
def aumbryref05_Var.f (k : Nat) (l0 : List (S33)) : Option (Bool) := if (l0.length : Int) = 1 then (if 0 < (l0.length : Int) then ((aumbryref03_Kind.f k ((rd_T33 l0 0).f0)).bind fun t102 => (some (t102 == 2))) else (none)) else (some false)
theorem aumbryref05_Var.mono : ∀ a0 k, LeO (aumbryref05_Var.f k a0) (aumbryref05_Var.f (k + 1) a0) := by
 intro a0 k
 unfold aumbryref05_Var.f
 repeat' first
  | (with_reducible exact aumbryref03_Kind.mono _ _)
  | (with_reducible exact LeO.refl _)
  | (with_reducible exact LeO.none _)
  | (with_reducible refine LeO.ite ?_ ?_)
  | (with_reducible refine LeO.bind ?_ (fun _ => ?_))
  | exact LeO.none _
  | refine LeO.ite ?_ ?_
  | refine LeO.bind ?_ (fun _ => ?_)
set_option maxHeartbeats 8000000 in
set_option maxRecDepth 100000 in
theorem aumbryref05_Var.calls (k : Nat) (A0 : Option Addr) (c0 : Nat) (l0 : List (S33)) (r : Bool) (w : World) (hr0 : Kd.C k33 w A0 l0.length l0) (hc0 : l0.length ≤ c0) (h : aumbryref05_Var.f k l0 = some r) :
 Calls Tryd.prog 38 #[.slice A0 l0.length c0] w fun e w' => e = .returned (.bool r) ∧ Drawn0 w w' := by
 have HR0 := zM hr0
 have HC0 := zM hc0
 clear hr0 hc0
 have H : (if (l0.length : Int) = 1 then (if 0 < (l0.length : Int) then ((aumbryref03_Kind.f k ((rd_T33 l0 0).f0)).bind fun t102 => (some (t102 == 2))) else (none)) else (some false)) = some r := h
 clear h
 by_cases c2 : (l0.length : Int) = 1
 ·
  rw [if_pos c2] at H
  have c2b0 : ((l0.length : Int) == 1) = true := zG c2
  have c2b1 : ((l0.length : Int) != 1) = false := zH c2
  clear c2
  by_cases c3 : 0 < (l0.length : Int)
  ·
   rw [if_pos c3] at H
   have c3b0 : decide (0 < (l0.length : Int)) = true := zQ c3
   have c3b1 : decide (0 < l0.length) = true := zQ (by omega)
   clear c3
   replace H := zB H
   obtain ⟨t102, A40, H⟩ := H
   try dsimp only at H
   have A4 := zM A40
   clear A40
   obtain rfl := zS H
   have p101 : 0 ≤ (0 : Int) := (by omega)
   have q101 : 0 < (l0.length : Int) := zT (by first | (with_reducible assumption) | assumption)
   obtain ⟨ad101, e101, hx101_0, hx101_1⟩ := at_T33 HR0.out 0 p101 q101
   cases e101
   have qi101 : (0 < l0.length) = True := eq_true (by omega)
   (try rw [show ((0 : Int)).toNat = 0 from rfl] at hx101_0)
   (try rw [show 0 * 2 = 0 from rfl] at hx101_0)
   (try rw [Addr.add_zero'] at hx101_0)
   (try rw [show ((0 : Int)).toNat = 0 from rfl] at hx101_1)
   (try rw [show 0 * 2 = 0 from rfl] at hx101_1)
   (try rw [Addr.add_zero'] at hx101_1)
   replace p101 := eq_true p101
   replace q101 := eq_true q101
   go_enter Tryd.func38, Tryd.ntmps38
   go_wp2_with (first | (go_at_call 61; (with_reducible refine (aumbryref03_Kind.calls k ((rd_T33 l0 0).f0) t102 _ A4.out).mono ?_); rintro e w' ⟨rfl, ⟨nd, rfl⟩⟩))
   go_ret
   exact ⟨by first | rfl | (simp; done) | (simp [*]; done), by repeat (first | exact Drawn0.refl _ | apply Drawn0.step)⟩
  ·
   rw [if_neg c3] at H
   exact absurd H (by simp)
 ·
  rw [if_neg c2] at H
  have c2b0 : ((l0.length : Int) == 1) = false := zE c2
  have c2b1 : ((l0.length : Int) != 1) = true := zF c2
  obtain rfl := zS H
  go_enter Tryd.func38, Tryd.ntmps38
  go_wp2
  go_ret
  exact ⟨by first | rfl | (simp; done) | (simp [*]; done), by repeat (first | exact Drawn0.refl _ | apply Drawn0.step)⟩


-- ==== PF40

/-! ### aumbryref03_Has: function 40 -/
def aumbryref03_Has.l0 : Nat → List ByteArray → ByteArray → Int → Int → Option (Bool)
 | 0, _, _, _, _ => none
 | k + 1, x0, x1, x7, x8 => if x8 < x7 then (if 0 ≤ x8 then (if x8 < (x0.length : Int) then (if (rdOf ByteArray.empty x0 x8).toList = x1.toList then (some true) else (aumbryref03_Has.l0 k x0 x1 x7 (wrap64 (x8 + 1)))) else (none)) else (none)) else (some false)
def aumbryref03_Has.f (k : Nat) (l0 : List ByteArray) (a1 : ByteArray) : Option (Bool) := aumbryref03_Has.l0 k l0 a1 (l0.length : Int) 0
theorem aumbryref03_Has.mono_l : ∀ k, (∀ y0 y1 y2 y3, LeO (aumbryref03_Has.l0 k y0 y1 y2 y3) (aumbryref03_Has.l0 (k + 1) y0 y1 y2 y3))
 | 0 => fun _ _ _ _ r h => by simp [aumbryref03_Has.l0] at h
 | k + 1 => by
  have ih0 := aumbryref03_Has.mono_l k
  ·
   intro y0 y1 y2 y3
   unfold aumbryref03_Has.l0
   repeat' first
   | (with_reducible exact ih0 _ _ _ _)
   | (with_reducible exact LeO.refl _)
   | (with_reducible exact LeO.none _)
   | (with_reducible refine LeO.ite ?_ ?_)
   | (with_reducible refine LeO.bind ?_ (fun _ => ?_))
   | exact ih0 _ _ _ _
   | exact LeO.none _
   | refine LeO.ite ?_ ?_
   | refine LeO.bind ?_ (fun _ => ?_)
theorem aumbryref03_Has.mono : ∀ a0 a1 k, LeO (aumbryref03_Has.f k a0 a1) (aumbryref03_Has.f (k + 1) a0 a1) := by
 intro a0 a1 k
 have ih0 := aumbryref03_Has.mono_l k
 unfold aumbryref03_Has.f
 repeat' first
  | (with_reducible exact ih0 _ _ _ _)
  | (with_reducible exact LeO.refl _)
  | (with_reducible exact LeO.none _)
  | (with_reducible refine LeO.ite ?_ ?_)
  | (with_reducible refine LeO.bind ?_ (fun _ => ?_))
  | exact ih0 _ _ _ _
  | exact LeO.none _
  | refine LeO.ite ?_ ?_
  | refine LeO.bind ?_ (fun _ => ?_)
set_option maxHeartbeats 8000000 in
set_option maxRecDepth 100000 in
theorem aumbryref03_Has.calls (k : Nat) (A0 : Option Addr) (c0 : Nat) (l0 : List ByteArray) (a1 : ByteArray) (r : Bool) (w : World) (hr0 : Kd.C Kd.string w A0 l0.length l0) (hc0 : l0.length ≤ c0) (h : aumbryref03_Has.f k l0 a1 = some r) :
 Calls Tryd.prog 40 #[.slice A0 l0.length c0, .string a1] w fun e w' => e = .returned (.bool r) ∧ Drawn0 w w' := by
 have HR0 := zM hr0
 have HC0 := zM hc0
 clear hr0 hc0
 have H : (aumbryref03_Has.l0 k l0 a1 (l0.length : Int) 0) = some r := h
 clear h
 have H' := zM H
 clear H
 go_enter Tryd.func40, Tryd.ntmps40
 go_wp2
 go_loopg [8] k (fun kq v8 w' => ∃ (x8_1 : Int), v8 = .int .i64 x8_1 ∧ Aside0 (aumbryref03_Has.l0 kq l0 a1 (l0.length : Int) x8_1 = some r) ∧ Aside0 (kq ≤ k) ∧ Drawn0 w w')
 case atStart => exact ⟨(0), (by first | rfl | (simp; done) | (simp [*]; done)), H', ⟨Nat.le_refl _⟩, by repeat (first | exact Drawn0.refl _ | apply Drawn0.step)⟩
 case round =>
  clear H'
  try clear p2
  obtain ⟨x8_1, rfl, HA, HK1, ⟨m1, rfl⟩⟩ := hrel
  cases gk with
  | zero => exact absurd HA.out (by simp [aumbryref03_Has.l0])
  | succ k1 =>
   have H := HA.out
   clear HA
   simp only [aumbryref03_Has.l0] at H
   by_cases c3 : x8_1 < (l0.length : Int)
   ·
    rw [if_pos c3] at H
    have c3b0 : decide (x8_1 < (l0.length : Int)) = true := zQ c3
    clear c3
    by_cases c4 : 0 ≤ x8_1
    ·
     rw [if_pos c4] at H
     have c4b0 : decide (0 ≤ x8_1) = true := zQ c4
     clear c4
     by_cases c5 : x8_1 < (l0.length : Int)
     ·
      rw [if_pos c5] at H
      have c5b0 : decide (x8_1 < (l0.length : Int)) = true := zQ c5
      clear c5
      by_cases c6 : (rdOf ByteArray.empty l0 x8_1).toList = a1.toList
      ·
       rw [if_pos c6] at H
       have c6b0 : ((rdOf ByteArray.empty l0 x8_1).toList == a1.toList) = true := zG c6
       have c6b1 : ((rdOf ByteArray.empty l0 x8_1).toList != a1.toList) = false := zH c6
       clear c6
       obtain rfl := zS H
       have p101 : 0 ≤ (x8_1 : Int) := zT (by first | (with_reducible assumption) | assumption)
       have q101 : x8_1 < (l0.length : Int) := zT (by first | (with_reducible assumption) | assumption)
       obtain ⟨ad101, e101, hx101_0⟩ := Kd.at_string HR0.out x8_1 p101 q101
       cases e101
       replace p101 := eq_true p101
       replace q101 := eq_true q101
       go_wp2
       go_ret
       exact ⟨by first | rfl | (simp; done) | (simp [*]; done), by repeat (first | exact Drawn0.refl _ | apply Drawn0.step)⟩
      ·
       rw [if_neg c6] at H
       have c6b0 : ((rdOf ByteArray.empty l0 x8_1).toList == a1.toList) = false := zE c6
       have c6b1 : ((rdOf ByteArray.empty l0 x8_1).toList != a1.toList) = true := zF c6
       have H' := zM H
       clear H
       have p101 : 0 ≤ (x8_1 : Int) := zT (by first | (with_reducible assumption) | assumption)
       have q101 : x8_1 < (l0.length : Int) := zT (by first | (with_reducible assumption) | assumption)
       obtain ⟨ad101, e101, hx101_0⟩ := Kd.at_string HR0.out x8_1 p101 q101
       cases e101
       replace p101 := eq_true p101
       replace q101 := eq_true q101
       go_wp2
       go_roundg k1
       case measure => have := HK1.out; omega
       case rel => exact ⟨(wrap64 (x8_1 + 1)), (by first | rfl | (simp; done) | (simp [*]; done)), H', ⟨by have := HK1.out; omega⟩, by repeat (first | exact Drawn0.refl _ | apply Drawn0.step)⟩
     ·
      rw [if_neg c5] at H
      exact absurd H (by simp)
    ·
     rw [if_neg c4] at H
     exact absurd H (by simp)
   ·
    rw [if_neg c3] at H
    have c3b0 : decide (x8_1 < (l0.length : Int)) = false := zR c3
    clear c3
    obtain rfl := zS H
    go_wp2
    go_ret
    exact ⟨by first | rfl | (simp; done) | (simp [*]; done), by repeat (first | exact Drawn0.refl _ | apply Drawn0.step)⟩


-- ==== PF39

/-! ### aumbryref04_Vars: function 39 -/
def aumbryref04_Vars.l0 : Nat → List (S33) → List ByteArray → Int → Int → Option (List ByteArray)
 | 0, _, _, _, _ => none
 | k + 1, x0, x3, x6, x7 => if x7 < x6 then (if 0 ≤ x7 then (if x7 < (x0.length : Int) then ((aumbryref03_Kind.f k ((rd_T33 x0 x7).f0)).bind fun t102 => (if t102 = 2 then ((aumbryref03_Has.f k x3 ((rd_T33 x0 x7).f0)).bind fun t104 => (if t104 = true then (aumbryref04_Vars.l0 k x0 x3 x6 (wrap64 (x7 + 1))) else (if x3.length < 8796093022208 then (aumbryref04_Vars.l0 k x0 (x3 ++ [(rd_T33 x0 x7).f0]) x6 (wrap64 (x7 + 1))) else (none)))) else (aumbryref04_Vars.l0 k x0 x3 x6 (wrap64 (x7 + 1))))) else (none)) else (none)) else (some x3)
def aumbryref04_Vars.f (k : Nat) (l0 : List (S33)) : Option (List ByteArray) := aumbryref04_Vars.l0 k l0 ([] : List ByteArray) (l0.length : Int) 0
theorem aumbryref04_Vars.mono_l : ∀ k, (∀ y0 y1 y2 y3, LeO (aumbryref04_Vars.l0 k y0 y1 y2 y3) (aumbryref04_Vars.l0 (k + 1) y0 y1 y2 y3))
 | 0 => fun _ _ _ _ r h => by simp [aumbryref04_Vars.l0] at h
 | k + 1 => by
  have ih0 := aumbryref04_Vars.mono_l k
  ·
   intro y0 y1 y2 y3
   unfold aumbryref04_Vars.l0
   repeat' first
   | (with_reducible exact ih0 _ _ _ _)
   | (with_reducible exact aumbryref03_Has.mono _ _ _)
   | (with_reducible exact aumbryref03_Kind.mono _ _)
   | (with_reducible exact LeO.refl _)
   | (with_reducible exact LeO.none _)
   | (with_reducible refine LeO.ite ?_ ?_)
   | (with_reducible refine LeO.bind ?_ (fun _ => ?_))
   | exact ih0 _ _ _ _
   | exact aumbryref03_Has.mono _ _ _
   | exact aumbryref03_Kind.mono _ _
   | exact LeO.none _
   | refine LeO.ite ?_ ?_
   | refine LeO.bind ?_ (fun _ => ?_)
theorem aumbryref04_Vars.mono : ∀ a0 k, LeO (aumbryref04_Vars.f k a0) (aumbryref04_Vars.f (k + 1) a0) := by
 intro a0 k
 have ih0 := aumbryref04_Vars.mono_l k
 unfold aumbryref04_Vars.f
 repeat' first
  | (with_reducible exact ih0 _ _ _ _)
  | (with_reducible exact aumbryref03_Has.mono _ _ _)
  | (with_reducible exact aumbryref03_Kind.mono _ _)
  | (with_reducible exact LeO.refl _)
  | (with_reducible exact LeO.none _)
  | (with_reducible refine LeO.ite ?_ ?_)
  | (with_reducible refine LeO.bind ?_ (fun _ => ?_))
  | exact ih0 _ _ _ _
  | exact aumbryref03_Has.mono _ _ _
  | exact aumbryref03_Kind.mono _ _
  | exact LeO.none _
  | refine LeO.ite ?_ ?_
  | refine LeO.bind ?_ (fun _ => ?_)
set_option maxHeartbeats 8000000 in
set_option maxRecDepth 100000 in
theorem aumbryref04_Vars.calls (k : Nat) (A0 : Option Addr) (c0 : Nat) (l0 : List (S33)) (r : List ByteArray) (w : World) (hr0 : Kd.C k33 w A0 l0.length l0) (hc0 : l0.length ≤ c0) (h : aumbryref04_Vars.f k l0 = some r) :
 Calls Tryd.prog 39 #[.slice A0 l0.length c0] w fun e w' => ∃ v0_ : Value, e = .returned (v0_) ∧ Kd.R Kd.string 9 w' w.heap.size (fun _ => True) v0_ r ∧ Below w.heap.size w w' := by
 have HR0 := zM hr0
 have HC0 := zM hc0
 clear hr0 hc0
 have HB := zM (Below.refl w.heap.size w)
 have H : (aumbryref04_Vars.l0 k l0 ([] : List ByteArray) (l0.length : Int) 0) = some r := h
 clear h
 have H' := zM H
 clear H
 go_enter Tryd.func39, Tryd.ntmps39
 go_wp2
 go_loopg [3, 7] k (fun kq v3 v7 w' => ∃ (x3_1 : List ByteArray) (x7_1 : Int), v7 = .int .i64 x7_1 ∧ Aside0 (aumbryref04_Vars.l0 kq l0 x3_1 (l0.length : Int) x7_1 = some r) ∧ Aside0 (kq ≤ k) ∧ Aside0 (Kd.R Kd.string 9 w' w.heap.size (fun _ => True) v3 x3_1) ∧ Aside0 (Below w.heap.size w w'))
 case atStart => exact ⟨(([] : List ByteArray)), (0), (by first | rfl | (simp; done) | (simp [*]; done)), H', ⟨Nat.le_refl _⟩, ⟨by first | exact Kd.R_nil _ _ _ _ _ | exact Kd.N_nil _ _ _ _ _ | exact Kd.V_nil _ _ _ _ _ | exact Kd.Q_nil _ _ _ _ _ | exact Kd.S_nil _ _ _ _ _⟩, ⟨by repeat (first | (with_reducible first | exact HB.out | apply zA | apply zN | apply zD) | exact HB.out)⟩⟩
 case round =>
  clear H'
  obtain ⟨x3_1, x7_1, rfl, HA, HK1, HO_3, HB⟩ := hrel
  cases gk with
  | zero => exact absurd HA.out (by simp [aumbryref04_Vars.l0])
  | succ k1 =>
   have H := HA.out
   clear HA
   simp only [aumbryref04_Vars.l0] at H
   by_cases c2 : x7_1 < (l0.length : Int)
   ·
    rw [if_pos c2] at H
    have c2b0 : decide (x7_1 < (l0.length : Int)) = true := zQ c2
    clear c2
    by_cases c3 : 0 ≤ x7_1
    ·
     rw [if_pos c3] at H
     have c3b0 : decide (0 ≤ x7_1) = true := zQ c3
     clear c3
     by_cases c4 : x7_1 < (l0.length : Int)
     ·
      rw [if_pos c4] at H
      have c4b0 : decide (x7_1 < (l0.length : Int)) = true := zQ c4
      clear c4
      replace H := zB H
      obtain ⟨t102, A50, H⟩ := H
      try dsimp only at H
      have A5 := zM A50
      clear A50
      by_cases c6 : t102 = 2
      ·
       rw [if_pos c6] at H
       have c6b0 : (t102 == 2) = true := zG c6
       have c6b1 : (t102 != 2) = false := zH c6
       clear c6
       replace H := zB H
       obtain ⟨t104, A70, H⟩ := H
       try dsimp only at H
       have A7 := zM A70
       clear A70
       by_cases c8 : t104 = true
       ·
        subst c8
        rw [if_pos rfl] at H
        have H' := zM H
        clear H
        have p101 : 0 ≤ (x7_1 : Int) := zT (by first | (with_reducible assumption) | assumption)
        have q101 : x7_1 < (l0.length : Int) := zT (by first | (with_reducible assumption) | assumption)
        obtain ⟨ad101, e101, hx101_0, hx101_1⟩ := at_T33 HR0.out x7_1 p101 q101
        cases e101
        replace hx101_0 := (HB.out.cell (World.block_lt_of_cell? w _ hx101_0)).trans hx101_0
        replace hx101_1 := (HB.out.cell (World.block_lt_of_cell? w _ hx101_1)).trans hx101_1
        replace p101 := eq_true p101
        replace q101 := eq_true q101
        go_wp2_with (first | ((with_reducible refine gate_callee (f := 61) rfl ?_); refine goesL_ (some 15) rfl rfl Tryd.func61 (by kernel_rfl) rfl #[.string ((rd_T33 l0 x7_1).f0)] rfl (by (try simp only [List.map_toArray, List.map_cons, List.map_nil]); first | done | rfl) ?_; (with_reducible refine (aumbryref03_Kind.calls k1 ((rd_T33 l0 x7_1).f0) t102 _ A5.out).mono ?_); rintro e w' ⟨rfl, ⟨nd, rfl⟩⟩; refine ⟨_, rfl, ?_⟩; have p103 : 0 ≤ (x7_1 : Int) := zT (by first | (with_reducible assumption) | assumption); have q103 : x7_1 < (l0.length : Int) := zT (by first | (with_reducible assumption) | assumption); obtain ⟨ad103, e103, hx103_0, hx103_1⟩ := at_T33 HR0.out x7_1 p103 q103; obtain rfl : ad101 = ad103 := (by injection e103); replace hx103_0 := (HB.out.cell (World.block_lt_of_cell? w _ hx103_0)).trans hx103_0; replace hx103_1 := (HB.out.cell (World.block_lt_of_cell? w _ hx103_1)).trans hx103_1; replace p103 := eq_true p103; replace q103 := eq_true q103; obtain ⟨Ao9, co9, eo9⟩ := Kd.R_slice HO_3.out; subst eo9) | (go_at_call 40; (with_reducible refine (aumbryref03_Has.calls k1 _ _ x3_1 ((rd_T33 l0 x7_1).f0) true _ ?side1 ?side2 A7.out).mono ?_); (case side1 => repeat (first | exact (Kd.R_reads' HO_3.out).2.2 | (with_reducible first | refine Kd.C_alloc ?_ _ | refine Kd.C_drewN ?_ _ | refine Kd.C_drew ?_))); (case side2 => exact (Kd.R_reads' HO_3.out).2.1); rintro e w' ⟨rfl, ⟨nd, rfl⟩⟩))
        go_roundg k1
        case measure => have := HK1.out; omega
        case rel => exact ⟨(x3_1), (wrap64 (x7_1 + 1)), (by first | rfl | (simp; done) | (simp [*]; done)), H', ⟨by have := HK1.out; omega⟩, ⟨by (with_reducible repeat (first | apply Kd.R_alloc | apply Kd.R_drewN | apply Kd.R_drew)); exact HO_3.out⟩, ⟨by repeat (first | (with_reducible first | exact HB.out | apply zA | apply zN | apply zD) | exact HB.out)⟩⟩
       ·
        replace c8 := zI c8
        subst c8
        rw [if_neg (show ¬ (false = true) by decide)] at H
        by_cases c10 : x3_1.length < 8796093022208
        ·
         rw [if_pos c10] at H
         have LMc10 := zM c10
         clear c10
         obtain ⟨y106, hy106⟩ : ∃ y_ : List ByteArray, y_ = (x3_1 ++ [(rd_T33 l0 x7_1).f0]) := ⟨_, rfl⟩
         replace H : (aumbryref04_Vars.l0 k1 l0 y106 (l0.length : Int) (wrap64 (x7_1 + 1))) = some r := by first | (rw [hy106]; with_reducible exact H) | (have H2_ := (Option.bind_some _ _).symm.trans H; rw [hy106]; with_reducible exact H2_) | (have H2_ := (Option.bind_some _ _).symm.trans H; with_reducible exact H2_) | with_reducible exact H | (rw [hy106]; exact H) | exact H
         have Ny106 := zM hy106
         clear hy106
         have H' := zM H
         clear H
         have p101 : 0 ≤ (x7_1 : Int) := zT (by first | (with_reducible assumption) | assumption)
         have q101 : x7_1 < (l0.length : Int) := zT (by first | (with_reducible assumption) | assumption)
         obtain ⟨ad101, e101, hx101_0, hx101_1⟩ := at_T33 HR0.out x7_1 p101 q101
         cases e101
         replace hx101_0 := (HB.out.cell (World.block_lt_of_cell? w _ hx101_0)).trans hx101_0
         replace hx101_1 := (HB.out.cell (World.block_lt_of_cell? w _ hx101_1)).trans hx101_1
         replace p101 := eq_true p101
         replace q101 := eq_true q101
         go_wp2_with (first | ((with_reducible refine gate_callee (f := 61) rfl ?_); refine goesL_ (some 15) rfl rfl Tryd.func61 (by kernel_rfl) rfl #[.string ((rd_T33 l0 x7_1).f0)] rfl (by (try simp only [List.map_toArray, List.map_cons, List.map_nil]); first | done | rfl) ?_; (with_reducible refine (aumbryref03_Kind.calls k1 ((rd_T33 l0 x7_1).f0) t102 _ A5.out).mono ?_); rintro e w' ⟨rfl, ⟨nd, rfl⟩⟩; refine ⟨_, rfl, ?_⟩; have p103 : 0 ≤ (x7_1 : Int) := zT (by first | (with_reducible assumption) | assumption); have q103 : x7_1 < (l0.length : Int) := zT (by first | (with_reducible assumption) | assumption); obtain ⟨ad103, e103, hx103_0, hx103_1⟩ := at_T33 HR0.out x7_1 p103 q103; obtain rfl : ad101 = ad103 := (by injection e103); replace hx103_0 := (HB.out.cell (World.block_lt_of_cell? w _ hx103_0)).trans hx103_0; replace hx103_1 := (HB.out.cell (World.block_lt_of_cell? w _ hx103_1)).trans hx103_1; replace p103 := eq_true p103; replace q103 := eq_true q103; obtain ⟨Ao11, co11, eo11⟩ := Kd.R_slice HO_3.out; subst eo11) | (go_at_call 40; (with_reducible refine (aumbryref03_Has.calls k1 _ _ x3_1 ((rd_T33 l0 x7_1).f0) false _ ?side1 ?side2 A7.out).mono ?_); (case side1 => repeat (first | exact (Kd.R_reads' HO_3.out).2.2 | (with_reducible first | refine Kd.C_alloc ?_ _ | refine Kd.C_drewN ?_ _ | refine Kd.C_drew ?_))); (case side2 => exact (Kd.R_reads' HO_3.out).2.1); rintro e w' ⟨rfl, ⟨nd, rfl⟩⟩; have p105 : 0 ≤ (x7_1 : Int) := zT (by first | (with_reducible assumption) | assumption); have q105 : x7_1 < (l0.length : Int) := zT (by first | (with_reducible assumption) | assumption); obtain ⟨ad105, e105, hx105_0, hx105_1⟩ := at_T33 HR0.out x7_1 p105 q105; obtain rfl : ad101 = ad105 := (by injection e105); replace hx105_0 := (HB.out.cell (World.block_lt_of_cell? w _ hx105_0)).trans hx105_0; replace hx105_1 := (HB.out.cell (World.block_lt_of_cell? w _ hx105_1)).trans hx105_1; replace p105 := eq_true p105; replace q105 := eq_true q105) | ((with_reducible refine gate_builtin (b := .append) (xs := #[.tmp 27, .tmp 33]) rfl ?_); at_builtin; refine Kd.R_append Kd.string (w0 := w) w.heap.size rfl (.tmp 27) (.tmp 33) 58 9 (.string ⟨#[]⟩) 16 rfl Tryd.underlying58 info9 rfl (by decide) (by omega) (.slice Ao11 x3_1.length co11) x3_1 ((rd_T33 l0 x7_1).f0) [.string ((rd_T33 l0 x7_1).f0)] (fun _ => True) (fun _ => False) rfl rfl ?aP (fun _ hk => hk.elim) ?aF ?aO ?aB ?aS ?aL ?_; (case aP => exact rfl); (case aB => exact (by repeat (first | (with_reducible first | exact HB.out | apply zA | apply zN | apply zD) | exact HB.out))); (case aF => exact (fun _ _ => trivial)); (case aO => exact (by (with_reducible repeat (first | apply Kd.R_alloc | apply Kd.R_drewN | apply Kd.R_drew)); exact HO_3.out)); (case aS => exact (below_size (by repeat (first | (with_reducible first | exact HB.out | apply zA | apply zN | apply zD) | exact HB.out)))); (case aL => have := LMc10.out; omega); intro v107 w12 ho hb hg hat; rw [← Ny106.out] at ho; have n0_ := zM (hb); have n1_ := zM (ho); clear HB; clear HO_3; have HB := n0_; have HO108 := n1_; clear n0_ n1_; clear ho hb hg hat))
         go_roundg k1
         case measure => have := HK1.out; omega
         case rel => exact ⟨(y106), (wrap64 (x7_1 + 1)), (by first | rfl | (simp; done) | (simp [*]; done)), H', ⟨by have := HK1.out; omega⟩, ⟨by (with_reducible repeat (first | apply Kd.R_alloc | apply Kd.R_drewN | apply Kd.R_drew)); exact HO108.out⟩, ⟨by repeat (first | (with_reducible first | exact HB.out | apply zA | apply zN | apply zD) | exact HB.out)⟩⟩
        ·
         rw [if_neg c10] at H
         exact absurd H (by simp)
      ·
       rw [if_neg c6] at H
       have c6b0 : (t102 == 2) = false := zE c6
       have c6b1 : (t102 != 2) = true := zF c6
       have H' := zM H
       clear H
       have p101 : 0 ≤ (x7_1 : Int) := zT (by first | (with_reducible assumption) | assumption)
       have q101 : x7_1 < (l0.length : Int) := zT (by first | (with_reducible assumption) | assumption)
       obtain ⟨ad101, e101, hx101_0, hx101_1⟩ := at_T33 HR0.out x7_1 p101 q101
       cases e101
       replace hx101_0 := (HB.out.cell (World.block_lt_of_cell? w _ hx101_0)).trans hx101_0
       replace hx101_1 := (HB.out.cell (World.block_lt_of_cell? w _ hx101_1)).trans hx101_1
       replace p101 := eq_true p101
       replace q101 := eq_true q101
       go_wp2_with (first | ((with_reducible refine gate_callee (f := 61) rfl ?_); refine goesL_ (some 15) rfl rfl Tryd.func61 (by kernel_rfl) rfl #[.string ((rd_T33 l0 x7_1).f0)] rfl (by (try simp only [List.map_toArray, List.map_cons, List.map_nil]); first | done | rfl) ?_; (with_reducible refine (aumbryref03_Kind.calls k1 ((rd_T33 l0 x7_1).f0) t102 _ A5.out).mono ?_); rintro e w' ⟨rfl, ⟨nd, rfl⟩⟩; refine ⟨_, rfl, ?_⟩))
       go_roundg k1
       case measure => have := HK1.out; omega
       case rel => exact ⟨(x3_1), (wrap64 (x7_1 + 1)), (by first | rfl | (simp; done) | (simp [*]; done)), H', ⟨by have := HK1.out; omega⟩, ⟨by (with_reducible repeat (first | apply Kd.R_alloc | apply Kd.R_drewN | apply Kd.R_drew)); exact HO_3.out⟩, ⟨by repeat (first | (with_reducible first | exact HB.out | apply zA | apply zN | apply zD) | exact HB.out)⟩⟩
     ·
      rw [if_neg c4] at H
      exact absurd H (by simp)
    ·
     rw [if_neg c3] at H
     exact absurd H (by simp)
   ·
    rw [if_neg c2] at H
    have c2b0 : decide (x7_1 < (l0.length : Int)) = false := zR c2
    clear c2
    obtain rfl := zS H
    go_wp2
    go_ret
    exact ⟨_, by first | rfl | (simp [errW_none, errW_some] <;> rfl) | (simp [*, errW_none, errW_some] <;> rfl), by (with_reducible repeat (first | apply Kd.R_alloc | apply Kd.R_drewN | apply Kd.R_drew)); exact HO_3.out, by repeat (first | (with_reducible first | exact HB.out | apply zA | apply zN | apply zD) | exact HB.out)⟩


-- ==== PF13

/-! ### aumbryref06_Check: function 13 -/
mutual
def aumbryref06_Check.j0 : Nat → Bool → Int → List (S33) → List (S33) → Option (Int)
 | 0, _, _, _, _ => none
 | k + 1, x15, x102000, x102001, x102002 => if x15 = true then (some 1) else ((aumbryref04_Check.f k x102001).bind fun t102 => (if t102 = 0 then ((aumbryref04_Check.f k x102002).bind fun t103 => (if t103 = 0 then (if (x102001.length : Int) > 8 then (aumbryref06_Check.j1 k true x102000 x102001 x102002) else (aumbryref06_Check.j1 k (decide ((x102002.length : Int) > 8)) x102000 x102001 x102002)) else (some t103))) else (some t102)))
def aumbryref06_Check.j1 : Nat → Bool → Int → List (S33) → List (S33) → Option (Int)
 | 0, _, _, _, _ => none
 | k + 1, x37, x102000, x102001, x102002 => if x37 = true then (some 6) else ((aumbryref05_Var.f k x102001).bind fun t104 => (if t104 = true then (some 20) else ((aumbryref04_Vars.f k x102001).bind fun t105 => ((aumbryref04_Vars.f k x102002).bind fun t108 => (aumbryref06_Check.l0 k t105 t108 (t108.length : Int) 0)))))
def aumbryref06_Check.l0 : Nat → List ByteArray → List ByteArray → Int → Int → Option (Int)
 | 0, _, _, _, _ => none
 | k + 1, x5, x6, x48, x49 => if x49 < x48 then (if 0 ≤ x49 then (if x49 < (x6.length : Int) then ((aumbryref03_Has.f k x5 (rdOf ByteArray.empty x6 x49)).bind fun t112 => (if t112 = true then (aumbryref06_Check.l0 k x5 x6 x48 (wrap64 (x49 + 1))) else (some 7))) else (none)) else (none)) else (some 0)
end
def aumbryref06_Check.f (k : Nat) (a0_0 : Int) (l0_1 : List (S33)) (l0_2 : List (S33)) : Option (Int) := if a0_0 < 0 then (aumbryref06_Check.j0 k true a0_0 l0_1 l0_2) else (aumbryref06_Check.j0 k (decide (a0_0 > 65535)) a0_0 l0_1 l0_2)
theorem aumbryref06_Check.mono_l : ∀ k, (∀ y0 y1 y2 y3, LeO (aumbryref06_Check.j0 k y0 y1 y2 y3) (aumbryref06_Check.j0 (k + 1) y0 y1 y2 y3)) ∧ (∀ y0 y1 y2 y3, LeO (aumbryref06_Check.j1 k y0 y1 y2 y3) (aumbryref06_Check.j1 (k + 1) y0 y1 y2 y3)) ∧ (∀ y0 y1 y2 y3, LeO (aumbryref06_Check.l0 k y0 y1 y2 y3) (aumbryref06_Check.l0 (k + 1) y0 y1 y2 y3))
 | 0 => ⟨fun _ _ _ _ r h => by simp [aumbryref06_Check.j0] at h, fun _ _ _ _ r h => by simp [aumbryref06_Check.j1] at h, fun _ _ _ _ r h => by simp [aumbryref06_Check.l0] at h⟩
 | k + 1 => by
  obtain ⟨ih0, ih1, ih2⟩ := aumbryref06_Check.mono_l k
  refine ⟨?_, ?_, ?_⟩
  ·
   intro y0 y1 y2 y3
   unfold aumbryref06_Check.j0
   repeat' first
   | (with_reducible exact ih0 _ _ _ _)
   | (with_reducible exact ih1 _ _ _ _)
   | (with_reducible exact ih2 _ _ _ _)
   | (with_reducible exact aumbryref03_Has.mono _ _ _)
   | (with_reducible exact aumbryref04_Check.mono _ _)
   | (with_reducible exact aumbryref04_Vars.mono _ _)
   | (with_reducible exact aumbryref05_Var.mono _ _)
   | (with_reducible exact LeO.refl _)
   | (with_reducible exact LeO.none _)
   | (with_reducible refine LeO.ite ?_ ?_)
   | (with_reducible refine LeO.bind ?_ (fun _ => ?_))
   | exact ih0 _ _ _ _
   | exact ih1 _ _ _ _
   | exact ih2 _ _ _ _
   | exact aumbryref03_Has.mono _ _ _
   | exact aumbryref04_Check.mono _ _
   | exact aumbryref04_Vars.mono _ _
   | exact aumbryref05_Var.mono _ _
   | exact LeO.none _
   | refine LeO.ite ?_ ?_
   | refine LeO.bind ?_ (fun _ => ?_)
  ·
   intro y0 y1 y2 y3
   unfold aumbryref06_Check.j1
   repeat' first
   | (with_reducible exact ih0 _ _ _ _)
   | (with_reducible exact ih1 _ _ _ _)
   | (with_reducible exact ih2 _ _ _ _)
   | (with_reducible exact aumbryref03_Has.mono _ _ _)
   | (with_reducible exact aumbryref04_Check.mono _ _)
   | (with_reducible exact aumbryref04_Vars.mono _ _)
   | (with_reducible exact aumbryref05_Var.mono _ _)
   | (with_reducible exact LeO.refl _)
   | (with_reducible exact LeO.none _)
   | (with_reducible refine LeO.ite ?_ ?_)
   | (with_reducible refine LeO.bind ?_ (fun _ => ?_))
   | exact ih0 _ _ _ _
   | exact ih1 _ _ _ _
   | exact ih2 _ _ _ _
   | exact aumbryref03_Has.mono _ _ _
   | exact aumbryref04_Check.mono _ _
   | exact aumbryref04_Vars.mono _ _
   | exact aumbryref05_Var.mono _ _
   | exact LeO.none _
   | refine LeO.ite ?_ ?_
   | refine LeO.bind ?_ (fun _ => ?_)
  ·
   intro y0 y1 y2 y3
   unfold aumbryref06_Check.l0
   repeat' first
   | (with_reducible exact ih0 _ _ _ _)
   | (with_reducible exact ih1 _ _ _ _)
   | (with_reducible exact ih2 _ _ _ _)
   | (with_reducible exact aumbryref03_Has.mono _ _ _)
   | (with_reducible exact aumbryref04_Check.mono _ _)
   | (with_reducible exact aumbryref04_Vars.mono _ _)
   | (with_reducible exact aumbryref05_Var.mono _ _)
   | (with_reducible exact LeO.refl _)
   | (with_reducible exact LeO.none _)
   | (with_reducible refine LeO.ite ?_ ?_)
   | (with_reducible refine LeO.bind ?_ (fun _ => ?_))
   | exact ih0 _ _ _ _
   | exact ih1 _ _ _ _
   | exact ih2 _ _ _ _
   | exact aumbryref03_Has.mono _ _ _
   | exact aumbryref04_Check.mono _ _
   | exact aumbryref04_Vars.mono _ _
   | exact aumbryref05_Var.mono _ _
   | exact LeO.none _
   | refine LeO.ite ?_ ?_
   | refine LeO.bind ?_ (fun _ => ?_)
theorem aumbryref06_Check.mono : ∀ a0 a1 a2 k, LeO (aumbryref06_Check.f k a0 a1 a2) (aumbryref06_Check.f (k + 1) a0 a1 a2) := by
 intro a0 a1 a2 k
 obtain ⟨ih0, ih1, ih2⟩ := aumbryref06_Check.mono_l k
 unfold aumbryref06_Check.f
 repeat' first
  | (with_reducible exact ih0 _ _ _ _)
  | (with_reducible exact ih1 _ _ _ _)
  | (with_reducible exact ih2 _ _ _ _)
  | (with_reducible exact aumbryref03_Has.mono _ _ _)
  | (with_reducible exact aumbryref04_Check.mono _ _)
  | (with_reducible exact aumbryref04_Vars.mono _ _)
  | (with_reducible exact aumbryref05_Var.mono _ _)
  | (with_reducible exact LeO.refl _)
  | (with_reducible exact LeO.none _)
  | (with_reducible refine LeO.ite ?_ ?_)
  | (with_reducible refine LeO.bind ?_ (fun _ => ?_))
  | exact ih0 _ _ _ _
  | exact ih1 _ _ _ _
  | exact ih2 _ _ _ _
  | exact aumbryref03_Has.mono _ _ _
  | exact aumbryref04_Check.mono _ _
  | exact aumbryref04_Vars.mono _ _
  | exact aumbryref05_Var.mono _ _
  | exact LeO.none _
  | refine LeO.ite ?_ ?_
  | refine LeO.bind ?_ (fun _ => ?_)
def aumbryref06_Check.T13 : Bool × List (List Nat × List Nat) := (true, [([], []), ([0], [0]), ([1], [1]), ([], []), ([3], [3]), ([4, 2], [4]), ([2, 5, 0, 1, 2], [2]), ([5, 6, 0, 1, 2, 3, 4, 5, 6], [5])])
def aumbryref06_Check.B13 : List Nat := [0, 1, 3, 0, 8, 31, 63, 127]
theorem aumbryref06_Check.tab13 : rtab .any (opsOf Tryd.f13 13) = aumbryref06_Check.T13 := by kernel_rfl
theorem aumbryref06_Check.bits13 : waitsOk aumbryref06_Check.T13.2 aumbryref06_Check.B13 = true := by kernel_rfl
set_option maxHeartbeats 8000000 in
set_option maxRecDepth 100000 in
theorem aumbryref06_Check.calls (k : Nat) (a0_0 : Int) (A0_1 : Option Addr) (c0_1 : Nat) (l0_1 : List (S33)) (A0_2 : Option Addr) (c0_2 : Nat) (l0_2 : List (S33)) (r : Int) (w : World) (hr0_1 : Kd.C k33 w A0_1 l0_1.length l0_1) (hc0_1 : l0_1.length ≤ c0_1) (hr0_2 : Kd.C k33 w A0_2 l0_2.length l0_2) (hc0_2 : l0_2.length ≤ c0_2) (h : aumbryref06_Check.f k a0_0 l0_1 l0_2 = some r) :
 Calls Tryd.prog 13 #[.agg #[.int .i64 a0_0, .slice A0_1 l0_1.length c0_1, .slice A0_2 l0_2.length c0_2]] w fun e w' => e = .returned (.int .i64 r) ∧ Below w.heap.size w w' := by
 have hu25 := Tryd.underlying25
 have HR0_1 := zM hr0_1
 have HC0_1 := zM hc0_1
 clear hr0_1 hc0_1
 have HR0_2 := zM hr0_2
 have HC0_2 := zM hc0_2
 clear hr0_2 hc0_2
 have HB := zM (Below.refl w.heap.size w)
 have H : (if a0_0 < 0 then (aumbryref06_Check.j0 k true a0_0 l0_1 l0_2) else (aumbryref06_Check.j0 k (decide (a0_0 > 65535)) a0_0 l0_1 l0_2)) = some r := h
 clear h
 have HC2 := zM H
 clear H
 go_enter Tryd.func13, Tryd.ntmps13
 go_upto_region 1 with (first | ((with_reducible refine gate_dst (N := 1) rfl ?_); (try (refine gate_guard (by rfl) ?_; dsimp only)); refine box_event ?hg (N := 1) ?hd (cs := #[.int .i64 a0_0, .slice A0_1 l0_1.length c0_1, .slice A0_2 l0_2.length c0_2]) (t := 25) ?hr ?_; (case hd => rfl); (case hg => rfl); (case hr => first | (go_simp; done) | (go_simp; rfl)); intro gb101 hg w3 hbox hb; have n0_ := zM (below_step (by repeat (first | (with_reducible first | exact HB.out | apply zA | apply zN | apply zD) | exact HB.out)) hb); have n1_ := zM (hbox); have n2_ := zM ((by rw [hg]; exact (below_size (by repeat (first | (with_reducible first | exact HB.out | apply zA | apply zN | apply zD) | exact HB.out))) : w.heap.size ≤ gb101)); have n3_ := zM ((by rw [hg]; exact (below_size (by repeat (first | (with_reducible first | exact HB.out | apply zA | apply zN | apply zD) | exact HB.out))) : w.heap.size ≤ gb101)); clear HB; have HB := n0_; have BK101 := n1_; have GW101 := n2_; have GE101 := n3_; clear n0_ n1_ n2_ n3_; clear hb hbox hg))
 (try simp only [Act.put, List.setIfInBounds_toArray, List.set_cons_zero, List.set_cons_succ])
 go_cut [15] (fun v15 wc => ∃ (kq : Nat) (x15_1 : Bool), v15 = .bool x15_1 ∧ Aside0 (aumbryref06_Check.j0 kq x15_1 a0_0 l0_1 l0_2 = some r) ∧ Aside0 (kq ≤ k) ∧ Aside0 (wc.heap[gb101]? = some (.cells #[.int .i64 a0_0, (.slice A0_1 l0_1.length c0_1), (.slice A0_2 l0_2.length c0_2)] 25 (0, 0))) ∧ Aside0 (Below w.heap.size w wc))
 case first =>
  have H := HC2.out
  clear HC2
  by_cases c4 : a0_0 < 0
  ·
   rw [if_pos c4] at H
   have c4b0 : decide (a0_0 < 0) = true := zQ c4
   clear c4
   (first | rw [c4b0] | (simp only [i64_w, i32_w]; rw [c4b0]) | skip)
   have H' := zM H
   clear H
   have hcz5_0 : w3.cell? ⟨gb101, 0, none⟩ = some (.int .i64 a0_0) := (zX BK101.out 0).trans rfl
   have hcz5_1 : w3.cell? ⟨gb101, 1, none⟩ = some (.slice A0_1 l0_1.length c0_1) := (zX BK101.out 1).trans rfl
   have hcz5_2 : w3.cell? ⟨gb101, 2, none⟩ = some (.slice A0_2 l0_2.length c0_2) := (zX BK101.out 2).trans rfl
   have hfz5_0 := zY BK101.out 0
   have hfz5_1 := zY BK101.out 1
   have hfz5_2 := zY BK101.out 2
   go_wp2
   go_meet
   case rel => exact ⟨_, (true), (by first | rfl | (simp; done) | (simp [*]; done)), H', ⟨by first | omega | exact Nat.le_refl _⟩, ⟨by (with_reducible repeat (first | refine blk_drewN ?_ _ | refine blk_drew ?_ | refine blk_alloc ?_ _)); exact BK101.out⟩, ⟨by repeat (first | (with_reducible first | exact HB.out | apply zA | apply zN | apply zD | refine below_set ?_ GE101.out) | exact HB.out)⟩⟩
  ·
   rw [if_neg c4] at H
   have c4b0 : decide (a0_0 < 0) = false := zR c4
   clear c4
   (first | rw [c4b0] | (simp only [i64_w, i32_w]; rw [c4b0]) | skip)
   have H' := zM H
   clear H
   have hcz6_0 : w3.cell? ⟨gb101, 0, none⟩ = some (.int .i64 a0_0) := (zX BK101.out 0).trans rfl
   have hcz6_1 : w3.cell? ⟨gb101, 1, none⟩ = some (.slice A0_1 l0_1.length c0_1) := (zX BK101.out 1).trans rfl
   have hcz6_2 : w3.cell? ⟨gb101, 2, none⟩ = some (.slice A0_2 l0_2.length c0_2) := (zX BK101.out 2).trans rfl
   have hfz6_0 := zY BK101.out 0
   have hfz6_1 := zY BK101.out 1
   have hfz6_2 := zY BK101.out 2
   go_wp2
   go_meet
   case rel => exact ⟨_, (decide (a0_0 > 65535)), (by first | rfl | (simp; done) | (simp [*]; done)), H', ⟨by first | omega | exact Nat.le_refl _⟩, ⟨by (with_reducible repeat (first | refine blk_drewN ?_ _ | refine blk_drew ?_ | refine blk_alloc ?_ _)); exact BK101.out⟩, ⟨by repeat (first | (with_reducible first | exact HB.out | apply zA | apply zN | apply zD | refine below_set ?_ GE101.out) | exact HB.out)⟩⟩
 case rest =>
  clear HC2
  try clear c1
  try clear p2
  try clear c4
  try clear c4b0
  try clear hcz5_0
  try clear hcz5_1
  try clear hcz5_2
  try clear hcz6_0
  try clear hcz6_1
  try clear hcz6_2
  try clear hfz5_0
  try clear hfz5_1
  try clear hfz5_2
  try clear hfz6_0
  try clear hfz6_1
  try clear hfz6_2
  obtain ⟨kq, x15_1, rfl, HA, HJ1, BK101, HB⟩ := hcut
  cases kq with
  | zero => exact absurd HA.out (by simp [aumbryref06_Check.j0])
  | succ kj1 =>
   have H := HA.out
   clear HA
   simp only [aumbryref06_Check.j0] at H
   by_cases c7 : x15_1 = true
   ·
    subst c7
    rw [if_pos rfl] at H
    obtain rfl := zS H
    go_wp2
    go_ret
    exact ⟨by first | rfl | (simp [*, errW_none, errW_some] <;> rfl), by repeat (first | (with_reducible first | exact HB.out | apply zA | apply zN | apply zD | refine below_set ?_ GE101.out) | exact HB.out)⟩
   ·
    replace c7 := zI c7
    subst c7
    rw [if_neg (show ¬ (false = true) by decide)] at H
    replace H := zB H
    obtain ⟨t102, A80, H⟩ := H
    try dsimp only at H
    have A8 := zM A80
    clear A80
    by_cases c9 : t102 = 0
    ·
     rw [if_pos c9] at H
     have c9b0 : (t102 == 0) = true := zG c9
     have c9b1 : (t102 != 0) = false := zH c9
     clear c9
     replace H := zB H
     obtain ⟨t103, A100, H⟩ := H
     try dsimp only at H
     have A10 := zM A100
     clear A100
     by_cases c11 : t103 = 0
     ·
      rw [if_pos c11] at H
      have c11b0 : (t103 == 0) = true := zG c11
      have c11b1 : (t103 != 0) = false := zH c11
      clear c11
      have HC12 := zM H
      clear H
      have hcz13_0 : wc.cell? ⟨gb101, 0, none⟩ = some (.int .i64 a0_0) := (zX BK101.out 0).trans rfl
      have hcz13_1 : wc.cell? ⟨gb101, 1, none⟩ = some (.slice A0_1 l0_1.length c0_1) := (zX BK101.out 1).trans rfl
      have hcz13_2 : wc.cell? ⟨gb101, 2, none⟩ = some (.slice A0_2 l0_2.length c0_2) := (zX BK101.out 2).trans rfl
      have hfz13_0 := zY BK101.out 0
      have hfz13_1 := zY BK101.out 1
      have hfz13_2 := zY BK101.out 2
      go_upto_region 9 with (first | ((with_reducible refine gate_callee (f := 37) rfl ?_); refine goesL_ (some 18) rfl rfl Tryd.func37 (by kernel_rfl) rfl #[.slice A0_1 l0_1.length c0_1] rfl (by (try simp only [List.map_toArray, List.map_cons, List.map_nil]); first | done | rfl) ?_; (with_reducible refine (aumbryref04_Check.calls kj1 _ _ l0_1 t102 _ ?side1 ?side2 A8.out).mono ?_); (case side1 => repeat (first | exact (Kd.C_below HR0_1.out HB.out) | (with_reducible first | refine Kd.C_alloc ?_ _ | refine Kd.C_drewN ?_ _ | refine Kd.C_drew ?_))); (case side2 => exact HC0_1.out); rintro e w' ⟨rfl, ⟨nd, rfl⟩⟩; refine ⟨_, rfl, ?_⟩) | ((with_reducible refine gate_callee (f := 37) rfl ?_); refine goesL_ (some 24) rfl rfl Tryd.func37 (by kernel_rfl) rfl #[.slice A0_2 l0_2.length c0_2] rfl (by (try simp only [List.map_toArray, List.map_cons, List.map_nil]); first | done | rfl) ?_; (with_reducible refine (aumbryref04_Check.calls kj1 _ _ l0_2 t103 _ ?side1 ?side2 A10.out).mono ?_); (case side1 => repeat (first | exact (Kd.C_below HR0_2.out (by repeat (first | (with_reducible first | exact HB.out | apply zA | apply zN | apply zD | refine below_set ?_ GE101.out) | exact HB.out))) | (with_reducible first | refine Kd.C_alloc ?_ _ | refine Kd.C_drewN ?_ _ | refine Kd.C_drew ?_))); (case side2 => exact HC0_2.out); rintro e w' ⟨rfl, ⟨nd, rfl⟩⟩; refine ⟨_, rfl, ?_⟩))
      (try simp only [Act.put, List.setIfInBounds_toArray, List.set_cons_zero, List.set_cons_succ])
      go_cut [37] (fun v37 wc => ∃ (kq : Nat) (x37_11 : Bool), v37 = .bool x37_11 ∧ Aside0 (aumbryref06_Check.j1 kq x37_11 a0_0 l0_1 l0_2 = some r) ∧ Aside0 (kq ≤ kj1) ∧ Aside0 (wc.heap[gb101]? = some (.cells #[.int .i64 a0_0, (.slice A0_1 l0_1.length c0_1), (.slice A0_2 l0_2.length c0_2)] 25 (0, 0))) ∧ Aside0 (Below w.heap.size w wc))
      case first =>
       have H := HC12.out
       clear HC12
       by_cases c14 : (l0_1.length : Int) > 8
       ·
        rw [if_pos c14] at H
        have c14b0 : decide (8 < (l0_1.length : Int)) = true := zQ c14
        have c14b1 : decide (8 < l0_1.length) = true := zQ (by omega)
        clear c14
        (first | rw [c14b0] | (simp only [i64_w, i32_w]; rw [c14b0]) | skip)
        have H' := zM H
        clear H
        have hcz15_0 : wc.cell? ⟨gb101, 0, none⟩ = some (.int .i64 a0_0) := (zX BK101.out 0).trans rfl
        have hcz15_1 : wc.cell? ⟨gb101, 1, none⟩ = some (.slice A0_1 l0_1.length c0_1) := (zX BK101.out 1).trans rfl
        have hcz15_2 : wc.cell? ⟨gb101, 2, none⟩ = some (.slice A0_2 l0_2.length c0_2) := (zX BK101.out 2).trans rfl
        have hfz15_0 := zY BK101.out 0
        have hfz15_1 := zY BK101.out 1
        have hfz15_2 := zY BK101.out 2
        go_wp2
        go_meet
        case rel => exact ⟨_, (true), (by first | rfl | (simp; done) | (simp [*]; done)), H', ⟨by have := HJ1.out; first | omega | exact Nat.le_refl _⟩, ⟨by (with_reducible repeat (first | refine blk_drewN ?_ _ | refine blk_drew ?_ | refine blk_alloc ?_ _)); exact BK101.out⟩, ⟨by repeat (first | (with_reducible first | exact HB.out | apply zA | apply zN | apply zD | refine below_set ?_ GE101.out) | exact HB.out)⟩⟩
       ·
        rw [if_neg c14] at H
        have c14b0 : decide (8 < (l0_1.length : Int)) = false := zR c14
        have c14b1 : decide (8 < l0_1.length) = false := zR (by omega)
        clear c14
        (first | rw [c14b0] | (simp only [i64_w, i32_w]; rw [c14b0]) | skip)
        have H' := zM H
        clear H
        have hcz16_0 : wc.cell? ⟨gb101, 0, none⟩ = some (.int .i64 a0_0) := (zX BK101.out 0).trans rfl
        have hcz16_1 : wc.cell? ⟨gb101, 1, none⟩ = some (.slice A0_1 l0_1.length c0_1) := (zX BK101.out 1).trans rfl
        have hcz16_2 : wc.cell? ⟨gb101, 2, none⟩ = some (.slice A0_2 l0_2.length c0_2) := (zX BK101.out 2).trans rfl
        have hfz16_0 := zY BK101.out 0
        have hfz16_1 := zY BK101.out 1
        have hfz16_2 := zY BK101.out 2
        go_wp2
        go_meet
        case rel => exact ⟨_, (decide ((l0_2.length : Int) > 8)), (by first | rfl | (simp; done) | (simp [*]; done)), H', ⟨by have := HJ1.out; first | omega | exact Nat.le_refl _⟩, ⟨by (with_reducible repeat (first | refine blk_drewN ?_ _ | refine blk_drew ?_ | refine blk_alloc ?_ _)); exact BK101.out⟩, ⟨by repeat (first | (with_reducible first | exact HB.out | apply zA | apply zN | apply zD | refine below_set ?_ GE101.out) | exact HB.out)⟩⟩
      case rest =>
       clear HC12
       try clear c1
       try clear p2
       try clear c3
       try clear c4
       try clear c4b0
       try clear c7
       try clear c9
       try clear c9b0
       try clear c9b1
       try clear c11
       try clear c11b0
       try clear c11b1
       try clear c13
       try clear c14
       try clear c14b0
       try clear c14b1
       try clear hcz13_0
       try clear hcz13_1
       try clear hcz13_2
       try clear hcz15_0
       try clear hcz15_1
       try clear hcz15_2
       try clear hcz16_0
       try clear hcz16_1
       try clear hcz16_2
       try clear hcz5_0
       try clear hcz5_1
       try clear hcz5_2
       try clear hcz6_0
       try clear hcz6_1
       try clear hcz6_2
       try clear hfz13_0
       try clear hfz13_1
       try clear hfz13_2
       try clear hfz15_0
       try clear hfz15_1
       try clear hfz15_2
       try clear hfz16_0
       try clear hfz16_1
       try clear hfz16_2
       try clear hfz5_0
       try clear hfz5_1
       try clear hfz5_2
       try clear hfz6_0
       try clear hfz6_1
       try clear hfz6_2
       try clear p2
       obtain ⟨kq, x37_11, rfl, HA, HJ11, BK101, HB⟩ := hcut
       cases kq with
       | zero => exact absurd HA.out (by simp [aumbryref06_Check.j1])
       | succ kj11 =>
        have H := HA.out
        clear HA
        simp only [aumbryref06_Check.j1] at H
        by_cases c17 : x37_11 = true
        ·
         subst c17
         rw [if_pos rfl] at H
         obtain rfl := zS H
         go_wp2
         go_ret
         exact ⟨by first | rfl | (simp [*, errW_none, errW_some] <;> rfl), by repeat (first | (with_reducible first | exact HB.out | apply zA | apply zN | apply zD | refine below_set ?_ GE101.out) | exact HB.out)⟩
        ·
         replace c17 := zI c17
         subst c17
         rw [if_neg (show ¬ (false = true) by decide)] at H
         replace H := zB H
         obtain ⟨t104, A180, H⟩ := H
         try dsimp only at H
         have A18 := zM A180
         clear A180
         by_cases c19 : t104 = true
         ·
          subst c19
          rw [if_pos rfl] at H
          obtain rfl := zS H
          have hcz20_0 : wc.cell? ⟨gb101, 0, none⟩ = some (.int .i64 a0_0) := (zX BK101.out 0).trans rfl
          have hcz20_1 : wc.cell? ⟨gb101, 1, none⟩ = some (.slice A0_1 l0_1.length c0_1) := (zX BK101.out 1).trans rfl
          have hcz20_2 : wc.cell? ⟨gb101, 2, none⟩ = some (.slice A0_2 l0_2.length c0_2) := (zX BK101.out 2).trans rfl
          have hfz20_0 := zY BK101.out 0
          have hfz20_1 := zY BK101.out 1
          have hfz20_2 := zY BK101.out 2
          go_wp2_with (first | ((with_reducible refine gate_callee (f := 38) rfl ?_); refine goesL_ (some 40) rfl rfl Tryd.func38 (by kernel_rfl) rfl #[.slice A0_1 l0_1.length c0_1] rfl (by (try simp only [List.map_toArray, List.map_cons, List.map_nil]); first | done | rfl) ?_; (with_reducible refine (aumbryref05_Var.calls kj11 _ _ l0_1 true _ ?side1 ?side2 A18.out).mono ?_); (case side1 => repeat (first | exact (Kd.C_below HR0_1.out HB.out) | (with_reducible first | refine Kd.C_alloc ?_ _ | refine Kd.C_drewN ?_ _ | refine Kd.C_drew ?_))); (case side2 => exact HC0_1.out); rintro e w' ⟨rfl, ⟨nd, rfl⟩⟩; refine ⟨_, rfl, ?_⟩))
          go_ret
          exact ⟨by first | rfl | (simp [*, errW_none, errW_some] <;> rfl), by repeat (first | (with_reducible first | exact HB.out | apply zA | apply zN | apply zD | refine below_set ?_ GE101.out) | exact HB.out)⟩
         ·
          replace c19 := zI c19
          subst c19
          rw [if_neg (show ¬ (false = true) by decide)] at H
          replace H := zB H
          obtain ⟨t105, A210, H⟩ := H
          try dsimp only at H
          have A21 := zM A210
          clear A210
          replace H := zB H
          obtain ⟨t108, A220, H⟩ := H
          try dsimp only at H
          have A22 := zM A220
          clear A220
          have H' := zM H
          clear H
          have hcz23_0 : wc.cell? ⟨gb101, 0, none⟩ = some (.int .i64 a0_0) := (zX BK101.out 0).trans rfl
          have hcz23_1 : wc.cell? ⟨gb101, 1, none⟩ = some (.slice A0_1 l0_1.length c0_1) := (zX BK101.out 1).trans rfl
          have hcz23_2 : wc.cell? ⟨gb101, 2, none⟩ = some (.slice A0_2 l0_2.length c0_2) := (zX BK101.out 2).trans rfl
          have hfz23_0 := zY BK101.out 0
          have hfz23_1 := zY BK101.out 1
          have hfz23_2 := zY BK101.out 2
          try go_wp2_with (first | ((with_reducible refine gate_callee (f := 38) rfl ?_); refine goesL_ (some 40) rfl rfl Tryd.func38 (by kernel_rfl) rfl #[.slice A0_1 l0_1.length c0_1] rfl (by (try simp only [List.map_toArray, List.map_cons, List.map_nil]); first | done | rfl) ?_; (with_reducible refine (aumbryref05_Var.calls kj11 _ _ l0_1 false _ ?side1 ?side2 A18.out).mono ?_); (case side1 => repeat (first | exact (Kd.C_below HR0_1.out HB.out) | (with_reducible first | refine Kd.C_alloc ?_ _ | refine Kd.C_drewN ?_ _ | refine Kd.C_drew ?_))); (case side2 => exact HC0_1.out); rintro e w' ⟨rfl, ⟨nd, rfl⟩⟩; refine ⟨_, rfl, ?_⟩))
          (try (rw [drewN_self wc]; generalize hq_ : World.drewN wc _ = wc; have n0_ : Aside0 (wc.heap[gb101]? = some (.cells #[.int .i64 a0_0, .slice A0_1 l0_1.length c0_1, .slice A0_2 l0_2.length c0_2] 25 (0, 0))) := ⟨by rw [← hq_]; exact (by (with_reducible repeat (first | refine blk_drewN ?_ _ | refine blk_drew ?_ | refine blk_alloc ?_ _)); exact BK101.out)⟩; have n1_ : Aside0 (Below w.heap.size w wc) := ⟨by rw [← hq_]; exact (by repeat (first | (with_reducible first | exact HB.out | apply zA | apply zN | apply zD | refine below_set ?_ GE101.out) | exact HB.out))⟩; clear BK101 HB hq_; have BK101 := n0_; have HB := n1_; clear n0_ n1_))
          have n0_ := zM (blk_drew BK101.out)
          have n1_ := zM (zD HB.out)
          clear BK101
          clear HB
          have BK101 := n0_
          have HB := n1_
          clear n0_ n1_
          refine start_ (n := 8) (S := fun w' => w'.cell? ⟨gb101, 0, none⟩ = some (.int .i64 a0_0) ∧ w'.cell? ⟨gb101, 1, none⟩ = some (.slice A0_1 l0_1.length c0_1) ∧ w'.cell? ⟨gb101, 2, none⟩ = some (.slice A0_2 l0_2.length c0_2)) (ds := []) #[false, false, false, false, false, false, false, false] (by kernel_rfl) rfl rfl ⟨(zX BK101.out 0).trans rfl, (zX BK101.out 1).trans rfl, (zX BK101.out 2).trans rfl⟩ (fun hHeld => ?_); refine with_tabW aumbryref06_Check.tab13 aumbryref06_Check.bits13 (fun HT_ HW_ => ?_)
          generalize wc.drew = w24 at BK101 HB hHeld ⊢
          refine pure_ (i := 0) (N := some 41) (v := ?_) (a' := ?_) #[true, false, false, false, false, false, false, false] rfl rfl (any_of HT_.out (by kernel_rfl)) (fun _ _ _ h => h) (Or.inl ⟨by rfl, ?_⟩) ?_ ?_
          rotate_left
          ·
           intro w'
           go_simp
           with_reducible rfl
          rotate_left
          ·
           simp only [Act.put, List.setIfInBounds_toArray, List.set_cons_zero, List.set_cons_succ, i64_w, i32_w]
           rfl
          refine pure_ (i := 3) (N := some 44) (v := ?_) (a' := ?_) #[true, false, false, true, false, false, false, false] rfl rfl (any_of HT_.out (by kernel_rfl)) (fun _ _ _ h => h) (Or.inl ⟨by rfl, ?_⟩) ?_ ?_
          rotate_left
          ·
           intro w'
           go_simp
           with_reducible rfl
          rotate_left
          ·
           simp only [Act.put, List.setIfInBounds_toArray, List.set_cons_zero, List.set_cons_succ, i64_w, i32_w]
           rfl
          refine take_ (i := 1) (N := some 42) (v := ?_) (a' := ?_) #[true, true, false, true, false, false, false, false] rfl rfl (take_ofW HT_.out HW_.out (by kernel_rfl)) (fun _ _ _ h => h) (Or.inl ⟨by rfl, ?_⟩) hHeld ?_ ?_
          rotate_left
          ·
           rintro w' ⟨s0, s1, s2⟩
           go_simp
           with_reducible rfl
          rotate_left
          ·
           simp only [Act.put, List.setIfInBounds_toArray, List.set_cons_zero, List.set_cons_succ, i64_w, i32_w]
           rfl
          refine take_ (i := 4) (N := some 45) (v := ?_) (a' := ?_) #[true, true, false, true, true, false, false, false] rfl rfl (take_ofW HT_.out HW_.out (by kernel_rfl)) (fun _ _ _ h => h) (Or.inl ⟨by rfl, ?_⟩) hHeld ?_ ?_
          rotate_left
          ·
           rintro w' ⟨s0, s1, s2⟩
           go_simp
           with_reducible rfl
          rotate_left
          ·
           simp only [Act.put, List.setIfInBounds_toArray, List.set_cons_zero, List.set_cons_succ, i64_w, i32_w]
           rfl
          refine one_ (i := 2) (N := some 43) #[true, true, true, true, true, false, false, false] rfl rfl (one_of HT_.out (by kernel_rfl)) (by decide) (fun K hK => ?_)
          refine goes_ Tryd.func39 (by kernel_rfl) rfl #[.slice A0_1 l0_1.length c0_1] (by rfl) rfl rfl (by (try simp only [List.map_toArray, List.map_cons, List.map_nil]); first | done | rfl) ?_
          with_reducible refine (aumbryref04_Vars.calls kj11 _ _ l0_1 t105 _ ?side1 ?side2 A21.out).mono ?_
          (case side1 => repeat (first | exact (Kd.C_below HR0_1.out HB.out) | (with_reducible first | refine Kd.C_alloc ?_ _ | refine Kd.C_drewN ?_ _ | refine Kd.C_drew ?_)))
          (case side2 => exact HC0_1.out)
          rintro e w25 ⟨v106, rfl, ho0, hb⟩
          refine ⟨_, rfl, ?_⟩
          have n0_ := zM (Kd.R_lower ho0 (below_size (by repeat (first | (with_reducible first | exact HB.out | apply zA | apply zN | apply zD | refine below_set ?_ GE101.out) | exact HB.out))))
          have n1_ := zM (blk_below (g := gb101) (o := .cells #[.int .i64 a0_0, .slice A0_1 l0_1.length c0_1, .slice A0_2 l0_2.length c0_2] 25 (0, 0)) (by (with_reducible repeat (first | refine blk_drewN ?_ _ | refine blk_drew ?_ | refine blk_alloc ?_ _)); exact BK101.out) hb)
          have n2_ := zM (below_step (by repeat (first | (with_reducible first | exact HB.out | apply zA | apply zN | apply zD | refine below_set ?_ GE101.out) | exact HB.out)) hb)
          clear BK101
          clear HB
          have HO107 := n0_
          have BK101 := n1_
          have HB := n2_
          clear n0_ n1_ n2_
          (try clear hb)
          (try clear hb2)
          (try clear hk)
          (try clear hi)
          (try clear ho0)
          refine hK.out _ _ ⟨(zX BK101.out 0).trans rfl, (zX BK101.out 1).trans rfl, (zX BK101.out 2).trans rfl⟩ (fun hHeld => ?_)
          clear hK K
          refine norm_ (a' := ?_) ?_ ?_
          rotate_left
          ·
           show Act.put _ (some 43) _ = _
           simp only [Act.put, List.setIfInBounds_toArray, List.set_cons_zero, List.set_cons_succ, i64_w, i32_w]
           rfl
          refine one_ (i := 5) (N := some 46) #[true, true, true, true, true, true, false, false] rfl rfl (one_of HT_.out (by kernel_rfl)) (by decide) (fun K hK => ?_)
          refine goes_ Tryd.func39 (by kernel_rfl) rfl #[.slice A0_2 l0_2.length c0_2] (by rfl) rfl rfl (by (try simp only [List.map_toArray, List.map_cons, List.map_nil]); first | done | rfl) ?_
          with_reducible refine (aumbryref04_Vars.calls kj11 _ _ l0_2 t108 _ ?side1 ?side2 A22.out).mono ?_
          (case side1 => repeat (first | exact (Kd.C_below HR0_2.out HB.out) | (with_reducible first | refine Kd.C_alloc ?_ _ | refine Kd.C_drewN ?_ _ | refine Kd.C_drew ?_)))
          (case side2 => exact HC0_2.out)
          rintro e w26 ⟨v109, rfl, ho0, hb⟩
          refine ⟨_, rfl, ?_⟩
          have n0_ := zM (Kd.R_elder' (by (with_reducible repeat (first | apply Kd.R_alloc | apply Kd.R_drewN | apply Kd.R_drew)); exact HO107.out) (Kd.R_base ho0) hb)
          have n1_ := zM (Kd.R_lower (Kd.R_new' ho0 (Kd.R_lt (by (with_reducible repeat (first | apply Kd.R_alloc | apply Kd.R_drewN | apply Kd.R_drew)); exact HO107.out))) (below_size (by repeat (first | (with_reducible first | exact HB.out | apply zA | apply zN | apply zD | refine below_set ?_ GE101.out) | exact HB.out))))
          have n2_ := zM (blk_below (g := gb101) (o := .cells #[.int .i64 a0_0, .slice A0_1 l0_1.length c0_1, .slice A0_2 l0_2.length c0_2] 25 (0, 0)) (by (with_reducible repeat (first | refine blk_drewN ?_ _ | refine blk_drew ?_ | refine blk_alloc ?_ _)); exact BK101.out) hb)
          have n3_ := zM (below_step (by repeat (first | (with_reducible first | exact HB.out | apply zA | apply zN | apply zD | refine below_set ?_ GE101.out) | exact HB.out)) hb)
          clear HO107
          clear BK101
          clear HB
          have HO107 := n0_
          have HO110 := n1_
          have BK101 := n2_
          have HB := n3_
          clear n0_ n1_ n2_ n3_
          (try clear hb)
          (try clear hb2)
          (try clear hk)
          (try clear hi)
          (try clear ho0)
          refine hK.out _ _ ⟨(zX BK101.out 0).trans rfl, (zX BK101.out 1).trans rfl, (zX BK101.out 2).trans rfl⟩ (fun hHeld => ?_)
          clear hK K
          refine norm_ (a' := ?_) ?_ ?_
          rotate_left
          ·
           show Act.put _ (some 46) _ = _
           simp only [Act.put, List.setIfInBounds_toArray, List.set_cons_zero, List.set_cons_succ, i64_w, i32_w]
           rfl
          refine pure_ (i := 6) (N := some 5) (v := ?_) (a' := ?_) #[true, true, true, true, true, true, true, false] rfl rfl (any_of HT_.out (by kernel_rfl)) (fun _ _ _ h => h) (Or.inl ⟨by rfl, ?_⟩) ?_ ?_
          rotate_left
          ·
           intro w'
           go_simp
           with_reducible rfl
          rotate_left
          ·
           simp only [Act.put, List.setIfInBounds_toArray, List.set_cons_zero, List.set_cons_succ, i64_w, i32_w]
           rfl
          refine pure_ (i := 7) (N := some 6) (v := ?_) (a' := ?_) #[true, true, true, true, true, true, true, true] rfl rfl (any_of HT_.out (by kernel_rfl)) (fun _ _ _ h => h) (Or.inl ⟨by rfl, ?_⟩) ?_ ?_
          rotate_left
          ·
           intro w'
           go_simp
           with_reducible rfl
          rotate_left
          ·
           simp only [Act.put, List.setIfInBounds_toArray, List.set_cons_zero, List.set_cons_succ, i64_w, i32_w]
           rfl
          refine done_ (done_of HT_.out (by kernel_rfl)) ?_
          obtain ⟨Ao27, co27, eo27⟩ := Kd.R_slice HO110.out
          subst eo27
          try go_wp2
          go_loopg [49] kj11 (fun kq v49 w' => ∃ (x49_3 : Int), v49 = .int .i64 x49_3 ∧ Aside0 (aumbryref06_Check.l0 kq t105 t108 (t108.length : Int) x49_3 = some r) ∧ Aside0 (kq ≤ kj11) ∧ Aside0 (Kd.R Kd.string 9 w' w.heap.size (fun k_ => some k_ ≠ ((.slice Ao27 t108.length co27) : Value).ownBlock) v106 t105) ∧ Aside0 (Kd.R Kd.string 9 w' w.heap.size (fun k_ => some k_ ≠ (v106 : Value).ownBlock) (.slice Ao27 t108.length co27) t108) ∧ Aside0 (w'.heap[gb101]? = some (.cells #[.int .i64 a0_0, (.slice A0_1 l0_1.length c0_1), (.slice A0_2 l0_2.length c0_2)] 25 (0, 0))) ∧ Aside0 (Below w.heap.size w w'))
          case atStart => exact ⟨(0), (by first | rfl | (simp; done) | (simp [*]; done)), H', ⟨Nat.le_refl _⟩, ⟨by (with_reducible repeat (first | apply Kd.R_alloc | apply Kd.R_drewN | apply Kd.R_drew)); exact Kd.R_mono HO107.out (fun _ hk => hk.2)⟩, ⟨by (with_reducible repeat (first | apply Kd.R_alloc | apply Kd.R_drewN | apply Kd.R_drew)); exact Kd.R_mono HO110.out (fun _ hk => hk.2)⟩, ⟨by (with_reducible repeat (first | refine blk_drewN ?_ _ | refine blk_drew ?_ | refine blk_alloc ?_ _)); exact BK101.out⟩, ⟨by repeat (first | (with_reducible first | exact HB.out | apply zA | apply zN | apply zD | refine below_set ?_ GE101.out) | exact HB.out)⟩⟩
          case round =>
           clear H'
           try clear c1
           try clear p2
           try clear c3
           try clear c4
           try clear c4b0
           try clear c7
           try clear c9
           try clear c9b0
           try clear c9b1
           try clear c11
           try clear c11b0
           try clear c11b1
           try clear c13
           try clear c14
           try clear c14b0
           try clear c14b1
           try clear c17
           try clear c19
           try clear hcz13_0
           try clear hcz13_1
           try clear hcz13_2
           try clear hcz15_0
           try clear hcz15_1
           try clear hcz15_2
           try clear hcz16_0
           try clear hcz16_1
           try clear hcz16_2
           try clear hcz20_0
           try clear hcz20_1
           try clear hcz20_2
           try clear hcz23_0
           try clear hcz23_1
           try clear hcz23_2
           try clear hcz5_0
           try clear hcz5_1
           try clear hcz5_2
           try clear hcz6_0
           try clear hcz6_1
           try clear hcz6_2
           try clear hfz13_0
           try clear hfz13_1
           try clear hfz13_2
           try clear hfz15_0
           try clear hfz15_1
           try clear hfz15_2
           try clear hfz16_0
           try clear hfz16_1
           try clear hfz16_2
           try clear hfz20_0
           try clear hfz20_1
           try clear hfz20_2
           try clear hfz23_0
           try clear hfz23_1
           try clear hfz23_2
           try clear hfz5_0
           try clear hfz5_1
           try clear hfz5_2
           try clear hfz6_0
           try clear hfz6_1
           try clear hfz6_2
           try clear p2
           obtain ⟨x49_3, rfl, HA, HK3, HO_5, HO_6, BK101, HB⟩ := hrel
           cases gk with
           | zero => exact absurd HA.out (by simp [aumbryref06_Check.l0])
           | succ k3 =>
            have H := HA.out
            clear HA
            simp only [aumbryref06_Check.l0] at H
            by_cases c28 : x49_3 < (t108.length : Int)
            ·
             rw [if_pos c28] at H
             have c28b0 : decide (x49_3 < (t108.length : Int)) = true := zQ c28
             clear c28
             by_cases c29 : 0 ≤ x49_3
             ·
              rw [if_pos c29] at H
              have c29b0 : decide (0 ≤ x49_3) = true := zQ c29
              clear c29
              by_cases c30 : x49_3 < (t108.length : Int)
              ·
               rw [if_pos c30] at H
               have c30b0 : decide (x49_3 < (t108.length : Int)) = true := zQ c30
               clear c30
               replace H := zB H
               obtain ⟨t112, A310, H⟩ := H
               try dsimp only at H
               have A31 := zM A310
               clear A310
               by_cases c32 : t112 = true
               ·
                subst c32
                rw [if_pos rfl] at H
                have H' := zM H
                clear H
                have p111 : 0 ≤ (x49_3 : Int) := zT (by first | (with_reducible assumption) | assumption)
                have q111 : x49_3 < (t108.length : Int) := zT (by first | (with_reducible assumption) | assumption)
                obtain ⟨ad111, e111, hx111_0⟩ := Kd.at_string (Kd.R_reads' HO_6.out).2.2 x49_3 p111 q111
                cases e111
                replace p111 := eq_true p111
                replace q111 := eq_true q111
                obtain ⟨Ao33, co33, eo33⟩ := Kd.R_slice HO_5.out
                subst eo33
                go_wp2_with (first | ((with_reducible refine gate_callee (f := 40) rfl ?_); refine goesL_ (some 57) rfl rfl Tryd.func40 (by kernel_rfl) rfl #[.slice Ao33 t105.length co33, .string (rdOf ByteArray.empty t108 x49_3)] rfl (by (try simp only [List.map_toArray, List.map_cons, List.map_nil]); first | done | rfl) ?_; (with_reducible refine (aumbryref03_Has.calls k3 _ _ t105 (rdOf ByteArray.empty t108 x49_3) true _ ?side1 ?side2 A31.out).mono ?_); (case side1 => repeat (first | exact (Kd.R_reads' HO_5.out).2.2 | (with_reducible first | refine Kd.C_alloc ?_ _ | refine Kd.C_drewN ?_ _ | refine Kd.C_drew ?_))); (case side2 => exact (Kd.R_reads' HO_5.out).2.1); rintro e w' ⟨rfl, ⟨nd, rfl⟩⟩; refine ⟨_, rfl, ?_⟩))
                go_roundg k3
                case measure => have := HJ1.out; have := HJ11.out; have := HK3.out; omega
                case rel => exact ⟨(wrap64 (x49_3 + 1)), (by first | rfl | (simp; done) | (simp [*]; done)), H', ⟨by have := HJ1.out; have := HJ11.out; have := HK3.out; omega⟩, ⟨by (with_reducible repeat (first | apply Kd.R_alloc | apply Kd.R_drewN | apply Kd.R_drew)); exact HO_5.out⟩, ⟨by (with_reducible repeat (first | apply Kd.R_alloc | apply Kd.R_drewN | apply Kd.R_drew)); exact HO_6.out⟩, ⟨by (with_reducible repeat (first | refine blk_drewN ?_ _ | refine blk_drew ?_ | refine blk_alloc ?_ _)); exact BK101.out⟩, ⟨by repeat (first | (with_reducible first | exact HB.out | apply zA | apply zN | apply zD | refine below_set ?_ GE101.out) | exact HB.out)⟩⟩
               ·
                replace c32 := zI c32
                subst c32
                rw [if_neg (show ¬ (false = true) by decide)] at H
                obtain rfl := zS H
                have p111 : 0 ≤ (x49_3 : Int) := zT (by first | (with_reducible assumption) | assumption)
                have q111 : x49_3 < (t108.length : Int) := zT (by first | (with_reducible assumption) | assumption)
                obtain ⟨ad111, e111, hx111_0⟩ := Kd.at_string (Kd.R_reads' HO_6.out).2.2 x49_3 p111 q111
                cases e111
                replace p111 := eq_true p111
                replace q111 := eq_true q111
                obtain ⟨Ao34, co34, eo34⟩ := Kd.R_slice HO_5.out
                subst eo34
                go_wp2_with (first | ((with_reducible refine gate_callee (f := 40) rfl ?_); refine goesL_ (some 57) rfl rfl Tryd.func40 (by kernel_rfl) rfl #[.slice Ao34 t105.length co34, .string (rdOf ByteArray.empty t108 x49_3)] rfl (by (try simp only [List.map_toArray, List.map_cons, List.map_nil]); first | done | rfl) ?_; (with_reducible refine (aumbryref03_Has.calls k3 _ _ t105 (rdOf ByteArray.empty t108 x49_3) false _ ?side1 ?side2 A31.out).mono ?_); (case side1 => repeat (first | exact (Kd.R_reads' HO_5.out).2.2 | (with_reducible first | refine Kd.C_alloc ?_ _ | refine Kd.C_drewN ?_ _ | refine Kd.C_drew ?_))); (case side2 => exact (Kd.R_reads' HO_5.out).2.1); rintro e w' ⟨rfl, ⟨nd, rfl⟩⟩; refine ⟨_, rfl, ?_⟩))
                go_ret
                exact ⟨by first | rfl | (simp [*, errW_none, errW_some] <;> rfl), by repeat (first | (with_reducible first | exact HB.out | apply zA | apply zN | apply zD | refine below_set ?_ GE101.out) | exact HB.out)⟩
              ·
               rw [if_neg c30] at H
               exact absurd H (by simp)
             ·
              rw [if_neg c29] at H
              exact absurd H (by simp)
            ·
             rw [if_neg c28] at H
             have c28b0 : decide (x49_3 < (t108.length : Int)) = false := zR c28
             clear c28
             obtain rfl := zS H
             go_wp2
             go_ret
             exact ⟨by first | rfl | (simp [*, errW_none, errW_some] <;> rfl), by repeat (first | (with_reducible first | exact HB.out | apply zA | apply zN | apply zD | refine below_set ?_ GE101.out) | exact HB.out)⟩
     ·
      rw [if_neg c11] at H
      have c11b0 : (t103 == 0) = false := zE c11
      have c11b1 : (t103 != 0) = true := zF c11
      obtain rfl := zS H
      have hcz35_0 : wc.cell? ⟨gb101, 0, none⟩ = some (.int .i64 a0_0) := (zX BK101.out 0).trans rfl
      have hcz35_1 : wc.cell? ⟨gb101, 1, none⟩ = some (.slice A0_1 l0_1.length c0_1) := (zX BK101.out 1).trans rfl
      have hcz35_2 : wc.cell? ⟨gb101, 2, none⟩ = some (.slice A0_2 l0_2.length c0_2) := (zX BK101.out 2).trans rfl
      have hfz35_0 := zY BK101.out 0
      have hfz35_1 := zY BK101.out 1
      have hfz35_2 := zY BK101.out 2
      go_wp2_with (first | ((with_reducible refine gate_callee (f := 37) rfl ?_); refine goesL_ (some 18) rfl rfl Tryd.func37 (by kernel_rfl) rfl #[.slice A0_1 l0_1.length c0_1] rfl (by (try simp only [List.map_toArray, List.map_cons, List.map_nil]); first | done | rfl) ?_; (with_reducible refine (aumbryref04_Check.calls kj1 _ _ l0_1 t102 _ ?side1 ?side2 A8.out).mono ?_); (case side1 => repeat (first | exact (Kd.C_below HR0_1.out HB.out) | (with_reducible first | refine Kd.C_alloc ?_ _ | refine Kd.C_drewN ?_ _ | refine Kd.C_drew ?_))); (case side2 => exact HC0_1.out); rintro e w' ⟨rfl, ⟨nd, rfl⟩⟩; refine ⟨_, rfl, ?_⟩) | ((with_reducible refine gate_callee (f := 37) rfl ?_); refine goesL_ (some 24) rfl rfl Tryd.func37 (by kernel_rfl) rfl #[.slice A0_2 l0_2.length c0_2] rfl (by (try simp only [List.map_toArray, List.map_cons, List.map_nil]); first | done | rfl) ?_; (with_reducible refine (aumbryref04_Check.calls kj1 _ _ l0_2 t103 _ ?side1 ?side2 A10.out).mono ?_); (case side1 => repeat (first | exact (Kd.C_below HR0_2.out (by repeat (first | (with_reducible first | exact HB.out | apply zA | apply zN | apply zD | refine below_set ?_ GE101.out) | exact HB.out))) | (with_reducible first | refine Kd.C_alloc ?_ _ | refine Kd.C_drewN ?_ _ | refine Kd.C_drew ?_))); (case side2 => exact HC0_2.out); rintro e w' ⟨rfl, ⟨nd, rfl⟩⟩; refine ⟨_, rfl, ?_⟩))
      go_ret
      exact ⟨by first | rfl | (simp [*, errW_none, errW_some] <;> rfl), by repeat (first | (with_reducible first | exact HB.out | apply zA | apply zN | apply zD | refine below_set ?_ GE101.out) | exact HB.out)⟩
    ·
     rw [if_neg c9] at H
     have c9b0 : (t102 == 0) = false := zE c9
     have c9b1 : (t102 != 0) = true := zF c9
     obtain rfl := zS H
     have hcz36_0 : wc.cell? ⟨gb101, 0, none⟩ = some (.int .i64 a0_0) := (zX BK101.out 0).trans rfl
     have hcz36_1 : wc.cell? ⟨gb101, 1, none⟩ = some (.slice A0_1 l0_1.length c0_1) := (zX BK101.out 1).trans rfl
     have hcz36_2 : wc.cell? ⟨gb101, 2, none⟩ = some (.slice A0_2 l0_2.length c0_2) := (zX BK101.out 2).trans rfl
     have hfz36_0 := zY BK101.out 0
     have hfz36_1 := zY BK101.out 1
     have hfz36_2 := zY BK101.out 2
     go_wp2_with (first | ((with_reducible refine gate_callee (f := 37) rfl ?_); refine goesL_ (some 18) rfl rfl Tryd.func37 (by kernel_rfl) rfl #[.slice A0_1 l0_1.length c0_1] rfl (by (try simp only [List.map_toArray, List.map_cons, List.map_nil]); first | done | rfl) ?_; (with_reducible refine (aumbryref04_Check.calls kj1 _ _ l0_1 t102 _ ?side1 ?side2 A8.out).mono ?_); (case side1 => repeat (first | exact (Kd.C_below HR0_1.out HB.out) | (with_reducible first | refine Kd.C_alloc ?_ _ | refine Kd.C_drewN ?_ _ | refine Kd.C_drew ?_))); (case side2 => exact HC0_1.out); rintro e w' ⟨rfl, ⟨nd, rfl⟩⟩; refine ⟨_, rfl, ?_⟩))
     go_ret
     exact ⟨by first | rfl | (simp [*, errW_none, errW_some] <;> rfl), by repeat (first | (with_reducible first | exact HB.out | apply zA | apply zN | apply zD | refine below_set ?_ GE101.out) | exact HB.out)⟩


-- ==== PF25

attribute [local go_sem high] eqA33
/-! ### aumbryref04_Same: function 25 -/
def aumbryref04_Same.l0 : Nat → List (S33) → List (S33) → Int → Int → Option (Bool)
 | 0, _, _, _, _ => none
 | k + 1, x0, x1, x12, x13 => if x13 < x12 then (if 0 ≤ x13 then (if x13 < (x0.length : Int) then (if x13 < (x1.length : Int) then (if (!((((rd_T33 x0 x13).f0).toList) == (((rd_T33 x1 x13).f0).toList)) || (!(((rd_T33 x0 x13).f1) == ((rd_T33 x1 x13).f1)))) = true then (some false) else (aumbryref04_Same.l0 k x0 x1 x12 (wrap64 (x13 + 1)))) else (none)) else (none)) else (none)) else (some true)
def aumbryref04_Same.f (k : Nat) (l0 : List (S33)) (l1 : List (S33)) : Option (Bool) := if (l0.length : Int) = (l1.length : Int) then (aumbryref04_Same.l0 k l0 l1 (l0.length : Int) 0) else (some false)
theorem aumbryref04_Same.mono_l : ∀ k, (∀ y0 y1 y2 y3, LeO (aumbryref04_Same.l0 k y0 y1 y2 y3) (aumbryref04_Same.l0 (k + 1) y0 y1 y2 y3))
 | 0 => fun _ _ _ _ r h => by simp [aumbryref04_Same.l0] at h
 | k + 1 => by
  have ih0 := aumbryref04_Same.mono_l k
  ·
   intro y0 y1 y2 y3
   unfold aumbryref04_Same.l0
   repeat' first
   | (with_reducible exact ih0 _ _ _ _)
   | (with_reducible exact LeO.refl _)
   | (with_reducible exact LeO.none _)
   | (with_reducible refine LeO.ite ?_ ?_)
   | (with_reducible refine LeO.bind ?_ (fun _ => ?_))
   | exact ih0 _ _ _ _
   | exact LeO.none _
   | refine LeO.ite ?_ ?_
   | refine LeO.bind ?_ (fun _ => ?_)
theorem aumbryref04_Same.mono : ∀ a0 a1 k, LeO (aumbryref04_Same.f k a0 a1) (aumbryref04_Same.f (k + 1) a0 a1) := by
 intro a0 a1 k
 have ih0 := aumbryref04_Same.mono_l k
 unfold aumbryref04_Same.f
 repeat' first
  | (with_reducible exact ih0 _ _ _ _)
  | (with_reducible exact LeO.refl _)
  | (with_reducible exact LeO.none _)
  | (with_reducible refine LeO.ite ?_ ?_)
  | (with_reducible refine LeO.bind ?_ (fun _ => ?_))
  | exact ih0 _ _ _ _
  | exact LeO.none _
  | refine LeO.ite ?_ ?_
  | refine LeO.bind ?_ (fun _ => ?_)
set_option maxHeartbeats 8000000 in
set_option maxRecDepth 100000 in
theorem aumbryref04_Same.calls (k : Nat) (A0 : Option Addr) (c0 : Nat) (l0 : List (S33)) (A1 : Option Addr) (c1 : Nat) (l1 : List (S33)) (r : Bool) (w : World) (hr0 : Kd.C k33 w A0 l0.length l0) (hc0 : l0.length ≤ c0) (hr1 : Kd.C k33 w A1 l1.length l1) (hc1 : l1.length ≤ c1) (h : aumbryref04_Same.f k l0 l1 = some r) :
 Calls Tryd.prog 25 #[.slice A0 l0.length c0, .slice A1 l1.length c1] w fun e w' => e = .returned (.bool r) ∧ Drawn0 w w' := by
 have hu33 := Tryd.underlying33
 have HR0 := zM hr0
 have HC0 := zM hc0
 clear hr0 hc0
 have HR1 := zM hr1
 have HC1 := zM hc1
 clear hr1 hc1
 have H : (if (l0.length : Int) = (l1.length : Int) then (aumbryref04_Same.l0 k l0 l1 (l0.length : Int) 0) else (some false)) = some r := h
 clear h
 by_cases c3 : (l0.length : Int) = (l1.length : Int)
 ·
  rw [if_pos c3] at H
  have c3b0 : ((l0.length : Int) == (l1.length : Int)) = true := zG c3
  have c3b1 : ((l0.length : Int) != (l1.length : Int)) = false := zH c3
  have c3b2 : (l0.length == l1.length) = true := by first | simpa using c3 | (simp at c3 ⊢; omega)
  clear c3
  have H' := zM H
  clear H
  go_enter Tryd.func25, Tryd.ntmps25
  go_wp2
  repeat (go_quiet (fail); try go_wp2)
  go_loopg [13] k (fun kq v13 w' => ∃ (x13_1 : Int), v13 = .int .i64 x13_1 ∧ Aside0 (aumbryref04_Same.l0 kq l0 l1 (l0.length : Int) x13_1 = some r) ∧ Aside0 (kq ≤ k) ∧ Drawn0 w w')
  case atStart => exact ⟨(0), (by first | rfl | (simp; done) | (simp [*]; done)), H', ⟨Nat.le_refl _⟩, by repeat (first | exact Drawn0.refl _ | apply Drawn0.step)⟩
  case round =>
   clear H'
   try clear c1
   try clear c2
   try clear p2
   try clear c3
   try clear c3b0
   try clear c3b1
   try clear c3b2
   obtain ⟨x13_1, rfl, HA, HK1, ⟨m1, rfl⟩⟩ := hrel
   cases gk with
   | zero => exact absurd HA.out (by simp [aumbryref04_Same.l0])
   | succ k1 =>
    have H := HA.out
    clear HA
    simp only [aumbryref04_Same.l0] at H
    by_cases c4 : x13_1 < (l0.length : Int)
    ·
     rw [if_pos c4] at H
     have c4b0 : decide (x13_1 < (l0.length : Int)) = true := zQ c4
     clear c4
     by_cases c5 : 0 ≤ x13_1
     ·
      rw [if_pos c5] at H
      have c5b0 : decide (0 ≤ x13_1) = true := zQ c5
      clear c5
      by_cases c6 : x13_1 < (l0.length : Int)
      ·
       rw [if_pos c6] at H
       have c6b0 : decide (x13_1 < (l0.length : Int)) = true := zQ c6
       clear c6
       by_cases c7 : x13_1 < (l1.length : Int)
       ·
        rw [if_pos c7] at H
        have c7b0 : decide (x13_1 < (l1.length : Int)) = true := zQ c7
        clear c7
        by_cases c8 : (!((((rd_T33 l0 x13_1).f0).toList) == (((rd_T33 l1 x13_1).f0).toList)) || (!(((rd_T33 l0 x13_1).f1) == ((rd_T33 l1 x13_1).f1)))) = true
        ·
         rw [if_pos c8] at H
         have c8b0 : (!((((rd_T33 l0 x13_1).f0).toList) == (((rd_T33 l1 x13_1).f0).toList)) || (!(((rd_T33 l0 x13_1).f1) == ((rd_T33 l1 x13_1).f1)))) = true := c8
         clear c8
         obtain rfl := zS H
         have p101 : 0 ≤ (x13_1 : Int) := zT (by first | (with_reducible assumption) | assumption)
         have q101 : x13_1 < (l0.length : Int) := zT (by first | (with_reducible assumption) | assumption)
         obtain ⟨ad101, e101, hx101_0, hx101_1⟩ := at_T33 HR0.out x13_1 p101 q101
         cases e101
         replace p101 := eq_true p101
         replace q101 := eq_true q101
         have p102 : 0 ≤ (x13_1 : Int) := zT (by first | (with_reducible assumption) | assumption)
         have q102 : x13_1 < (l1.length : Int) := zT (by first | (with_reducible assumption) | assumption)
         obtain ⟨ad102, e102, hx102_0, hx102_1⟩ := at_T33 HR1.out x13_1 p102 q102
         cases e102
         replace p102 := eq_true p102
         replace q102 := eq_true q102
         go_wp2
         repeat (go_quiet (fail); try go_wp2)
         go_ret
         exact ⟨by first | rfl | (simp; done) | (simp [*]; done), by repeat (first | exact Drawn0.refl _ | apply Drawn0.step)⟩
        ·
         rw [if_neg c8] at H
         have c8b0 : (!((((rd_T33 l0 x13_1).f0).toList) == (((rd_T33 l1 x13_1).f0).toList)) || (!(((rd_T33 l0 x13_1).f1) == ((rd_T33 l1 x13_1).f1)))) = false := by simpa using c8
         clear c8
         have H' := zM H
         clear H
         have p101 : 0 ≤ (x13_1 : Int) := zT (by first | (with_reducible assumption) | assumption)
         have q101 : x13_1 < (l0.length : Int) := zT (by first | (with_reducible assumption) | assumption)
         obtain ⟨ad101, e101, hx101_0, hx101_1⟩ := at_T33 HR0.out x13_1 p101 q101
         cases e101
         replace p101 := eq_true p101
         replace q101 := eq_true q101
         have p102 : 0 ≤ (x13_1 : Int) := zT (by first | (with_reducible assumption) | assumption)
         have q102 : x13_1 < (l1.length : Int) := zT (by first | (with_reducible assumption) | assumption)
         obtain ⟨ad102, e102, hx102_0, hx102_1⟩ := at_T33 HR1.out x13_1 p102 q102
         cases e102
         replace p102 := eq_true p102
         replace q102 := eq_true q102
         go_wp2
         repeat (go_quiet (fail); try go_wp2)
         go_roundg k1
         case measure => have := HK1.out; omega
         case rel => exact ⟨(wrap64 (x13_1 + 1)), (by first | rfl | (simp; done) | (simp [*]; done)), H', ⟨by have := HK1.out; omega⟩, by repeat (first | exact Drawn0.refl _ | apply Drawn0.step)⟩
       ·
        rw [if_neg c7] at H
        exact absurd H (by simp)
      ·
       rw [if_neg c6] at H
       exact absurd H (by simp)
     ·
      rw [if_neg c5] at H
      exact absurd H (by simp)
    ·
     rw [if_neg c4] at H
     have c4b0 : decide (x13_1 < (l0.length : Int)) = false := zR c4
     clear c4
     obtain rfl := zS H
     go_wp2
     repeat (go_quiet (fail); try go_wp2)
     go_ret
     exact ⟨by first | rfl | (simp; done) | (simp [*]; done), by repeat (first | exact Drawn0.refl _ | apply Drawn0.step)⟩
 ·
  rw [if_neg c3] at H
  have c3b0 : ((l0.length : Int) == (l1.length : Int)) = false := zE c3
  have c3b1 : ((l0.length : Int) != (l1.length : Int)) = true := zF c3
  have c3b2 : (l0.length == l1.length) = false := by first | simpa using c3 | (simp at c3 ⊢; omega)
  obtain rfl := zS H
  go_enter Tryd.func25, Tryd.ntmps25
  go_wp2
  repeat (go_quiet (fail); try go_wp2)
  go_ret
  exact ⟨by first | rfl | (simp; done) | (simp [*]; done), by repeat (first | exact Drawn0.refl _ | apply Drawn0.step)⟩


-- ==== PF70

/-! ### aumbryref04_Kids: function 70 -/
def aumbryref04_Kids.l0 : Nat → List (S33) → List (List (S33)) → Int → Option ((List (List (S33))))
 | 0, _, _, _ => none
 | k + 1, x0, x3, x4 => if x4 < (x0.length : Int) then ((aumbryref04_Behind.f k x0 x4).bind fun t101 => (if 0 ≤ x4 then (if x4 ≤ t101 then (if t101 ≤ (x0.length : Int) then ((aumbryref04_Copy.f ((x0.take (t101 : Int).toNat).drop (x4 : Int).toNat)).bind fun t106 => (if x3.length < 5864062014805 then ((aumbryref04_Behind.f k x0 x4).bind fun t112 => (aumbryref04_Kids.l0 k x0 (x3 ++ [t106]) t112)) else (none))) else (none)) else (none)) else (none))) else (some x3)
def aumbryref04_Kids.f (k : Nat) (l0 : List (S33)) : Option ((List (List (S33)))) := aumbryref04_Kids.l0 k l0 ([] : List (List (S33))) 1
theorem aumbryref04_Kids.mono_l : ∀ k, (∀ y0 y1 y2, LeO (aumbryref04_Kids.l0 k y0 y1 y2) (aumbryref04_Kids.l0 (k + 1) y0 y1 y2))
 | 0 => fun _ _ _ r h => by simp [aumbryref04_Kids.l0] at h
 | k + 1 => by
  have ih0 := aumbryref04_Kids.mono_l k
  ·
   intro y0 y1 y2
   unfold aumbryref04_Kids.l0
   repeat' first
   | (with_reducible exact ih0 _ _ _)
   | (with_reducible exact aumbryref04_Behind.mono _ _ _)
   | (with_reducible exact LeO.refl _)
   | (with_reducible exact LeO.none _)
   | (with_reducible refine LeO.ite ?_ ?_)
   | (with_reducible refine LeO.bind ?_ (fun _ => ?_))
   | exact ih0 _ _ _
   | exact aumbryref04_Behind.mono _ _ _
   | exact LeO.none _
   | refine LeO.ite ?_ ?_
   | refine LeO.bind ?_ (fun _ => ?_)
theorem aumbryref04_Kids.mono : ∀ a0 k, LeO (aumbryref04_Kids.f k a0) (aumbryref04_Kids.f (k + 1) a0) := by
 intro a0 k
 have ih0 := aumbryref04_Kids.mono_l k
 unfold aumbryref04_Kids.f
 repeat' first
  | (with_reducible exact ih0 _ _ _)
  | (with_reducible exact aumbryref04_Behind.mono _ _ _)
  | (with_reducible exact LeO.refl _)
  | (with_reducible exact LeO.none _)
  | (with_reducible refine LeO.ite ?_ ?_)
  | (with_reducible refine LeO.bind ?_ (fun _ => ?_))
  | exact ih0 _ _ _
  | exact aumbryref04_Behind.mono _ _ _
  | exact LeO.none _
  | refine LeO.ite ?_ ?_
  | refine LeO.bind ?_ (fun _ => ?_)
set_option maxHeartbeats 8000000 in
set_option maxRecDepth 100000 in
theorem aumbryref04_Kids.calls (k : Nat) (A0 : Option Addr) (c0 : Nat) (l0 : List (S33)) (r : List (List (S33))) (w : World) (hr0 : Kd.C k33 w A0 l0.length l0) (hc0 : l0.length ≤ c0) (h : aumbryref04_Kids.f k l0 = some r) :
 Calls Tryd.prog 70 #[.slice A0 l0.length c0] w fun e w' => ∃ v0_ : Value, e = .returned (v0_) ∧ Kd.S (Kd.slice 33 k33) 23 w' w.heap.size (fun _ => True) v0_ r ∧ Below w.heap.size w w' := by
 have HR0 := zM hr0
 have HC0 := zM hc0
 clear hr0 hc0
 have HB := zM (Below.refl w.heap.size w)
 have H : (aumbryref04_Kids.l0 k l0 ([] : List (List (S33))) 1) = some r := h
 clear h
 have H' := zM H
 clear H
 go_enter Tryd.func70, Tryd.ntmps70
 go_wp2
 go_loopg [3, 4] k (fun kq v3 v4 w' => ∃ (x3_1 : List (List (S33))) (x4_1 : Int), v4 = .int .i64 x4_1 ∧ Aside0 (aumbryref04_Kids.l0 kq l0 x3_1 x4_1 = some r) ∧ Aside0 (kq ≤ k) ∧ Aside0 (Kd.S (Kd.slice 33 k33) 23 w' w.heap.size (fun _ => True) v3 x3_1) ∧ Aside0 (Below w.heap.size w w'))
 case atStart => exact ⟨(([] : List (List (S33)))), (1), (by first | rfl | (simp; done) | (simp [*]; done)), H', ⟨Nat.le_refl _⟩, ⟨by first | exact Kd.S_nil _ _ _ _ _ | exact Kd.N_nil _ _ _ _ _ | exact Kd.V_nil _ _ _ _ _ | exact Kd.Q_nil _ _ _ _ _ | exact Kd.R_nil _ _ _ _ _⟩, ⟨by repeat (first | (with_reducible first | exact HB.out | apply zA | apply zN | apply zD) | exact HB.out)⟩⟩
 case round =>
  clear H'
  obtain ⟨x3_1, x4_1, rfl, HA, HK1, HO_3, HB⟩ := hrel
  cases gk with
  | zero => exact absurd HA.out (by simp [aumbryref04_Kids.l0])
  | succ k1 =>
   have H := HA.out
   clear HA
   simp only [aumbryref04_Kids.l0] at H
   by_cases c2 : x4_1 < (l0.length : Int)
   ·
    rw [if_pos c2] at H
    have c2b0 : decide (x4_1 < (l0.length : Int)) = true := zQ c2
    clear c2
    replace H := zB H
    obtain ⟨t101, A30, H⟩ := H
    try dsimp only at H
    have A3 := zM A30
    clear A30
    by_cases c4 : 0 ≤ x4_1
    ·
     rw [if_pos c4] at H
     have c4b0 := eq_true c4
     have c4b1 : decide (0 ≤ x4_1) = true := zQ c4
     clear c4
     by_cases c5 : x4_1 ≤ t101
     ·
      rw [if_pos c5] at H
      have c5b0 := eq_true c5
      have c5b1 : decide (x4_1 ≤ t101) = true := zQ c5
      clear c5
      by_cases c6 : t101 ≤ (l0.length : Int)
      ·
       rw [if_pos c6] at H
       have c6b0 := eq_true c6
       have c6b1 : decide (t101 ≤ (l0.length : Int)) = true := zQ c6
       clear c6
       obtain ⟨y102, hy102⟩ : ∃ y_ : List (S33), y_ = ((l0.take (t101 : Int).toNat).drop (x4_1 : Int).toNat) := ⟨_, rfl⟩
       replace H : ((aumbryref04_Copy.f y102).bind fun t106 => (if x3_1.length < 5864062014805 then ((aumbryref04_Behind.f k1 l0 x4_1).bind fun t112 => (aumbryref04_Kids.l0 k1 l0 (x3_1 ++ [t106]) t112)) else (none))) = some r := by first | (rw [hy102]; with_reducible exact H) | (have H2_ := (Option.bind_some _ _).symm.trans H; rw [hy102]; with_reducible exact H2_) | (have H2_ := (Option.bind_some _ _).symm.trans H; with_reducible exact H2_) | with_reducible exact H | (rw [hy102]; exact H) | exact H
       have Ny102 := zM hy102
       clear hy102
       replace H := zB H
       obtain ⟨t106, A70, H⟩ := H
       try dsimp only at H
       have A7 := zM A70
       clear A70
       by_cases c8 : x3_1.length < 5864062014805
       ·
        rw [if_pos c8] at H
        have LMc8 := zM c8
        clear c8
        obtain ⟨y109, hy109⟩ : ∃ y_ : List (List (S33)), y_ = (x3_1 ++ [t106]) := ⟨_, rfl⟩
        replace H : ((aumbryref04_Behind.f k1 l0 x4_1).bind fun t112 => (aumbryref04_Kids.l0 k1 l0 y109 t112)) = some r := by first | (rw [hy109]; with_reducible exact H) | (have H2_ := (Option.bind_some _ _).symm.trans H; rw [hy109]; with_reducible exact H2_) | (have H2_ := (Option.bind_some _ _).symm.trans H; with_reducible exact H2_) | with_reducible exact H | (rw [hy109]; exact H) | exact H
        have Ny109 := zM hy109
        clear hy109
        replace H := zB H
        obtain ⟨t112, A90, H⟩ := H
        try dsimp only at H
        have A9 := zM A90
        clear A90
        have H' := zM H
        clear H
        go_wp2_with (first | ((with_reducible refine gate_callee (f := 62) rfl ?_); refine goesL_ (some 17) rfl rfl Tryd.func62 (by kernel_rfl) rfl #[.slice A0 l0.length c0, .int .i64 x4_1] rfl (by (try simp only [List.map_toArray, List.map_cons, List.map_nil]); first | done | rfl) ?_; (with_reducible refine (aumbryref04_Behind.calls k1 _ _ l0 x4_1 t101 _ ?side1 ?side2 A3.out).mono ?_); (case side1 => repeat (first | exact (Kd.C_below HR0.out HB.out) | (with_reducible first | refine Kd.C_alloc ?_ _ | refine Kd.C_drewN ?_ _ | refine Kd.C_drew ?_))); (case side2 => exact HC0.out); rintro e w' ⟨rfl, ⟨nd, rfl⟩⟩; refine ⟨_, rfl, ?_⟩; have q10 : (t101 : Int) ≤ ((l0.length : Int) : Int) := zT (by first | (with_reducible assumption) | assumption); obtain ⟨i010, hi010, _, hsz10, _⟩ := info_parts info33; have hroom10 : l0.length ≤ c0 := HC0.out; have hC10 : Kd.C k33 _ A0 l0.length l0 := HR0.out; have ql10 : (x4_1 : Int) ≤ (t101 : Int) := zT (by first | (with_reducible assumption) | assumption); have q010 : (0 : Int) ≤ (x4_1 : Int) := zT (by first | (with_reducible assumption) | assumption); have hcut10 := cut_mid (P := Tryd.prog) 23 33 .i64 .i64 Tryd.underlying23 hi010 2 hsz10 A0 l0.length c0 x4_1 t101 q010 ql10 q10 hroom10; have hr10 := Kd.C_mid (lo := (x4_1 : Int).toNat) (hi := (t101 : Int).toNat) (c := c0) hC10 (by omega) (by omega) hroom10; obtain ⟨A10, hA10⟩ : ∃ Aq_, Aq_ = (if c0 = (x4_1 : Int).toNat then A0 else (A0 : Option Addr).map (·.add ((x4_1 : Int).toNat * 2))) := ⟨_, rfl⟩; obtain ⟨c10, hc10⟩ : ∃ cq_, cq_ = c0 - (x4_1 : Int).toNat := ⟨_, rfl⟩; have hy10 : y102.length = (t101 : Int).toNat - (x4_1 : Int).toNat := (by rw [Ny102.out, List.length_drop, List.length_take] <;> omega); rw [show ((l0).take (t101 : Int).toNat).drop (x4_1 : Int).toNat = y102 from Ny102.out.symm] at hr10; replace hr10 : Kd.C k33 _ A10 y102.length y102 := (by rw [hA10]; exact hr10); rw [← hy10, ← hA10, ← hc10] at hcut10; have HR105 := zM hr10; have HC105 := zM (show y102.length ≤ c10 from by rw [hy10, hc10]; exact Nat.sub_le_sub_right (Nat.le_trans (by omega) hroom10) _); clear hr10 hC10 hroom10 hi010 hsz10 hc10; have KY10 := zM hy10; have KA10 := zM hA10; clear hy10 hA10; replace q10 := eq_true q10) | ((with_reducible refine gate_callee (f := 23) rfl ?_); refine goesL_ (some 19) rfl rfl Tryd.func23 (by kernel_rfl) rfl #[.slice A10 y102.length c10] rfl (by (try simp only [List.map_toArray, List.map_cons, List.map_nil]); first | done | rfl) ?_; (with_reducible refine (aumbryref04_Copy.calls _ _ y102 t106 _ ?side1 ?side2 A7.out).mono ?_); (case side1 => repeat (first | exact (Kd.C_below HR105.out (by repeat (first | (with_reducible first | exact HB.out | apply zA | apply zN | apply zD) | exact HB.out))) | (with_reducible first | refine Kd.C_alloc ?_ _ | refine Kd.C_drewN ?_ _ | refine Kd.C_drew ?_))); (case side2 => exact HC105.out); rintro e w11 ⟨v107, rfl, ho0, hb⟩; refine ⟨_, rfl, ?_⟩; have n0_ := zM (Kd.S_elder' (by (with_reducible repeat (first | apply Kd.S_alloc | apply Kd.S_drewN | apply Kd.S_drew)); exact HO_3.out) (Kd.R_base ho0) hb); have n1_ := zM (Kd.R_lower ho0 (below_size (by repeat (first | (with_reducible first | exact HB.out | apply zA | apply zN | apply zD) | exact HB.out)))); have n2_ := zM (below_step (by repeat (first | (with_reducible first | exact HB.out | apply zA | apply zN | apply zD) | exact HB.out)) hb); clear HO_3; clear HB; have HO_3 := n0_; have HO108 := n1_; have HB := n2_; clear n0_ n1_ n2_; (try clear hb); (try clear hb2); (try clear hk); (try clear hi); (try clear ho0); obtain ⟨Ao13, co13, eo13⟩ := Kd.R_slice HO108.out; subst eo13) | ((with_reducible refine gate_builtin (b := .append) (xs := #[.tmp 12, .tmp 20]) rfl ?_); at_builtin; refine Kd.S_append (Kd.slice 33 k33) (w0 := w) w.heap.size rfl (.tmp 12) (.tmp 20) 102 23 (.slice none 0 0) 24 rfl Tryd.underlying102 info23 rfl (by decide) (by omega) u3 x3_1 t106 [.slice Ao13 t106.length co13] (fun _ => True) (fun k_ => some k_ = (.slice Ao13 t106.length co13 : Value).ownBlock) rfl rfl ?aP (fun k_ hk_ => ((Kd.R_mono (ok' := fun k_ => ((fun _ => True)) k_ ∧ some k_ ≠ (u3 : Value).ownBlock) (Kd.R_apart' (HO108.out) (Kd.S_typed HO_3.out) (by decide)) (fun k_ hk => ⟨trivial, hk.2⟩))).1 k_ hk_.symm) ?aF ?aO ?aB ?aS ?aL ?_; (case aP => exact Kd.M_row (Kd.R_mono (Kd.R_tight rfl (Kd.R_mono (ok' := fun k_ => ((fun _ => True)) k_ ∧ some k_ ≠ (u3 : Value).ownBlock) (Kd.R_apart' (HO108.out) (Kd.S_typed HO_3.out) (by decide)) (fun k_ hk => ⟨trivial, hk.2⟩))) (fun _ h_ => h_))); (case aB => exact (by repeat (first | (with_reducible first | exact HB.out | apply zA | apply zN | apply zD) | exact HB.out))); (case aF => exact (fun _ _ => trivial)); (case aO => exact (by (with_reducible repeat (first | apply Kd.S_alloc | apply Kd.S_drewN | apply Kd.S_drew)); exact Kd.S_mono HO_3.out (fun k_ hk => ⟨trivial, fun e_ => hk.2 e_⟩))); (case aS => exact (below_size (by repeat (first | (with_reducible first | exact HB.out | apply zA | apply zN | apply zD) | exact HB.out)))); (case aL => have := LMc8.out; omega); intro v110 w12 ho hb hg hat; rw [← Ny109.out] at ho; have n0_ := zM (hb); have n1_ := zM (ho); clear HB; clear HO_3; clear HO108; have HB := n0_; have HO111 := n1_; clear n0_ n1_; clear ho hb hg hat) | ((with_reducible refine gate_callee (f := 62) rfl ?_); refine goesL_ (some 11) rfl rfl Tryd.func62 (by kernel_rfl) rfl #[.slice A0 l0.length c0, .int .i64 x4_1] rfl (by (try simp only [List.map_toArray, List.map_cons, List.map_nil]); first | done | rfl) ?_; (with_reducible refine (aumbryref04_Behind.calls k1 _ _ l0 x4_1 t112 _ ?side1 ?side2 A9.out).mono ?_); (case side1 => repeat (first | exact (Kd.C_below HR0.out HB.out) | (with_reducible first | refine Kd.C_alloc ?_ _ | refine Kd.C_drewN ?_ _ | refine Kd.C_drew ?_))); (case side2 => exact HC0.out); rintro e w' ⟨rfl, ⟨nd, rfl⟩⟩; refine ⟨_, rfl, ?_⟩))
        go_roundg k1
        case measure => have := HK1.out; omega
        case rel => exact ⟨(y109), (t112), (by first | rfl | (simp; done) | (simp [*]; done)), H', ⟨by have := HK1.out; omega⟩, ⟨by (with_reducible repeat (first | apply Kd.S_alloc | apply Kd.S_drewN | apply Kd.S_drew)); exact HO111.out⟩, ⟨by repeat (first | (with_reducible first | exact HB.out | apply zA | apply zN | apply zD) | exact HB.out)⟩⟩
       ·
        rw [if_neg c8] at H
        exact absurd H (by simp)
      ·
       rw [if_neg c6] at H
       exact absurd H (by simp)
     ·
      rw [if_neg c5] at H
      exact absurd H (by simp)
    ·
     rw [if_neg c4] at H
     exact absurd H (by simp)
   ·
    rw [if_neg c2] at H
    have c2b0 : decide (x4_1 < (l0.length : Int)) = false := zR c2
    clear c2
    obtain rfl := zS H
    go_wp2
    go_ret
    exact ⟨_, by first | rfl | (simp [errW_none, errW_some] <;> rfl) | (simp [*, errW_none, errW_some] <;> rfl), by (with_reducible repeat (first | apply Kd.S_alloc | apply Kd.S_drewN | apply Kd.S_drew)); exact HO_3.out, by repeat (first | (with_reducible first | exact HB.out | apply zA | apply zN | apply zD) | exact HB.out)⟩


-- ==== PF76

/-! ### aumbryref05_At: function 76 -/
def aumbryref05_At.l0 : Nat → List (S109) → ByteArray → Int → Int → Option (Int)
 | 0, _, _, _, _ => none
 | k + 1, x0, x1, x7, x8 => if x8 < x7 then (if 0 ≤ x8 then (if x8 < (x0.length : Int) then (if ((rd_T109 x0 x8).f0).toList = x1.toList then (some x8) else (aumbryref05_At.l0 k x0 x1 x7 (wrap64 (x8 + 1)))) else (none)) else (none)) else (some (-1))
def aumbryref05_At.f (k : Nat) (l0 : List (S109)) (a1 : ByteArray) : Option (Int) := aumbryref05_At.l0 k l0 a1 (l0.length : Int) 0
theorem aumbryref05_At.mono_l : ∀ k, (∀ y0 y1 y2 y3, LeO (aumbryref05_At.l0 k y0 y1 y2 y3) (aumbryref05_At.l0 (k + 1) y0 y1 y2 y3))
 | 0 => fun _ _ _ _ r h => by simp [aumbryref05_At.l0] at h
 | k + 1 => by
  have ih0 := aumbryref05_At.mono_l k
  ·
   intro y0 y1 y2 y3
   unfold aumbryref05_At.l0
   repeat' first
   | (with_reducible exact ih0 _ _ _ _)
   | (with_reducible exact LeO.refl _)
   | (with_reducible exact LeO.none _)
   | (with_reducible refine LeO.ite ?_ ?_)
   | (with_reducible refine LeO.bind ?_ (fun _ => ?_))
   | exact ih0 _ _ _ _
   | exact LeO.none _
   | refine LeO.ite ?_ ?_
   | refine LeO.bind ?_ (fun _ => ?_)
theorem aumbryref05_At.mono : ∀ a0 a1 k, LeO (aumbryref05_At.f k a0 a1) (aumbryref05_At.f (k + 1) a0 a1) := by
 intro a0 a1 k
 have ih0 := aumbryref05_At.mono_l k
 unfold aumbryref05_At.f
 repeat' first
  | (with_reducible exact ih0 _ _ _ _)
  | (with_reducible exact LeO.refl _)
  | (with_reducible exact LeO.none _)
  | (with_reducible refine LeO.ite ?_ ?_)
  | (with_reducible refine LeO.bind ?_ (fun _ => ?_))
  | exact ih0 _ _ _ _
  | exact LeO.none _
  | refine LeO.ite ?_ ?_
  | refine LeO.bind ?_ (fun _ => ?_)
set_option maxHeartbeats 8000000 in
set_option maxRecDepth 100000 in
theorem aumbryref05_At.calls (k : Nat) (A0 : Option Addr) (c0 : Nat) (l0 : List (S109)) (a1 : ByteArray) (r : Int) (w : World) (hr0 : Kd.C k109 w A0 l0.length l0) (hc0 : l0.length ≤ c0) (h : aumbryref05_At.f k l0 a1 = some r) :
 Calls Tryd.prog 76 #[.slice A0 l0.length c0, .string a1] w fun e w' => e = .returned (.int .i64 r) ∧ Drawn0 w w' := by
 have HR0 := zM hr0
 have HC0 := zM hc0
 clear hr0 hc0
 have H : (aumbryref05_At.l0 k l0 a1 (l0.length : Int) 0) = some r := h
 clear h
 have H' := zM H
 clear H
 go_enter Tryd.func76, Tryd.ntmps76
 go_wp2
 go_loopg [8] k (fun kq v8 w' => ∃ (x8_1 : Int), v8 = .int .i64 x8_1 ∧ Aside0 (aumbryref05_At.l0 kq l0 a1 (l0.length : Int) x8_1 = some r) ∧ Aside0 (kq ≤ k) ∧ Drawn0 w w')
 case atStart => exact ⟨(0), (by first | rfl | (simp; done) | (simp [*]; done)), H', ⟨Nat.le_refl _⟩, by repeat (first | exact Drawn0.refl _ | apply Drawn0.step)⟩
 case round =>
  clear H'
  try clear p2
  obtain ⟨x8_1, rfl, HA, HK1, ⟨m1, rfl⟩⟩ := hrel
  cases gk with
  | zero => exact absurd HA.out (by simp [aumbryref05_At.l0])
  | succ k1 =>
   have H := HA.out
   clear HA
   simp only [aumbryref05_At.l0] at H
   by_cases c3 : x8_1 < (l0.length : Int)
   ·
    rw [if_pos c3] at H
    have c3b0 : decide (x8_1 < (l0.length : Int)) = true := zQ c3
    clear c3
    by_cases c4 : 0 ≤ x8_1
    ·
     rw [if_pos c4] at H
     have c4b0 : decide (0 ≤ x8_1) = true := zQ c4
     clear c4
     by_cases c5 : x8_1 < (l0.length : Int)
     ·
      rw [if_pos c5] at H
      have c5b0 : decide (x8_1 < (l0.length : Int)) = true := zQ c5
      clear c5
      by_cases c6 : ((rd_T109 l0 x8_1).f0).toList = a1.toList
      ·
       rw [if_pos c6] at H
       have c6b0 : (((rd_T109 l0 x8_1).f0).toList == a1.toList) = true := zG c6
       have c6b1 : (((rd_T109 l0 x8_1).f0).toList != a1.toList) = false := zH c6
       clear c6
       obtain rfl := zS H
       have p101 : 0 ≤ (x8_1 : Int) := zT (by first | (with_reducible assumption) | assumption)
       have q101 : x8_1 < (l0.length : Int) := zT (by first | (with_reducible assumption) | assumption)
       obtain ⟨ad101, A101_1, c101_1, e101, hx101_0, hx101_1, hl101_1, hi101_1⟩ := at_T109 HR0.out x8_1 p101 q101
       cases e101
       have HR101_1 := zM hi101_1
       have HC101_1 := zM hl101_1
       clear hi101_1 hl101_1
       replace p101 := eq_true p101
       replace q101 := eq_true q101
       go_wp2
       go_ret
       exact ⟨by first | rfl | (simp; done) | (simp [*]; done), by repeat (first | exact Drawn0.refl _ | apply Drawn0.step)⟩
      ·
       rw [if_neg c6] at H
       have c6b0 : (((rd_T109 l0 x8_1).f0).toList == a1.toList) = false := zE c6
       have c6b1 : (((rd_T109 l0 x8_1).f0).toList != a1.toList) = true := zF c6
       have H' := zM H
       clear H
       have p101 : 0 ≤ (x8_1 : Int) := zT (by first | (with_reducible assumption) | assumption)
       have q101 : x8_1 < (l0.length : Int) := zT (by first | (with_reducible assumption) | assumption)
       obtain ⟨ad101, A101_1, c101_1, e101, hx101_0, hx101_1, hl101_1, hi101_1⟩ := at_T109 HR0.out x8_1 p101 q101
       cases e101
       have HR101_1 := zM hi101_1
       have HC101_1 := zM hl101_1
       clear hi101_1 hl101_1
       replace p101 := eq_true p101
       replace q101 := eq_true q101
       go_wp2
       go_roundg k1
       case measure => have := HK1.out; omega
       case rel => exact ⟨(wrap64 (x8_1 + 1)), (by first | rfl | (simp; done) | (simp [*]; done)), H', ⟨by have := HK1.out; omega⟩, by repeat (first | exact Drawn0.refl _ | apply Drawn0.step)⟩
     ·
      rw [if_neg c5] at H
      exact absurd H (by simp)
    ·
     rw [if_neg c4] at H
     exact absurd H (by simp)
   ·
    rw [if_neg c3] at H
    have c3b0 : decide (x8_1 < (l0.length : Int)) = false := zR c3
    clear c3
    obtain rfl := zS H
    go_wp2
    go_ret
    exact ⟨by first | rfl | (simp; done) | (simp [*]; done), by repeat (first | exact Drawn0.refl _ | apply Drawn0.step)⟩

end Go.Proofs.YtpnamhplhdaphaaDoor.P
