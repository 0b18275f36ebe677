/- TermMakes: the law answers true at every input that the given row speaks of. Conditions: those of the given row, none besides. (Part 3 of 3; written by programs of this session, which drive the kit's print, and by hand.) -/
import Derived.Test.YtcmnpjgmpgjbdaaRows
import Derived.Test.YtcmnpjgmpgjbdaaZTermMakesWWords
import Derived.Deep.Slices
import Derived.SizedLaws
import Derived.ChangeSame
import Derived.ChangeArms
import Derived.KernelRfl
import Derived.WalkKit
import Derived.ProofKit
import Derived.OpenShut
import Derived.ShutString
import Derived.ChangeOld
import Derived.Below
import Derived.Carry
import Derived.Test.YtcmnpjgmpgjbdaaZTermMakes0
import Derived.Test.YtcmnpjgmpgjbdaaZTermMakes1
-- ==== PF34
namespace Go.Proofs.Ytcmnpjgmpgjbdaa.P
open Go.RowKit Go.Proofs.YtcmnpjgmpgjbdaaW.PrintWords Go.Proofs.YtcmnpjgmpgjbdaaW.PrintLast Go.Proofs.YtcmnpjgmpgjbdaaW.PrintMore
attribute [local go_sem] max2_int min2_int max_two min_two max_three min_three max_four min_four   -- for this text's walks alone
set_option linter.unusedVariables false
set_option linter.unusedSimpArgs false

/-! ### aumbryref03_Kind: function 34 -/
mutual
def aumbryref03_Kind.j0 : Nat → ByteArray → Bool → Option (Int)
  | 0, _, _ => none
  | k + 1, x0, x15 => if x15 = true then (some 0) else (aumbryref03_Kind.l0 k x0 true true 0)
def aumbryref03_Kind.l0 : Nat → ByteArray → Bool → Bool → Int → Option (Int)
  | 0, _, _, _, _ => none
  | k + 1, x0, x3, x4, x5 => if x5 < (x0.size : Int) then (if 0 ≤ x5 then (if (bt x0 x5) ≥ 48 then (if (bt x0 x5) ≤ 57 then (if x3 = true then (if (bt x0 x5) ≥ 97 then (if (bt x0 x5) ≤ 122 then (if x4 = true then (if (bt x0 x5) ≥ 65 then (if (bt x0 x5) ≤ 90 then (aumbryref03_Kind.l0 k x0 true true (wrap64 (x5 + 1))) else (aumbryref03_Kind.l0 k x0 true (decide (x5 > 0)) (wrap64 (x5 + 1)))) else (aumbryref03_Kind.l0 k x0 true (decide (x5 > 0)) (wrap64 (x5 + 1)))) else (aumbryref03_Kind.l0 k x0 true false (wrap64 (x5 + 1)))) else (if x4 = true then (if (bt x0 x5) ≥ 65 then (if (bt x0 x5) ≤ 90 then (aumbryref03_Kind.l0 k x0 (decide (x5 > 0)) true (wrap64 (x5 + 1))) else (aumbryref03_Kind.l0 k x0 (decide (x5 > 0)) (decide (x5 > 0)) (wrap64 (x5 + 1)))) else (aumbryref03_Kind.l0 k x0 (decide (x5 > 0)) (decide (x5 > 0)) (wrap64 (x5 + 1)))) else (aumbryref03_Kind.l0 k x0 (decide (x5 > 0)) false (wrap64 (x5 + 1))))) else (if x4 = true then (if (bt x0 x5) ≥ 65 then (if (bt x0 x5) ≤ 90 then (aumbryref03_Kind.l0 k x0 (decide (x5 > 0)) true (wrap64 (x5 + 1))) else (aumbryref03_Kind.l0 k x0 (decide (x5 > 0)) (decide (x5 > 0)) (wrap64 (x5 + 1)))) else (aumbryref03_Kind.l0 k x0 (decide (x5 > 0)) (decide (x5 > 0)) (wrap64 (x5 + 1)))) else (aumbryref03_Kind.l0 k x0 (decide (x5 > 0)) false (wrap64 (x5 + 1))))) else (if x4 = true then (if (bt x0 x5) ≥ 65 then (if (bt x0 x5) ≤ 90 then (aumbryref03_Kind.l0 k x0 false true (wrap64 (x5 + 1))) else (aumbryref03_Kind.l0 k x0 false (decide (x5 > 0)) (wrap64 (x5 + 1)))) else (aumbryref03_Kind.l0 k x0 false (decide (x5 > 0)) (wrap64 (x5 + 1)))) else (aumbryref03_Kind.l0 k x0 false false (wrap64 (x5 + 1))))) else (if x3 = true then (if (bt x0 x5) ≥ 97 then (if (bt x0 x5) ≤ 122 then (if x4 = true then (if (bt x0 x5) ≥ 65 then (if (bt x0 x5) ≤ 90 then (aumbryref03_Kind.l0 k x0 true true (wrap64 (x5 + 1))) else (aumbryref03_Kind.l0 k x0 true false (wrap64 (x5 + 1)))) else (aumbryref03_Kind.l0 k x0 true false (wrap64 (x5 + 1)))) else (aumbryref03_Kind.l0 k x0 true false (wrap64 (x5 + 1)))) else (if x4 = true then (if (bt x0 x5) ≥ 65 then (if (bt x0 x5) ≤ 90 then (aumbryref03_Kind.l0 k x0 false true (wrap64 (x5 + 1))) else (aumbryref03_Kind.l0 k x0 false false (wrap64 (x5 + 1)))) else (aumbryref03_Kind.l0 k x0 false false (wrap64 (x5 + 1)))) else (aumbryref03_Kind.l0 k x0 false false (wrap64 (x5 + 1))))) else (if x4 = true then (if (bt x0 x5) ≥ 65 then (if (bt x0 x5) ≤ 90 then (aumbryref03_Kind.l0 k x0 false true (wrap64 (x5 + 1))) else (aumbryref03_Kind.l0 k x0 false false (wrap64 (x5 + 1)))) else (aumbryref03_Kind.l0 k x0 false false (wrap64 (x5 + 1)))) else (aumbryref03_Kind.l0 k x0 false false (wrap64 (x5 + 1))))) else (if x4 = true then (if (bt x0 x5) ≥ 65 then (if (bt x0 x5) ≤ 90 then (aumbryref03_Kind.l0 k x0 false true (wrap64 (x5 + 1))) else (aumbryref03_Kind.l0 k x0 false false (wrap64 (x5 + 1)))) else (aumbryref03_Kind.l0 k x0 false false (wrap64 (x5 + 1)))) else (aumbryref03_Kind.l0 k x0 false false (wrap64 (x5 + 1)))))) else (if x3 = true then (if (bt x0 x5) ≥ 97 then (if (bt x0 x5) ≤ 122 then (if x4 = true then (if (bt x0 x5) ≥ 65 then (if (bt x0 x5) ≤ 90 then (aumbryref03_Kind.l0 k x0 true true (wrap64 (x5 + 1))) else (aumbryref03_Kind.l0 k x0 true false (wrap64 (x5 + 1)))) else (aumbryref03_Kind.l0 k x0 true false (wrap64 (x5 + 1)))) else (aumbryref03_Kind.l0 k x0 true false (wrap64 (x5 + 1)))) else (if x4 = true then (if (bt x0 x5) ≥ 65 then (if (bt x0 x5) ≤ 90 then (aumbryref03_Kind.l0 k x0 false true (wrap64 (x5 + 1))) else (aumbryref03_Kind.l0 k x0 false false (wrap64 (x5 + 1)))) else (aumbryref03_Kind.l0 k x0 false false (wrap64 (x5 + 1)))) else (aumbryref03_Kind.l0 k x0 false false (wrap64 (x5 + 1))))) else (if x4 = true then (if (bt x0 x5) ≥ 65 then (if (bt x0 x5) ≤ 90 then (aumbryref03_Kind.l0 k x0 false true (wrap64 (x5 + 1))) else (aumbryref03_Kind.l0 k x0 false false (wrap64 (x5 + 1)))) else (aumbryref03_Kind.l0 k x0 false false (wrap64 (x5 + 1)))) else (aumbryref03_Kind.l0 k x0 false false (wrap64 (x5 + 1))))) else (if x4 = true then (if (bt x0 x5) ≥ 65 then (if (bt x0 x5) ≤ 90 then (aumbryref03_Kind.l0 k x0 false true (wrap64 (x5 + 1))) else (aumbryref03_Kind.l0 k x0 false false (wrap64 (x5 + 1)))) else (aumbryref03_Kind.l0 k x0 false false (wrap64 (x5 + 1)))) else (aumbryref03_Kind.l0 k x0 false false (wrap64 (x5 + 1)))))) else (none)) else (if x3 = true then (some 1) else (if x4 = true then (some 2) else (some 0)))
end
def aumbryref03_Kind.f (k : Nat) (a0 : ByteArray) : Option (Int) := if (a0.size : Int) < 1 then (aumbryref03_Kind.j0 k a0 true) else (aumbryref03_Kind.j0 k a0 (decide ((a0.size : Int) > 8)))
set_option maxHeartbeats 8000000 in
set_option maxRecDepth 100000 in
theorem aumbryref03_Kind.calls (k : Nat) (a0 : ByteArray) (r : Int) (w : World) (h : aumbryref03_Kind.f k a0 = some r) :
    Calls Try.prog 34 #[.string a0] w fun e w' => e = .returned (.int .i64 r) ∧ Drawn0 w w' := by
  have H : (if (a0.size : Int) < 1 then (aumbryref03_Kind.j0 k a0 true) else (aumbryref03_Kind.j0 k a0 (decide ((a0.size : Int) > 8)))) = some r := h
  clear h
  have HC2 := Aside0.mk H
  clear H
  go_enter Try.func34, Try.ntmps34
  go_upto_region 1 with (fail)
  go_cut [15] (fun v15 wc => ∃ (kq : Nat) (x15_1 : Bool), v15 = .bool x15_1 ∧ Aside0 (aumbryref03_Kind.j0 kq a0 x15_1 = some r) ∧ Aside0 (kq ≤ k) ∧ Drawn0 w wc)
  case first =>
    have H := HC2.out
    clear HC2
    by_cases c3 : (a0.size : Int) < 1
    · rw [if_pos c3] at H
      have c3b0 : decide ((a0.size : Int) < 1) = true := decide_eq_true c3
      have c3b1 : decide (a0.size < 1) = true := decide_eq_true (by omega)
      clear c3
      (first | rw [c3b0] | (simp only [i64_w, i32_w]; rw [c3b0]) | skip)
      have H' := Aside0.mk H
      clear H
      go_wp2
      go_meet
      case rel => exact ⟨_, (true), (by first | rfl | (simp; done) | (simp [*]; done)), H', ⟨by first | omega | exact Nat.le_refl _⟩, by repeat (first | exact Drawn0.refl _ | apply Drawn0.step)⟩
    · rw [if_neg c3] at H
      have c3b0 : decide ((a0.size : Int) < 1) = false := decide_eq_false c3
      have c3b1 : decide (a0.size < 1) = false := decide_eq_false (by omega)
      clear c3
      (first | rw [c3b0] | (simp only [i64_w, i32_w]; rw [c3b0]) | skip)
      have H' := Aside0.mk H
      clear H
      go_wp2
      go_meet
      case rel => exact ⟨_, (decide ((a0.size : Int) > 8)), (by first | rfl | (simp; done) | (simp [*]; done)), H', ⟨by first | omega | exact Nat.le_refl _⟩, by repeat (first | exact Drawn0.refl _ | apply Drawn0.step)⟩
  case rest =>
    clear HC2
    try clear p2
    try clear c3
    try clear c3b0
    try clear c3b1
    obtain ⟨kq, x15_1, rfl, HA, HJ1, ⟨mc1, rfl⟩⟩ := hcut
    cases kq with
    | zero => exact absurd HA.out (by simp [aumbryref03_Kind.j0])
    | succ kj1 =>
      have H := HA.out
      clear HA
      simp only [aumbryref03_Kind.j0] at H
      by_cases c4 : x15_1 = true
      · subst c4
        have H1 : (some 0) = some r := by rw [if_pos rfl] at H; exact H
        clear H
        have H := H1
        clear H1
        obtain rfl := Option.some.inj H
        go_wp2
        go_ret
        exact ⟨by first | rfl | (simp; done) | (simp [*]; done), by repeat (first | exact Drawn0.refl _ | apply Drawn0.step)⟩
      · replace c4 := Bool.eq_false_iff.mpr c4
        subst c4
        have H1 : (aumbryref03_Kind.l0 kj1 a0 true true 0) = some r := by rw [if_neg (show ¬ (false = true) by decide)] at H; exact H
        clear H
        have H := H1
        clear H1
        have H' := Aside0.mk H
        clear H
        go_wp2
        go_loopg [3, 4, 5] kj1 (fun kq v3 v4 v5 w' => ∃ (x3_2 : Bool) (x4_2 : Bool) (x5_2 : Int), v3 = .bool x3_2 ∧ v4 = .bool x4_2 ∧ v5 = .int .i64 x5_2 ∧ Aside0 (aumbryref03_Kind.l0 kq a0 x3_2 x4_2 x5_2 = some r) ∧ Aside0 (kq ≤ kj1) ∧ Drawn0 w w')
        case atStart => exact ⟨(true), (true), (0), (by first | rfl | (simp; done) | (simp [*]; done)), (by first | rfl | (simp; done) | (simp [*]; done)), (by first | rfl | (simp; done) | (simp [*]; done)), H', ⟨Nat.le_refl _⟩, by repeat (first | exact Drawn0.refl _ | apply Drawn0.step)⟩
        case round =>
          clear H'
          try clear c1
          try clear p2
          try clear c3
          try clear c3b0
          try clear c3b1
          try clear c4
          try clear p2
          obtain ⟨x3_2, x4_2, x5_2, rfl, rfl, rfl, HA, HK2, ⟨m2, rfl⟩⟩ := hrel
          cases gk with
          | zero => exact absurd HA.out (by simp [aumbryref03_Kind.l0])
          | succ k2 =>
            have H := HA.out
            clear HA
            simp only [aumbryref03_Kind.l0] at H
            by_cases c5 : x5_2 < (a0.size : Int)
            · rw [if_pos c5] at H
              have c5b0 : decide (x5_2 < (a0.size : Int)) = true := decide_eq_true c5
              clear c5
              by_cases c6 : 0 ≤ x5_2
              · rw [if_pos c6] at H
                have c6b0 : decide (0 ≤ x5_2) = true := decide_eq_true c6
                clear c6
                by_cases c8 : (bt a0 x5_2) ≥ 48
                · rw [if_pos c8] at H
                  have c8b0 : decide (48 ≤ (bt a0 x5_2)) = true := decide_eq_true c8
                  clear c8
                  by_cases c9 : (bt a0 x5_2) ≤ 57
                  · rw [if_pos c9] at H
                    have c9b0 : decide ((bt a0 x5_2) ≤ 57) = true := decide_eq_true c9
                    clear c9
                    by_cases c10 : x3_2 = true
                    · subst c10
                      have H1 : (if (bt a0 x5_2) ≥ 97 then (if (bt a0 x5_2) ≤ 122 then (if x4_2 = true then (if (bt a0 x5_2) ≥ 65 then (if (bt a0 x5_2) ≤ 90 then (aumbryref03_Kind.l0 k2 a0 true true (wrap64 (x5_2 + 1))) else (aumbryref03_Kind.l0 k2 a0 true (decide (x5_2 > 0)) (wrap64 (x5_2 + 1)))) else (aumbryref03_Kind.l0 k2 a0 true (decide (x5_2 > 0)) (wrap64 (x5_2 + 1)))) else (aumbryref03_Kind.l0 k2 a0 true false (wrap64 (x5_2 + 1)))) else (if x4_2 = true then (if (bt a0 x5_2) ≥ 65 then (if (bt a0 x5_2) ≤ 90 then (aumbryref03_Kind.l0 k2 a0 (decide (x5_2 > 0)) true (wrap64 (x5_2 + 1))) else (aumbryref03_Kind.l0 k2 a0 (decide (x5_2 > 0)) (decide (x5_2 > 0)) (wrap64 (x5_2 + 1)))) else (aumbryref03_Kind.l0 k2 a0 (decide (x5_2 > 0)) (decide (x5_2 > 0)) (wrap64 (x5_2 + 1)))) else (aumbryref03_Kind.l0 k2 a0 (decide (x5_2 > 0)) false (wrap64 (x5_2 + 1))))) else (if x4_2 = true then (if (bt a0 x5_2) ≥ 65 then (if (bt a0 x5_2) ≤ 90 then (aumbryref03_Kind.l0 k2 a0 (decide (x5_2 > 0)) true (wrap64 (x5_2 + 1))) else (aumbryref03_Kind.l0 k2 a0 (decide (x5_2 > 0)) (decide (x5_2 > 0)) (wrap64 (x5_2 + 1)))) else (aumbryref03_Kind.l0 k2 a0 (decide (x5_2 > 0)) (decide (x5_2 > 0)) (wrap64 (x5_2 + 1)))) else (aumbryref03_Kind.l0 k2 a0 (decide (x5_2 > 0)) false (wrap64 (x5_2 + 1))))) = some r := by rw [if_pos rfl] at H; exact H
                      clear H
                      have H := H1
                      clear H1
                      by_cases c11 : (bt a0 x5_2) ≥ 97
                      · rw [if_pos c11] at H
                        have c11b0 : decide (97 ≤ (bt a0 x5_2)) = true := decide_eq_true c11
                        clear c11
                        by_cases c12 : (bt a0 x5_2) ≤ 122
                        · rw [if_pos c12] at H
                          have c12b0 : decide ((bt a0 x5_2) ≤ 122) = true := decide_eq_true c12
                          clear c12
                          by_cases c13 : x4_2 = true
                          · subst c13
                            have H1 : (if (bt a0 x5_2) ≥ 65 then (if (bt a0 x5_2) ≤ 90 then (aumbryref03_Kind.l0 k2 a0 true true (wrap64 (x5_2 + 1))) else (aumbryref03_Kind.l0 k2 a0 true (decide (x5_2 > 0)) (wrap64 (x5_2 + 1)))) else (aumbryref03_Kind.l0 k2 a0 true (decide (x5_2 > 0)) (wrap64 (x5_2 + 1)))) = some r := by rw [if_pos rfl] at H; exact H
                            clear H
                            have H := H1
                            clear H1
                            by_cases c14 : (bt a0 x5_2) ≥ 65
                            · rw [if_pos c14] at H
                              have c14b0 : decide (65 ≤ (bt a0 x5_2)) = true := decide_eq_true c14
                              clear c14
                              by_cases c15 : (bt a0 x5_2) ≤ 90
                              · rw [if_pos c15] at H
                                have c15b0 : decide ((bt a0 x5_2) ≤ 90) = true := decide_eq_true c15
                                clear c15
                                have H' := Aside0.mk H
                                clear H
                                have p7 : 0 ≤ (x5_2 : Int) := of_decide_eq_true (by first | (with_reducible assumption) | assumption)
                                have q7 : x5_2 < (a0.size : Int) := of_decide_eq_true (by first | (with_reducible assumption) | assumption)
                                have hx7 := bt_at a0 x5_2
                                replace p7 := eq_true p7
                                replace q7 := eq_true q7
                                go_wp2
                                go_roundg k2
                                case measure => have := HJ1.out; have := HK2.out; omega
                                case rel => exact ⟨(true), (true), (wrap64 (x5_2 + 1)), (by first | rfl | (simp; done) | (simp [*]; done)), (by first | rfl | (simp; done) | (simp [*]; done)), (by first | rfl | (simp; done) | (simp [*]; done)), H', ⟨by have := HJ1.out; have := HK2.out; omega⟩, by repeat (first | exact Drawn0.refl _ | apply Drawn0.step)⟩
                              · rw [if_neg c15] at H
                                have c15b0 : decide ((bt a0 x5_2) ≤ 90) = false := decide_eq_false c15
                                clear c15
                                have H' := Aside0.mk H
                                clear H
                                have p7 : 0 ≤ (x5_2 : Int) := of_decide_eq_true (by first | (with_reducible assumption) | assumption)
                                have q7 : x5_2 < (a0.size : Int) := of_decide_eq_true (by first | (with_reducible assumption) | assumption)
                                have hx7 := bt_at a0 x5_2
                                replace p7 := eq_true p7
                                replace q7 := eq_true q7
                                go_wp2
                                go_roundg k2
                                case measure => have := HJ1.out; have := HK2.out; omega
                                case rel => exact ⟨(true), (decide (x5_2 > 0)), (wrap64 (x5_2 + 1)), (by first | rfl | (simp; done) | (simp [*]; done)), (by first | rfl | (simp; done) | (simp [*]; done)), (by first | rfl | (simp; done) | (simp [*]; done)), H', ⟨by have := HJ1.out; have := HK2.out; omega⟩, by repeat (first | exact Drawn0.refl _ | apply Drawn0.step)⟩
                            · rw [if_neg c14] at H
                              have c14b0 : decide (65 ≤ (bt a0 x5_2)) = false := decide_eq_false c14
                              clear c14
                              have H' := Aside0.mk H
                              clear H
                              have p7 : 0 ≤ (x5_2 : Int) := of_decide_eq_true (by first | (with_reducible assumption) | assumption)
                              have q7 : x5_2 < (a0.size : Int) := of_decide_eq_true (by first | (with_reducible assumption) | assumption)
                              have hx7 := bt_at a0 x5_2
                              replace p7 := eq_true p7
                              replace q7 := eq_true q7
                              go_wp2
                              go_roundg k2
                              case measure => have := HJ1.out; have := HK2.out; omega
                              case rel => exact ⟨(true), (decide (x5_2 > 0)), (wrap64 (x5_2 + 1)), (by first | rfl | (simp; done) | (simp [*]; done)), (by first | rfl | (simp; done) | (simp [*]; done)), (by first | rfl | (simp; done) | (simp [*]; done)), H', ⟨by have := HJ1.out; have := HK2.out; omega⟩, by repeat (first | exact Drawn0.refl _ | apply Drawn0.step)⟩
                          · replace c13 := Bool.eq_false_iff.mpr c13
                            subst c13
                            have H1 : (aumbryref03_Kind.l0 k2 a0 true false (wrap64 (x5_2 + 1))) = some r := by rw [if_neg (show ¬ (false = true) by decide)] at H; exact H
                            clear H
                            have H := H1
                            clear H1
                            have H' := Aside0.mk H
                            clear H
                            have p7 : 0 ≤ (x5_2 : Int) := of_decide_eq_true (by first | (with_reducible assumption) | assumption)
                            have q7 : x5_2 < (a0.size : Int) := of_decide_eq_true (by first | (with_reducible assumption) | assumption)
                            have hx7 := bt_at a0 x5_2
                            replace p7 := eq_true p7
                            replace q7 := eq_true q7
                            go_wp2
                            go_roundg k2
                            case measure => have := HJ1.out; have := HK2.out; omega
                            case rel => exact ⟨(true), (false), (wrap64 (x5_2 + 1)), (by first | rfl | (simp; done) | (simp [*]; done)), (by first | rfl | (simp; done) | (simp [*]; done)), (by first | rfl | (simp; done) | (simp [*]; done)), H', ⟨by have := HJ1.out; have := HK2.out; omega⟩, by repeat (first | exact Drawn0.refl _ | apply Drawn0.step)⟩
                        · rw [if_neg c12] at H
                          have c12b0 : decide ((bt a0 x5_2) ≤ 122) = false := decide_eq_false c12
                          clear c12
                          by_cases c16 : x4_2 = true
                          · subst c16
                            have H1 : (if (bt a0 x5_2) ≥ 65 then (if (bt a0 x5_2) ≤ 90 then (aumbryref03_Kind.l0 k2 a0 (decide (x5_2 > 0)) true (wrap64 (x5_2 + 1))) else (aumbryref03_Kind.l0 k2 a0 (decide (x5_2 > 0)) (decide (x5_2 > 0)) (wrap64 (x5_2 + 1)))) else (aumbryref03_Kind.l0 k2 a0 (decide (x5_2 > 0)) (decide (x5_2 > 0)) (wrap64 (x5_2 + 1)))) = some r := by rw [if_pos rfl] at H; exact H
                            clear H
                            have H := H1
                            clear H1
                            by_cases c17 : (bt a0 x5_2) ≥ 65
                            · rw [if_pos c17] at H
                              have c17b0 : decide (65 ≤ (bt a0 x5_2)) = true := decide_eq_true c17
                              clear c17
                              by_cases c18 : (bt a0 x5_2) ≤ 90
                              · rw [if_pos c18] at H
                                have c18b0 : decide ((bt a0 x5_2) ≤ 90) = true := decide_eq_true c18
                                clear c18
                                have H' := Aside0.mk H
                                clear H
                                have p7 : 0 ≤ (x5_2 : Int) := of_decide_eq_true (by first | (with_reducible assumption) | assumption)
                                have q7 : x5_2 < (a0.size : Int) := of_decide_eq_true (by first | (with_reducible assumption) | assumption)
                                have hx7 := bt_at a0 x5_2
                                replace p7 := eq_true p7
                                replace q7 := eq_true q7
                                go_wp2
                                go_roundg k2
                                case measure => have := HJ1.out; have := HK2.out; omega
                                case rel => exact ⟨(decide (x5_2 > 0)), (true), (wrap64 (x5_2 + 1)), (by first | rfl | (simp; done) | (simp [*]; done)), (by first | rfl | (simp; done) | (simp [*]; done)), (by first | rfl | (simp; done) | (simp [*]; done)), H', ⟨by have := HJ1.out; have := HK2.out; omega⟩, by repeat (first | exact Drawn0.refl _ | apply Drawn0.step)⟩
                              · rw [if_neg c18] at H
                                have c18b0 : decide ((bt a0 x5_2) ≤ 90) = false := decide_eq_false c18
                                clear c18
                                have H' := Aside0.mk H
                                clear H
                                have p7 : 0 ≤ (x5_2 : Int) := of_decide_eq_true (by first | (with_reducible assumption) | assumption)
                                have q7 : x5_2 < (a0.size : Int) := of_decide_eq_true (by first | (with_reducible assumption) | assumption)
                                have hx7 := bt_at a0 x5_2
                                replace p7 := eq_true p7
                                replace q7 := eq_true q7
                                go_wp2
                                go_roundg k2
                                case measure => have := HJ1.out; have := HK2.out; omega
                                case rel => exact ⟨(decide (x5_2 > 0)), (decide (x5_2 > 0)), (wrap64 (x5_2 + 1)), (by first | rfl | (simp; done) | (simp [*]; done)), (by first | rfl | (simp; done) | (simp [*]; done)), (by first | rfl | (simp; done) | (simp [*]; done)), H', ⟨by have := HJ1.out; have := HK2.out; omega⟩, by repeat (first | exact Drawn0.refl _ | apply Drawn0.step)⟩
                            · rw [if_neg c17] at H
                              have c17b0 : decide (65 ≤ (bt a0 x5_2)) = false := decide_eq_false c17
                              clear c17
                              have H' := Aside0.mk H
                              clear H
                              have p7 : 0 ≤ (x5_2 : Int) := of_decide_eq_true (by first | (with_reducible assumption) | assumption)
                              have q7 : x5_2 < (a0.size : Int) := of_decide_eq_true (by first | (with_reducible assumption) | assumption)
                              have hx7 := bt_at a0 x5_2
                              replace p7 := eq_true p7
                              replace q7 := eq_true q7
                              go_wp2
                              go_roundg k2
                              case measure => have := HJ1.out; have := HK2.out; omega
                              case rel => exact ⟨(decide (x5_2 > 0)), (decide (x5_2 > 0)), (wrap64 (x5_2 + 1)), (by first | rfl | (simp; done) | (simp [*]; done)), (by first | rfl | (simp; done) | (simp [*]; done)), (by first | rfl | (simp; done) | (simp [*]; done)), H', ⟨by have := HJ1.out; have := HK2.out; omega⟩, by repeat (first | exact Drawn0.refl _ | apply Drawn0.step)⟩
                          · replace c16 := Bool.eq_false_iff.mpr c16
                            subst c16
                            have H1 : (aumbryref03_Kind.l0 k2 a0 (decide (x5_2 > 0)) false (wrap64 (x5_2 + 1))) = some r := by rw [if_neg (show ¬ (false = true) by decide)] at H; exact H
                            clear H
                            have H := H1
                            clear H1
                            have H' := Aside0.mk H
                            clear H
                            have p7 : 0 ≤ (x5_2 : Int) := of_decide_eq_true (by first | (with_reducible assumption) | assumption)
                            have q7 : x5_2 < (a0.size : Int) := of_decide_eq_true (by first | (with_reducible assumption) | assumption)
                            have hx7 := bt_at a0 x5_2
                            replace p7 := eq_true p7
                            replace q7 := eq_true q7
                            go_wp2
                            go_roundg k2
                            case measure => have := HJ1.out; have := HK2.out; omega
                            case rel => exact ⟨(decide (x5_2 > 0)), (false), (wrap64 (x5_2 + 1)), (by first | rfl | (simp; done) | (simp [*]; done)), (by first | rfl | (simp; done) | (simp [*]; done)), (by first | rfl | (simp; done) | (simp [*]; done)), H', ⟨by have := HJ1.out; have := HK2.out; omega⟩, by repeat (first | exact Drawn0.refl _ | apply Drawn0.step)⟩
                      · rw [if_neg c11] at H
                        have c11b0 : decide (97 ≤ (bt a0 x5_2)) = false := decide_eq_false c11
                        clear c11
                        by_cases c19 : x4_2 = true
                        · subst c19
                          have H1 : (if (bt a0 x5_2) ≥ 65 then (if (bt a0 x5_2) ≤ 90 then (aumbryref03_Kind.l0 k2 a0 (decide (x5_2 > 0)) true (wrap64 (x5_2 + 1))) else (aumbryref03_Kind.l0 k2 a0 (decide (x5_2 > 0)) (decide (x5_2 > 0)) (wrap64 (x5_2 + 1)))) else (aumbryref03_Kind.l0 k2 a0 (decide (x5_2 > 0)) (decide (x5_2 > 0)) (wrap64 (x5_2 + 1)))) = some r := by rw [if_pos rfl] at H; exact H
                          clear H
                          have H := H1
                          clear H1
                          by_cases c20 : (bt a0 x5_2) ≥ 65
                          · rw [if_pos c20] at H
                            have c20b0 : decide (65 ≤ (bt a0 x5_2)) = true := decide_eq_true c20
                            clear c20
                            by_cases c21 : (bt a0 x5_2) ≤ 90
                            · rw [if_pos c21] at H
                              have c21b0 : decide ((bt a0 x5_2) ≤ 90) = true := decide_eq_true c21
                              clear c21
                              have H' := Aside0.mk H
                              clear H
                              have p7 : 0 ≤ (x5_2 : Int) := of_decide_eq_true (by first | (with_reducible assumption) | assumption)
                              have q7 : x5_2 < (a0.size : Int) := of_decide_eq_true (by first | (with_reducible assumption) | assumption)
                              have hx7 := bt_at a0 x5_2
                              replace p7 := eq_true p7
                              replace q7 := eq_true q7
                              go_wp2
                              go_roundg k2
                              case measure => have := HJ1.out; have := HK2.out; omega
                              case rel => exact ⟨(decide (x5_2 > 0)), (true), (wrap64 (x5_2 + 1)), (by first | rfl | (simp; done) | (simp [*]; done)), (by first | rfl | (simp; done) | (simp [*]; done)), (by first | rfl | (simp; done) | (simp [*]; done)), H', ⟨by have := HJ1.out; have := HK2.out; omega⟩, by repeat (first | exact Drawn0.refl _ | apply Drawn0.step)⟩
                            · rw [if_neg c21] at H
                              have c21b0 : decide ((bt a0 x5_2) ≤ 90) = false := decide_eq_false c21
                              clear c21
                              have H' := Aside0.mk H
                              clear H
                              have p7 : 0 ≤ (x5_2 : Int) := of_decide_eq_true (by first | (with_reducible assumption) | assumption)
                              have q7 : x5_2 < (a0.size : Int) := of_decide_eq_true (by first | (with_reducible assumption) | assumption)
                              have hx7 := bt_at a0 x5_2
                              replace p7 := eq_true p7
                              replace q7 := eq_true q7
                              go_wp2
                              go_roundg k2
                              case measure => have := HJ1.out; have := HK2.out; omega
                              case rel => exact ⟨(decide (x5_2 > 0)), (decide (x5_2 > 0)), (wrap64 (x5_2 + 1)), (by first | rfl | (simp; done) | (simp [*]; done)), (by first | rfl | (simp; done) | (simp [*]; done)), (by first | rfl | (simp; done) | (simp [*]; done)), H', ⟨by have := HJ1.out; have := HK2.out; omega⟩, by repeat (first | exact Drawn0.refl _ | apply Drawn0.step)⟩
                          · rw [if_neg c20] at H
                            have c20b0 : decide (65 ≤ (bt a0 x5_2)) = false := decide_eq_false c20
                            clear c20
                            have H' := Aside0.mk H
                            clear H
                            have p7 : 0 ≤ (x5_2 : Int) := of_decide_eq_true (by first | (with_reducible assumption) | assumption)
                            have q7 : x5_2 < (a0.size : Int) := of_decide_eq_true (by first | (with_reducible assumption) | assumption)
                            have hx7 := bt_at a0 x5_2
                            replace p7 := eq_true p7
                            replace q7 := eq_true q7
                            go_wp2
                            go_roundg k2
                            case measure => have := HJ1.out; have := HK2.out; omega
                            case rel => exact ⟨(decide (x5_2 > 0)), (decide (x5_2 > 0)), (wrap64 (x5_2 + 1)), (by first | rfl | (simp; done) | (simp [*]; done)), (by first | rfl | (simp; done) | (simp [*]; done)), (by first | rfl | (simp; done) | (simp [*]; done)), H', ⟨by have := HJ1.out; have := HK2.out; omega⟩, by repeat (first | exact Drawn0.refl _ | apply Drawn0.step)⟩
                        · replace c19 := Bool.eq_false_iff.mpr c19
                          subst c19
                          have H1 : (aumbryref03_Kind.l0 k2 a0 (decide (x5_2 > 0)) false (wrap64 (x5_2 + 1))) = some r := by rw [if_neg (show ¬ (false = true) by decide)] at H; exact H
                          clear H
                          have H := H1
                          clear H1
                          have H' := Aside0.mk H
                          clear H
                          have p7 : 0 ≤ (x5_2 : Int) := of_decide_eq_true (by first | (with_reducible assumption) | assumption)
                          have q7 : x5_2 < (a0.size : Int) := of_decide_eq_true (by first | (with_reducible assumption) | assumption)
                          have hx7 := bt_at a0 x5_2
                          replace p7 := eq_true p7
                          replace q7 := eq_true q7
                          go_wp2
                          go_roundg k2
                          case measure => have := HJ1.out; have := HK2.out; omega
                          case rel => exact ⟨(decide (x5_2 > 0)), (false), (wrap64 (x5_2 + 1)), (by first | rfl | (simp; done) | (simp [*]; done)), (by first | rfl | (simp; done) | (simp [*]; done)), (by first | rfl | (simp; done) | (simp [*]; done)), H', ⟨by have := HJ1.out; have := HK2.out; omega⟩, by repeat (first | exact Drawn0.refl _ | apply Drawn0.step)⟩
                    · replace c10 := Bool.eq_false_iff.mpr c10
                      subst c10
                      have H1 : (if x4_2 = true then (if (bt a0 x5_2) ≥ 65 then (if (bt a0 x5_2) ≤ 90 then (aumbryref03_Kind.l0 k2 a0 false true (wrap64 (x5_2 + 1))) else (aumbryref03_Kind.l0 k2 a0 false (decide (x5_2 > 0)) (wrap64 (x5_2 + 1)))) else (aumbryref03_Kind.l0 k2 a0 false (decide (x5_2 > 0)) (wrap64 (x5_2 + 1)))) else (aumbryref03_Kind.l0 k2 a0 false false (wrap64 (x5_2 + 1)))) = some r := by rw [if_neg (show ¬ (false = true) by decide)] at H; exact H
                      clear H
                      have H := H1
                      clear H1
                      by_cases c22 : x4_2 = true
                      · subst c22
                        have H1 : (if (bt a0 x5_2) ≥ 65 then (if (bt a0 x5_2) ≤ 90 then (aumbryref03_Kind.l0 k2 a0 false true (wrap64 (x5_2 + 1))) else (aumbryref03_Kind.l0 k2 a0 false (decide (x5_2 > 0)) (wrap64 (x5_2 + 1)))) else (aumbryref03_Kind.l0 k2 a0 false (decide (x5_2 > 0)) (wrap64 (x5_2 + 1)))) = some r := by rw [if_pos rfl] at H; exact H
                        clear H
                        have H := H1
                        clear H1
                        by_cases c23 : (bt a0 x5_2) ≥ 65
                        · rw [if_pos c23] at H
                          have c23b0 : decide (65 ≤ (bt a0 x5_2)) = true := decide_eq_true c23
                          clear c23
                          by_cases c24 : (bt a0 x5_2) ≤ 90
                          · rw [if_pos c24] at H
                            have c24b0 : decide ((bt a0 x5_2) ≤ 90) = true := decide_eq_true c24
                            clear c24
                            have H' := Aside0.mk H
                            clear H
                            have p7 : 0 ≤ (x5_2 : Int) := of_decide_eq_true (by first | (with_reducible assumption) | assumption)
                            have q7 : x5_2 < (a0.size : Int) := of_decide_eq_true (by first | (with_reducible assumption) | assumption)
                            have hx7 := bt_at a0 x5_2
                            replace p7 := eq_true p7
                            replace q7 := eq_true q7
                            go_wp2
                            go_roundg k2
                            case measure => have := HJ1.out; have := HK2.out; omega
                            case rel => exact ⟨(false), (true), (wrap64 (x5_2 + 1)), (by first | rfl | (simp; done) | (simp [*]; done)), (by first | rfl | (simp; done) | (simp [*]; done)), (by first | rfl | (simp; done) | (simp [*]; done)), H', ⟨by have := HJ1.out; have := HK2.out; omega⟩, by repeat (first | exact Drawn0.refl _ | apply Drawn0.step)⟩
                          · rw [if_neg c24] at H
                            have c24b0 : decide ((bt a0 x5_2) ≤ 90) = false := decide_eq_false c24
                            clear c24
                            have H' := Aside0.mk H
                            clear H
                            have p7 : 0 ≤ (x5_2 : Int) := of_decide_eq_true (by first | (with_reducible assumption) | assumption)
                            have q7 : x5_2 < (a0.size : Int) := of_decide_eq_true (by first | (with_reducible assumption) | assumption)
                            have hx7 := bt_at a0 x5_2
                            replace p7 := eq_true p7
                            replace q7 := eq_true q7
                            go_wp2
                            go_roundg k2
                            case measure => have := HJ1.out; have := HK2.out; omega
                            case rel => exact ⟨(false), (decide (x5_2 > 0)), (wrap64 (x5_2 + 1)), (by first | rfl | (simp; done) | (simp [*]; done)), (by first | rfl | (simp; done) | (simp [*]; done)), (by first | rfl | (simp; done) | (simp [*]; done)), H', ⟨by have := HJ1.out; have := HK2.out; omega⟩, by repeat (first | exact Drawn0.refl _ | apply Drawn0.step)⟩
                        · rw [if_neg c23] at H
                          have c23b0 : decide (65 ≤ (bt a0 x5_2)) = false := decide_eq_false c23
                          clear c23
                          have H' := Aside0.mk H
                          clear H
                          have p7 : 0 ≤ (x5_2 : Int) := of_decide_eq_true (by first | (with_reducible assumption) | assumption)
                          have q7 : x5_2 < (a0.size : Int) := of_decide_eq_true (by first | (with_reducible assumption) | assumption)
                          have hx7 := bt_at a0 x5_2
                          replace p7 := eq_true p7
                          replace q7 := eq_true q7
                          go_wp2
                          go_roundg k2
                          case measure => have := HJ1.out; have := HK2.out; omega
                          case rel => exact ⟨(false), (decide (x5_2 > 0)), (wrap64 (x5_2 + 1)), (by first | rfl | (simp; done) | (simp [*]; done)), (by first | rfl | (simp; done) | (simp [*]; done)), (by first | rfl | (simp; done) | (simp [*]; done)), H', ⟨by have := HJ1.out; have := HK2.out; omega⟩, by repeat (first | exact Drawn0.refl _ | apply Drawn0.step)⟩
                      · replace c22 := Bool.eq_false_iff.mpr c22
                        subst c22
                        have H1 : (aumbryref03_Kind.l0 k2 a0 false false (wrap64 (x5_2 + 1))) = some r := by rw [if_neg (show ¬ (false = true) by decide)] at H; exact H
                        clear H
                        have H := H1
                        clear H1
                        have H' := Aside0.mk H
                        clear H
                        have p7 : 0 ≤ (x5_2 : Int) := of_decide_eq_true (by first | (with_reducible assumption) | assumption)
                        have q7 : x5_2 < (a0.size : Int) := of_decide_eq_true (by first | (with_reducible assumption) | assumption)
                        have hx7 := bt_at a0 x5_2
                        replace p7 := eq_true p7
                        replace q7 := eq_true q7
                        go_wp2
                        go_roundg k2
                        case measure => have := HJ1.out; have := HK2.out; omega
                        case rel => exact ⟨(false), (false), (wrap64 (x5_2 + 1)), (by first | rfl | (simp; done) | (simp [*]; done)), (by first | rfl | (simp; done) | (simp [*]; done)), (by first | rfl | (simp; done) | (simp [*]; done)), H', ⟨by have := HJ1.out; have := HK2.out; omega⟩, by repeat (first | exact Drawn0.refl _ | apply Drawn0.step)⟩
                  · rw [if_neg c9] at H
                    have c9b0 : decide ((bt a0 x5_2) ≤ 57) = false := decide_eq_false c9
                    clear c9
                    by_cases c25 : x3_2 = true
                    · subst c25
                      have H1 : (if (bt a0 x5_2) ≥ 97 then (if (bt a0 x5_2) ≤ 122 then (if x4_2 = true then (if (bt a0 x5_2) ≥ 65 then (if (bt a0 x5_2) ≤ 90 then (aumbryref03_Kind.l0 k2 a0 true true (wrap64 (x5_2 + 1))) else (aumbryref03_Kind.l0 k2 a0 true false (wrap64 (x5_2 + 1)))) else (aumbryref03_Kind.l0 k2 a0 true false (wrap64 (x5_2 + 1)))) else (aumbryref03_Kind.l0 k2 a0 true false (wrap64 (x5_2 + 1)))) else (if x4_2 = true then (if (bt a0 x5_2) ≥ 65 then (if (bt a0 x5_2) ≤ 90 then (aumbryref03_Kind.l0 k2 a0 false true (wrap64 (x5_2 + 1))) else (aumbryref03_Kind.l0 k2 a0 false false (wrap64 (x5_2 + 1)))) else (aumbryref03_Kind.l0 k2 a0 false false (wrap64 (x5_2 + 1)))) else (aumbryref03_Kind.l0 k2 a0 false false (wrap64 (x5_2 + 1))))) else (if x4_2 = true then (if (bt a0 x5_2) ≥ 65 then (if (bt a0 x5_2) ≤ 90 then (aumbryref03_Kind.l0 k2 a0 false true (wrap64 (x5_2 + 1))) else (aumbryref03_Kind.l0 k2 a0 false false (wrap64 (x5_2 + 1)))) else (aumbryref03_Kind.l0 k2 a0 false false (wrap64 (x5_2 + 1)))) else (aumbryref03_Kind.l0 k2 a0 false false (wrap64 (x5_2 + 1))))) = some r := by rw [if_pos rfl] at H; exact H
                      clear H
                      have H := H1
                      clear H1
                      by_cases c26 : (bt a0 x5_2) ≥ 97
                      · rw [if_pos c26] at H
                        have c26b0 : decide (97 ≤ (bt a0 x5_2)) = true := decide_eq_true c26
                        clear c26
                        by_cases c27 : (bt a0 x5_2) ≤ 122
                        · rw [if_pos c27] at H
                          have c27b0 : decide ((bt a0 x5_2) ≤ 122) = true := decide_eq_true c27
                          clear c27
                          by_cases c28 : x4_2 = true
                          · subst c28
                            have H1 : (if (bt a0 x5_2) ≥ 65 then (if (bt a0 x5_2) ≤ 90 then (aumbryref03_Kind.l0 k2 a0 true true (wrap64 (x5_2 + 1))) else (aumbryref03_Kind.l0 k2 a0 true false (wrap64 (x5_2 + 1)))) else (aumbryref03_Kind.l0 k2 a0 true false (wrap64 (x5_2 + 1)))) = some r := by rw [if_pos rfl] at H; exact H
                            clear H
                            have H := H1
                            clear H1
                            by_cases c29 : (bt a0 x5_2) ≥ 65
                            · rw [if_pos c29] at H
                              have c29b0 : decide (65 ≤ (bt a0 x5_2)) = true := decide_eq_true c29
                              clear c29
                              by_cases c30 : (bt a0 x5_2) ≤ 90
                              · rw [if_pos c30] at H
                                have c30b0 : decide ((bt a0 x5_2) ≤ 90) = true := decide_eq_true c30
                                clear c30
                                have H' := Aside0.mk H
                                clear H
                                have p7 : 0 ≤ (x5_2 : Int) := of_decide_eq_true (by first | (with_reducible assumption) | assumption)
                                have q7 : x5_2 < (a0.size : Int) := of_decide_eq_true (by first | (with_reducible assumption) | assumption)
                                have hx7 := bt_at a0 x5_2
                                replace p7 := eq_true p7
                                replace q7 := eq_true q7
                                go_wp2
                                go_roundg k2
                                case measure => have := HJ1.out; have := HK2.out; omega
                                case rel => exact ⟨(true), (true), (wrap64 (x5_2 + 1)), (by first | rfl | (simp; done) | (simp [*]; done)), (by first | rfl | (simp; done) | (simp [*]; done)), (by first | rfl | (simp; done) | (simp [*]; done)), H', ⟨by have := HJ1.out; have := HK2.out; omega⟩, by repeat (first | exact Drawn0.refl _ | apply Drawn0.step)⟩
                              · rw [if_neg c30] at H
                                have c30b0 : decide ((bt a0 x5_2) ≤ 90) = false := decide_eq_false c30
                                clear c30
                                have H' := Aside0.mk H
                                clear H
                                have p7 : 0 ≤ (x5_2 : Int) := of_decide_eq_true (by first | (with_reducible assumption) | assumption)
                                have q7 : x5_2 < (a0.size : Int) := of_decide_eq_true (by first | (with_reducible assumption) | assumption)
                                have hx7 := bt_at a0 x5_2
                                replace p7 := eq_true p7
                                replace q7 := eq_true q7
                                go_wp2
                                go_roundg k2
                                case measure => have := HJ1.out; have := HK2.out; omega
                                case rel => exact ⟨(true), (false), (wrap64 (x5_2 + 1)), (by first | rfl | (simp; done) | (simp [*]; done)), (by first | rfl | (simp; done) | (simp [*]; done)), (by first | rfl | (simp; done) | (simp [*]; done)), H', ⟨by have := HJ1.out; have := HK2.out; omega⟩, by repeat (first | exact Drawn0.refl _ | apply Drawn0.step)⟩
                            · rw [if_neg c29] at H
                              have c29b0 : decide (65 ≤ (bt a0 x5_2)) = false := decide_eq_false c29
                              clear c29
                              have H' := Aside0.mk H
                              clear H
                              have p7 : 0 ≤ (x5_2 : Int) := of_decide_eq_true (by first | (with_reducible assumption) | assumption)
                              have q7 : x5_2 < (a0.size : Int) := of_decide_eq_true (by first | (with_reducible assumption) | assumption)
                              have hx7 := bt_at a0 x5_2
                              replace p7 := eq_true p7
                              replace q7 := eq_true q7
                              go_wp2
                              go_roundg k2
                              case measure => have := HJ1.out; have := HK2.out; omega
                              case rel => exact ⟨(true), (false), (wrap64 (x5_2 + 1)), (by first | rfl | (simp; done) | (simp [*]; done)), (by first | rfl | (simp; done) | (simp [*]; done)), (by first | rfl | (simp; done) | (simp [*]; done)), H', ⟨by have := HJ1.out; have := HK2.out; omega⟩, by repeat (first | exact Drawn0.refl _ | apply Drawn0.step)⟩
                          · replace c28 := Bool.eq_false_iff.mpr c28
                            subst c28
                            have H1 : (aumbryref03_Kind.l0 k2 a0 true false (wrap64 (x5_2 + 1))) = some r := by rw [if_neg (show ¬ (false = true) by decide)] at H; exact H
                            clear H
                            have H := H1
                            clear H1
                            have H' := Aside0.mk H
                            clear H
                            have p7 : 0 ≤ (x5_2 : Int) := of_decide_eq_true (by first | (with_reducible assumption) | assumption)
                            have q7 : x5_2 < (a0.size : Int) := of_decide_eq_true (by first | (with_reducible assumption) | assumption)
                            have hx7 := bt_at a0 x5_2
                            replace p7 := eq_true p7
                            replace q7 := eq_true q7
                            go_wp2
                            go_roundg k2
                            case measure => have := HJ1.out; have := HK2.out; omega
                            case rel => exact ⟨(true), (false), (wrap64 (x5_2 + 1)), (by first | rfl | (simp; done) | (simp [*]; done)), (by first | rfl | (simp; done) | (simp [*]; done)), (by first | rfl | (simp; done) | (simp [*]; done)), H', ⟨by have := HJ1.out; have := HK2.out; omega⟩, by repeat (first | exact Drawn0.refl _ | apply Drawn0.step)⟩
                        · rw [if_neg c27] at H
                          have c27b0 : decide ((bt a0 x5_2) ≤ 122) = false := decide_eq_false c27
                          clear c27
                          by_cases c31 : x4_2 = true
                          · subst c31
                            have H1 : (if (bt a0 x5_2) ≥ 65 then (if (bt a0 x5_2) ≤ 90 then (aumbryref03_Kind.l0 k2 a0 false true (wrap64 (x5_2 + 1))) else (aumbryref03_Kind.l0 k2 a0 false false (wrap64 (x5_2 + 1)))) else (aumbryref03_Kind.l0 k2 a0 false false (wrap64 (x5_2 + 1)))) = some r := by rw [if_pos rfl] at H; exact H
                            clear H
                            have H := H1
                            clear H1
                            by_cases c32 : (bt a0 x5_2) ≥ 65
                            · rw [if_pos c32] at H
                              have c32b0 : decide (65 ≤ (bt a0 x5_2)) = true := decide_eq_true c32
                              clear c32
                              by_cases c33 : (bt a0 x5_2) ≤ 90
                              · rw [if_pos c33] at H
                                have c33b0 : decide ((bt a0 x5_2) ≤ 90) = true := decide_eq_true c33
                                clear c33
                                have H' := Aside0.mk H
                                clear H
                                have p7 : 0 ≤ (x5_2 : Int) := of_decide_eq_true (by first | (with_reducible assumption) | assumption)
                                have q7 : x5_2 < (a0.size : Int) := of_decide_eq_true (by first | (with_reducible assumption) | assumption)
                                have hx7 := bt_at a0 x5_2
                                replace p7 := eq_true p7
                                replace q7 := eq_true q7
                                go_wp2
                                go_roundg k2
                                case measure => have := HJ1.out; have := HK2.out; omega
                                case rel => exact ⟨(false), (true), (wrap64 (x5_2 + 1)), (by first | rfl | (simp; done) | (simp [*]; done)), (by first | rfl | (simp; done) | (simp [*]; done)), (by first | rfl | (simp; done) | (simp [*]; done)), H', ⟨by have := HJ1.out; have := HK2.out; omega⟩, by repeat (first | exact Drawn0.refl _ | apply Drawn0.step)⟩
                              · rw [if_neg c33] at H
                                have c33b0 : decide ((bt a0 x5_2) ≤ 90) = false := decide_eq_false c33
                                clear c33
                                have H' := Aside0.mk H
                                clear H
                                have p7 : 0 ≤ (x5_2 : Int) := of_decide_eq_true (by first | (with_reducible assumption) | assumption)
                                have q7 : x5_2 < (a0.size : Int) := of_decide_eq_true (by first | (with_reducible assumption) | assumption)
                                have hx7 := bt_at a0 x5_2
                                replace p7 := eq_true p7
                                replace q7 := eq_true q7
                                go_wp2
                                go_roundg k2
                                case measure => have := HJ1.out; have := HK2.out; omega
                                case rel => exact ⟨(false), (false), (wrap64 (x5_2 + 1)), (by first | rfl | (simp; done) | (simp [*]; done)), (by first | rfl | (simp; done) | (simp [*]; done)), (by first | rfl | (simp; done) | (simp [*]; done)), H', ⟨by have := HJ1.out; have := HK2.out; omega⟩, by repeat (first | exact Drawn0.refl _ | apply Drawn0.step)⟩
                            · rw [if_neg c32] at H
                              have c32b0 : decide (65 ≤ (bt a0 x5_2)) = false := decide_eq_false c32
                              clear c32
                              have H' := Aside0.mk H
                              clear H
                              have p7 : 0 ≤ (x5_2 : Int) := of_decide_eq_true (by first | (with_reducible assumption) | assumption)
                              have q7 : x5_2 < (a0.size : Int) := of_decide_eq_true (by first | (with_reducible assumption) | assumption)
                              have hx7 := bt_at a0 x5_2
                              replace p7 := eq_true p7
                              replace q7 := eq_true q7
                              go_wp2
                              go_roundg k2
                              case measure => have := HJ1.out; have := HK2.out; omega
                              case rel => exact ⟨(false), (false), (wrap64 (x5_2 + 1)), (by first | rfl | (simp; done) | (simp [*]; done)), (by first | rfl | (simp; done) | (simp [*]; done)), (by first | rfl | (simp; done) | (simp [*]; done)), H', ⟨by have := HJ1.out; have := HK2.out; omega⟩, by repeat (first | exact Drawn0.refl _ | apply Drawn0.step)⟩
                          · replace c31 := Bool.eq_false_iff.mpr c31
                            subst c31
                            have H1 : (aumbryref03_Kind.l0 k2 a0 false false (wrap64 (x5_2 + 1))) = some r := by rw [if_neg (show ¬ (false = true) by decide)] at H; exact H
                            clear H
                            have H := H1
                            clear H1
                            have H' := Aside0.mk H
                            clear H
                            have p7 : 0 ≤ (x5_2 : Int) := of_decide_eq_true (by first | (with_reducible assumption) | assumption)
                            have q7 : x5_2 < (a0.size : Int) := of_decide_eq_true (by first | (with_reducible assumption) | assumption)
                            have hx7 := bt_at a0 x5_2
                            replace p7 := eq_true p7
                            replace q7 := eq_true q7
                            go_wp2
                            go_roundg k2
                            case measure => have := HJ1.out; have := HK2.out; omega
                            case rel => exact ⟨(false), (false), (wrap64 (x5_2 + 1)), (by first | rfl | (simp; done) | (simp [*]; done)), (by first | rfl | (simp; done) | (simp [*]; done)), (by first | rfl | (simp; done) | (simp [*]; done)), H', ⟨by have := HJ1.out; have := HK2.out; omega⟩, by repeat (first | exact Drawn0.refl _ | apply Drawn0.step)⟩
                      · rw [if_neg c26] at H
                        have c26b0 : decide (97 ≤ (bt a0 x5_2)) = false := decide_eq_false c26
                        clear c26
                        by_cases c34 : x4_2 = true
                        · subst c34
                          have H1 : (if (bt a0 x5_2) ≥ 65 then (if (bt a0 x5_2) ≤ 90 then (aumbryref03_Kind.l0 k2 a0 false true (wrap64 (x5_2 + 1))) else (aumbryref03_Kind.l0 k2 a0 false false (wrap64 (x5_2 + 1)))) else (aumbryref03_Kind.l0 k2 a0 false false (wrap64 (x5_2 + 1)))) = some r := by rw [if_pos rfl] at H; exact H
                          clear H
                          have H := H1
                          clear H1
                          by_cases c35 : (bt a0 x5_2) ≥ 65
                          · rw [if_pos c35] at H
                            have c35b0 : decide (65 ≤ (bt a0 x5_2)) = true := decide_eq_true c35
                            clear c35
                            by_cases c36 : (bt a0 x5_2) ≤ 90
                            · rw [if_pos c36] at H
                              have c36b0 : decide ((bt a0 x5_2) ≤ 90) = true := decide_eq_true c36
                              clear c36
                              have H' := Aside0.mk H
                              clear H
                              have p7 : 0 ≤ (x5_2 : Int) := of_decide_eq_true (by first | (with_reducible assumption) | assumption)
                              have q7 : x5_2 < (a0.size : Int) := of_decide_eq_true (by first | (with_reducible assumption) | assumption)
                              have hx7 := bt_at a0 x5_2
                              replace p7 := eq_true p7
                              replace q7 := eq_true q7
                              go_wp2
                              go_roundg k2
                              case measure => have := HJ1.out; have := HK2.out; omega
                              case rel => exact ⟨(false), (true), (wrap64 (x5_2 + 1)), (by first | rfl | (simp; done) | (simp [*]; done)), (by first | rfl | (simp; done) | (simp [*]; done)), (by first | rfl | (simp; done) | (simp [*]; done)), H', ⟨by have := HJ1.out; have := HK2.out; omega⟩, by repeat (first | exact Drawn0.refl _ | apply Drawn0.step)⟩
                            · rw [if_neg c36] at H
                              have c36b0 : decide ((bt a0 x5_2) ≤ 90) = false := decide_eq_false c36
                              clear c36
                              have H' := Aside0.mk H
                              clear H
                              have p7 : 0 ≤ (x5_2 : Int) := of_decide_eq_true (by first | (with_reducible assumption) | assumption)
                              have q7 : x5_2 < (a0.size : Int) := of_decide_eq_true (by first | (with_reducible assumption) | assumption)
                              have hx7 := bt_at a0 x5_2
                              replace p7 := eq_true p7
                              replace q7 := eq_true q7
                              go_wp2
                              go_roundg k2
                              case measure => have := HJ1.out; have := HK2.out; omega
                              case rel => exact ⟨(false), (false), (wrap64 (x5_2 + 1)), (by first | rfl | (simp; done) | (simp [*]; done)), (by first | rfl | (simp; done) | (simp [*]; done)), (by first | rfl | (simp; done) | (simp [*]; done)), H', ⟨by have := HJ1.out; have := HK2.out; omega⟩, by repeat (first | exact Drawn0.refl _ | apply Drawn0.step)⟩
                          · rw [if_neg c35] at H
                            have c35b0 : decide (65 ≤ (bt a0 x5_2)) = false := decide_eq_false c35
                            clear c35
                            have H' := Aside0.mk H
                            clear H
                            have p7 : 0 ≤ (x5_2 : Int) := of_decide_eq_true (by first | (with_reducible assumption) | assumption)
                            have q7 : x5_2 < (a0.size : Int) := of_decide_eq_true (by first | (with_reducible assumption) | assumption)
                            have hx7 := bt_at a0 x5_2
                            replace p7 := eq_true p7
                            replace q7 := eq_true q7
                            go_wp2
                            go_roundg k2
                            case measure => have := HJ1.out; have := HK2.out; omega
                            case rel => exact ⟨(false), (false), (wrap64 (x5_2 + 1)), (by first | rfl | (simp; done) | (simp [*]; done)), (by first | rfl | (simp; done) | (simp [*]; done)), (by first | rfl | (simp; done) | (simp [*]; done)), H', ⟨by have := HJ1.out; have := HK2.out; omega⟩, by repeat (first | exact Drawn0.refl _ | apply Drawn0.step)⟩
                        · replace c34 := Bool.eq_false_iff.mpr c34
                          subst c34
                          have H1 : (aumbryref03_Kind.l0 k2 a0 false false (wrap64 (x5_2 + 1))) = some r := by rw [if_neg (show ¬ (false = true) by decide)] at H; exact H
                          clear H
                          have H := H1
                          clear H1
                          have H' := Aside0.mk H
                          clear H
                          have p7 : 0 ≤ (x5_2 : Int) := of_decide_eq_true (by first | (with_reducible assumption) | assumption)
                          have q7 : x5_2 < (a0.size : Int) := of_decide_eq_true (by first | (with_reducible assumption) | assumption)
                          have hx7 := bt_at a0 x5_2
                          replace p7 := eq_true p7
                          replace q7 := eq_true q7
                          go_wp2
                          go_roundg k2
                          case measure => have := HJ1.out; have := HK2.out; omega
                          case rel => exact ⟨(false), (false), (wrap64 (x5_2 + 1)), (by first | rfl | (simp; done) | (simp [*]; done)), (by first | rfl | (simp; done) | (simp [*]; done)), (by first | rfl | (simp; done) | (simp [*]; done)), H', ⟨by have := HJ1.out; have := HK2.out; omega⟩, by repeat (first | exact Drawn0.refl _ | apply Drawn0.step)⟩
                    · replace c25 := Bool.eq_false_iff.mpr c25
                      subst c25
                      have H1 : (if x4_2 = true then (if (bt a0 x5_2) ≥ 65 then (if (bt a0 x5_2) ≤ 90 then (aumbryref03_Kind.l0 k2 a0 false true (wrap64 (x5_2 + 1))) else (aumbryref03_Kind.l0 k2 a0 false false (wrap64 (x5_2 + 1)))) else (aumbryref03_Kind.l0 k2 a0 false false (wrap64 (x5_2 + 1)))) else (aumbryref03_Kind.l0 k2 a0 false false (wrap64 (x5_2 + 1)))) = some r := by rw [if_neg (show ¬ (false = true) by decide)] at H; exact H
                      clear H
                      have H := H1
                      clear H1
                      by_cases c37 : x4_2 = true
                      · subst c37
                        have H1 : (if (bt a0 x5_2) ≥ 65 then (if (bt a0 x5_2) ≤ 90 then (aumbryref03_Kind.l0 k2 a0 false true (wrap64 (x5_2 + 1))) else (aumbryref03_Kind.l0 k2 a0 false false (wrap64 (x5_2 + 1)))) else (aumbryref03_Kind.l0 k2 a0 false false (wrap64 (x5_2 + 1)))) = some r := by rw [if_pos rfl] at H; exact H
                        clear H
                        have H := H1
                        clear H1
                        by_cases c38 : (bt a0 x5_2) ≥ 65
                        · rw [if_pos c38] at H
                          have c38b0 : decide (65 ≤ (bt a0 x5_2)) = true := decide_eq_true c38
                          clear c38
                          by_cases c39 : (bt a0 x5_2) ≤ 90
                          · rw [if_pos c39] at H
                            have c39b0 : decide ((bt a0 x5_2) ≤ 90) = true := decide_eq_true c39
                            clear c39
                            have H' := Aside0.mk H
                            clear H
                            have p7 : 0 ≤ (x5_2 : Int) := of_decide_eq_true (by first | (with_reducible assumption) | assumption)
                            have q7 : x5_2 < (a0.size : Int) := of_decide_eq_true (by first | (with_reducible assumption) | assumption)
                            have hx7 := bt_at a0 x5_2
                            replace p7 := eq_true p7
                            replace q7 := eq_true q7
                            go_wp2
                            go_roundg k2
                            case measure => have := HJ1.out; have := HK2.out; omega
                            case rel => exact ⟨(false), (true), (wrap64 (x5_2 + 1)), (by first | rfl | (simp; done) | (simp [*]; done)), (by first | rfl | (simp; done) | (simp [*]; done)), (by first | rfl | (simp; done) | (simp [*]; done)), H', ⟨by have := HJ1.out; have := HK2.out; omega⟩, by repeat (first | exact Drawn0.refl _ | apply Drawn0.step)⟩
                          · rw [if_neg c39] at H
                            have c39b0 : decide ((bt a0 x5_2) ≤ 90) = false := decide_eq_false c39
                            clear c39
                            have H' := Aside0.mk H
                            clear H
                            have p7 : 0 ≤ (x5_2 : Int) := of_decide_eq_true (by first | (with_reducible assumption) | assumption)
                            have q7 : x5_2 < (a0.size : Int) := of_decide_eq_true (by first | (with_reducible assumption) | assumption)
                            have hx7 := bt_at a0 x5_2
                            replace p7 := eq_true p7
                            replace q7 := eq_true q7
                            go_wp2
                            go_roundg k2
                            case measure => have := HJ1.out; have := HK2.out; omega
                            case rel => exact ⟨(false), (false), (wrap64 (x5_2 + 1)), (by first | rfl | (simp; done) | (simp [*]; done)), (by first | rfl | (simp; done) | (simp [*]; done)), (by first | rfl | (simp; done) | (simp [*]; done)), H', ⟨by have := HJ1.out; have := HK2.out; omega⟩, by repeat (first | exact Drawn0.refl _ | apply Drawn0.step)⟩
                        · rw [if_neg c38] at H
                          have c38b0 : decide (65 ≤ (bt a0 x5_2)) = false := decide_eq_false c38
                          clear c38
                          have H' := Aside0.mk H
                          clear H
                          have p7 : 0 ≤ (x5_2 : Int) := of_decide_eq_true (by first | (with_reducible assumption) | assumption)
                          have q7 : x5_2 < (a0.size : Int) := of_decide_eq_true (by first | (with_reducible assumption) | assumption)
                          have hx7 := bt_at a0 x5_2
                          replace p7 := eq_true p7
                          replace q7 := eq_true q7
                          go_wp2
                          go_roundg k2
                          case measure => have := HJ1.out; have := HK2.out; omega
                          case rel => exact ⟨(false), (false), (wrap64 (x5_2 + 1)), (by first | rfl | (simp; done) | (simp [*]; done)), (by first | rfl | (simp; done) | (simp [*]; done)), (by first | rfl | (simp; done) | (simp [*]; done)), H', ⟨by have := HJ1.out; have := HK2.out; omega⟩, by repeat (first | exact Drawn0.refl _ | apply Drawn0.step)⟩
                      · replace c37 := Bool.eq_false_iff.mpr c37
                        subst c37
                        have H1 : (aumbryref03_Kind.l0 k2 a0 false false (wrap64 (x5_2 + 1))) = some r := by rw [if_neg (show ¬ (false = true) by decide)] at H; exact H
                        clear H
                        have H := H1
                        clear H1
                        have H' := Aside0.mk H
                        clear H
                        have p7 : 0 ≤ (x5_2 : Int) := of_decide_eq_true (by first | (with_reducible assumption) | assumption)
                        have q7 : x5_2 < (a0.size : Int) := of_decide_eq_true (by first | (with_reducible assumption) | assumption)
                        have hx7 := bt_at a0 x5_2
                        replace p7 := eq_true p7
                        replace q7 := eq_true q7
                        go_wp2
                        go_roundg k2
                        case measure => have := HJ1.out; have := HK2.out; omega
                        case rel => exact ⟨(false), (false), (wrap64 (x5_2 + 1)), (by first | rfl | (simp; done) | (simp [*]; done)), (by first | rfl | (simp; done) | (simp [*]; done)), (by first | rfl | (simp; done) | (simp [*]; done)), H', ⟨by have := HJ1.out; have := HK2.out; omega⟩, by repeat (first | exact Drawn0.refl _ | apply Drawn0.step)⟩
                · rw [if_neg c8] at H
                  have c8b0 : decide (48 ≤ (bt a0 x5_2)) = false := decide_eq_false c8
                  clear c8
                  by_cases c40 : x3_2 = true
                  · subst c40
                    have H1 : (if (bt a0 x5_2) ≥ 97 then (if (bt a0 x5_2) ≤ 122 then (if x4_2 = true then (if (bt a0 x5_2) ≥ 65 then (if (bt a0 x5_2) ≤ 90 then (aumbryref03_Kind.l0 k2 a0 true true (wrap64 (x5_2 + 1))) else (aumbryref03_Kind.l0 k2 a0 true false (wrap64 (x5_2 + 1)))) else (aumbryref03_Kind.l0 k2 a0 true false (wrap64 (x5_2 + 1)))) else (aumbryref03_Kind.l0 k2 a0 true false (wrap64 (x5_2 + 1)))) else (if x4_2 = true then (if (bt a0 x5_2) ≥ 65 then (if (bt a0 x5_2) ≤ 90 then (aumbryref03_Kind.l0 k2 a0 false true (wrap64 (x5_2 + 1))) else (aumbryref03_Kind.l0 k2 a0 false false (wrap64 (x5_2 + 1)))) else (aumbryref03_Kind.l0 k2 a0 false false (wrap64 (x5_2 + 1)))) else (aumbryref03_Kind.l0 k2 a0 false false (wrap64 (x5_2 + 1))))) else (if x4_2 = true then (if (bt a0 x5_2) ≥ 65 then (if (bt a0 x5_2) ≤ 90 then (aumbryref03_Kind.l0 k2 a0 false true (wrap64 (x5_2 + 1))) else (aumbryref03_Kind.l0 k2 a0 false false (wrap64 (x5_2 + 1)))) else (aumbryref03_Kind.l0 k2 a0 false false (wrap64 (x5_2 + 1)))) else (aumbryref03_Kind.l0 k2 a0 false false (wrap64 (x5_2 + 1))))) = some r := by rw [if_pos rfl] at H; exact H
                    clear H
                    have H := H1
                    clear H1
                    by_cases c41 : (bt a0 x5_2) ≥ 97
                    · rw [if_pos c41] at H
                      have c41b0 : decide (97 ≤ (bt a0 x5_2)) = true := decide_eq_true c41
                      clear c41
                      by_cases c42 : (bt a0 x5_2) ≤ 122
                      · rw [if_pos c42] at H
                        have c42b0 : decide ((bt a0 x5_2) ≤ 122) = true := decide_eq_true c42
                        clear c42
                        by_cases c43 : x4_2 = true
                        · subst c43
                          have H1 : (if (bt a0 x5_2) ≥ 65 then (if (bt a0 x5_2) ≤ 90 then (aumbryref03_Kind.l0 k2 a0 true true (wrap64 (x5_2 + 1))) else (aumbryref03_Kind.l0 k2 a0 true false (wrap64 (x5_2 + 1)))) else (aumbryref03_Kind.l0 k2 a0 true false (wrap64 (x5_2 + 1)))) = some r := by rw [if_pos rfl] at H; exact H
                          clear H
                          have H := H1
                          clear H1
                          by_cases c44 : (bt a0 x5_2) ≥ 65
                          · rw [if_pos c44] at H
                            have c44b0 : decide (65 ≤ (bt a0 x5_2)) = true := decide_eq_true c44
                            clear c44
                            by_cases c45 : (bt a0 x5_2) ≤ 90
                            · rw [if_pos c45] at H
                              have c45b0 : decide ((bt a0 x5_2) ≤ 90) = true := decide_eq_true c45
                              clear c45
                              have H' := Aside0.mk H
                              clear H
                              have p7 : 0 ≤ (x5_2 : Int) := of_decide_eq_true (by first | (with_reducible assumption) | assumption)
                              have q7 : x5_2 < (a0.size : Int) := of_decide_eq_true (by first | (with_reducible assumption) | assumption)
                              have hx7 := bt_at a0 x5_2
                              replace p7 := eq_true p7
                              replace q7 := eq_true q7
                              go_wp2
                              go_roundg k2
                              case measure => have := HJ1.out; have := HK2.out; omega
                              case rel => exact ⟨(true), (true), (wrap64 (x5_2 + 1)), (by first | rfl | (simp; done) | (simp [*]; done)), (by first | rfl | (simp; done) | (simp [*]; done)), (by first | rfl | (simp; done) | (simp [*]; done)), H', ⟨by have := HJ1.out; have := HK2.out; omega⟩, by repeat (first | exact Drawn0.refl _ | apply Drawn0.step)⟩
                            · rw [if_neg c45] at H
                              have c45b0 : decide ((bt a0 x5_2) ≤ 90) = false := decide_eq_false c45
                              clear c45
                              have H' := Aside0.mk H
                              clear H
                              have p7 : 0 ≤ (x5_2 : Int) := of_decide_eq_true (by first | (with_reducible assumption) | assumption)
                              have q7 : x5_2 < (a0.size : Int) := of_decide_eq_true (by first | (with_reducible assumption) | assumption)
                              have hx7 := bt_at a0 x5_2
                              replace p7 := eq_true p7
                              replace q7 := eq_true q7
                              go_wp2
                              go_roundg k2
                              case measure => have := HJ1.out; have := HK2.out; omega
                              case rel => exact ⟨(true), (false), (wrap64 (x5_2 + 1)), (by first | rfl | (simp; done) | (simp [*]; done)), (by first | rfl | (simp; done) | (simp [*]; done)), (by first | rfl | (simp; done) | (simp [*]; done)), H', ⟨by have := HJ1.out; have := HK2.out; omega⟩, by repeat (first | exact Drawn0.refl _ | apply Drawn0.step)⟩
                          · rw [if_neg c44] at H
                            have c44b0 : decide (65 ≤ (bt a0 x5_2)) = false := decide_eq_false c44
                            clear c44
                            have H' := Aside0.mk H
                            clear H
                            have p7 : 0 ≤ (x5_2 : Int) := of_decide_eq_true (by first | (with_reducible assumption) | assumption)
                            have q7 : x5_2 < (a0.size : Int) := of_decide_eq_true (by first | (with_reducible assumption) | assumption)
                            have hx7 := bt_at a0 x5_2
                            replace p7 := eq_true p7
                            replace q7 := eq_true q7
                            go_wp2
                            go_roundg k2
                            case measure => have := HJ1.out; have := HK2.out; omega
                            case rel => exact ⟨(true), (false), (wrap64 (x5_2 + 1)), (by first | rfl | (simp; done) | (simp [*]; done)), (by first | rfl | (simp; done) | (simp [*]; done)), (by first | rfl | (simp; done) | (simp [*]; done)), H', ⟨by have := HJ1.out; have := HK2.out; omega⟩, by repeat (first | exact Drawn0.refl _ | apply Drawn0.step)⟩
                        · replace c43 := Bool.eq_false_iff.mpr c43
                          subst c43
                          have H1 : (aumbryref03_Kind.l0 k2 a0 true false (wrap64 (x5_2 + 1))) = some r := by rw [if_neg (show ¬ (false = true) by decide)] at H; exact H
                          clear H
                          have H := H1
                          clear H1
                          have H' := Aside0.mk H
                          clear H
                          have p7 : 0 ≤ (x5_2 : Int) := of_decide_eq_true (by first | (with_reducible assumption) | assumption)
                          have q7 : x5_2 < (a0.size : Int) := of_decide_eq_true (by first | (with_reducible assumption) | assumption)
                          have hx7 := bt_at a0 x5_2
                          replace p7 := eq_true p7
                          replace q7 := eq_true q7
                          go_wp2
                          go_roundg k2
                          case measure => have := HJ1.out; have := HK2.out; omega
                          case rel => exact ⟨(true), (false), (wrap64 (x5_2 + 1)), (by first | rfl | (simp; done) | (simp [*]; done)), (by first | rfl | (simp; done) | (simp [*]; done)), (by first | rfl | (simp; done) | (simp [*]; done)), H', ⟨by have := HJ1.out; have := HK2.out; omega⟩, by repeat (first | exact Drawn0.refl _ | apply Drawn0.step)⟩
                      · rw [if_neg c42] at H
                        have c42b0 : decide ((bt a0 x5_2) ≤ 122) = false := decide_eq_false c42
                        clear c42
                        by_cases c46 : x4_2 = true
                        · subst c46
                          have H1 : (if (bt a0 x5_2) ≥ 65 then (if (bt a0 x5_2) ≤ 90 then (aumbryref03_Kind.l0 k2 a0 false true (wrap64 (x5_2 + 1))) else (aumbryref03_Kind.l0 k2 a0 false false (wrap64 (x5_2 + 1)))) else (aumbryref03_Kind.l0 k2 a0 false false (wrap64 (x5_2 + 1)))) = some r := by rw [if_pos rfl] at H; exact H
                          clear H
                          have H := H1
                          clear H1
                          by_cases c47 : (bt a0 x5_2) ≥ 65
                          · rw [if_pos c47] at H
                            have c47b0 : decide (65 ≤ (bt a0 x5_2)) = true := decide_eq_true c47
                            clear c47
                            by_cases c48 : (bt a0 x5_2) ≤ 90
                            · rw [if_pos c48] at H
                              have c48b0 : decide ((bt a0 x5_2) ≤ 90) = true := decide_eq_true c48
                              clear c48
                              have H' := Aside0.mk H
                              clear H
                              have p7 : 0 ≤ (x5_2 : Int) := of_decide_eq_true (by first | (with_reducible assumption) | assumption)
                              have q7 : x5_2 < (a0.size : Int) := of_decide_eq_true (by first | (with_reducible assumption) | assumption)
                              have hx7 := bt_at a0 x5_2
                              replace p7 := eq_true p7
                              replace q7 := eq_true q7
                              go_wp2
                              go_roundg k2
                              case measure => have := HJ1.out; have := HK2.out; omega
                              case rel => exact ⟨(false), (true), (wrap64 (x5_2 + 1)), (by first | rfl | (simp; done) | (simp [*]; done)), (by first | rfl | (simp; done) | (simp [*]; done)), (by first | rfl | (simp; done) | (simp [*]; done)), H', ⟨by have := HJ1.out; have := HK2.out; omega⟩, by repeat (first | exact Drawn0.refl _ | apply Drawn0.step)⟩
                            · rw [if_neg c48] at H
                              have c48b0 : decide ((bt a0 x5_2) ≤ 90) = false := decide_eq_false c48
                              clear c48
                              have H' := Aside0.mk H
                              clear H
                              have p7 : 0 ≤ (x5_2 : Int) := of_decide_eq_true (by first | (with_reducible assumption) | assumption)
                              have q7 : x5_2 < (a0.size : Int) := of_decide_eq_true (by first | (with_reducible assumption) | assumption)
                              have hx7 := bt_at a0 x5_2
                              replace p7 := eq_true p7
                              replace q7 := eq_true q7
                              go_wp2
                              go_roundg k2
                              case measure => have := HJ1.out; have := HK2.out; omega
                              case rel => exact ⟨(false), (false), (wrap64 (x5_2 + 1)), (by first | rfl | (simp; done) | (simp [*]; done)), (by first | rfl | (simp; done) | (simp [*]; done)), (by first | rfl | (simp; done) | (simp [*]; done)), H', ⟨by have := HJ1.out; have := HK2.out; omega⟩, by repeat (first | exact Drawn0.refl _ | apply Drawn0.step)⟩
                          · rw [if_neg c47] at H
                            have c47b0 : decide (65 ≤ (bt a0 x5_2)) = false := decide_eq_false c47
                            clear c47
                            have H' := Aside0.mk H
                            clear H
                            have p7 : 0 ≤ (x5_2 : Int) := of_decide_eq_true (by first | (with_reducible assumption) | assumption)
                            have q7 : x5_2 < (a0.size : Int) := of_decide_eq_true (by first | (with_reducible assumption) | assumption)
                            have hx7 := bt_at a0 x5_2
                            replace p7 := eq_true p7
                            replace q7 := eq_true q7
                            go_wp2
                            go_roundg k2
                            case measure => have := HJ1.out; have := HK2.out; omega
                            case rel => exact ⟨(false), (false), (wrap64 (x5_2 + 1)), (by first | rfl | (simp; done) | (simp [*]; done)), (by first | rfl | (simp; done) | (simp [*]; done)), (by first | rfl | (simp; done) | (simp [*]; done)), H', ⟨by have := HJ1.out; have := HK2.out; omega⟩, by repeat (first | exact Drawn0.refl _ | apply Drawn0.step)⟩
                        · replace c46 := Bool.eq_false_iff.mpr c46
                          subst c46
                          have H1 : (aumbryref03_Kind.l0 k2 a0 false false (wrap64 (x5_2 + 1))) = some r := by rw [if_neg (show ¬ (false = true) by decide)] at H; exact H
                          clear H
                          have H := H1
                          clear H1
                          have H' := Aside0.mk H
                          clear H
                          have p7 : 0 ≤ (x5_2 : Int) := of_decide_eq_true (by first | (with_reducible assumption) | assumption)
                          have q7 : x5_2 < (a0.size : Int) := of_decide_eq_true (by first | (with_reducible assumption) | assumption)
                          have hx7 := bt_at a0 x5_2
                          replace p7 := eq_true p7
                          replace q7 := eq_true q7
                          go_wp2
                          go_roundg k2
                          case measure => have := HJ1.out; have := HK2.out; omega
                          case rel => exact ⟨(false), (false), (wrap64 (x5_2 + 1)), (by first | rfl | (simp; done) | (simp [*]; done)), (by first | rfl | (simp; done) | (simp [*]; done)), (by first | rfl | (simp; done) | (simp [*]; done)), H', ⟨by have := HJ1.out; have := HK2.out; omega⟩, by repeat (first | exact Drawn0.refl _ | apply Drawn0.step)⟩
                    · rw [if_neg c41] at H
                      have c41b0 : decide (97 ≤ (bt a0 x5_2)) = false := decide_eq_false c41
                      clear c41
                      by_cases c49 : x4_2 = true
                      · subst c49
                        have H1 : (if (bt a0 x5_2) ≥ 65 then (if (bt a0 x5_2) ≤ 90 then (aumbryref03_Kind.l0 k2 a0 false true (wrap64 (x5_2 + 1))) else (aumbryref03_Kind.l0 k2 a0 false false (wrap64 (x5_2 + 1)))) else (aumbryref03_Kind.l0 k2 a0 false false (wrap64 (x5_2 + 1)))) = some r := by rw [if_pos rfl] at H; exact H
                        clear H
                        have H := H1
                        clear H1
                        by_cases c50 : (bt a0 x5_2) ≥ 65
                        · rw [if_pos c50] at H
                          have c50b0 : decide (65 ≤ (bt a0 x5_2)) = true := decide_eq_true c50
                          clear c50
                          by_cases c51 : (bt a0 x5_2) ≤ 90
                          · rw [if_pos c51] at H
                            have c51b0 : decide ((bt a0 x5_2) ≤ 90) = true := decide_eq_true c51
                            clear c51
                            have H' := Aside0.mk H
                            clear H
                            have p7 : 0 ≤ (x5_2 : Int) := of_decide_eq_true (by first | (with_reducible assumption) | assumption)
                            have q7 : x5_2 < (a0.size : Int) := of_decide_eq_true (by first | (with_reducible assumption) | assumption)
                            have hx7 := bt_at a0 x5_2
                            replace p7 := eq_true p7
                            replace q7 := eq_true q7
                            go_wp2
                            go_roundg k2
                            case measure => have := HJ1.out; have := HK2.out; omega
                            case rel => exact ⟨(false), (true), (wrap64 (x5_2 + 1)), (by first | rfl | (simp; done) | (simp [*]; done)), (by first | rfl | (simp; done) | (simp [*]; done)), (by first | rfl | (simp; done) | (simp [*]; done)), H', ⟨by have := HJ1.out; have := HK2.out; omega⟩, by repeat (first | exact Drawn0.refl _ | apply Drawn0.step)⟩
                          · rw [if_neg c51] at H
                            have c51b0 : decide ((bt a0 x5_2) ≤ 90) = false := decide_eq_false c51
                            clear c51
                            have H' := Aside0.mk H
                            clear H
                            have p7 : 0 ≤ (x5_2 : Int) := of_decide_eq_true (by first | (with_reducible assumption) | assumption)
                            have q7 : x5_2 < (a0.size : Int) := of_decide_eq_true (by first | (with_reducible assumption) | assumption)
                            have hx7 := bt_at a0 x5_2
                            replace p7 := eq_true p7
                            replace q7 := eq_true q7
                            go_wp2
                            go_roundg k2
                            case measure => have := HJ1.out; have := HK2.out; omega
                            case rel => exact ⟨(false), (false), (wrap64 (x5_2 + 1)), (by first | rfl | (simp; done) | (simp [*]; done)), (by first | rfl | (simp; done) | (simp [*]; done)), (by first | rfl | (simp; done) | (simp [*]; done)), H', ⟨by have := HJ1.out; have := HK2.out; omega⟩, by repeat (first | exact Drawn0.refl _ | apply Drawn0.step)⟩
                        · rw [if_neg c50] at H
                          have c50b0 : decide (65 ≤ (bt a0 x5_2)) = false := decide_eq_false c50
                          clear c50
                          have H' := Aside0.mk H
                          clear H
                          have p7 : 0 ≤ (x5_2 : Int) := of_decide_eq_true (by first | (with_reducible assumption) | assumption)
                          have q7 : x5_2 < (a0.size : Int) := of_decide_eq_true (by first | (with_reducible assumption) | assumption)
                          have hx7 := bt_at a0 x5_2
                          replace p7 := eq_true p7
                          replace q7 := eq_true q7
                          go_wp2
                          go_roundg k2
                          case measure => have := HJ1.out; have := HK2.out; omega
                          case rel => exact ⟨(false), (false), (wrap64 (x5_2 + 1)), (by first | rfl | (simp; done) | (simp [*]; done)), (by first | rfl | (simp; done) | (simp [*]; done)), (by first | rfl | (simp; done) | (simp [*]; done)), H', ⟨by have := HJ1.out; have := HK2.out; omega⟩, by repeat (first | exact Drawn0.refl _ | apply Drawn0.step)⟩
                      · replace c49 := Bool.eq_false_iff.mpr c49
                        subst c49
                        have H1 : (aumbryref03_Kind.l0 k2 a0 false false (wrap64 (x5_2 + 1))) = some r := by rw [if_neg (show ¬ (false = true) by decide)] at H; exact H
                        clear H
                        have H := H1
                        clear H1
                        have H' := Aside0.mk H
                        clear H
                        have p7 : 0 ≤ (x5_2 : Int) := of_decide_eq_true (by first | (with_reducible assumption) | assumption)
                        have q7 : x5_2 < (a0.size : Int) := of_decide_eq_true (by first | (with_reducible assumption) | assumption)
                        have hx7 := bt_at a0 x5_2
                        replace p7 := eq_true p7
                        replace q7 := eq_true q7
                        go_wp2
                        go_roundg k2
                        case measure => have := HJ1.out; have := HK2.out; omega
                        case rel => exact ⟨(false), (false), (wrap64 (x5_2 + 1)), (by first | rfl | (simp; done) | (simp [*]; done)), (by first | rfl | (simp; done) | (simp [*]; done)), (by first | rfl | (simp; done) | (simp [*]; done)), H', ⟨by have := HJ1.out; have := HK2.out; omega⟩, by repeat (first | exact Drawn0.refl _ | apply Drawn0.step)⟩
                  · replace c40 := Bool.eq_false_iff.mpr c40
                    subst c40
                    have H1 : (if x4_2 = true then (if (bt a0 x5_2) ≥ 65 then (if (bt a0 x5_2) ≤ 90 then (aumbryref03_Kind.l0 k2 a0 false true (wrap64 (x5_2 + 1))) else (aumbryref03_Kind.l0 k2 a0 false false (wrap64 (x5_2 + 1)))) else (aumbryref03_Kind.l0 k2 a0 false false (wrap64 (x5_2 + 1)))) else (aumbryref03_Kind.l0 k2 a0 false false (wrap64 (x5_2 + 1)))) = some r := by rw [if_neg (show ¬ (false = true) by decide)] at H; exact H
                    clear H
                    have H := H1
                    clear H1
                    by_cases c52 : x4_2 = true
                    · subst c52
                      have H1 : (if (bt a0 x5_2) ≥ 65 then (if (bt a0 x5_2) ≤ 90 then (aumbryref03_Kind.l0 k2 a0 false true (wrap64 (x5_2 + 1))) else (aumbryref03_Kind.l0 k2 a0 false false (wrap64 (x5_2 + 1)))) else (aumbryref03_Kind.l0 k2 a0 false false (wrap64 (x5_2 + 1)))) = some r := by rw [if_pos rfl] at H; exact H
                      clear H
                      have H := H1
                      clear H1
                      by_cases c53 : (bt a0 x5_2) ≥ 65
                      · rw [if_pos c53] at H
                        have c53b0 : decide (65 ≤ (bt a0 x5_2)) = true := decide_eq_true c53
                        clear c53
                        by_cases c54 : (bt a0 x5_2) ≤ 90
                        · rw [if_pos c54] at H
                          have c54b0 : decide ((bt a0 x5_2) ≤ 90) = true := decide_eq_true c54
                          clear c54
                          have H' := Aside0.mk H
                          clear H
                          have p7 : 0 ≤ (x5_2 : Int) := of_decide_eq_true (by first | (with_reducible assumption) | assumption)
                          have q7 : x5_2 < (a0.size : Int) := of_decide_eq_true (by first | (with_reducible assumption) | assumption)
                          have hx7 := bt_at a0 x5_2
                          replace p7 := eq_true p7
                          replace q7 := eq_true q7
                          go_wp2
                          go_roundg k2
                          case measure => have := HJ1.out; have := HK2.out; omega
                          case rel => exact ⟨(false), (true), (wrap64 (x5_2 + 1)), (by first | rfl | (simp; done) | (simp [*]; done)), (by first | rfl | (simp; done) | (simp [*]; done)), (by first | rfl | (simp; done) | (simp [*]; done)), H', ⟨by have := HJ1.out; have := HK2.out; omega⟩, by repeat (first | exact Drawn0.refl _ | apply Drawn0.step)⟩
                        · rw [if_neg c54] at H
                          have c54b0 : decide ((bt a0 x5_2) ≤ 90) = false := decide_eq_false c54
                          clear c54
                          have H' := Aside0.mk H
                          clear H
                          have p7 : 0 ≤ (x5_2 : Int) := of_decide_eq_true (by first | (with_reducible assumption) | assumption)
                          have q7 : x5_2 < (a0.size : Int) := of_decide_eq_true (by first | (with_reducible assumption) | assumption)
                          have hx7 := bt_at a0 x5_2
                          replace p7 := eq_true p7
                          replace q7 := eq_true q7
                          go_wp2
                          go_roundg k2
                          case measure => have := HJ1.out; have := HK2.out; omega
                          case rel => exact ⟨(false), (false), (wrap64 (x5_2 + 1)), (by first | rfl | (simp; done) | (simp [*]; done)), (by first | rfl | (simp; done) | (simp [*]; done)), (by first | rfl | (simp; done) | (simp [*]; done)), H', ⟨by have := HJ1.out; have := HK2.out; omega⟩, by repeat (first | exact Drawn0.refl _ | apply Drawn0.step)⟩
                      · rw [if_neg c53] at H
                        have c53b0 : decide (65 ≤ (bt a0 x5_2)) = false := decide_eq_false c53
                        clear c53
                        have H' := Aside0.mk H
                        clear H
                        have p7 : 0 ≤ (x5_2 : Int) := of_decide_eq_true (by first | (with_reducible assumption) | assumption)
                        have q7 : x5_2 < (a0.size : Int) := of_decide_eq_true (by first | (with_reducible assumption) | assumption)
                        have hx7 := bt_at a0 x5_2
                        replace p7 := eq_true p7
                        replace q7 := eq_true q7
                        go_wp2
                        go_roundg k2
                        case measure => have := HJ1.out; have := HK2.out; omega
                        case rel => exact ⟨(false), (false), (wrap64 (x5_2 + 1)), (by first | rfl | (simp; done) | (simp [*]; done)), (by first | rfl | (simp; done) | (simp [*]; done)), (by first | rfl | (simp; done) | (simp [*]; done)), H', ⟨by have := HJ1.out; have := HK2.out; omega⟩, by repeat (first | exact Drawn0.refl _ | apply Drawn0.step)⟩
                    · replace c52 := Bool.eq_false_iff.mpr c52
                      subst c52
                      have H1 : (aumbryref03_Kind.l0 k2 a0 false false (wrap64 (x5_2 + 1))) = some r := by rw [if_neg (show ¬ (false = true) by decide)] at H; exact H
                      clear H
                      have H := H1
                      clear H1
                      have H' := Aside0.mk H
                      clear H
                      have p7 : 0 ≤ (x5_2 : Int) := of_decide_eq_true (by first | (with_reducible assumption) | assumption)
                      have q7 : x5_2 < (a0.size : Int) := of_decide_eq_true (by first | (with_reducible assumption) | assumption)
                      have hx7 := bt_at a0 x5_2
                      replace p7 := eq_true p7
                      replace q7 := eq_true q7
                      go_wp2
                      go_roundg k2
                      case measure => have := HJ1.out; have := HK2.out; omega
                      case rel => exact ⟨(false), (false), (wrap64 (x5_2 + 1)), (by first | rfl | (simp; done) | (simp [*]; done)), (by first | rfl | (simp; done) | (simp [*]; done)), (by first | rfl | (simp; done) | (simp [*]; done)), H', ⟨by have := HJ1.out; have := HK2.out; omega⟩, by repeat (first | exact Drawn0.refl _ | apply Drawn0.step)⟩
              · rw [if_neg c6] at H
                exact absurd H (by simp)
            · rw [if_neg c5] at H
              have c5b0 : decide (x5_2 < (a0.size : Int)) = false := decide_eq_false c5
              clear c5
              by_cases c55 : x3_2 = true
              · subst c55
                have H1 : (some 1) = some r := by rw [if_pos rfl] at H; exact H
                clear H
                have H := H1
                clear H1
                obtain rfl := Option.some.inj H
                go_wp2
                go_ret
                exact ⟨by first | rfl | (simp; done) | (simp [*]; done), by repeat (first | exact Drawn0.refl _ | apply Drawn0.step)⟩
              · replace c55 := Bool.eq_false_iff.mpr c55
                subst c55
                have H1 : (if x4_2 = true then (some 2) else (some 0)) = some r := by rw [if_neg (show ¬ (false = true) by decide)] at H; exact H
                clear H
                have H := H1
                clear H1
                by_cases c56 : x4_2 = true
                · subst c56
                  have H1 : (some 2) = some r := by rw [if_pos rfl] at H; exact H
                  clear H
                  have H := H1
                  clear H1
                  obtain rfl := Option.some.inj H
                  go_wp2
                  go_ret
                  exact ⟨by first | rfl | (simp; done) | (simp [*]; done), by repeat (first | exact Drawn0.refl _ | apply Drawn0.step)⟩
                · replace c56 := Bool.eq_false_iff.mpr c56
                  subst c56
                  have H1 : (some 0) = some r := by rw [if_neg (show ¬ (false = true) by decide)] at H; exact H
                  clear H
                  have H := H1
                  clear H1
                  obtain rfl := Option.some.inj H
                  go_wp2
                  go_ret
                  exact ⟨by first | rfl | (simp; done) | (simp [*]; done), by repeat (first | exact Drawn0.refl _ | apply Drawn0.step)⟩

end Go.Proofs.Ytcmnpjgmpgjbdaa.P

-- ==== PF13
namespace Go.Proofs.Ytcmnpjgmpgjbdaa.P
open Go.RowKit Go.Proofs.YtcmnpjgmpgjbdaaW.PrintWords Go.Proofs.YtcmnpjgmpgjbdaaW.PrintLast Go.Proofs.YtcmnpjgmpgjbdaaW.PrintMore
attribute [local go_sem] max2_int min2_int max_two min_two max_three min_three max_four min_four   -- for this text's walks alone
set_option linter.unusedVariables false
set_option linter.unusedSimpArgs false

/-! ### aumbryref04_Check: function 13 -/
def aumbryref04_Check.l0 : Nat → List (S50) → Int → Int → Option (Int)
  | 0, _, _, _ => none
  | k + 1, x0, x9, x10 => if x10 < x9 then (if 0 ≤ x10 then (if x10 < (x0.length : Int) then ((aumbryref03_Kind.f k ((rd_T50 x0 x10).f0)).bind fun t103 => (if t103 = 0 then (some 4) else (if ((rd_T50 x0 x10).f1) < 0 then (some 5) else (if ((rd_T50 x0 x10).f1) > 4 then (some 5) else (if t103 = 2 then (if ((rd_T50 x0 x10).f1) = 0 then (aumbryref04_Check.l0 k x0 x9 (wrap64 (x10 + 1))) else (some 5)) else (aumbryref04_Check.l0 k x0 x9 (wrap64 (x10 + 1)))))))) else (none)) else (none)) else ((aumbryref04_Behind.f k x0 0).bind fun t101 => (if t101 = (x0.length : Int) then (some 0) else (some 3)))
def aumbryref04_Check.f (k : Nat) (l0 : List (S50)) : Option (Int) := if (l0.length : Int) > 64 then (some 6) else (aumbryref04_Check.l0 k l0 (l0.length : Int) 0)
set_option maxHeartbeats 8000000 in
set_option maxRecDepth 100000 in
theorem aumbryref04_Check.calls (k : Nat) (A0 : Option Addr) (c0 : Nat) (l0 : List (S50)) (r : Int) (w : World) (hr0 : Kd.C k50 w A0 l0.length l0) (hc0 : l0.length ≤ c0) (h : aumbryref04_Check.f k l0 = some r) :
    Calls Try.prog 13 #[.slice A0 l0.length c0] w fun e w' => e = .returned (.int .i64 r) ∧ Drawn0 w w' := by
  have HR0 := Aside0.mk hr0
  have HC0 := Aside0.mk hc0
  clear hr0 hc0
  have H : (if (l0.length : Int) > 64 then (some 6) else (aumbryref04_Check.l0 k l0 (l0.length : Int) 0)) = some r := h
  clear h
  by_cases c2 : (l0.length : Int) > 64
  · rw [if_pos c2] at H
    have c2b0 : decide (64 < (l0.length : Int)) = true := decide_eq_true c2
    have c2b1 : decide (64 < l0.length) = true := decide_eq_true (by omega)
    clear c2
    obtain rfl := Option.some.inj H
    go_enter Try.func13, Try.ntmps13
    go_wp2
    go_ret
    exact ⟨by first | rfl | (simp; done) | (simp [*]; done), by repeat (first | exact Drawn0.refl _ | apply Drawn0.step)⟩
  · rw [if_neg c2] at H
    have c2b0 : decide (64 < (l0.length : Int)) = false := decide_eq_false c2
    have c2b1 : decide (64 < l0.length) = false := decide_eq_false (by omega)
    clear c2
    have H' := Aside0.mk H
    clear H
    go_enter Try.func13, Try.ntmps13
    go_wp2
    go_loopg [10] k (fun kq v10 w' => ∃ (x10_1 : Int), v10 = .int .i64 x10_1 ∧ Aside0 (aumbryref04_Check.l0 kq l0 (l0.length : Int) x10_1 = some r) ∧ Aside0 (kq ≤ k) ∧ Drawn0 w w')
    case atStart => exact ⟨(0), (by first | rfl | (simp; done) | (simp [*]; done)), H', ⟨Nat.le_refl _⟩, by repeat (first | exact Drawn0.refl _ | apply Drawn0.step)⟩
    case round =>
      clear H'
      try clear c1
      try clear c2
      try clear c2b0
      try clear c2b1
      try clear p2
      obtain ⟨x10_1, rfl, HA, HK1, ⟨m1, rfl⟩⟩ := hrel
      cases gk with
      | zero => exact absurd HA.out (by simp [aumbryref04_Check.l0])
      | succ k1 =>
        have H := HA.out
        clear HA
        simp only [aumbryref04_Check.l0] at H
        by_cases c3 : x10_1 < (l0.length : Int)
        · rw [if_pos c3] at H
          have c3b0 : decide (x10_1 < (l0.length : Int)) = true := decide_eq_true c3
          clear c3
          by_cases c4 : 0 ≤ x10_1
          · rw [if_pos c4] at H
            have c4b0 : decide (0 ≤ x10_1) = true := decide_eq_true c4
            clear c4
            by_cases c5 : x10_1 < (l0.length : Int)
            · rw [if_pos c5] at H
              have c5b0 : decide (x10_1 < (l0.length : Int)) = true := decide_eq_true c5
              clear c5
              replace H := Option.bind_eq_some_iff.mp H
              obtain ⟨t103, A60, H⟩ := H
              replace H : (if t103 = 0 then (some 4) else (if ((rd_T50 l0 x10_1).f1) < 0 then (some 5) else (if ((rd_T50 l0 x10_1).f1) > 4 then (some 5) else (if t103 = 2 then (if ((rd_T50 l0 x10_1).f1) = 0 then (aumbryref04_Check.l0 k1 l0 (l0.length : Int) (wrap64 (x10_1 + 1))) else (some 5)) else (aumbryref04_Check.l0 k1 l0 (l0.length : Int) (wrap64 (x10_1 + 1))))))) = some r := H
              have A6 := Aside0.mk A60
              clear A60
              by_cases c7 : t103 = 0
              · rw [if_pos c7] at H
                have c7b0 : (t103 == 0) = true := beq_iff_eq.mpr c7
                have c7b1 : (t103 != 0) = false := bne_eq_false_iff_eq.mpr c7
                clear c7
                obtain rfl := Option.some.inj H
                have p102 : 0 ≤ (x10_1 : Int) := of_decide_eq_true (by first | (with_reducible assumption) | assumption)
                have q102 : x10_1 < (l0.length : Int) := of_decide_eq_true (by first | (with_reducible assumption) | assumption)
                obtain ⟨ad102, e102, hx102_0, hx102_1⟩ := at_T50 HR0.out x10_1 p102 q102
                cases e102
                replace p102 := eq_true p102
                replace q102 := eq_true q102
                go_wp2_with (first | ((with_reducible refine gate_callee (f := 34) rfl ?_); refine goesL_ (some 18) rfl rfl Try.func34 (by kernel_rfl) rfl #[.string ((rd_T50 l0 x10_1).f0)] rfl (by (try simp only [List.map_toArray, List.map_cons, List.map_nil]); first | done | rfl | (simp only [List.length_drop, List.length_take]; rfl)) ?_; (with_reducible refine (aumbryref03_Kind.calls k1 ((rd_T50 l0 x10_1).f0) t103 _ A6.out).mono ?_); rintro e w' ⟨rfl, ⟨nd, rfl⟩⟩; refine ⟨_, rfl, ?_⟩))
                go_ret
                exact ⟨by first | rfl | (simp; done) | (simp [*]; done), by repeat (first | exact Drawn0.refl _ | apply Drawn0.step)⟩
              · rw [if_neg c7] at H
                have c7b0 : (t103 == 0) = false := beq_eq_false_iff_ne.mpr c7
                have c7b1 : (t103 != 0) = true := bne_iff_ne.mpr c7
                by_cases c8 : ((rd_T50 l0 x10_1).f1) < 0
                · rw [if_pos c8] at H
                  have c8b0 : decide (((rd_T50 l0 x10_1).f1) < 0) = true := decide_eq_true c8
                  clear c8
                  obtain rfl := Option.some.inj H
                  have p102 : 0 ≤ (x10_1 : Int) := of_decide_eq_true (by first | (with_reducible assumption) | assumption)
                  have q102 : x10_1 < (l0.length : Int) := of_decide_eq_true (by first | (with_reducible assumption) | assumption)
                  obtain ⟨ad102, e102, hx102_0, hx102_1⟩ := at_T50 HR0.out x10_1 p102 q102
                  cases e102
                  replace p102 := eq_true p102
                  replace q102 := eq_true q102
                  go_wp2_with (first | ((with_reducible refine gate_callee (f := 34) rfl ?_); refine goesL_ (some 18) rfl rfl Try.func34 (by kernel_rfl) rfl #[.string ((rd_T50 l0 x10_1).f0)] rfl (by (try simp only [List.map_toArray, List.map_cons, List.map_nil]); first | done | rfl | (simp only [List.length_drop, List.length_take]; rfl)) ?_; (with_reducible refine (aumbryref03_Kind.calls k1 ((rd_T50 l0 x10_1).f0) t103 _ A6.out).mono ?_); rintro e w' ⟨rfl, ⟨nd, rfl⟩⟩; refine ⟨_, rfl, ?_⟩; have p104 : 0 ≤ (x10_1 : Int) := of_decide_eq_true (by first | (with_reducible assumption) | assumption); have q104 : x10_1 < (l0.length : Int) := of_decide_eq_true (by first | (with_reducible assumption) | assumption); obtain ⟨ad104, e104, hx104_0, hx104_1⟩ := at_T50 HR0.out x10_1 p104 q104; obtain rfl : ad102 = ad104 := (by injection e104); replace p104 := eq_true p104; replace q104 := eq_true q104))
                  go_ret
                  exact ⟨by first | rfl | (simp; done) | (simp [*]; done), by repeat (first | exact Drawn0.refl _ | apply Drawn0.step)⟩
                · rw [if_neg c8] at H
                  have c8b0 : decide (((rd_T50 l0 x10_1).f1) < 0) = false := decide_eq_false c8
                  clear c8
                  by_cases c9 : ((rd_T50 l0 x10_1).f1) > 4
                  · rw [if_pos c9] at H
                    have c9b0 : decide (4 < ((rd_T50 l0 x10_1).f1)) = true := decide_eq_true c9
                    clear c9
                    obtain rfl := Option.some.inj H
                    have p102 : 0 ≤ (x10_1 : Int) := of_decide_eq_true (by first | (with_reducible assumption) | assumption)
                    have q102 : x10_1 < (l0.length : Int) := of_decide_eq_true (by first | (with_reducible assumption) | assumption)
                    obtain ⟨ad102, e102, hx102_0, hx102_1⟩ := at_T50 HR0.out x10_1 p102 q102
                    cases e102
                    replace p102 := eq_true p102
                    replace q102 := eq_true q102
                    go_wp2_with (first | ((with_reducible refine gate_callee (f := 34) rfl ?_); refine goesL_ (some 18) rfl rfl Try.func34 (by kernel_rfl) rfl #[.string ((rd_T50 l0 x10_1).f0)] rfl (by (try simp only [List.map_toArray, List.map_cons, List.map_nil]); first | done | rfl | (simp only [List.length_drop, List.length_take]; rfl)) ?_; (with_reducible refine (aumbryref03_Kind.calls k1 ((rd_T50 l0 x10_1).f0) t103 _ A6.out).mono ?_); rintro e w' ⟨rfl, ⟨nd, rfl⟩⟩; refine ⟨_, rfl, ?_⟩; have p104 : 0 ≤ (x10_1 : Int) := of_decide_eq_true (by first | (with_reducible assumption) | assumption); have q104 : x10_1 < (l0.length : Int) := of_decide_eq_true (by first | (with_reducible assumption) | assumption); obtain ⟨ad104, e104, hx104_0, hx104_1⟩ := at_T50 HR0.out x10_1 p104 q104; obtain rfl : ad102 = ad104 := (by injection e104); replace p104 := eq_true p104; replace q104 := eq_true q104; have p105 : 0 ≤ (x10_1 : Int) := of_decide_eq_true (by first | (with_reducible assumption) | assumption); have q105 : x10_1 < (l0.length : Int) := of_decide_eq_true (by first | (with_reducible assumption) | assumption); obtain ⟨ad105, e105, hx105_0, hx105_1⟩ := at_T50 HR0.out x10_1 p105 q105; obtain rfl : ad102 = ad105 := (by injection e105); replace p105 := eq_true p105; replace q105 := eq_true q105))
                    go_ret
                    exact ⟨by first | rfl | (simp; done) | (simp [*]; done), by repeat (first | exact Drawn0.refl _ | apply Drawn0.step)⟩
                  · rw [if_neg c9] at H
                    have c9b0 : decide (4 < ((rd_T50 l0 x10_1).f1)) = false := decide_eq_false c9
                    clear c9
                    by_cases c10 : t103 = 2
                    · rw [if_pos c10] at H
                      have c10b0 : (t103 == 2) = true := beq_iff_eq.mpr c10
                      have c10b1 : (t103 != 2) = false := bne_eq_false_iff_eq.mpr c10
                      clear c10
                      by_cases c11 : ((rd_T50 l0 x10_1).f1) = 0
                      · rw [if_pos c11] at H
                        have c11b0 : (((rd_T50 l0 x10_1).f1) == 0) = true := beq_iff_eq.mpr c11
                        have c11b1 : (((rd_T50 l0 x10_1).f1) != 0) = false := bne_eq_false_iff_eq.mpr c11
                        clear c11
                        have H' := Aside0.mk H
                        clear H
                        have p102 : 0 ≤ (x10_1 : Int) := of_decide_eq_true (by first | (with_reducible assumption) | assumption)
                        have q102 : x10_1 < (l0.length : Int) := of_decide_eq_true (by first | (with_reducible assumption) | assumption)
                        obtain ⟨ad102, e102, hx102_0, hx102_1⟩ := at_T50 HR0.out x10_1 p102 q102
                        cases e102
                        replace p102 := eq_true p102
                        replace q102 := eq_true q102
                        go_wp2_with (first | ((with_reducible refine gate_callee (f := 34) rfl ?_); refine goesL_ (some 18) rfl rfl Try.func34 (by kernel_rfl) rfl #[.string ((rd_T50 l0 x10_1).f0)] rfl (by (try simp only [List.map_toArray, List.map_cons, List.map_nil]); first | done | rfl | (simp only [List.length_drop, List.length_take]; rfl)) ?_; (with_reducible refine (aumbryref03_Kind.calls k1 ((rd_T50 l0 x10_1).f0) t103 _ A6.out).mono ?_); rintro e w' ⟨rfl, ⟨nd, rfl⟩⟩; refine ⟨_, rfl, ?_⟩; have p104 : 0 ≤ (x10_1 : Int) := of_decide_eq_true (by first | (with_reducible assumption) | assumption); have q104 : x10_1 < (l0.length : Int) := of_decide_eq_true (by first | (with_reducible assumption) | assumption); obtain ⟨ad104, e104, hx104_0, hx104_1⟩ := at_T50 HR0.out x10_1 p104 q104; obtain rfl : ad102 = ad104 := (by injection e104); replace p104 := eq_true p104; replace q104 := eq_true q104; have p105 : 0 ≤ (x10_1 : Int) := of_decide_eq_true (by first | (with_reducible assumption) | assumption); have q105 : x10_1 < (l0.length : Int) := of_decide_eq_true (by first | (with_reducible assumption) | assumption); obtain ⟨ad105, e105, hx105_0, hx105_1⟩ := at_T50 HR0.out x10_1 p105 q105; obtain rfl : ad102 = ad105 := (by injection e105); replace p105 := eq_true p105; replace q105 := eq_true q105; have p106 : 0 ≤ (x10_1 : Int) := of_decide_eq_true (by first | (with_reducible assumption) | assumption); have q106 : x10_1 < (l0.length : Int) := of_decide_eq_true (by first | (with_reducible assumption) | assumption); obtain ⟨ad106, e106, hx106_0, hx106_1⟩ := at_T50 HR0.out x10_1 p106 q106; obtain rfl : ad102 = ad106 := (by injection e106); replace p106 := eq_true p106; replace q106 := eq_true q106))
                        go_roundg k1
                        case measure => have := HK1.out; omega
                        case rel => exact ⟨(wrap64 (x10_1 + 1)), (by first | rfl | (simp; done) | (simp [*]; done)), H', ⟨by have := HK1.out; omega⟩, by repeat (first | exact Drawn0.refl _ | apply Drawn0.step)⟩
                      · rw [if_neg c11] at H
                        have c11b0 : (((rd_T50 l0 x10_1).f1) == 0) = false := beq_eq_false_iff_ne.mpr c11
                        have c11b1 : (((rd_T50 l0 x10_1).f1) != 0) = true := bne_iff_ne.mpr c11
                        obtain rfl := Option.some.inj H
                        have p102 : 0 ≤ (x10_1 : Int) := of_decide_eq_true (by first | (with_reducible assumption) | assumption)
                        have q102 : x10_1 < (l0.length : Int) := of_decide_eq_true (by first | (with_reducible assumption) | assumption)
                        obtain ⟨ad102, e102, hx102_0, hx102_1⟩ := at_T50 HR0.out x10_1 p102 q102
                        cases e102
                        replace p102 := eq_true p102
                        replace q102 := eq_true q102
                        go_wp2_with (first | ((with_reducible refine gate_callee (f := 34) rfl ?_); refine goesL_ (some 18) rfl rfl Try.func34 (by kernel_rfl) rfl #[.string ((rd_T50 l0 x10_1).f0)] rfl (by (try simp only [List.map_toArray, List.map_cons, List.map_nil]); first | done | rfl | (simp only [List.length_drop, List.length_take]; rfl)) ?_; (with_reducible refine (aumbryref03_Kind.calls k1 ((rd_T50 l0 x10_1).f0) t103 _ A6.out).mono ?_); rintro e w' ⟨rfl, ⟨nd, rfl⟩⟩; refine ⟨_, rfl, ?_⟩; have p104 : 0 ≤ (x10_1 : Int) := of_decide_eq_true (by first | (with_reducible assumption) | assumption); have q104 : x10_1 < (l0.length : Int) := of_decide_eq_true (by first | (with_reducible assumption) | assumption); obtain ⟨ad104, e104, hx104_0, hx104_1⟩ := at_T50 HR0.out x10_1 p104 q104; obtain rfl : ad102 = ad104 := (by injection e104); replace p104 := eq_true p104; replace q104 := eq_true q104; have p105 : 0 ≤ (x10_1 : Int) := of_decide_eq_true (by first | (with_reducible assumption) | assumption); have q105 : x10_1 < (l0.length : Int) := of_decide_eq_true (by first | (with_reducible assumption) | assumption); obtain ⟨ad105, e105, hx105_0, hx105_1⟩ := at_T50 HR0.out x10_1 p105 q105; obtain rfl : ad102 = ad105 := (by injection e105); replace p105 := eq_true p105; replace q105 := eq_true q105; have p106 : 0 ≤ (x10_1 : Int) := of_decide_eq_true (by first | (with_reducible assumption) | assumption); have q106 : x10_1 < (l0.length : Int) := of_decide_eq_true (by first | (with_reducible assumption) | assumption); obtain ⟨ad106, e106, hx106_0, hx106_1⟩ := at_T50 HR0.out x10_1 p106 q106; obtain rfl : ad102 = ad106 := (by injection e106); replace p106 := eq_true p106; replace q106 := eq_true q106))
                        go_ret
                        exact ⟨by first | rfl | (simp; done) | (simp [*]; done), by repeat (first | exact Drawn0.refl _ | apply Drawn0.step)⟩
                    · rw [if_neg c10] at H
                      have c10b0 : (t103 == 2) = false := beq_eq_false_iff_ne.mpr c10
                      have c10b1 : (t103 != 2) = true := bne_iff_ne.mpr c10
                      have H' := Aside0.mk H
                      clear H
                      have p102 : 0 ≤ (x10_1 : Int) := of_decide_eq_true (by first | (with_reducible assumption) | assumption)
                      have q102 : x10_1 < (l0.length : Int) := of_decide_eq_true (by first | (with_reducible assumption) | assumption)
                      obtain ⟨ad102, e102, hx102_0, hx102_1⟩ := at_T50 HR0.out x10_1 p102 q102
                      cases e102
                      replace p102 := eq_true p102
                      replace q102 := eq_true q102
                      go_wp2_with (first | ((with_reducible refine gate_callee (f := 34) rfl ?_); refine goesL_ (some 18) rfl rfl Try.func34 (by kernel_rfl) rfl #[.string ((rd_T50 l0 x10_1).f0)] rfl (by (try simp only [List.map_toArray, List.map_cons, List.map_nil]); first | done | rfl | (simp only [List.length_drop, List.length_take]; rfl)) ?_; (with_reducible refine (aumbryref03_Kind.calls k1 ((rd_T50 l0 x10_1).f0) t103 _ A6.out).mono ?_); rintro e w' ⟨rfl, ⟨nd, rfl⟩⟩; refine ⟨_, rfl, ?_⟩; have p104 : 0 ≤ (x10_1 : Int) := of_decide_eq_true (by first | (with_reducible assumption) | assumption); have q104 : x10_1 < (l0.length : Int) := of_decide_eq_true (by first | (with_reducible assumption) | assumption); obtain ⟨ad104, e104, hx104_0, hx104_1⟩ := at_T50 HR0.out x10_1 p104 q104; obtain rfl : ad102 = ad104 := (by injection e104); replace p104 := eq_true p104; replace q104 := eq_true q104; have p105 : 0 ≤ (x10_1 : Int) := of_decide_eq_true (by first | (with_reducible assumption) | assumption); have q105 : x10_1 < (l0.length : Int) := of_decide_eq_true (by first | (with_reducible assumption) | assumption); obtain ⟨ad105, e105, hx105_0, hx105_1⟩ := at_T50 HR0.out x10_1 p105 q105; obtain rfl : ad102 = ad105 := (by injection e105); replace p105 := eq_true p105; replace q105 := eq_true q105))
                      go_roundg k1
                      case measure => have := HK1.out; omega
                      case rel => exact ⟨(wrap64 (x10_1 + 1)), (by first | rfl | (simp; done) | (simp [*]; done)), H', ⟨by have := HK1.out; omega⟩, by repeat (first | exact Drawn0.refl _ | apply Drawn0.step)⟩
            · rw [if_neg c5] at H
              exact absurd H (by simp)
          · rw [if_neg c4] at H
            exact absurd H (by simp)
        · rw [if_neg c3] at H
          have c3b0 : decide (x10_1 < (l0.length : Int)) = false := decide_eq_false c3
          clear c3
          replace H := Option.bind_eq_some_iff.mp H
          obtain ⟨t101, A120, H⟩ := H
          replace H : (if t101 = (l0.length : Int) then (some 0) else (some 3)) = some r := H
          have A12 := Aside0.mk A120
          clear A120
          by_cases c13 : t101 = (l0.length : Int)
          · rw [if_pos c13] at H
            have c13b0 : (t101 == (l0.length : Int)) = true := beq_iff_eq.mpr c13
            have c13b1 : (t101 != (l0.length : Int)) = false := bne_eq_false_iff_eq.mpr c13
            clear c13
            obtain rfl := Option.some.inj H
            go_wp2_with (first | ((with_reducible refine gate_callee (f := 19) rfl ?_); refine goesL_ (some 49) rfl rfl Try.func19 (by kernel_rfl) rfl #[.slice A0 l0.length c0, .int .i64 0] rfl (by (try simp only [List.map_toArray, List.map_cons, List.map_nil]); first | done | rfl | (simp only [List.length_drop, List.length_take]; rfl)) ?_; (with_reducible refine (aumbryref04_Behind.calls k1 _ _ l0 0 t101 _ ?side1 ?side2 A12.out).mono ?_); (case side1 => repeat (first | exact HR0.out | (with_reducible refine Kd.C_alloc ?_ _) | (with_reducible refine Kd.C_drewN ?_ _) | (with_reducible refine Kd.C_drew ?_))); (case side2 => exact HC0.out); rintro e w' ⟨rfl, ⟨nd, rfl⟩⟩; refine ⟨_, rfl, ?_⟩))
            go_ret
            exact ⟨by first | rfl | (simp; done) | (simp [*]; done), by repeat (first | exact Drawn0.refl _ | apply Drawn0.step)⟩
          · rw [if_neg c13] at H
            have c13b0 : (t101 == (l0.length : Int)) = false := beq_eq_false_iff_ne.mpr c13
            have c13b1 : (t101 != (l0.length : Int)) = true := bne_iff_ne.mpr c13
            obtain rfl := Option.some.inj H
            go_wp2_with (first | ((with_reducible refine gate_callee (f := 19) rfl ?_); refine goesL_ (some 49) rfl rfl Try.func19 (by kernel_rfl) rfl #[.slice A0 l0.length c0, .int .i64 0] rfl (by (try simp only [List.map_toArray, List.map_cons, List.map_nil]); first | done | rfl | (simp only [List.length_drop, List.length_take]; rfl)) ?_; (with_reducible refine (aumbryref04_Behind.calls k1 _ _ l0 0 t101 _ ?side1 ?side2 A12.out).mono ?_); (case side1 => repeat (first | exact HR0.out | (with_reducible refine Kd.C_alloc ?_ _) | (with_reducible refine Kd.C_drewN ?_ _) | (with_reducible refine Kd.C_drew ?_))); (case side2 => exact HC0.out); rintro e w' ⟨rfl, ⟨nd, rfl⟩⟩; refine ⟨_, rfl, ?_⟩))
            go_ret
            exact ⟨by first | rfl | (simp; done) | (simp [*]; done), by repeat (first | exact Drawn0.refl _ | apply Drawn0.step)⟩

end Go.Proofs.Ytcmnpjgmpgjbdaa.P

-- ==== PF23
namespace Go.Proofs.Ytcmnpjgmpgjbdaa.P
open Go.RowKit Go.Proofs.YtcmnpjgmpgjbdaaW.PrintWords Go.Proofs.YtcmnpjgmpgjbdaaW.PrintLast Go.Proofs.YtcmnpjgmpgjbdaaW.PrintMore
attribute [local go_sem] max2_int min2_int max_two min_two max_three min_three max_four min_four   -- for this text's walks alone
set_option linter.unusedVariables false
set_option linter.unusedSimpArgs false

/-! ### aumbryref04_Make: function 23 -/
mutual
def aumbryref04_Make.l0 : Nat → ByteArray → List (List (S50)) → Int → Int → Option ((List (S50)) × Int)
  | 0, _, _, _, _ => none
  | k + 1, x0, x1, x12, x13 => if x13 < x12 then (if 0 ≤ x13 then (if x13 < (x1.length : Int) then ((aumbryref04_Check.f k (rd_L3 x1 x13)).bind fun t102 => (if t102 = 0 then (aumbryref04_Make.l0 k x0 x1 x12 (wrap64 (x13 + 1))) else (some (([] : List (S50)), t102)))) else (none)) else (none)) else (aumbryref04_Make.l1 k x1 (([(⟨x0, (x1.length : Int)⟩ : S50)] : List (S50))) (x1.length : Int) 0)
def aumbryref04_Make.l1 : Nat → List (List (S50)) → List (S50) → Int → Int → Option ((List (S50)) × Int)
  | 0, _, _, _, _ => none
  | k + 1, x1, x8, x31, x32 => if x32 < x31 then (if (x8.length : Int) > 64 then (some (([] : List (S50)), 6)) else (if 0 ≤ x32 then (if x32 < (x1.length : Int) then (if x8.length + (rd_L3 x1 x32).length < 5864062014805 then (aumbryref04_Make.l1 k x1 (x8 ++ (rd_L3 x1 x32)) x31 (wrap64 (x32 + 1))) else (none)) else (none)) else (none))) else ((aumbryref04_Check.f k x8).bind fun t110 => (if t110 = 0 then (some (x8, 0)) else (some (([] : List (S50)), t110))))
end
def aumbryref04_Make.f (k : Nat) (a0 : ByteArray) (l1 : List (List (S50))) : Option ((List (S50)) × Int) := aumbryref04_Make.l0 k a0 l1 (l1.length : Int) 0
set_option maxHeartbeats 8000000 in
set_option maxRecDepth 100000 in
theorem aumbryref04_Make.calls (k : Nat) (a0 : ByteArray) (A1 : Option Addr) (c1 : Nat) (l1 : List (List (S50))) (r1 : List (S50)) (r2 : Int) (w : World) (hr1 : Kd.C (Kd.slice 50 k50) w A1 l1.length l1) (hc1 : l1.length ≤ c1) (h : aumbryref04_Make.f k a0 l1 = some (r1, r2)) :
    Calls Try.prog 23 #[.string a0, .slice A1 l1.length c1] w fun e w' => ∃ v0_ : Value, e = .returned (.tuple #[v0_, .int .i64 r2]) ∧ Kd.R k50 50 w' w.heap.size (fun _ => True) v0_ r1 ∧ Below w.heap.size w w' := by
  have hu50 := Try.underlying50
  have HR1 := Aside0.mk hr1
  have HC1 := Aside0.mk hc1
  clear hr1 hc1
  have HB := Aside0.mk (Below.refl w.heap.size w)
  have H : (aumbryref04_Make.l0 k a0 l1 (l1.length : Int) 0) = some (r1, r2) := h
  clear h
  have H' := Aside0.mk H
  clear H
  go_enter Try.func23, Try.ntmps23
  go_wp2
  go_loopg [13] k (fun kq v13 w' => ∃ (x13_1 : Int), v13 = .int .i64 x13_1 ∧ Aside0 (aumbryref04_Make.l0 kq a0 l1 (l1.length : Int) x13_1 = some (r1, r2)) ∧ Aside0 (kq ≤ k) ∧ Aside0 (Below w.heap.size w w'))
  case atStart => exact ⟨(0), (by first | rfl | (simp; done) | (simp [*]; done)), H', ⟨Nat.le_refl _⟩, ⟨by repeat (first | (with_reducible first | exact HB.out | apply below_alloc | apply pw_below_drewN | apply below_drew1) | exact HB.out)⟩⟩
  case round =>
    clear H'
    try clear c1
    try clear c2
    try clear p2
    obtain ⟨x13_1, rfl, HA, HK1, HB⟩ := hrel
    cases gk with
    | zero => exact absurd HA.out (by simp [aumbryref04_Make.l0])
    | succ k1 =>
      have H := HA.out
      clear HA
      simp only [aumbryref04_Make.l0] at H
      by_cases c3 : x13_1 < (l1.length : Int)
      · rw [if_pos c3] at H
        have c3b0 : decide (x13_1 < (l1.length : Int)) = true := decide_eq_true c3
        clear c3
        by_cases c4 : 0 ≤ x13_1
        · rw [if_pos c4] at H
          have c4b0 : decide (0 ≤ x13_1) = true := decide_eq_true c4
          clear c4
          by_cases c5 : x13_1 < (l1.length : Int)
          · rw [if_pos c5] at H
            have c5b0 : decide (x13_1 < (l1.length : Int)) = true := decide_eq_true c5
            clear c5
            replace H := Option.bind_eq_some_iff.mp H
            obtain ⟨t102, A60, H⟩ := H
            replace H : (if t102 = 0 then (aumbryref04_Make.l0 k1 a0 l1 (l1.length : Int) (wrap64 (x13_1 + 1))) else (some (([] : List (S50)), t102))) = some (r1, r2) := H
            have A6 := Aside0.mk A60
            clear A60
            by_cases c7 : t102 = 0
            · rw [if_pos c7] at H
              have c7b0 : (t102 == 0) = true := beq_iff_eq.mpr c7
              have c7b1 : (t102 != 0) = false := bne_eq_false_iff_eq.mpr c7
              clear c7
              have H' := Aside0.mk H
              clear H
              have p101 : 0 ≤ (x13_1 : Int) := of_decide_eq_true (by first | (with_reducible assumption) | assumption)
              have q101 : x13_1 < (l1.length : Int) := of_decide_eq_true (by first | (with_reducible assumption) | assumption)
              obtain ⟨ad101, A101_0, c101_0, e101, hx101_0, hl101_0, hi101_0⟩ := at_L3 HR1.out x13_1 p101 q101
              cases e101
              replace hx101_0 := (HB.out.cell (World.block_lt_of_cell? w _ hx101_0)).trans hx101_0
              have HR101_0 := Aside0.mk hi101_0
              have HC101_0 := Aside0.mk hl101_0
              clear hi101_0 hl101_0
              replace p101 := eq_true p101
              replace q101 := eq_true q101
              go_wp2_with (first | ((with_reducible refine gate_callee (f := 13) rfl ?_); refine goesL_ (some 20) rfl rfl Try.func13 (by kernel_rfl) rfl #[.slice A101_0 (rd_L3 l1 x13_1).length c101_0] rfl (by (try simp only [List.map_toArray, List.map_cons, List.map_nil]); first | done | rfl | (simp only [List.length_drop, List.length_take]; rfl)) ?_; (with_reducible refine (aumbryref04_Check.calls k1 _ _ (rd_L3 l1 x13_1) t102 _ ?side1 ?side2 A6.out).mono ?_); (case side1 => repeat (first | exact (Kd.C_below HR101_0.out HB.out) | (with_reducible refine Kd.C_alloc ?_ _) | (with_reducible refine Kd.C_drewN ?_ _) | (with_reducible refine Kd.C_drew ?_))); (case side2 => exact HC101_0.out); rintro e w' ⟨rfl, ⟨nd, rfl⟩⟩; refine ⟨_, rfl, ?_⟩))
              go_roundg k1
              case measure => have := HK1.out; omega
              case rel => exact ⟨(wrap64 (x13_1 + 1)), (by first | rfl | (simp; done) | (simp [*]; done)), H', ⟨by have := HK1.out; omega⟩, ⟨by repeat (first | (with_reducible first | exact HB.out | apply below_alloc | apply pw_below_drewN | apply below_drew1) | exact HB.out)⟩⟩
            · rw [if_neg c7] at H
              have c7b0 : (t102 == 0) = false := beq_eq_false_iff_ne.mpr c7
              have c7b1 : (t102 != 0) = true := bne_iff_ne.mpr c7
              simp only [Option.some.injEq, Prod.mk.injEq] at H
              obtain ⟨rfl, rfl⟩ := H
              have p101 : 0 ≤ (x13_1 : Int) := of_decide_eq_true (by first | (with_reducible assumption) | assumption)
              have q101 : x13_1 < (l1.length : Int) := of_decide_eq_true (by first | (with_reducible assumption) | assumption)
              obtain ⟨ad101, A101_0, c101_0, e101, hx101_0, hl101_0, hi101_0⟩ := at_L3 HR1.out x13_1 p101 q101
              cases e101
              replace hx101_0 := (HB.out.cell (World.block_lt_of_cell? w _ hx101_0)).trans hx101_0
              have HR101_0 := Aside0.mk hi101_0
              have HC101_0 := Aside0.mk hl101_0
              clear hi101_0 hl101_0
              replace p101 := eq_true p101
              replace q101 := eq_true q101
              go_wp2_with (first | ((with_reducible refine gate_callee (f := 13) rfl ?_); refine goesL_ (some 20) rfl rfl Try.func13 (by kernel_rfl) rfl #[.slice A101_0 (rd_L3 l1 x13_1).length c101_0] rfl (by (try simp only [List.map_toArray, List.map_cons, List.map_nil]); first | done | rfl | (simp only [List.length_drop, List.length_take]; rfl)) ?_; (with_reducible refine (aumbryref04_Check.calls k1 _ _ (rd_L3 l1 x13_1) t102 _ ?side1 ?side2 A6.out).mono ?_); (case side1 => repeat (first | exact (Kd.C_below HR101_0.out HB.out) | (with_reducible refine Kd.C_alloc ?_ _) | (with_reducible refine Kd.C_drewN ?_ _) | (with_reducible refine Kd.C_drew ?_))); (case side2 => exact HC101_0.out); rintro e w' ⟨rfl, ⟨nd, rfl⟩⟩; refine ⟨_, rfl, ?_⟩))
              go_ret2
              exact ⟨_, by first | rfl | (simp [errW_none, errW_some] <;> rfl) | (simp [*, errW_none, errW_some] <;> rfl), by first | exact Kd.R_nil _ _ _ _ _ | exact Kd.N_nil _ _ _ _ _ | exact Kd.V_nil _ _ _ _ _ | exact Kd.Q_nil _ _ _ _ _ | exact Kd.S_nil _ _ _ _ _, by repeat (first | (with_reducible first | exact HB.out | apply below_alloc | apply pw_below_drewN | apply below_drew1) | exact HB.out)⟩
          · rw [if_neg c5] at H
            exact absurd H (by simp)
        · rw [if_neg c4] at H
          exact absurd H (by simp)
      · rw [if_neg c3] at H
        have c3b0 : decide (x13_1 < (l1.length : Int)) = false := decide_eq_false c3
        clear c3
        obtain ⟨y103, hy103⟩ : ∃ y_ : List (S50), y_ = (([(⟨a0, (l1.length : Int)⟩ : S50)] : List (S50))) := ⟨_, rfl⟩
        replace H : (aumbryref04_Make.l1 k1 l1 y103 (l1.length : Int) 0) = some (r1, r2) := by first | (rw [hy103]; with_reducible exact H) | (have H2_ := (Option.bind_some _ _).symm.trans H; rw [hy103]; with_reducible exact H2_) | (have H2_ := (Option.bind_some _ _).symm.trans H; with_reducible exact H2_) | with_reducible exact H | (rw [hy103]; exact H) | exact H
        have Ny103 := Aside0.mk hy103
        clear hy103
        have H' := Aside0.mk H
        clear H
        go_wp2_with (first | ((with_reducible refine gate_dst (N := 29) rfl ?_); refine Kd.R_lit k50 _ 50 ?hg (N := 29) ?hd (xs := ([(⟨a0, (l1.length : Int)⟩ : S50)] : List (S50))) (inner := [.string a0, .int .i64 (l1.length : Int)]) (ok := fun _ => True) (okp := fun _ => True) ?hr ?hp (fun _ hk => hk) trivial (Below.refl _ _) (Nat.le_refl _) (by simp) ?_; (case hd => rfl); (case hg => rfl); (case hr => first | (go_simp; done) | (go_simp; rfl)); (case hp => exact (Reps.c2 (show Kd.M k50 _ _ _ (⟨a0, (l1.length : Int)⟩ : S50) [.string a0, .int .i64 (l1.length : Int)] from (k50_mkM _ _ _ (⟨a0, (l1.length : Int)⟩ : S50) )) (Reps.none _ _))); intro v104 w8 ho9 hb hg_ hnew_; clear hg_ hnew_; (first | rw [← Ny103.out] at ho9 | (simp only [Int.reduceToNat] at ho9; rw [← Ny103.out] at ho9)); have n0_ := Aside0.mk (Kd.R_lower ho9 (below_size (by repeat (first | (with_reducible first | exact HB.out | apply below_alloc | apply pw_below_drewN | apply below_drew1) | exact HB.out)))); have n1_ := Aside0.mk (below_step (by repeat (first | (with_reducible first | exact HB.out | apply below_alloc | apply pw_below_drewN | apply below_drew1) | exact HB.out)) hb); clear HB; have HO105 := n0_; have HB := n1_; clear n0_ n1_; clear hb ho9))
        go_loopg [8, 32] k1 (fun kq v8 v32 w' => ∃ (x8_2 : List (S50)) (x32_2 : Int), v32 = .int .i64 x32_2 ∧ Aside0 (aumbryref04_Make.l1 kq l1 x8_2 (l1.length : Int) x32_2 = some (r1, r2)) ∧ Aside0 (kq ≤ k1) ∧ Aside0 (Kd.R k50 50 w' w.heap.size (fun _ => True) v8 x8_2) ∧ Aside0 (Below w.heap.size w w'))
        case atStart => exact ⟨(y103), (0), (by first | rfl | (simp; done) | (simp [*]; done)), H', ⟨Nat.le_refl _⟩, ⟨by (with_reducible repeat (first | apply Kd.R_alloc | apply Kd.R_drewN | apply Kd.R_drew)); exact HO105.out⟩, ⟨by repeat (first | (with_reducible first | exact HB.out | apply below_alloc | apply pw_below_drewN | apply below_drew1) | exact HB.out)⟩⟩
        case round =>
          clear H'
          try clear c1
          try clear p1
          try clear q1
          try clear hx1
          try clear c2
          try clear p2
          try clear c3
          try clear c3b0
          try clear c4
          try clear c4b0
          try clear c5
          try clear c5b0
          try clear p6
          try clear c7
          try clear c7b0
          try clear c7b1
          try clear hx101_0
          try clear p101
          try clear p2
          try clear q101
          obtain ⟨x8_2, x32_2, rfl, HA, HK2, HO_8, HB⟩ := hrel
          cases gk with
          | zero => exact absurd HA.out (by simp [aumbryref04_Make.l1])
          | succ k2 =>
            have H := HA.out
            clear HA
            simp only [aumbryref04_Make.l1] at H
            by_cases c10 : x32_2 < (l1.length : Int)
            · rw [if_pos c10] at H
              have c10b0 : decide (x32_2 < (l1.length : Int)) = true := decide_eq_true c10
              clear c10
              by_cases c11 : (x8_2.length : Int) > 64
              · rw [if_pos c11] at H
                have c11b0 : decide (64 < (x8_2.length : Int)) = true := decide_eq_true c11
                have c11b1 : decide (64 < x8_2.length) = true := decide_eq_true (by omega)
                clear c11
                simp only [Option.some.injEq, Prod.mk.injEq] at H
                obtain ⟨rfl, rfl⟩ := H
                obtain ⟨Ao12, co12, eo12⟩ := Kd.R_slice HO_8.out
                subst eo12
                go_wp2
                go_ret2
                exact ⟨_, by first | rfl | (simp [errW_none, errW_some] <;> rfl) | (simp [*, errW_none, errW_some] <;> rfl), by first | exact Kd.R_nil _ _ _ _ _ | exact Kd.N_nil _ _ _ _ _ | exact Kd.V_nil _ _ _ _ _ | exact Kd.Q_nil _ _ _ _ _ | exact Kd.S_nil _ _ _ _ _, by repeat (first | (with_reducible first | exact HB.out | apply below_alloc | apply pw_below_drewN | apply below_drew1) | exact HB.out)⟩
              · rw [if_neg c11] at H
                have c11b0 : decide (64 < (x8_2.length : Int)) = false := decide_eq_false c11
                have c11b1 : decide (64 < x8_2.length) = false := decide_eq_false (by omega)
                clear c11
                by_cases c13 : 0 ≤ x32_2
                · rw [if_pos c13] at H
                  have c13b0 : decide (0 ≤ x32_2) = true := decide_eq_true c13
                  clear c13
                  by_cases c14 : x32_2 < (l1.length : Int)
                  · rw [if_pos c14] at H
                    have c14b0 : decide (x32_2 < (l1.length : Int)) = true := decide_eq_true c14
                    clear c14
                    by_cases c15 : x8_2.length + (rd_L3 l1 x32_2).length < 5864062014805
                    · rw [if_pos c15] at H
                      have LMc15 := Aside0.mk c15
                      clear c15
                      obtain ⟨y107, hy107⟩ : ∃ y_ : List (S50), y_ = (x8_2 ++ (rd_L3 l1 x32_2)) := ⟨_, rfl⟩
                      replace H : (aumbryref04_Make.l1 k2 l1 y107 (l1.length : Int) (wrap64 (x32_2 + 1))) = some (r1, r2) := by first | (rw [hy107]; with_reducible exact H) | (have H2_ := (Option.bind_some _ _).symm.trans H; rw [hy107]; with_reducible exact H2_) | (have H2_ := (Option.bind_some _ _).symm.trans H; with_reducible exact H2_) | with_reducible exact H | (rw [hy107]; exact H) | exact H
                      have Ny107 := Aside0.mk hy107
                      clear hy107
                      have H' := Aside0.mk H
                      clear H
                      obtain ⟨Ao16, co16, eo16⟩ := Kd.R_slice HO_8.out
                      subst eo16
                      have p106 : 0 ≤ (x32_2 : Int) := of_decide_eq_true (by first | (with_reducible assumption) | assumption)
                      have q106 : x32_2 < (l1.length : Int) := of_decide_eq_true (by first | (with_reducible assumption) | assumption)
                      obtain ⟨ad106, A106_0, c106_0, e106, hx106_0, hl106_0, hi106_0⟩ := at_L3 HR1.out x32_2 p106 q106
                      cases e106
                      replace hx106_0 := (HB.out.cell (World.block_lt_of_cell? w _ hx106_0)).trans hx106_0
                      have HR106_0 := Aside0.mk hi106_0
                      have HC106_0 := Aside0.mk hl106_0
                      clear hi106_0 hl106_0
                      replace p106 := eq_true p106
                      replace q106 := eq_true q106
                      go_wp2_with (first | ((with_reducible refine gate_builtin (b := .append) (xs := #[.tmp 38, .tmp 42]) rfl ?_); at_builtin; refine Kd.R_append_rows k50 (w0 := w) w.heap.size rfl (.tmp 38) (.tmp 42) 23 50 (.agg #[(.string ⟨#[]⟩), (.int .i64 0)]) 24 rfl Try.underlying23 info50 rfl (by decide) (by omega) (.slice Ao16 x8_2.length co16) x8_2 (rd_L3 l1 x32_2) _ _ _ (fun _ => True) (fun _ => False) rfl rfl ?aO ?aR (fun _ _ h => h) (fun _ h => h.elim) ?aF ?aB ?aS ?aL ?_; (case aR => repeat (first | exact (Kd.C_below HR106_0.out HB.out) | (with_reducible refine Kd.C_alloc ?_ _) | (with_reducible refine Kd.C_drewN ?_ _) | (with_reducible refine Kd.C_drew ?_))); (case aB => exact (by repeat (first | (with_reducible first | exact HB.out | apply below_alloc | apply pw_below_drewN | apply below_drew1) | exact HB.out))); (case aF => exact (fun _ _ => trivial)); (case aO => exact (by (with_reducible repeat (first | apply Kd.R_alloc | apply Kd.R_drewN | apply Kd.R_drew)); exact HO_8.out)); (case aS => exact (below_size (by repeat (first | (with_reducible first | exact HB.out | apply below_alloc | apply pw_below_drewN | apply below_drew1) | exact HB.out)))); (case aL => have := LMc15.out; omega); intro v108 w17 ho hb hg hat; rw [← Ny107.out] at ho; have n0_ := Aside0.mk (hb); have n1_ := Aside0.mk (ho); clear HB; clear HO_8; have HB := n0_; have HO109 := n1_; clear n0_ n1_; clear ho hb hg hat))
                      go_roundg k2
                      case measure => have := HK1.out; have := HK2.out; omega
                      case rel => exact ⟨(y107), (wrap64 (x32_2 + 1)), (by first | rfl | (simp; done) | (simp [*]; done)), H', ⟨by have := HK1.out; have := HK2.out; omega⟩, ⟨by (with_reducible repeat (first | apply Kd.R_alloc | apply Kd.R_drewN | apply Kd.R_drew)); exact HO109.out⟩, ⟨by repeat (first | (with_reducible first | exact HB.out | apply below_alloc | apply pw_below_drewN | apply below_drew1) | exact HB.out)⟩⟩
                    · rw [if_neg c15] at H
                      exact absurd H (by simp)
                  · rw [if_neg c14] at H
                    exact absurd H (by simp)
                · rw [if_neg c13] at H
                  exact absurd H (by simp)
            · rw [if_neg c10] at H
              have c10b0 : decide (x32_2 < (l1.length : Int)) = false := decide_eq_false c10
              clear c10
              replace H := Option.bind_eq_some_iff.mp H
              obtain ⟨t110, A180, H⟩ := H
              replace H : (if t110 = 0 then (some (x8_2, 0)) else (some (([] : List (S50)), t110))) = some (r1, r2) := H
              have A18 := Aside0.mk A180
              clear A180
              by_cases c19 : t110 = 0
              · rw [if_pos c19] at H
                have c19b0 : (t110 == 0) = true := beq_iff_eq.mpr c19
                have c19b1 : (t110 != 0) = false := bne_eq_false_iff_eq.mpr c19
                clear c19
                simp only [Option.some.injEq, Prod.mk.injEq] at H
                obtain ⟨rfl, rfl⟩ := H
                obtain ⟨Ao20, co20, eo20⟩ := Kd.R_slice HO_8.out
                subst eo20
                go_wp2_with (first | ((with_reducible refine gate_callee (f := 13) rfl ?_); refine goesL_ (some 46) rfl rfl Try.func13 (by kernel_rfl) rfl #[.slice Ao20 x8_2.length co20] rfl (by (try simp only [List.map_toArray, List.map_cons, List.map_nil]); first | done | rfl | (simp only [List.length_drop, List.length_take]; rfl)) ?_; (with_reducible refine (aumbryref04_Check.calls k2 _ _ x8_2 t110 _ ?side1 ?side2 A18.out).mono ?_); (case side1 => repeat (first | exact (Kd.R_reads' HO_8.out).2.2 | (with_reducible refine Kd.C_alloc ?_ _) | (with_reducible refine Kd.C_drewN ?_ _) | (with_reducible refine Kd.C_drew ?_))); (case side2 => exact (Kd.R_reads' HO_8.out).2.1); rintro e w' ⟨rfl, ⟨nd, rfl⟩⟩; refine ⟨_, rfl, ?_⟩))
                go_ret2
                exact ⟨_, by first | rfl | (simp [errW_none, errW_some] <;> rfl) | (simp [*, errW_none, errW_some] <;> rfl), by (with_reducible repeat (first | apply Kd.R_alloc | apply Kd.R_drewN | apply Kd.R_drew)); exact HO_8.out, by repeat (first | (with_reducible first | exact HB.out | apply below_alloc | apply pw_below_drewN | apply below_drew1) | exact HB.out)⟩
              · rw [if_neg c19] at H
                have c19b0 : (t110 == 0) = false := beq_eq_false_iff_ne.mpr c19
                have c19b1 : (t110 != 0) = true := bne_iff_ne.mpr c19
                simp only [Option.some.injEq, Prod.mk.injEq] at H
                obtain ⟨rfl, rfl⟩ := H
                obtain ⟨Ao21, co21, eo21⟩ := Kd.R_slice HO_8.out
                subst eo21
                go_wp2_with (first | ((with_reducible refine gate_callee (f := 13) rfl ?_); refine goesL_ (some 46) rfl rfl Try.func13 (by kernel_rfl) rfl #[.slice Ao21 x8_2.length co21] rfl (by (try simp only [List.map_toArray, List.map_cons, List.map_nil]); first | done | rfl | (simp only [List.length_drop, List.length_take]; rfl)) ?_; (with_reducible refine (aumbryref04_Check.calls k2 _ _ x8_2 t110 _ ?side1 ?side2 A18.out).mono ?_); (case side1 => repeat (first | exact (Kd.R_reads' HO_8.out).2.2 | (with_reducible refine Kd.C_alloc ?_ _) | (with_reducible refine Kd.C_drewN ?_ _) | (with_reducible refine Kd.C_drew ?_))); (case side2 => exact (Kd.R_reads' HO_8.out).2.1); rintro e w' ⟨rfl, ⟨nd, rfl⟩⟩; refine ⟨_, rfl, ?_⟩))
                go_ret2
                exact ⟨_, by first | rfl | (simp [errW_none, errW_some] <;> rfl) | (simp [*, errW_none, errW_some] <;> rfl), by first | exact Kd.R_nil _ _ _ _ _ | exact Kd.N_nil _ _ _ _ _ | exact Kd.V_nil _ _ _ _ _ | exact Kd.Q_nil _ _ _ _ _ | exact Kd.S_nil _ _ _ _ _, by repeat (first | (with_reducible first | exact HB.out | apply below_alloc | apply pw_below_drewN | apply below_drew1) | exact HB.out)⟩

end Go.Proofs.Ytcmnpjgmpgjbdaa.P

-- ==== PF7
namespace Go.Proofs.Ytcmnpjgmpgjbdaa.P
open Go.RowKit Go.Proofs.YtcmnpjgmpgjbdaaW.PrintWords Go.Proofs.YtcmnpjgmpgjbdaaW.PrintLast Go.Proofs.YtcmnpjgmpgjbdaaW.PrintMore
attribute [local go_sem] max2_int min2_int max_two min_two max_three min_three max_four min_four   -- for this text's walks alone
set_option linter.unusedVariables false
set_option linter.unusedSimpArgs false

/-! ### aumbrylaw04_TermMakes: function 7 -/
mutual
def aumbrylaw04_TermMakes.l0 : Nat → ByteArray → List (List (S50)) → List (S50) → Int → Int → Option (Bool)
  | 0, _, _, _, _, _ => none
  | k + 1, x0, x1, x2, x22, x23 => if x23 < x22 then (if 0 ≤ x23 then (if x23 < (x1.length : Int) then (if ((rd_L3 x1 x23).length : Int) > 1000 then (some true) else (aumbrylaw04_TermMakes.l0 k x0 x1 x2 x22 (wrap64 (x23 + 1)))) else (none)) else (none)) else ((aumbryref04_CopyAll.f k x1).bind fun t103 => ((term_Make.f k x0 t103).bind fun bt106 => ((aumbryref04_Make.f k x0 x1).bind fun bt110 => ((aumbryref04_Same.f k bt106.1 bt110.1).bind fun t114 => (if t114 = true then (aumbrylaw04_TermMakes.j1 k x2 (bt106.2 != bt110.2)) else (aumbrylaw04_TermMakes.j1 k x2 true))))))
def aumbrylaw04_TermMakes.j1 : Nat → List (S50) → Bool → Option (Bool)
  | 0, _, _ => none
  | k + 1, x2, x54 => if x54 = true then (some false) else ((aumbryref04_Copy.f x2).bind fun t115 => ((term_Kids.f k t115).bind fun bt118 => (if bt118.2 = 0 then (if 0 < (x2.length : Int) then ((term_Make.f k ((rd_T50 x2 0).f0) bt118.1).bind fun bt123 => (if bt123.2 = 0 then ((aumbryref04_Same.f k bt123.1 x2).bind fun t127 => (some t127)) else (some false))) else (none)) else (some ((bt118.1.length : Int) == 0)))))
end
def aumbrylaw04_TermMakes.f (k : Nat) (a0 : ByteArray) (l1 : List (List (S50))) (l2 : List (S50)) : Option (Bool) := (aumbrylaw04_wakes.f k).bind fun t101 => (if t101 = true then (if (l1.length : Int) > 1000 then (some true) else (aumbrylaw04_TermMakes.l0 k a0 l1 l2 (l1.length : Int) 0)) else (some false))
set_option maxHeartbeats 8000000 in
set_option maxRecDepth 100000 in
theorem aumbrylaw04_TermMakes.calls (k : Nat) (a0 : ByteArray) (A1 : Option Addr) (c1 : Nat) (l1 : List (List (S50))) (A2 : Option Addr) (c2 : Nat) (l2 : List (S50)) (r : Bool) (w : World) (hr1 : Kd.C (Kd.slice 50 k50) w A1 l1.length l1) (hc1 : l1.length ≤ c1) (hr2 : Kd.C k50 w A2 l2.length l2) (hc2 : l2.length ≤ c2) (h : aumbrylaw04_TermMakes.f k a0 l1 l2 = some r) :
    Calls Try.prog 7 #[.string a0, .slice A1 l1.length c1, .slice A2 l2.length c2] w fun e w' => e = .returned (.bool r) ∧ Below w.heap.size w w' := by
  have HR1 := Aside0.mk hr1
  have HC1 := Aside0.mk hc1
  clear hr1 hc1
  have HR2 := Aside0.mk hr2
  have HC2 := Aside0.mk hc2
  clear hr2 hc2
  have HB := Aside0.mk (Below.refl w.heap.size w)
  have H : ((aumbrylaw04_wakes.f k).bind fun t101 => (if t101 = true then (if (l1.length : Int) > 1000 then (some true) else (aumbrylaw04_TermMakes.l0 k a0 l1 l2 (l1.length : Int) 0)) else (some false))) = some r := h
  clear h
  replace H := Option.bind_eq_some_iff.mp H
  obtain ⟨t101, A40, H⟩ := H
  replace H : (if t101 = true then (if (l1.length : Int) > 1000 then (some true) else (aumbrylaw04_TermMakes.l0 k a0 l1 l2 (l1.length : Int) 0)) else (some false)) = some r := H
  have A4 := Aside0.mk A40
  clear A40
  by_cases c5 : t101 = true
  · subst c5
    have H1 : (if (l1.length : Int) > 1000 then (some true) else (aumbrylaw04_TermMakes.l0 k a0 l1 l2 (l1.length : Int) 0)) = some r := by rw [if_pos rfl] at H; exact H
    clear H
    have H := H1
    clear H1
    by_cases c6 : (l1.length : Int) > 1000
    · rw [if_pos c6] at H
      have c6b0 : decide (1000 < (l1.length : Int)) = true := decide_eq_true c6
      have c6b1 : decide (1000 < l1.length) = true := decide_eq_true (by omega)
      clear c6
      obtain rfl := Option.some.inj H
      go_enter Try.func7, Try.ntmps7
      go_wp2_with (first | ((with_reducible refine gate_callee (f := 10) rfl ?_); refine goesL_ (some 16) rfl rfl Try.func10 (by kernel_rfl) rfl #[] rfl (by (try simp only [List.map_toArray, List.map_cons, List.map_nil]); first | done | rfl | (simp only [List.length_drop, List.length_take]; rfl)) ?_; (with_reducible refine (aumbrylaw04_wakes.calls k  true _ A4.out).mono ?_); rintro e w7 ⟨rfl, hb⟩; refine ⟨_, rfl, ?_⟩; have n0_ := Aside0.mk (below_step (by repeat (first | (with_reducible first | exact HB.out | apply below_alloc | apply pw_below_drewN | apply below_drew1) | exact HB.out)) hb); clear HB; have HB := n0_; clear n0_; (try clear hb); (try clear hb2); (try clear hk); (try clear hi)))
      go_ret
      exact ⟨by first | rfl | (simp [errW_none, errW_some] <;> rfl) | (simp [*, errW_none, errW_some] <;> rfl), by repeat (first | (with_reducible first | exact HB.out | apply below_alloc | apply pw_below_drewN | apply below_drew1) | exact HB.out)⟩
    · rw [if_neg c6] at H
      have c6b0 : decide (1000 < (l1.length : Int)) = false := decide_eq_false c6
      have c6b1 : decide (1000 < l1.length) = false := decide_eq_false (by omega)
      clear c6
      have H' := Aside0.mk H
      clear H
      go_enter Try.func7, Try.ntmps7
      go_wp2_with (first | ((with_reducible refine gate_callee (f := 10) rfl ?_); refine goesL_ (some 16) rfl rfl Try.func10 (by kernel_rfl) rfl #[] rfl (by (try simp only [List.map_toArray, List.map_cons, List.map_nil]); first | done | rfl | (simp only [List.length_drop, List.length_take]; rfl)) ?_; (with_reducible refine (aumbrylaw04_wakes.calls k  true _ A4.out).mono ?_); rintro e w8 ⟨rfl, hb⟩; refine ⟨_, rfl, ?_⟩; have n0_ := Aside0.mk (below_step (by repeat (first | (with_reducible first | exact HB.out | apply below_alloc | apply pw_below_drewN | apply below_drew1) | exact HB.out)) hb); clear HB; have HB := n0_; clear n0_; (try clear hb); (try clear hb2); (try clear hk); (try clear hi)))
      go_loopg [23] k (fun kq v23 w' => ∃ (x23_1 : Int), v23 = .int .i64 x23_1 ∧ Aside0 (aumbrylaw04_TermMakes.l0 kq a0 l1 l2 (l1.length : Int) x23_1 = some r) ∧ Aside0 (kq ≤ k) ∧ Aside0 (Below w.heap.size w w'))
      case atStart => exact ⟨(0), (by first | rfl | (simp; done) | (simp [*]; done)), H', ⟨Nat.le_refl _⟩, ⟨by repeat (first | (with_reducible first | exact HB.out | apply below_alloc | apply pw_below_drewN | apply below_drew1) | exact HB.out)⟩⟩
      case round =>
        clear H'
        try clear c1
        try clear c2
        try clear p2
        try clear c5
        try clear c6
        try clear c6b0
        try clear c6b1
        try clear c7
        obtain ⟨x23_1, rfl, HA, HK1, HB⟩ := hrel
        cases gk with
        | zero => exact absurd HA.out (by simp [aumbrylaw04_TermMakes.l0])
        | succ k1 =>
          have H := HA.out
          clear HA
          simp only [aumbrylaw04_TermMakes.l0] at H
          by_cases c9 : x23_1 < (l1.length : Int)
          · rw [if_pos c9] at H
            have c9b0 : decide (x23_1 < (l1.length : Int)) = true := decide_eq_true c9
            clear c9
            by_cases c10 : 0 ≤ x23_1
            · rw [if_pos c10] at H
              have c10b0 : decide (0 ≤ x23_1) = true := decide_eq_true c10
              clear c10
              by_cases c11 : x23_1 < (l1.length : Int)
              · rw [if_pos c11] at H
                have c11b0 : decide (x23_1 < (l1.length : Int)) = true := decide_eq_true c11
                clear c11
                by_cases c12 : ((rd_L3 l1 x23_1).length : Int) > 1000
                · rw [if_pos c12] at H
                  have c12b0 : decide (1000 < ((rd_L3 l1 x23_1).length : Int)) = true := decide_eq_true c12
                  have c12b1 : decide (1000 < (rd_L3 l1 x23_1).length) = true := decide_eq_true (by omega)
                  clear c12
                  obtain rfl := Option.some.inj H
                  have p102 : 0 ≤ (x23_1 : Int) := of_decide_eq_true (by first | (with_reducible assumption) | assumption)
                  have q102 : x23_1 < (l1.length : Int) := of_decide_eq_true (by first | (with_reducible assumption) | assumption)
                  obtain ⟨ad102, A102_0, c102_0, e102, hx102_0, hl102_0, hi102_0⟩ := at_L3 HR1.out x23_1 p102 q102
                  cases e102
                  replace hx102_0 := (HB.out.cell (World.block_lt_of_cell? w _ hx102_0)).trans hx102_0
                  have HR102_0 := Aside0.mk hi102_0
                  have HC102_0 := Aside0.mk hl102_0
                  clear hi102_0 hl102_0
                  replace p102 := eq_true p102
                  replace q102 := eq_true q102
                  go_wp2
                  go_ret
                  exact ⟨by first | rfl | (simp [errW_none, errW_some] <;> rfl) | (simp [*, errW_none, errW_some] <;> rfl), by repeat (first | (with_reducible first | exact HB.out | apply below_alloc | apply pw_below_drewN | apply below_drew1) | exact HB.out)⟩
                · rw [if_neg c12] at H
                  have c12b0 : decide (1000 < ((rd_L3 l1 x23_1).length : Int)) = false := decide_eq_false c12
                  have c12b1 : decide (1000 < (rd_L3 l1 x23_1).length) = false := decide_eq_false (by omega)
                  clear c12
                  have H' := Aside0.mk H
                  clear H
                  have p102 : 0 ≤ (x23_1 : Int) := of_decide_eq_true (by first | (with_reducible assumption) | assumption)
                  have q102 : x23_1 < (l1.length : Int) := of_decide_eq_true (by first | (with_reducible assumption) | assumption)
                  obtain ⟨ad102, A102_0, c102_0, e102, hx102_0, hl102_0, hi102_0⟩ := at_L3 HR1.out x23_1 p102 q102
                  cases e102
                  replace hx102_0 := (HB.out.cell (World.block_lt_of_cell? w _ hx102_0)).trans hx102_0
                  have HR102_0 := Aside0.mk hi102_0
                  have HC102_0 := Aside0.mk hl102_0
                  clear hi102_0 hl102_0
                  replace p102 := eq_true p102
                  replace q102 := eq_true q102
                  go_wp2
                  go_roundg k1
                  case measure => have := HK1.out; omega
                  case rel => exact ⟨(wrap64 (x23_1 + 1)), (by first | rfl | (simp; done) | (simp [*]; done)), H', ⟨by have := HK1.out; omega⟩, ⟨by repeat (first | (with_reducible first | exact HB.out | apply below_alloc | apply pw_below_drewN | apply below_drew1) | exact HB.out)⟩⟩
              · rw [if_neg c11] at H
                exact absurd H (by simp)
            · rw [if_neg c10] at H
              exact absurd H (by simp)
          · rw [if_neg c9] at H
            have c9b0 : decide (x23_1 < (l1.length : Int)) = false := decide_eq_false c9
            clear c9
            replace H := Option.bind_eq_some_iff.mp H
            obtain ⟨t103, A130, H⟩ := H
            replace H : ((term_Make.f k1 a0 t103).bind fun bt106 => ((aumbryref04_Make.f k1 a0 l1).bind fun bt110 => ((aumbryref04_Same.f k1 bt106.1 bt110.1).bind fun t114 => (if t114 = true then (aumbrylaw04_TermMakes.j1 k1 l2 (bt106.2 != bt110.2)) else (aumbrylaw04_TermMakes.j1 k1 l2 true))))) = some r := H
            have A13 := Aside0.mk A130
            clear A130
            replace H := Option.bind_eq_some_iff.mp H
            obtain ⟨⟨t106, t107⟩, A140, H⟩ := H
            replace H : ((aumbryref04_Make.f k1 a0 l1).bind fun bt110 => ((aumbryref04_Same.f k1 t106 bt110.1).bind fun t114 => (if t114 = true then (aumbrylaw04_TermMakes.j1 k1 l2 (t107 != bt110.2)) else (aumbrylaw04_TermMakes.j1 k1 l2 true)))) = some r := H
            have A14 := Aside0.mk A140
            clear A140
            replace H := Option.bind_eq_some_iff.mp H
            obtain ⟨⟨t110, t111⟩, A150, H⟩ := H
            replace H : ((aumbryref04_Same.f k1 t106 t110).bind fun t114 => (if t114 = true then (aumbrylaw04_TermMakes.j1 k1 l2 (t107 != t111)) else (aumbrylaw04_TermMakes.j1 k1 l2 true))) = some r := H
            have A15 := Aside0.mk A150
            clear A150
            have HC16 := Aside0.mk H
            clear H
            go_upto_region 13 with (first | ((with_reducible refine gate_callee (f := 22) rfl ?_); refine goesL_ (some 36) rfl rfl Try.func22 (by kernel_rfl) rfl #[.slice A1 l1.length c1] rfl (by (try simp only [List.map_toArray, List.map_cons, List.map_nil]); first | done | rfl | (simp only [List.length_drop, List.length_take]; rfl)) ?_; (with_reducible refine (aumbryref04_CopyAll.calls k1 _ _ l1 t103 _ ?side1 ?side2 A13.out).mono ?_); (case side1 => repeat (first | exact (Kd.C_below HR1.out HB.out) | (with_reducible refine Kd.C_alloc ?_ _) | (with_reducible refine Kd.C_drewN ?_ _) | (with_reducible refine Kd.C_drew ?_))); (case side2 => exact HC1.out); rintro e w17 ⟨v104, rfl, ho0, hb⟩; refine ⟨_, rfl, ?_⟩; have n0_ := Aside0.mk (Kd.S_lower ho0 (below_size (by repeat (first | (with_reducible first | exact HB.out | apply below_alloc | apply pw_below_drewN | apply below_drew1) | exact HB.out)))); have n1_ := Aside0.mk (below_step (by repeat (first | (with_reducible first | exact HB.out | apply below_alloc | apply pw_below_drewN | apply below_drew1) | exact HB.out)) hb); clear HB; have HO105 := n0_; have HB := n1_; clear n0_ n1_; (try clear hb); (try clear hb2); (try clear hk); (try clear hi); (try clear ho0); obtain ⟨Ao18, co18, eo18⟩ := Kd.S_slice HO105.out; subst eo18) | ((with_reducible refine gate_callee (f := 21) rfl ?_); refine goesL_ (some 37) rfl rfl Try.func21 (by kernel_rfl) rfl #[.string a0, .slice Ao18 t103.length co18] rfl (by (try simp only [List.map_toArray, List.map_cons, List.map_nil]); first | done | rfl | (simp only [List.length_drop, List.length_take]; rfl)) ?_; (with_reducible refine (term_Make.calls k1 a0 _ _ t103 t106 t107 _ ?side1 ?side2 A14.out).mono ?_); (case side1 => repeat (first | exact (Kd.S_reads' HO105.out).2.2 | (with_reducible refine Kd.C_alloc ?_ _) | (with_reducible refine Kd.C_drewN ?_ _) | (with_reducible refine Kd.C_drew ?_))); (case side2 => exact (Kd.S_reads' HO105.out).2.1); rintro e w19 ⟨v108, rfl, ho0, hb⟩; refine ⟨_, rfl, ?_⟩; have n0_ := Aside0.mk (Kd.S_elder' (by (with_reducible repeat (first | apply Kd.S_alloc | apply Kd.S_drewN | apply Kd.S_drew)); exact HO105.out) (Kd.R_base ho0) hb); have n1_ := Aside0.mk (Kd.R_lower ho0 (below_size (by repeat (first | (with_reducible first | exact HB.out | apply below_alloc | apply pw_below_drewN | apply below_drew1) | exact HB.out)))); have n2_ := Aside0.mk (below_step (by repeat (first | (with_reducible first | exact HB.out | apply below_alloc | apply pw_below_drewN | apply below_drew1) | exact HB.out)) hb); clear HO105; clear HB; have HO105 := n0_; have HO109 := n1_; have HB := n2_; clear n0_ n1_ n2_; (try clear hb); (try clear hb2); (try clear hk); (try clear hi); (try clear ho0)) | ((with_reducible refine gate_callee (f := 23) rfl ?_); refine goesL_ (some 43) rfl rfl Try.func23 (by kernel_rfl) rfl #[.string a0, .slice A1 l1.length c1] rfl (by (try simp only [List.map_toArray, List.map_cons, List.map_nil]); first | done | rfl | (simp only [List.length_drop, List.length_take]; rfl)) ?_; (with_reducible refine (aumbryref04_Make.calls k1 a0 _ _ l1 t110 t111 _ ?side1 ?side2 A15.out).mono ?_); (case side1 => repeat (first | exact (Kd.C_below HR1.out HB.out) | (with_reducible refine Kd.C_alloc ?_ _) | (with_reducible refine Kd.C_drewN ?_ _) | (with_reducible refine Kd.C_drew ?_))); (case side2 => exact HC1.out); rintro e w20 ⟨v112, rfl, ho0, hb⟩; refine ⟨_, rfl, ?_⟩; have n0_ := Aside0.mk (Kd.S_elder' (by (with_reducible repeat (first | apply Kd.S_alloc | apply Kd.S_drewN | apply Kd.S_drew)); exact HO105.out) (Kd.R_base ho0) hb); have n1_ := Aside0.mk (Kd.R_elder' (by (with_reducible repeat (first | apply Kd.R_alloc | apply Kd.R_drewN | apply Kd.R_drew)); exact HO109.out) (Kd.R_base ho0) hb); have n2_ := Aside0.mk (Kd.R_lower (Kd.R_new' ho0 (Kd.R_lt (by (with_reducible repeat (first | apply Kd.R_alloc | apply Kd.R_drewN | apply Kd.R_drew)); exact HO109.out))) (below_size (by repeat (first | (with_reducible first | exact HB.out | apply below_alloc | apply pw_below_drewN | apply below_drew1) | exact HB.out)))); have n3_ := Aside0.mk (below_step (by repeat (first | (with_reducible first | exact HB.out | apply below_alloc | apply pw_below_drewN | apply below_drew1) | exact HB.out)) hb); clear HO105; clear HO109; clear HB; have HO105 := n0_; have HO109 := n1_; have HO113 := n2_; have HB := n3_; clear n0_ n1_ n2_ n3_; (try clear hb); (try clear hb2); (try clear hk); (try clear hi); (try clear ho0)))
            (try simp only [Act.put, List.setIfInBounds_toArray, List.set_cons_zero, List.set_cons_succ])
            go_cut [54] (fun v54 wc => ∃ (kq : Nat) (x54_15 : Bool), v54 = .bool x54_15 ∧ Aside0 (aumbrylaw04_TermMakes.j1 kq l2 x54_15 = some r) ∧ Aside0 (kq ≤ k1) ∧ Aside0 (Below w.heap.size w wc))
            case first =>
              have H := HC16.out
              clear HC16
              replace H := Option.bind_eq_some_iff.mp H
              obtain ⟨t114, A210, H⟩ := H
              replace H : (if t114 = true then (aumbrylaw04_TermMakes.j1 k1 l2 (t107 != t111)) else (aumbrylaw04_TermMakes.j1 k1 l2 true)) = some r := H
              have A21 := Aside0.mk A210
              clear A210
              by_cases c22 : t114 = true
              · subst c22
                have H1 : (aumbrylaw04_TermMakes.j1 k1 l2 (t107 != t111)) = some r := by rw [if_pos rfl] at H; exact H
                clear H
                have H := H1
                clear H1
                have H' := Aside0.mk H
                clear H
                obtain ⟨Ao23, co23, eo23⟩ := Kd.R_slice HO109.out
                subst eo23
                obtain ⟨Ao24, co24, eo24⟩ := Kd.R_slice HO113.out
                subst eo24
                go_wp2_with (first | ((with_reducible refine gate_callee (f := 16) rfl ?_); refine goesL_ (some 48) rfl rfl Try.func16 (by kernel_rfl) rfl #[.slice Ao23 t106.length co23, .slice Ao24 t110.length co24] rfl (by (try simp only [List.map_toArray, List.map_cons, List.map_nil]); first | done | rfl | (simp only [List.length_drop, List.length_take]; rfl)) ?_; (with_reducible refine (aumbryref04_Same.calls k1 _ _ t106 _ _ t110 true _ ?side1 ?side2 ?side3 ?side4 A21.out).mono ?_); (case side1 => repeat (first | exact (Kd.R_reads' HO109.out).2.2 | (with_reducible refine Kd.C_alloc ?_ _) | (with_reducible refine Kd.C_drewN ?_ _) | (with_reducible refine Kd.C_drew ?_))); (case side2 => exact (Kd.R_reads' HO109.out).2.1); (case side3 => repeat (first | exact (Kd.R_reads' HO113.out).2.2 | (with_reducible refine Kd.C_alloc ?_ _) | (with_reducible refine Kd.C_drewN ?_ _) | (with_reducible refine Kd.C_drew ?_))); (case side4 => exact (Kd.R_reads' HO113.out).2.1); rintro e w' ⟨rfl, ⟨nd, rfl⟩⟩; refine ⟨_, rfl, ?_⟩))
                go_meet
                case rel => exact ⟨_, ((t107 != t111)), (by first | rfl | (simp; done) | (simp [*]; done)), H', ⟨by have := HK1.out; first | omega | exact Nat.le_refl _⟩, ⟨by repeat (first | (with_reducible first | exact HB.out | apply below_alloc | apply pw_below_drewN | apply below_drew1) | exact HB.out)⟩⟩
              · replace c22 := Bool.eq_false_iff.mpr c22
                subst c22
                have H1 : (aumbrylaw04_TermMakes.j1 k1 l2 true) = some r := by rw [if_neg (show ¬ (false = true) by decide)] at H; exact H
                clear H
                have H := H1
                clear H1
                have H' := Aside0.mk H
                clear H
                obtain ⟨Ao25, co25, eo25⟩ := Kd.R_slice HO109.out
                subst eo25
                obtain ⟨Ao26, co26, eo26⟩ := Kd.R_slice HO113.out
                subst eo26
                go_wp2_with (first | ((with_reducible refine gate_callee (f := 16) rfl ?_); refine goesL_ (some 48) rfl rfl Try.func16 (by kernel_rfl) rfl #[.slice Ao25 t106.length co25, .slice Ao26 t110.length co26] rfl (by (try simp only [List.map_toArray, List.map_cons, List.map_nil]); first | done | rfl | (simp only [List.length_drop, List.length_take]; rfl)) ?_; (with_reducible refine (aumbryref04_Same.calls k1 _ _ t106 _ _ t110 false _ ?side1 ?side2 ?side3 ?side4 A21.out).mono ?_); (case side1 => repeat (first | exact (Kd.R_reads' HO109.out).2.2 | (with_reducible refine Kd.C_alloc ?_ _) | (with_reducible refine Kd.C_drewN ?_ _) | (with_reducible refine Kd.C_drew ?_))); (case side2 => exact (Kd.R_reads' HO109.out).2.1); (case side3 => repeat (first | exact (Kd.R_reads' HO113.out).2.2 | (with_reducible refine Kd.C_alloc ?_ _) | (with_reducible refine Kd.C_drewN ?_ _) | (with_reducible refine Kd.C_drew ?_))); (case side4 => exact (Kd.R_reads' HO113.out).2.1); rintro e w' ⟨rfl, ⟨nd, rfl⟩⟩; refine ⟨_, rfl, ?_⟩))
                go_meet
                case rel => exact ⟨_, (true), (by first | rfl | (simp; done) | (simp [*]; done)), H', ⟨by have := HK1.out; first | omega | exact Nat.le_refl _⟩, ⟨by repeat (first | (with_reducible first | exact HB.out | apply below_alloc | apply pw_below_drewN | apply below_drew1) | exact HB.out)⟩⟩
            case rest =>
              clear HC16
              try clear c1
              try clear p1
              try clear q1
              try clear hx1
              try clear c2
              try clear p2
              try clear c5
              try clear c6
              try clear c6b0
              try clear c6b1
              try clear p6
              try clear c7
              try clear c9
              try clear c9b0
              try clear c10
              try clear c10b0
              try clear p10
              try clear q10
              try clear hx10
              try clear c11
              try clear c11b0
              try clear c12
              try clear c12b0
              try clear c12b1
              try clear c16
              try clear c21
              try clear c22
              try clear c23
              try clear hx102_0
              try clear p102
              try clear p2
              try clear q102
              obtain ⟨kq, x54_15, rfl, HA, HJ15, HB⟩ := hcut
              cases kq with
              | zero => exact absurd HA.out (by simp [aumbrylaw04_TermMakes.j1])
              | succ kj15 =>
                have H := HA.out
                clear HA
                simp only [aumbrylaw04_TermMakes.j1] at H
                by_cases c27 : x54_15 = true
                · subst c27
                  have H1 : (some false) = some r := by rw [if_pos rfl] at H; exact H
                  clear H
                  have H := H1
                  clear H1
                  obtain rfl := Option.some.inj H
                  go_wp2
                  go_ret
                  exact ⟨by first | rfl | (simp [errW_none, errW_some] <;> rfl) | (simp [*, errW_none, errW_some] <;> rfl), by repeat (first | (with_reducible first | exact HB.out | apply below_alloc | apply pw_below_drewN | apply below_drew1) | exact HB.out)⟩
                · replace c27 := Bool.eq_false_iff.mpr c27
                  subst c27
                  have H1 : ((aumbryref04_Copy.f l2).bind fun t115 => ((term_Kids.f kj15 t115).bind fun bt118 => (if bt118.2 = 0 then (if 0 < (l2.length : Int) then ((term_Make.f kj15 ((rd_T50 l2 0).f0) bt118.1).bind fun bt123 => (if bt123.2 = 0 then ((aumbryref04_Same.f kj15 bt123.1 l2).bind fun t127 => (some t127)) else (some false))) else (none)) else (some ((bt118.1.length : Int) == 0))))) = some r := by rw [if_neg (show ¬ (false = true) by decide)] at H; exact H
                  clear H
                  have H := H1
                  clear H1
                  replace H := Option.bind_eq_some_iff.mp H
                  obtain ⟨t115, A280, H⟩ := H
                  replace H : ((term_Kids.f kj15 t115).bind fun bt118 => (if bt118.2 = 0 then (if 0 < (l2.length : Int) then ((term_Make.f kj15 ((rd_T50 l2 0).f0) bt118.1).bind fun bt123 => (if bt123.2 = 0 then ((aumbryref04_Same.f kj15 bt123.1 l2).bind fun t127 => (some t127)) else (some false))) else (none)) else (some ((bt118.1.length : Int) == 0)))) = some r := H
                  have A28 := Aside0.mk A280
                  clear A280
                  replace H := Option.bind_eq_some_iff.mp H
                  obtain ⟨⟨t118, t119⟩, A290, H⟩ := H
                  replace H : (if t119 = 0 then (if 0 < (l2.length : Int) then ((term_Make.f kj15 ((rd_T50 l2 0).f0) t118).bind fun bt123 => (if bt123.2 = 0 then ((aumbryref04_Same.f kj15 bt123.1 l2).bind fun t127 => (some t127)) else (some false))) else (none)) else (some ((t118.length : Int) == 0))) = some r := H
                  have A29 := Aside0.mk A290
                  clear A290
                  by_cases c30 : t119 = 0
                  · rw [if_pos c30] at H
                    have c30b0 : (t119 == 0) = true := beq_iff_eq.mpr c30
                    have c30b1 : (t119 != 0) = false := bne_eq_false_iff_eq.mpr c30
                    clear c30
                    by_cases c31 : 0 < (l2.length : Int)
                    · rw [if_pos c31] at H
                      have c31b0 : decide (0 < (l2.length : Int)) = true := decide_eq_true c31
                      have c31b1 : decide (0 < l2.length) = true := decide_eq_true (by omega)
                      clear c31
                      replace H := Option.bind_eq_some_iff.mp H
                      obtain ⟨⟨t123, t124⟩, A320, H⟩ := H
                      replace H : (if t124 = 0 then ((aumbryref04_Same.f kj15 t123 l2).bind fun t127 => (some t127)) else (some false)) = some r := H
                      have A32 := Aside0.mk A320
                      clear A320
                      by_cases c33 : t124 = 0
                      · rw [if_pos c33] at H
                        have c33b0 : (t124 == 0) = true := beq_iff_eq.mpr c33
                        have c33b1 : (t124 != 0) = false := bne_eq_false_iff_eq.mpr c33
                        clear c33
                        replace H := Option.bind_eq_some_iff.mp H
                        obtain ⟨t127, A340, H⟩ := H
                        replace H : (some t127) = some r := H
                        have A34 := Aside0.mk A340
                        clear A340
                        obtain rfl := Option.some.inj H
                        go_wp2_with (first | ((with_reducible refine gate_callee (f := 12) rfl ?_); refine goesL_ (some 57) rfl rfl Try.func12 (by kernel_rfl) rfl #[.slice A2 l2.length c2] rfl (by (try simp only [List.map_toArray, List.map_cons, List.map_nil]); first | done | rfl | (simp only [List.length_drop, List.length_take]; rfl)) ?_; (with_reducible refine (aumbryref04_Copy.calls _ _ l2 t115 _ ?side1 ?side2 A28.out).mono ?_); (case side1 => repeat (first | exact (Kd.C_below HR2.out HB.out) | (with_reducible refine Kd.C_alloc ?_ _) | (with_reducible refine Kd.C_drewN ?_ _) | (with_reducible refine Kd.C_drew ?_))); (case side2 => exact HC2.out); rintro e w35 ⟨v116, rfl, ho0, hb⟩; refine ⟨_, rfl, ?_⟩; have n0_ := Aside0.mk (Kd.R_lower ho0 (below_size (by repeat (first | (with_reducible first | exact HB.out | apply below_alloc | apply pw_below_drewN | apply below_drew1) | exact HB.out)))); have n1_ := Aside0.mk (below_step (by repeat (first | (with_reducible first | exact HB.out | apply below_alloc | apply pw_below_drewN | apply below_drew1) | exact HB.out)) hb); clear HB; have HO117 := n0_; have HB := n1_; clear n0_ n1_; (try clear hb); (try clear hb2); (try clear hk); (try clear hi); (try clear ho0); obtain ⟨Ao36, co36, eo36⟩ := Kd.R_slice HO117.out; subst eo36) | ((with_reducible refine gate_callee (f := 20) rfl ?_); refine goesL_ (some 58) rfl rfl Try.func20 (by kernel_rfl) rfl #[.slice Ao36 t115.length co36] rfl (by (try simp only [List.map_toArray, List.map_cons, List.map_nil]); first | done | rfl | (simp only [List.length_drop, List.length_take]; rfl)) ?_; (with_reducible refine (term_Kids.calls kj15 _ _ t115 t118 t119 _ ?side1 ?side2 A29.out).mono ?_); (case side1 => repeat (first | exact (Kd.R_reads' HO117.out).2.2 | (with_reducible refine Kd.C_alloc ?_ _) | (with_reducible refine Kd.C_drewN ?_ _) | (with_reducible refine Kd.C_drew ?_))); (case side2 => exact (Kd.R_reads' HO117.out).2.1); rintro e w37 ⟨v120, rfl, ho0, hb⟩; refine ⟨_, rfl, ?_⟩; have n0_ := Aside0.mk (Kd.R_below (by (with_reducible repeat (first | apply Kd.R_alloc | apply Kd.R_drewN | apply Kd.R_drew)); exact HO117.out) hb); have n1_ := Aside0.mk (Kd.S_lower (Kd.S_new' ho0 (Kd.R_lt (by (with_reducible repeat (first | apply Kd.R_alloc | apply Kd.R_drewN | apply Kd.R_drew)); exact HO117.out))) (below_size (by repeat (first | (with_reducible first | exact HB.out | apply below_alloc | apply pw_below_drewN | apply below_drew1) | exact HB.out)))); have n2_ := Aside0.mk (below_step (by repeat (first | (with_reducible first | exact HB.out | apply below_alloc | apply pw_below_drewN | apply below_drew1) | exact HB.out)) hb); clear HO117; clear HB; have HO117 := n0_; have HO121 := n1_; have HB := n2_; clear n0_ n1_ n2_; (try clear hb); (try clear hb2); (try clear hk); (try clear hi); (try clear ho0); have p122 : 0 ≤ (0 : Int) := (by omega); have q122 : 0 < (l2.length : Int) := of_decide_eq_true (by first | (with_reducible assumption) | assumption); obtain ⟨ad122, e122, hx122_0, hx122_1⟩ := at_T50 HR2.out 0 p122 q122; cases e122; have qi122 : (0 < l2.length) = True := eq_true (by omega); (try rw [show ((0 : Int)).toNat = 0 from rfl] at hx122_0); (try rw [show 0 * 2 = 0 from rfl] at hx122_0); (try rw [Addr.add_zero'] at hx122_0); (try rw [show ((0 : Int)).toNat = 0 from rfl] at hx122_1); (try rw [show 0 * 2 = 0 from rfl] at hx122_1); (try rw [Addr.add_zero'] at hx122_1); replace hx122_0 := (HB.out.cell (World.block_lt_of_cell? w _ hx122_0)).trans hx122_0; replace hx122_1 := (HB.out.cell (World.block_lt_of_cell? w _ hx122_1)).trans hx122_1; replace p122 := eq_true p122; replace q122 := eq_true q122; obtain ⟨Ao38, co38, eo38⟩ := Kd.S_slice HO121.out; subst eo38) | ((with_reducible refine gate_callee (f := 21) rfl ?_); refine goesL_ (some 72) rfl rfl Try.func21 (by kernel_rfl) rfl #[.string ((rd_T50 l2 0).f0), .slice Ao38 t118.length co38] rfl (by (try simp only [List.map_toArray, List.map_cons, List.map_nil]); first | done | rfl | (simp only [List.length_drop, List.length_take]; rfl)) ?_; (with_reducible refine (term_Make.calls kj15 ((rd_T50 l2 0).f0) _ _ t118 t123 t124 _ ?side1 ?side2 A32.out).mono ?_); (case side1 => repeat (first | exact (Kd.S_reads' HO121.out).2.2 | (with_reducible refine Kd.C_alloc ?_ _) | (with_reducible refine Kd.C_drewN ?_ _) | (with_reducible refine Kd.C_drew ?_))); (case side2 => exact (Kd.S_reads' HO121.out).2.1); rintro e w39 ⟨v125, rfl, ho0, hb⟩; refine ⟨_, rfl, ?_⟩; have n0_ := Aside0.mk (Kd.R_elder' (by (with_reducible repeat (first | apply Kd.R_alloc | apply Kd.R_drewN | apply Kd.R_drew)); exact HO117.out) (Kd.R_base ho0) hb); have n1_ := Aside0.mk (Kd.S_elder' (by (with_reducible repeat (first | apply Kd.S_alloc | apply Kd.S_drewN | apply Kd.S_drew)); exact HO121.out) (Kd.R_base ho0) hb); have n2_ := Aside0.mk (Kd.R_lower (Kd.R_new' ho0 (Kd.R_lt (by (with_reducible repeat (first | apply Kd.R_alloc | apply Kd.R_drewN | apply Kd.R_drew)); exact HO117.out))) (below_size (by repeat (first | (with_reducible first | exact HB.out | apply below_alloc | apply pw_below_drewN | apply below_drew1) | exact HB.out)))); have n3_ := Aside0.mk (below_step (by repeat (first | (with_reducible first | exact HB.out | apply below_alloc | apply pw_below_drewN | apply below_drew1) | exact HB.out)) hb); clear HO117; clear HO121; clear HB; have HO117 := n0_; have HO121 := n1_; have HO126 := n2_; have HB := n3_; clear n0_ n1_ n2_ n3_; (try clear hb); (try clear hb2); (try clear hk); (try clear hi); (try clear ho0); obtain ⟨Ao40, co40, eo40⟩ := Kd.R_slice HO126.out; subst eo40) | (go_at_call 16; (with_reducible refine (aumbryref04_Same.calls kj15 _ _ t123 _ _ l2 t127 _ ?side1 ?side2 ?side3 ?side4 A34.out).mono ?_); (case side1 => repeat (first | exact (Kd.R_reads' HO126.out).2.2 | (with_reducible refine Kd.C_alloc ?_ _) | (with_reducible refine Kd.C_drewN ?_ _) | (with_reducible refine Kd.C_drew ?_))); (case side2 => exact (Kd.R_reads' HO126.out).2.1); (case side3 => repeat (first | exact (Kd.C_below HR2.out HB.out) | (with_reducible refine Kd.C_alloc ?_ _) | (with_reducible refine Kd.C_drewN ?_ _) | (with_reducible refine Kd.C_drew ?_))); (case side4 => exact HC2.out); rintro e w' ⟨rfl, ⟨nd, rfl⟩⟩))
                        go_ret
                        exact ⟨by first | rfl | (simp [errW_none, errW_some] <;> rfl) | (simp [*, errW_none, errW_some] <;> rfl), by repeat (first | (with_reducible first | exact HB.out | apply below_alloc | apply pw_below_drewN | apply below_drew1) | exact HB.out)⟩
                      · rw [if_neg c33] at H
                        have c33b0 : (t124 == 0) = false := beq_eq_false_iff_ne.mpr c33
                        have c33b1 : (t124 != 0) = true := bne_iff_ne.mpr c33
                        obtain rfl := Option.some.inj H
                        go_wp2_with (first | ((with_reducible refine gate_callee (f := 12) rfl ?_); refine goesL_ (some 57) rfl rfl Try.func12 (by kernel_rfl) rfl #[.slice A2 l2.length c2] rfl (by (try simp only [List.map_toArray, List.map_cons, List.map_nil]); first | done | rfl | (simp only [List.length_drop, List.length_take]; rfl)) ?_; (with_reducible refine (aumbryref04_Copy.calls _ _ l2 t115 _ ?side1 ?side2 A28.out).mono ?_); (case side1 => repeat (first | exact (Kd.C_below HR2.out HB.out) | (with_reducible refine Kd.C_alloc ?_ _) | (with_reducible refine Kd.C_drewN ?_ _) | (with_reducible refine Kd.C_drew ?_))); (case side2 => exact HC2.out); rintro e w41 ⟨v116, rfl, ho0, hb⟩; refine ⟨_, rfl, ?_⟩; have n0_ := Aside0.mk (Kd.R_lower ho0 (below_size (by repeat (first | (with_reducible first | exact HB.out | apply below_alloc | apply pw_below_drewN | apply below_drew1) | exact HB.out)))); have n1_ := Aside0.mk (below_step (by repeat (first | (with_reducible first | exact HB.out | apply below_alloc | apply pw_below_drewN | apply below_drew1) | exact HB.out)) hb); clear HB; have HO117 := n0_; have HB := n1_; clear n0_ n1_; (try clear hb); (try clear hb2); (try clear hk); (try clear hi); (try clear ho0); obtain ⟨Ao42, co42, eo42⟩ := Kd.R_slice HO117.out; subst eo42) | ((with_reducible refine gate_callee (f := 20) rfl ?_); refine goesL_ (some 58) rfl rfl Try.func20 (by kernel_rfl) rfl #[.slice Ao42 t115.length co42] rfl (by (try simp only [List.map_toArray, List.map_cons, List.map_nil]); first | done | rfl | (simp only [List.length_drop, List.length_take]; rfl)) ?_; (with_reducible refine (term_Kids.calls kj15 _ _ t115 t118 t119 _ ?side1 ?side2 A29.out).mono ?_); (case side1 => repeat (first | exact (Kd.R_reads' HO117.out).2.2 | (with_reducible refine Kd.C_alloc ?_ _) | (with_reducible refine Kd.C_drewN ?_ _) | (with_reducible refine Kd.C_drew ?_))); (case side2 => exact (Kd.R_reads' HO117.out).2.1); rintro e w43 ⟨v120, rfl, ho0, hb⟩; refine ⟨_, rfl, ?_⟩; have n0_ := Aside0.mk (Kd.R_below (by (with_reducible repeat (first | apply Kd.R_alloc | apply Kd.R_drewN | apply Kd.R_drew)); exact HO117.out) hb); have n1_ := Aside0.mk (Kd.S_lower (Kd.S_new' ho0 (Kd.R_lt (by (with_reducible repeat (first | apply Kd.R_alloc | apply Kd.R_drewN | apply Kd.R_drew)); exact HO117.out))) (below_size (by repeat (first | (with_reducible first | exact HB.out | apply below_alloc | apply pw_below_drewN | apply below_drew1) | exact HB.out)))); have n2_ := Aside0.mk (below_step (by repeat (first | (with_reducible first | exact HB.out | apply below_alloc | apply pw_below_drewN | apply below_drew1) | exact HB.out)) hb); clear HO117; clear HB; have HO117 := n0_; have HO121 := n1_; have HB := n2_; clear n0_ n1_ n2_; (try clear hb); (try clear hb2); (try clear hk); (try clear hi); (try clear ho0); have p122 : 0 ≤ (0 : Int) := (by omega); have q122 : 0 < (l2.length : Int) := of_decide_eq_true (by first | (with_reducible assumption) | assumption); obtain ⟨ad122, e122, hx122_0, hx122_1⟩ := at_T50 HR2.out 0 p122 q122; cases e122; have qi122 : (0 < l2.length) = True := eq_true (by omega); (try rw [show ((0 : Int)).toNat = 0 from rfl] at hx122_0); (try rw [show 0 * 2 = 0 from rfl] at hx122_0); (try rw [Addr.add_zero'] at hx122_0); (try rw [show ((0 : Int)).toNat = 0 from rfl] at hx122_1); (try rw [show 0 * 2 = 0 from rfl] at hx122_1); (try rw [Addr.add_zero'] at hx122_1); replace hx122_0 := (HB.out.cell (World.block_lt_of_cell? w _ hx122_0)).trans hx122_0; replace hx122_1 := (HB.out.cell (World.block_lt_of_cell? w _ hx122_1)).trans hx122_1; replace p122 := eq_true p122; replace q122 := eq_true q122; obtain ⟨Ao44, co44, eo44⟩ := Kd.S_slice HO121.out; subst eo44) | ((with_reducible refine gate_callee (f := 21) rfl ?_); refine goesL_ (some 72) rfl rfl Try.func21 (by kernel_rfl) rfl #[.string ((rd_T50 l2 0).f0), .slice Ao44 t118.length co44] rfl (by (try simp only [List.map_toArray, List.map_cons, List.map_nil]); first | done | rfl | (simp only [List.length_drop, List.length_take]; rfl)) ?_; (with_reducible refine (term_Make.calls kj15 ((rd_T50 l2 0).f0) _ _ t118 t123 t124 _ ?side1 ?side2 A32.out).mono ?_); (case side1 => repeat (first | exact (Kd.S_reads' HO121.out).2.2 | (with_reducible refine Kd.C_alloc ?_ _) | (with_reducible refine Kd.C_drewN ?_ _) | (with_reducible refine Kd.C_drew ?_))); (case side2 => exact (Kd.S_reads' HO121.out).2.1); rintro e w45 ⟨v125, rfl, ho0, hb⟩; refine ⟨_, rfl, ?_⟩; have n0_ := Aside0.mk (Kd.R_elder' (by (with_reducible repeat (first | apply Kd.R_alloc | apply Kd.R_drewN | apply Kd.R_drew)); exact HO117.out) (Kd.R_base ho0) hb); have n1_ := Aside0.mk (Kd.S_elder' (by (with_reducible repeat (first | apply Kd.S_alloc | apply Kd.S_drewN | apply Kd.S_drew)); exact HO121.out) (Kd.R_base ho0) hb); have n2_ := Aside0.mk (Kd.R_lower (Kd.R_new' ho0 (Kd.R_lt (by (with_reducible repeat (first | apply Kd.R_alloc | apply Kd.R_drewN | apply Kd.R_drew)); exact HO117.out))) (below_size (by repeat (first | (with_reducible first | exact HB.out | apply below_alloc | apply pw_below_drewN | apply below_drew1) | exact HB.out)))); have n3_ := Aside0.mk (below_step (by repeat (first | (with_reducible first | exact HB.out | apply below_alloc | apply pw_below_drewN | apply below_drew1) | exact HB.out)) hb); clear HO117; clear HO121; clear HB; have HO117 := n0_; have HO121 := n1_; have HO126 := n2_; have HB := n3_; clear n0_ n1_ n2_ n3_; (try clear hb); (try clear hb2); (try clear hk); (try clear hi); (try clear ho0)))
                        go_ret
                        exact ⟨by first | rfl | (simp [errW_none, errW_some] <;> rfl) | (simp [*, errW_none, errW_some] <;> rfl), by repeat (first | (with_reducible first | exact HB.out | apply below_alloc | apply pw_below_drewN | apply below_drew1) | exact HB.out)⟩
                    · rw [if_neg c31] at H
                      exact absurd H (by simp)
                  · rw [if_neg c30] at H
                    have c30b0 : (t119 == 0) = false := beq_eq_false_iff_ne.mpr c30
                    have c30b1 : (t119 != 0) = true := bne_iff_ne.mpr c30
                    obtain rfl := Option.some.inj H
                    go_wp2_with (first | ((with_reducible refine gate_callee (f := 12) rfl ?_); refine goesL_ (some 57) rfl rfl Try.func12 (by kernel_rfl) rfl #[.slice A2 l2.length c2] rfl (by (try simp only [List.map_toArray, List.map_cons, List.map_nil]); first | done | rfl | (simp only [List.length_drop, List.length_take]; rfl)) ?_; (with_reducible refine (aumbryref04_Copy.calls _ _ l2 t115 _ ?side1 ?side2 A28.out).mono ?_); (case side1 => repeat (first | exact (Kd.C_below HR2.out HB.out) | (with_reducible refine Kd.C_alloc ?_ _) | (with_reducible refine Kd.C_drewN ?_ _) | (with_reducible refine Kd.C_drew ?_))); (case side2 => exact HC2.out); rintro e w46 ⟨v116, rfl, ho0, hb⟩; refine ⟨_, rfl, ?_⟩; have n0_ := Aside0.mk (Kd.R_lower ho0 (below_size (by repeat (first | (with_reducible first | exact HB.out | apply below_alloc | apply pw_below_drewN | apply below_drew1) | exact HB.out)))); have n1_ := Aside0.mk (below_step (by repeat (first | (with_reducible first | exact HB.out | apply below_alloc | apply pw_below_drewN | apply below_drew1) | exact HB.out)) hb); clear HB; have HO117 := n0_; have HB := n1_; clear n0_ n1_; (try clear hb); (try clear hb2); (try clear hk); (try clear hi); (try clear ho0); obtain ⟨Ao47, co47, eo47⟩ := Kd.R_slice HO117.out; subst eo47) | ((with_reducible refine gate_callee (f := 20) rfl ?_); refine goesL_ (some 58) rfl rfl Try.func20 (by kernel_rfl) rfl #[.slice Ao47 t115.length co47] rfl (by (try simp only [List.map_toArray, List.map_cons, List.map_nil]); first | done | rfl | (simp only [List.length_drop, List.length_take]; rfl)) ?_; (with_reducible refine (term_Kids.calls kj15 _ _ t115 t118 t119 _ ?side1 ?side2 A29.out).mono ?_); (case side1 => repeat (first | exact (Kd.R_reads' HO117.out).2.2 | (with_reducible refine Kd.C_alloc ?_ _) | (with_reducible refine Kd.C_drewN ?_ _) | (with_reducible refine Kd.C_drew ?_))); (case side2 => exact (Kd.R_reads' HO117.out).2.1); rintro e w48 ⟨v120, rfl, ho0, hb⟩; refine ⟨_, rfl, ?_⟩; have n0_ := Aside0.mk (Kd.R_below (by (with_reducible repeat (first | apply Kd.R_alloc | apply Kd.R_drewN | apply Kd.R_drew)); exact HO117.out) hb); have n1_ := Aside0.mk (Kd.S_lower (Kd.S_new' ho0 (Kd.R_lt (by (with_reducible repeat (first | apply Kd.R_alloc | apply Kd.R_drewN | apply Kd.R_drew)); exact HO117.out))) (below_size (by repeat (first | (with_reducible first | exact HB.out | apply below_alloc | apply pw_below_drewN | apply below_drew1) | exact HB.out)))); have n2_ := Aside0.mk (below_step (by repeat (first | (with_reducible first | exact HB.out | apply below_alloc | apply pw_below_drewN | apply below_drew1) | exact HB.out)) hb); clear HO117; clear HB; have HO117 := n0_; have HO121 := n1_; have HB := n2_; clear n0_ n1_ n2_; (try clear hb); (try clear hb2); (try clear hk); (try clear hi); (try clear ho0); obtain ⟨Ao49, co49, eo49⟩ := Kd.S_slice HO121.out; subst eo49))
                    go_ret
                    exact ⟨by first | rfl | (simp [errW_none, errW_some] <;> rfl) | (simp [*, errW_none, errW_some] <;> rfl), by repeat (first | (with_reducible first | exact HB.out | apply below_alloc | apply pw_below_drewN | apply below_drew1) | exact HB.out)⟩
  · replace c5 := Bool.eq_false_iff.mpr c5
    subst c5
    have H1 : (some false) = some r := by rw [if_neg (show ¬ (false = true) by decide)] at H; exact H
    clear H
    have H := H1
    clear H1
    obtain rfl := Option.some.inj H
    go_enter Try.func7, Try.ntmps7
    go_wp2_with (first | ((with_reducible refine gate_callee (f := 10) rfl ?_); refine goesL_ (some 16) rfl rfl Try.func10 (by kernel_rfl) rfl #[] rfl (by (try simp only [List.map_toArray, List.map_cons, List.map_nil]); first | done | rfl | (simp only [List.length_drop, List.length_take]; rfl)) ?_; (with_reducible refine (aumbrylaw04_wakes.calls k  false _ A4.out).mono ?_); rintro e w50 ⟨rfl, hb⟩; refine ⟨_, rfl, ?_⟩; have n0_ := Aside0.mk (below_step (by repeat (first | (with_reducible first | exact HB.out | apply below_alloc | apply pw_below_drewN | apply below_drew1) | exact HB.out)) hb); clear HB; have HB := n0_; clear n0_; (try clear hb); (try clear hb2); (try clear hk); (try clear hi)))
    go_ret
    exact ⟨by first | rfl | (simp [errW_none, errW_some] <;> rfl) | (simp [*, errW_none, errW_some] <;> rfl), by repeat (first | (with_reducible first | exact HB.out | apply below_alloc | apply pw_below_drewN | apply below_drew1) | exact HB.out)⟩

end Go.Proofs.Ytcmnpjgmpgjbdaa.P

-- ==== Open
/- What came in and can be read as data, read as the print's kinds: for each kind one fact, put together by the types' shapes. -/
set_option linter.unusedVariables false
namespace Go.Proofs.Ytcmnpjgmpgjbdaa.Open
open Go.RowKit Go.Proofs.YtcmnpjgmpgjbdaaW.PrintWords Go.Proofs.Ytcmnpjgmpgjbdaa.Rows

structure Opens {α : Type} (P : Program) (t : TypeId) (d : Kd α) (Sz : α → Prop) (Bk : α → Nat) : Prop where
  cells : P.cellsOf t = d.sz
  go : ∀ {H : Type} {enc : TypeId × Value → H} {w : World} {base : Nat} {spare : Nat → Bool} {held : Bool} {n : Nat} {cs : List Value} {x : DataW H × List MemPlace},
    DataW.trod enc P w base spare held n t cs = some x → (∀ m ∈ x.1.weights P t, m ≤ reachBytes) → ∃ v : α, d.K w v cs ∧ Sz v ∧ Bk v ≤ uptoBulk x.1

theorem opens_int {P : Program} {t : TypeId} {k : IntKind} (ht : P.underlying t = some (.int k)) (hc : P.cellsOf t = 1) : Opens P t (Kd.int k) (fun a => (Lit.int k a).wf = true) (fun _ => 1) := by
  refine ⟨hc, fun h _ => ?_⟩
  obtain ⟨a, rfl, rfl, hw⟩ := DataW.trod_int ht h
  exact ⟨a, rfl, hw, by simp [uptoBulk]⟩

theorem opens_string {P : Program} {t : TypeId} (ht : P.underlying t = some .string) (hc : P.cellsOf t = 1) : Opens P t Kd.string (fun s => s.size ≤ 140737488351232) (fun s => s.size + 1) := by
  refine ⟨hc, fun h hw => ?_⟩
  obtain ⟨a, rfl, rfl, hs⟩ := DataW.trod_string ht h
  have hl : a.data.toList.length = a.size := data_length a
  refine ⟨a, rfl, ?_, ?_⟩
  · have := hw a.data.toList.length (by simp [DataW.weights])
    rw [hl] at this
    exact this
  · simp only [uptoBulk]
    omega

theorem mem_weightsAll {H : Type} {P : Program} {e : TypeId} {d : DataW H} : ∀ {l : List (DataW H)}, d ∈ l → ∀ {m : Nat}, m ∈ d.weights P e → m ∈ DataW.weightsAll P e l
  | a :: l, h, m, hm => by
    simp only [DataW.weightsAll, List.mem_append]
    rcases List.mem_cons.1 h with rfl | h
    · exact .inl hm
    · exact .inr (mem_weightsAll h hm)
  | [], h, _, _ => by cases h

def bulkAll {α : Type} (Bk : α → Nat) (l : List α) : Nat := (l.map Bk).sum

theorem bulk_all_le {H α : Type} (Bk : α → Nat) : ∀ (xs : List α) (ds : List (DataW H)), xs.length = ds.length → (∀ (i : Nat) x d, xs[i]? = some x → ds[i]? = some d → Bk x ≤ uptoBulk d) → bulkAll Bk xs ≤ uptoBulkAll ds
  | [], [], _, _ => by simp [bulkAll, uptoBulkAll]
  | x :: xs, d :: ds, hl, h => by
    have h0 := h 0 x d rfl rfl
    have h1 := bulk_all_le Bk xs ds (by simpa using hl) (fun i x' d' hx hd => h (i + 1) x' d' (by simpa using hx) (by simpa using hd))
    simp only [bulkAll, uptoBulkAll, List.map_cons, List.sum_cons] at h1 ⊢
    omega
  | [], _ :: _, hl, _ => by simp at hl
  | _ :: _, [], hl, _ => by simp at hl

theorem opens_slice {α : Type} {P : Program} {t e : TypeId} {d : Kd α} {Sz : α → Prop} {Bk : α → Nat} {b : Nat} (ht : P.underlying t = some (.slice e)) (hc : P.cellsOf t = 1) (hb : P.bytesOf e = b) (ho : Opens P e d Sz Bk) :
    Opens P t (Kd.slice e d) (fun l => l.length * b ≤ 140737488351232 ∧ ∀ x ∈ l, Sz x) (fun l => bulkAll Bk l + 1) := by
  refine ⟨hc, ?_⟩
  intro H enc w base spare held n cs x h hw
  rcases Go.Deep.open_slice ht h with ⟨rfl, rfl⟩ | ⟨a, len, cap, m, n', D, Pl, rfl, _, hl, hm, hmm, rfl, hx⟩
  · exact ⟨[], ⟨none, 0, rfl, Nat.le_refl _, Kd.C_nil d w⟩, ⟨by simp, by simp⟩, by simp [bulkAll, uptoBulk]⟩
  · have hlm : len ≤ m := by rw [hmm]; split <;> omega
    have hel : ∀ i, i < len → ∃ v : α, (∃ cs', w.cells? base (a.add (i * P.cellsOf e)) (P.cellsOf e) = some cs' ∧ d.K w v cs') ∧ Sz v ∧ Bk v ≤ uptoBulk (D i) := by
      intro i hi
      obtain ⟨cs', h1, h2⟩ := hx i (by omega)
      obtain ⟨v, hv, hs, hbk⟩ := ho.go h2 (fun m' hm' => hw m' (by
        simp only [DataW.weights, ht, List.mem_cons, List.mem_append]
        exact .inr (.inl (mem_weightsAll (List.mem_map.2 ⟨i, List.mem_range.2 hi, rfl⟩) hm'))))
      exact ⟨v, ⟨cs', h1, hv⟩, hs, hbk⟩
    have hex : ∃ l : List α, l.length = len ∧ ∀ (i : Nat) v, l[i]? = some v → (∃ cs', w.cells? base (a.add (i * P.cellsOf e)) (P.cellsOf e) = some cs' ∧ d.K w v cs') ∧ Sz v ∧ Bk v ≤ uptoBulk (D i) := by
      clear hx hw h hmm hlm hl hm
      induction len with
      | zero => exact ⟨[], rfl, fun i v hv => by simp at hv⟩
      | succ k ih =>
        obtain ⟨l, h1, h2⟩ := ih (fun i hi => hel i (by omega))
        obtain ⟨v, hv⟩ := hel k (by omega)
        refine ⟨l ++ [v], by simp [h1], fun i u hu => ?_⟩
        by_cases hi : i < l.length
        · rw [List.getElem?_append_left hi] at hu
          exact h2 i u hu
        · have hik : i = l.length := by
            have := (List.getElem?_eq_some_iff.1 hu).1
            simp at this
            omega
          subst hik
          simp at hu
          subst hu
          rw [h1]
          exact hv
    obtain ⟨l, hll, hlv⟩ := hex
    subst hll
    refine ⟨l, ⟨some a, cap, rfl, hl, rfl, ?_, fun hp => ⟨a, rfl, fun j v hj => ?_⟩⟩, ⟨?_, ?_⟩, ?_⟩
    · have : maxLen ≤ 9223372036854775807 := by decide
      omega
    · obtain ⟨⟨cs', h1, h2⟩, _, _⟩ := hlv j v hj
      refine ⟨cs', d.K_len h2, h2, fun i u hu => ?_⟩
      obtain ⟨_, hlen, hcell⟩ := World.cells?_some h1
      have hi : i < cs'.length := (List.getElem?_eq_some_iff.1 hu).1
      have hsz := d.K_len h2
      rw [ho.cells] at hcell hlen
      have := hcell i (by omega)
      rw [hu] at this
      rw [← this, add_add]
    · have := hw ((((List.range l.length).map D).length + ((List.range (m - l.length)).map fun j => D (l.length + j)).length) * P.bytesOf e) (by simp [DataW.weights, ht])
      simp only [List.length_map, List.length_range] at this
      rw [hb] at this
      have h3 : reachBytes = 140737488351232 := by decide
      rw [h3] at this
      have h4 : l.length * b ≤ (l.length + (m - l.length)) * b := Nat.mul_le_mul_right _ (by omega)
      omega
    · intro v hv
      obtain ⟨i, hi, rfl⟩ := List.mem_iff_getElem.1 hv
      exact (hlv i _ (List.getElem?_eq_getElem hi)).2.1
    · have := bulk_all_le Bk l ((List.range l.length).map D) (by simp) (fun i v dd hv hd => by
        have hi : i < l.length := (List.getElem?_eq_some_iff.1 hv).1
        simp [hi] at hd
        rw [← hd]
        exact (hlv i v hv).2.2)
      simp only [uptoBulk]
      omega

/-! Structs: the fields, one behind the other. -/
def offs (P : Program) : List TypeId → Nat → Nat
  | [], _ => 0
  | _, 0 => 0
  | t :: ts, i + 1 => P.cellsOf t + offs P ts i

structure OpensF {α : Type} (P : Program) (ts : List TypeId) (d : Kd α) (Sz : α → Prop) (Bk : α → Nat) : Prop where
  cells : (ts.map P.cellsOf).sum = d.sz
  go : ∀ {H : Type} {enc : TypeId × Value → H} {w : World} {base : Nat} {spare : Nat → Bool} {held : Bool} {n : Nat} {cs : List Value} {xs : List (DataW H × List MemPlace)},
    cs.length = d.sz → xs.length = ts.length → (∀ (i : Nat) t, ts[i]? = some t → DataW.trod enc P w base spare held n t ((cs.drop (offs P ts i)).take (P.cellsOf t)) = xs[i]?) →
    (∀ m ∈ DataW.weightsEach P ts (xs.map (·.1)), m ≤ reachBytes) → ∃ v : α, d.K w v cs ∧ Sz v ∧ Bk v ≤ uptoBulkAll (xs.map (·.1))

theorem opensF_one {α : Type} {P : Program} {t : TypeId} {d : Kd α} {Sz : α → Prop} {Bk : α → Nat} (ho : Opens P t d Sz Bk) : OpensF P [t] d Sz Bk := by
  refine ⟨by simp [ho.cells], fun {H enc w base spare held n cs xs} hl hx h hw => ?_⟩
  match xs, hx with
  | [y], _ =>
    have h0 := h 0 t rfl
    rw [show offs P [t] 0 = 0 from rfl, List.drop_zero, List.take_of_length_le (by rw [ho.cells]; omega)] at h0
    obtain ⟨v, h1, h2, h3⟩ := ho.go h0 (fun m hm => hw m (by simp [DataW.weightsEach, hm]))
    exact ⟨v, h1, h2, by simpa [uptoBulkAll] using h3⟩

theorem opensF_cons {α β : Type} {P : Program} {t : TypeId} {ts : List TypeId} {d : Kd α} {ds : Kd β} {Sz : α → Prop} {Bk : α → Nat} {Szs : β → Prop} {Bks : β → Nat} (ho : Opens P t d Sz Bk) (hs : OpensF P ts ds Szs Bks) :
    OpensF P (t :: ts) (Kd.pair d ds) (fun x => Sz x.1 ∧ Szs x.2) (fun x => Bk x.1 + Bks x.2) := by
  refine ⟨by simp [ho.cells, hs.cells, Kd.pair], fun {H enc w base spare held n cs xs} hl hx h hw => ?_⟩
  match xs, hx with
  | y :: ys, hx =>
    have hl' : cs.length = d.sz + ds.sz := hl
    have h0 := h 0 t rfl
    rw [show offs P (t :: ts) 0 = 0 from rfl, List.drop_zero, ho.cells] at h0
    obtain ⟨v, h1, h2, h3⟩ := ho.go h0 (fun m hm => hw m (by simp [DataW.weightsEach, hm]))
    obtain ⟨u, g1, g2, g3⟩ := hs.go (cs := cs.drop d.sz) (xs := ys) (enc := enc) (w := w) (base := base) (spare := spare) (held := held) (n := n) (by rw [List.length_drop]; omega) (by simpa using hx) (fun i t' ht' => by
      have := h (i + 1) t' (by simpa using ht')
      rw [show offs P (t :: ts) (i + 1) = P.cellsOf t + offs P ts i from rfl, ho.cells] at this
      rw [List.drop_drop]
      simpa using this) (fun m hm => hw m (by simp only [List.map_cons, DataW.weightsEach, List.mem_append]; exact .inr hm))
    refine ⟨(v, u), ⟨cs.take d.sz, cs.drop d.sz, (List.take_append_drop _ _).symm, h1, g1⟩, ⟨h2, g2⟩, ?_⟩
    simp only [List.map_cons, uptoBulkAll]
    omega

theorem opens_struct {α β : Type} {P : Program} {t : TypeId} {fs : Array Field} {ts : List TypeId} {d : Kd α} {f : β → α} {Sz : α → Prop} {Bk : α → Nat} (ht : P.underlying t = some (.struct fs)) (hts : fs.toList.map (·.type) = ts)
    (hoff : ∀ (i : Nat) fl, fs[i]? = some fl → fl.offset = offs P ts i) (hc : P.cellsOf t = d.sz) (ho : OpensF P ts d Sz Bk) (g : α → β) (hg : ∀ v, f (g v) = v) :
    Opens P t (Kd.iso d f) (fun x => Sz (f x)) (fun x => Bk (f x) + 1) := by
  refine ⟨hc, fun {H enc w base spare held n cs x} h hw => ?_⟩
  obtain ⟨xs, n', _, rfl, hl, hlen, hf⟩ := DataW.trod_struct ht h
  have hlt : ts.length = fs.size := by rw [← hts]; simp
  obtain ⟨v, h1, h2, h3⟩ := ho.go (cs := cs) (xs := xs) (enc := enc) (w := w) (base := base) (spare := spare) (held := held) (n := n') (by rw [hl, hc]) (by omega) (fun i t' ht' => by
    have hi : i < fs.size := by rw [← hlt]; exact (List.getElem?_eq_some_iff.1 ht').1
    have hfi : fs[i]? = some fs[i] := Array.getElem?_eq_getElem hi
    have := hf i fs[i] hfi
    rw [hoff i _ hfi] at this
    have he : fs[i].type = t' := by
      rw [← hts, List.getElem?_map, Array.getElem?_toList, hfi] at ht'
      simpa using ht'
    rw [he] at this
    exact this) (fun m hm => hw m (by simp only [DataW.weights, ht, hts]; exact hm))
  exact ⟨g v, by show d.K w (f (g v)) cs; rw [hg]; exact h1, by rw [hg]; exact h2, by rw [hg]; simp only [uptoBulk]; omega⟩

end Go.Proofs.Ytcmnpjgmpgjbdaa.Open

-- ==== PO
set_option linter.unusedVariables false
namespace Go.Proofs.Ytcmnpjgmpgjbdaa.P
open Go.RowKit Go.Proofs.YtcmnpjgmpgjbdaaW.PrintWords Go.Proofs.Ytcmnpjgmpgjbdaa.Open
def sz9 (s : ByteArray) : Prop := s.size ≤ 140737488351232
def bk9 (s : ByteArray) : Nat := s.size + 1
theorem op9 : Opens Try.prog 9 Kd.string sz9 bk9 := opens_string Try.underlying9 (by kernel_rfl)
def sz3 (a : Int) : Prop := (Lit.int .i64 a).wf = true
def bk3 (_ : Int) : Nat := 1
theorem op3 : Opens Try.prog 3 (Kd.int .i64) sz3 bk3 := opens_int Try.underlying3 (by kernel_rfl)
def sz50 (x : S50) : Prop := sz9 x.f0 ∧ sz3 x.f1
def bk50 (x : S50) : Nat := (bk9 x.f0 + bk3 x.f1) + 1
theorem op50 : Opens Try.prog 50 k50 sz50 bk50 := opens_struct (P := Try.prog) (ts := [9, 3]) (f := fun x : S50 => (x.f0, x.f1)) Try.underlying50 (by kernel_rfl) (fun i fl h => by
    match i, h with
    | 0, h => obtain rfl := Option.some.inj h; show (0 : Nat) = offs Try.prog [9, 3] 0; kernel_rfl
    | 1, h => obtain rfl := Option.some.inj h; show (1 : Nat) = offs Try.prog [9, 3] 1; kernel_rfl
    | i + 2, h => simp at h) (by kernel_rfl) (opensF_cons op9 (opensF_one op3)) (fun x => ⟨x.1, x.2⟩) (fun _ => rfl)
def sz23 (l : List (S50)) : Prop := l.length * 24 ≤ 140737488351232 ∧ ∀ x ∈ l, sz50 x
def bk23 (l : List (S50)) : Nat := bulkAll bk50 l + 1
theorem op23 : Opens Try.prog 23 (Kd.slice 50 k50) sz23 bk23 := opens_slice Try.underlying23 (by kernel_rfl) (by kernel_rfl) op50
def sz40 (l : List (List (S50))) : Prop := l.length * 24 ≤ 140737488351232 ∧ ∀ x ∈ l, sz23 x
def bk40 (l : List (List (S50))) : Nat := bulkAll bk23 l + 1
theorem op40 : Opens Try.prog 40 (Kd.slice 23 (Kd.slice 50 k50)) sz40 bk40 := opens_slice Try.underlying40 (by kernel_rfl) (by kernel_rfl) op23
end Go.Proofs.Ytcmnpjgmpgjbdaa.P

-- ==== PS7
namespace Go.Proofs.Ytcmnpjgmpgjbdaa.P
open Go.RowKit Go.Proofs.YtcmnpjgmpgjbdaaW.PrintWords
def aumbrylaw04_TermMakes.Pure : Prop := ∀ (a0 : ByteArray) (l1 : List (List (S50))) (l2 : List (S50)), sz9 a0 → sz40 l1 → sz23 l2 → ∃ k, aumbrylaw04_TermMakes.f k a0 l1 l2 = some true
end Go.Proofs.Ytcmnpjgmpgjbdaa.P

-- ==== PLa
/- Plain laws, part a: what kind a text is: the program's way and the document's way come to one function. -/
namespace Go.Proofs.Ytcmnpjgmpgjbdaa.P
open Go.RowKit Go.Proofs.YtcmnpjgmpgjbdaaW.PrintWords
set_option linter.unusedVariables false
set_option linter.unusedSimpArgs false

theorem wrap_up {i : Int} (h0 : 0 ≤ i) (h : i < 9223372036854775807) : wrap64 (i + 1) = i + 1 := by
  unfold wrap64
  omega
theorem wrap_id {i : Int} (h0 : -9223372036854775808 ≤ i) (h : i ≤ 9223372036854775807) : wrap64 i = i := by
  unfold wrap64
  omega

theorem evIfp {α : Type} {c : Prop} [Decidable c] {f g : Nat → Option α} {r : α} (h : c) (hf : Ev f r) : Ev (fun k => if c then f k else g k) r :=
  Ev.congr (fun _ => if_pos h) hf
theorem evIfn {α : Type} {c : Prop} [Decidable c] {f g : Nat → Option α} {r : α} (h : ¬ c) (hf : Ev g r) : Ev (fun k => if c then f k else g k) r :=
  Ev.congr (fun _ => if_neg h) hf
theorem evIs {α : Type} {x : Option α} {a : α} (h : x = some a) : Ev (fun _ => x) a := ⟨0, fun _ _ => h⟩

def lowB (s : ByteArray) (i : Int) : Bool := (decide (97 ≤ bt s i) && decide (bt s i ≤ 122)) || (decide (48 ≤ bt s i) && decide (bt s i ≤ 57) && decide (0 < i))
def upB (s : ByteArray) (i : Int) : Bool := (decide (65 ≤ bt s i) && decide (bt s i ≤ 90)) || (decide (48 ≤ bt s i) && decide (bt s i ≤ 57) && decide (0 < i))
/-- p holds at i, i + 1, .. (d places). -/
def allN (p : Int → Bool) : Nat → Int → Bool
  | 0, _ => true
  | d + 1, i => p i && allN p d (i + 1)
theorem allN_congr {p q : Int → Bool} : ∀ (d : Nat) (i : Int), (∀ j, i ≤ j → j < i + d → p j = q j) → allN p d i = allN q d i
  | 0, _, _ => rfl
  | d + 1, i, h => by
    simp only [allN]
    rw [h i (Int.le_refl _) (by omega), allN_congr d (i + 1) (fun j h1 h2 => h j (by omega) (by omega))]
def kindS (s : ByteArray) : Int :=
  if s.size < 1 ∨ 8 < s.size then 0 else if allN (lowB s) s.size 0 = true then 1 else if allN (upB s) s.size 0 = true then 2 else 0

theorem kindS_bad {s : ByteArray} (h : s.size < 1 ∨ 8 < s.size) : kindS s = 0 := by
  unfold kindS
  exact if_pos h
theorem kindS_good {s : ByteArray} (h1 : 1 ≤ s.size) (h8 : s.size ≤ 8) : kindS s = (if allN (lowB s) s.size 0 = true then 1 else if allN (upB s) s.size 0 = true then 2 else 0) := by
  unfold kindS
  exact if_neg (by omega)
/-! ### the document's -/
theorem refKind_step (k : Nat) (s : ByteArray) (a b : Bool) (i : Int) (h0 : 0 ≤ i) (h1 : i < (s.size : Int)) :
    aumbryref03_Kind.l0 (k + 1) s a b i = aumbryref03_Kind.l0 k s (a && lowB s i) (b && upB s i) (wrap64 (i + 1)) := by
  simp only [aumbryref03_Kind.l0]
  rw [if_pos h1, if_pos h0]
  unfold lowB upB
  generalize bt s i = c
  by_cases c1 : c ≥ 48 <;> by_cases c2 : c ≤ 57 <;> by_cases c3 : c ≥ 97 <;> by_cases c4 : c ≤ 122 <;> by_cases c5 : c ≥ 65 <;> by_cases c6 : c ≤ 90 <;> first | (exfalso; omega) | (cases a <;> cases b <;> simp [c1, c2, c3, c4, c5, c6])
theorem refKind_end (k : Nat) (s : ByteArray) (a b : Bool) (i : Int) (h1 : ¬ i < (s.size : Int)) :
    aumbryref03_Kind.l0 (k + 1) s a b i = some (if a = true then 1 else if b = true then 2 else 0) := by
  simp only [aumbryref03_Kind.l0]
  rw [if_neg h1]
  cases a <;> cases b <;> rfl
theorem refKind_loop (s : ByteArray) (hs : s.size ≤ 8) : ∀ (d : Nat) (k : Nat) (a b : Bool) (i : Int), 0 ≤ i → (s.size : Int) - i = d → d < k →
    aumbryref03_Kind.l0 k s a b i = some (if (a && allN (lowB s) d i) = true then 1 else if (b && allN (upB s) d i) = true then 2 else 0)
  | 0, k, a, b, i, h0, hd, hk => by
    obtain ⟨k, rfl⟩ : ∃ m, k = m + 1 := ⟨k - 1, by omega⟩
    rw [refKind_end k s a b i (by omega)]
    simp [allN]
  | d + 1, k, a, b, i, h0, hd, hk => by
    obtain ⟨k, rfl⟩ : ∃ m, k = m + 1 := ⟨k - 1, by omega⟩
    rw [refKind_step k s a b i h0 (by omega), wrap_up h0 (by omega), refKind_loop s hs d k _ _ (i + 1) (by omega) (by omega) (by omega)]
    simp [allN, Bool.and_assoc]
theorem ev_refKind (s : ByteArray) : Ev (fun k => aumbryref03_Kind.f k s) (kindS s) := by
  refine ⟨12, fun k hk => ?_⟩
  show aumbryref03_Kind.f k s = _
  unfold aumbryref03_Kind.f
  obtain ⟨k, rfl⟩ : ∃ m, k = m + 1 := ⟨k - 1, by omega⟩
  by_cases h1 : (s.size : Int) < 1
  · rw [if_pos h1]
    simp [aumbryref03_Kind.j0, kindS_bad (s := s) (.inl (by omega))]
  · rw [if_neg h1]
    simp only [aumbryref03_Kind.j0]
    by_cases h2 : (s.size : Int) > 8
    · rw [if_pos (by simpa using h2), kindS_bad (s := s) (.inr (by omega))]
    · rw [kindS_good (s := s) (by omega) (by omega), if_neg (by simpa using h2), refKind_loop s (by omega) s.size k true true 0 (by omega) (by omega) (by omega)]
      simp

/-! ### the program's -/
def signS (c : Int) : Int × Int := if 97 ≤ c ∧ c ≤ 122 then (1, 1) else if 65 ≤ c ∧ c ≤ 90 then (2, 2) else if 48 ≤ c ∧ c ≤ 57 then (0, 3) else (0, 0)
theorem sign_at (c : Int) (k : Nat) (hk : 2 ≤ k) : name_sign.f k c = some (signS c) := by
  obtain ⟨k, rfl⟩ : ∃ m, k = m + 2 := ⟨k - 2, by omega⟩
  unfold name_sign.f signS
  by_cases c1 : c ≥ 48 <;> by_cases c2 : c ≤ 57 <;> by_cases c3 : c ≥ 97 <;> by_cases c4 : c ≤ 122 <;> by_cases c5 : c ≥ 65 <;> by_cases c6 : c ≤ 90 <;> first | (exfalso; omega) | (simp [name_sign.j0, name_sign.j1, c1, c2, c3, c4, c5, c6])
theorem bits_and_ (a b : Int) (ha : a = 0 ∨ a = 1 ∨ a = 2 ∨ a = 3) (hb : b = 0 ∨ b = 1 ∨ b = 2) : (Go.bits .and .i64 a b = 0) ↔ (b = 0 ∨ (b = 1 ∧ (a = 0 ∨ a = 2)) ∨ (b = 2 ∧ (a = 0 ∨ a = 1))) := by
  rcases ha with rfl | rfl | rfl | rfl <;> rcases hb with rfl | rfl | rfl <;> decide
def goesB (s : ByteArray) (b : Int) (i : Int) : Bool := decide (¬ (Go.bits .and .i64 (signS (bt s i)).2 b = 0))
theorem kind_loop (s : ByteArray) (b : Int) (hs : s.size ≤ 8) : ∀ (d : Nat) (k : Nat) (i : Int), 0 ≤ i → (s.size : Int) - i = d → d + 2 < k →
    name_Kind.l0 k s b (s.size : Int) i = some (if allN (goesB s b) d i = true then b else 0)
  | 0, k, i, h0, hd, hk => by
    obtain ⟨k, rfl⟩ : ∃ m, k = m + 1 := ⟨k - 1, by omega⟩
    simp only [name_Kind.l0]
    rw [if_neg (by omega)]
    simp [allN]
  | d + 1, k, i, h0, hd, hk => by
    obtain ⟨k, rfl⟩ : ∃ m, k = m + 1 := ⟨k - 1, by omega⟩
    simp only [name_Kind.l0]
    rw [if_pos (by omega), if_pos h0, if_pos (by omega), sign_at _ _ (by omega)]
    simp only [Option.bind_some]
    by_cases hg : Go.bits .and .i64 (signS (bt s i)).2 b = 0
    · rw [if_pos hg]
      simp [allN, goesB, hg]
    · rw [if_neg hg, wrap_up h0 (by omega), kind_loop s b hs d k (i + 1) (by omega) (by omega) (by omega)]
      simp [allN, goesB, hg]
theorem signS_two (c : Int) : (signS c).2 = 0 ∨ (signS c).2 = 1 ∨ (signS c).2 = 2 ∨ (signS c).2 = 3 := by
  unfold signS
  repeat' split
  all_goals simp
theorem goes_one (s : ByteArray) (i : Int) (hi : 0 < i) : goesB s 1 i = lowB s i := by
  have h := bits_and_ (signS (bt s i)).2 1 (signS_two _) (by simp)
  unfold goesB lowB
  rw [Bool.eq_iff_iff]
  simp only [decide_eq_true_eq, h, Bool.or_eq_true, Bool.and_eq_true]
  unfold signS
  repeat' split
  all_goals simp
  all_goals omega
theorem goes_two (s : ByteArray) (i : Int) (hi : 0 < i) : goesB s 2 i = upB s i := by
  have h := bits_and_ (signS (bt s i)).2 2 (signS_two _) (by simp)
  unfold goesB upB
  rw [Bool.eq_iff_iff]
  simp only [decide_eq_true_eq, h, Bool.or_eq_true, Bool.and_eq_true]
  unfold signS
  repeat' split
  all_goals simp
  all_goals omega
theorem kind_eq (s : ByteArray) (h1 : 1 ≤ s.size) (h8 : s.size ≤ 8) : (if allN (goesB s (signS (bt s 0)).1) s.size 0 = true then (signS (bt s 0)).1 else 0) = kindS s := by
  rw [kindS_good h1 h8]
  obtain ⟨n, hn⟩ : ∃ n, s.size = n + 1 := ⟨s.size - 1, by omega⟩
  have e1 : allN (goesB s 1) n (0 + 1) = allN (lowB s) n (0 + 1) := allN_congr _ _ (fun j h1 _ => goes_one s j (by omega))
  have e2 : allN (goesB s 2) n (0 + 1) = allN (upB s) n (0 + 1) := allN_congr _ _ (fun j h1 _ => goes_two s j (by omega))
  by_cases hl : 97 ≤ bt s 0 ∧ bt s 0 ≤ 122
  · have hs : signS (bt s 0) = (1, 1) := by unfold signS; rw [if_pos hl]
    have g0 : goesB s 1 0 = true := by unfold goesB; rw [hs]; decide
    have l0 : lowB s 0 = true := by unfold lowB; simp [hl]
    have u0 : upB s 0 = false := by unfold upB; simp; omega
    simp only [hn, hs, allN, e1, g0, l0, u0, Bool.true_and, Bool.false_and]
    split <;> simp
  · by_cases hu : 65 ≤ bt s 0 ∧ bt s 0 ≤ 90
    · have hs : signS (bt s 0) = (2, 2) := by unfold signS; rw [if_neg hl, if_pos hu]
      have g0 : goesB s 2 0 = true := by unfold goesB; rw [hs]; decide
      have l0 : lowB s 0 = false := by unfold lowB; simp; omega
      have u0 : upB s 0 = true := by unfold upB; simp [hu]
      simp only [hn, hs, allN, e2, g0, l0, u0, Bool.true_and, Bool.false_and]
      simp
    · have hs : (signS (bt s 0)).1 = 0 := by unfold signS; rw [if_neg hl, if_neg hu]; split <;> rfl
      have l0 : lowB s 0 = false := by unfold lowB; simp; omega
      have u0 : upB s 0 = false := by unfold upB; simp; omega
      simp only [hn, hs, allN, l0, u0, Bool.true_and, Bool.false_and]
      simp
theorem toList_nil (s : ByteArray) : s.toList = ([] : List UInt8) ↔ s.size = 0 := by
  rw [ByteArray.toList_eq]
  constructor
  · intro h
    have := congrArg List.length h
    simpa [data_length] using this
  · intro h
    apply List.eq_nil_of_length_eq_zero
    rw [data_length]
    exact h
theorem ev_kind (s : ByteArray) : Ev (fun k => name_Kind.f k s) (kindS s) := by
  refine ⟨16, fun k hk => ?_⟩
  show name_Kind.f k s = _
  unfold name_Kind.f
  obtain ⟨k, rfl⟩ : ∃ m, k = m + 1 := ⟨k - 1, by omega⟩
  by_cases h1 : s.toList = ([] : List UInt8)
  · rw [if_pos h1]
    have := (toList_nil s).1 h1
    simp [name_Kind.j0, kindS_bad (s := s) (.inl (by omega))]
  · have h1' : s.size ≠ 0 := fun h => h1 ((toList_nil s).2 h)
    rw [if_neg h1]
    simp only [name_Kind.j0]
    by_cases h2 : (s.size : Int) > 8
    · rw [if_pos (by simpa using h2), kindS_bad (s := s) (.inr (by omega))]
    · rw [if_neg (by simpa using h2), if_pos (by omega), sign_at _ _ (by omega)]
      simp only [Option.bind_some]
      rw [kind_loop s _ (by omega) s.size k 0 (by omega) (by omega) (by omega), kind_eq s (by omega) (by omega)]
end Go.Proofs.Ytcmnpjgmpgjbdaa.P

-- ==== PLb
/- Plain laws, part b: a list of cells as terms one behind the other; whether it is a term (both ways come to one function). -/
namespace Go.Proofs.Ytcmnpjgmpgjbdaa.P
open Go.RowKit Go.Proofs.YtcmnpjgmpgjbdaaW.PrintWords
set_option linter.unusedVariables false
set_option linter.unusedSimpArgs false

abbrev Cel := S50
instance celEq : DecidableEq Cel := fun a b =>
  if h : a.f0 = b.f0 ∧ a.f1 = b.f1 then isTrue (by cases a; cases b; simp only at h; rw [h.1, h.2]) else isFalse (fun e => h (by rw [e]; exact ⟨rfl, rfl⟩))
theorem drop_cons {α : Type} {t : List α} {n : Nat} {c : α} {s : List α} (h : t.drop n = c :: s) : n < t.length ∧ (∀ d, t.getD n d = c) ∧ t.drop (n + 1) = s := by
  have h1 : n < t.length := by
    rcases Nat.lt_or_ge n t.length with h1 | h1
    · exact h1
    · rw [List.drop_eq_nil_of_le h1] at h
      cases h
  rw [List.drop_eq_getElem_cons h1] at h
  injection h with h2 h3
  exact ⟨h1, fun d => by rw [List.getD_eq_getElem?_getD, List.getElem?_eq_getElem h1]; exact h2, h3⟩
theorem drop_nil_len {α : Type} {t : List α} {n : Nat} (hn : n ≤ t.length) (h : t.drop n = []) : n = t.length := by
  have := congrArg List.length h
  simp at this
  omega
theorem rd_cel {t : List Cel} {n : Nat} {c : Cel} {s : List Cel} (h : t.drop n = c :: s) : rd_T50 t (n : Int) = c := by
  unfold rd_T50
  exact (drop_cons h).2.1 _

def ar (c : Cel) : Nat := c.f1.toNat
def cellErr (c : Cel) : Int := if kindS c.f0 = 0 then 4 else if c.f1 < 0 then 5 else if c.f1 > 4 then 5 else if kindS c.f0 = 2 then (if c.f1 > 0 then 5 else 0) else 0
def errs : List Cel → Int
  | [] => 0
  | c :: l => if cellErr c = 0 then errs l else cellErr c
/-- What is left behind the first n terms. -/
def segN : List Cel → Nat → Option (List Cel)
  | l, 0 => some l
  | [], _ + 1 => none
  | c :: l, n + 1 => segN l (n + ar c)
def checkS (t : List Cel) : Int := if t.length > 64 then 6 else if errs t = 0 then (if segN t 1 = some [] then 0 else 3) else errs t

theorem segN_zero (l : List Cel) : segN l 0 = some l := by cases l <;> rfl
theorem segN_add : ∀ (l : List Cel) (a b : Nat), segN l (a + b) = (segN l a).bind fun r => segN r b
  | l, 0, b => by rw [segN_zero]; simp
  | [], a + 1, b => by rw [show a + 1 + b = (a + b) + 1 by omega]; rfl
  | c :: l, a + 1, b => by
    rw [show a + 1 + b = (a + b) + 1 by omega]
    show segN l (a + b + ar c) = (segN l (a + ar c)).bind _
    rw [show a + b + ar c = (a + ar c) + b by omega]
    exact segN_add l (a + ar c) b
theorem segN_len : ∀ {l r : List Cel} {n : Nat}, segN l n = some r → r.length ≤ l.length ∧ (0 < n → r.length < l.length)
  | l, r, 0, h => by
    rw [segN_zero] at h
    injection h with h
    subst h
    exact ⟨Nat.le_refl _, fun h => absurd h (by omega)⟩
  | [], r, n + 1, h => by cases h
  | c :: l, r, n + 1, h => by
    have := (segN_len (l := l) (r := r) (n := n + ar c) h).1
    simp only [List.length_cons]
    exact ⟨by omega, fun _ => by omega⟩
theorem segN_suffix : ∀ {l r : List Cel} {n : Nat}, segN l n = some r → ∃ m, m ≤ l.length ∧ l.drop m = r
  | l, r, 0, h => by
    rw [segN_zero] at h
    injection h with h
    exact ⟨0, by omega, h⟩
  | [], r, n + 1, h => by cases h
  | c :: l, r, n + 1, h => by
    obtain ⟨m, h1, h2⟩ := segN_suffix (l := l) (r := r) (n := n + ar c) h
    exact ⟨m + 1, by simp; omega, h2⟩

/-- What the cells of a term that is right are. -/
structure Okc (c : Cel) : Prop where
  kind : kindS c.f0 ≠ 0
  lo : 0 ≤ c.f1
  hi : c.f1 ≤ 4
  var : kindS c.f0 = 2 → c.f1 = 0
theorem okc_of {c : Cel} (h : cellErr c = 0) : Okc c := by
  unfold cellErr at h
  by_cases h1 : kindS c.f0 = 0
  · rw [if_pos h1] at h; cases h
  · rw [if_neg h1] at h
    by_cases h2 : c.f1 < 0
    · rw [if_pos h2] at h; cases h
    · rw [if_neg h2] at h
      by_cases h3 : c.f1 > 4
      · rw [if_pos h3] at h; cases h
      · rw [if_neg h3] at h
        refine ⟨h1, by omega, by omega, fun hk => ?_⟩
        rw [if_pos hk] at h
        by_cases h4 : c.f1 > 0
        · rw [if_pos h4] at h; cases h
        · omega
theorem errs_ok : ∀ {l : List Cel}, errs l = 0 → ∀ c ∈ l, Okc c
  | [], _, _, h => by cases h
  | a :: l, h, c, hc => by
    unfold errs at h
    by_cases h1 : cellErr a = 0
    · rw [if_pos h1] at h
      rcases List.mem_cons.1 hc with rfl | hc
      · exact okc_of h1
      · exact errs_ok h c hc
    · rw [if_neg h1] at h
      exact absurd h h1
/-! ### the program's: behind, Check -/
theorem ev_cell (c : Cel) : Ev (fun k => term_cell.f k c.f0 c.f1) (cellErr c) := by
  unfold term_cell.f
  refine Ev.bind (ev_kind c.f0) ?_
  refine Ev.congr (f := fun _ => some (cellErr c)) (fun k => ?_) (Ev.now _)
  unfold cellErr
  simp only [apply_ite some]
/-- The place behind n terms that begin at 'at'; -1: they have no end. -/
def behS (t : List Cel) (a n : Nat) : Int := match segN (t.drop a) n with
  | none => -1
  | some r => ((t.length - r.length : Nat) : Int)
theorem ev_behind_loop (t : List Cel) (ht : t.length ≤ 64) (hok : ∀ c ∈ t, Okc c) : ∀ (s : List Cel) (a n : Nat), a ≤ t.length → t.drop a = s → n ≤ 1 + 4 * a →
    Ev (fun k => term_behind.l0 k t (a : Int) (n : Int)) (behS t a n)
  | s, a, 0, ha, hs, hn => by
    refine Ev.step (f := fun _ => some (a : Int)) (fun k => by simp only [term_behind.l0]; rw [if_neg (by omega)]) ?_
    have : behS t a 0 = (a : Int) := by
      unfold behS
      rw [segN_zero]
      simp only [List.length_drop]
      omega
    rw [this]
    exact Ev.now _
  | [], a, n + 1, ha, hs, hn => by
    have hl := drop_nil_len ha hs
    refine Ev.step (f := fun _ => some (-1 : Int)) (fun k => by simp only [term_behind.l0]; rw [if_pos (by omega), if_pos (by omega)]) ?_
    have : behS t a (n + 1) = -1 := by
      unfold behS
      rw [hs]
      rfl
    rw [this]
    exact Ev.now _
  | c :: s, a, n + 1, ha, hs, hn => by
    obtain ⟨h1, h2, h3⟩ := drop_cons hs
    have hc : Okc c := hok c (List.mem_of_mem_drop (hs ▸ List.mem_cons_self ..))
    have har : (ar c : Int) = c.f1 := by unfold ar; have := hc.lo; omega
    have hh := hc.hi
    have hl0 := hc.lo
    refine Ev.step (f := fun k => term_behind.l0 k t ((a + 1 : Nat) : Int) ((n + ar c : Nat) : Int)) (fun k => ?_) ?_
    · simp only [term_behind.l0]
      rw [if_pos (by omega), if_neg (by omega), if_pos (by omega), if_pos (by omega), rd_cel hs, wrap_up (by omega) (by omega)]
      have e : wrap64 (((n + 1 : Nat) : Int) + wrap64 (c.f1 - 1)) = ((n + ar c : Nat) : Int) := by
        rw [wrap_id (i := c.f1 - 1) (by omega) (by omega), wrap_id (by omega) (by omega)]
        omega
      rw [e]
      rfl
    · have : behS t a (n + 1) = behS t (a + 1) (n + ar c) := by
        unfold behS
        rw [hs, h3]
        rfl
      rw [this]
      exact ev_behind_loop t ht hok s (a + 1) (n + ar c) (by omega) h3 (by omega)
theorem ev_behind (t : List Cel) (ht : t.length ≤ 64) (hok : ∀ c ∈ t, Okc c) (a : Nat) (ha : a ≤ t.length) : Ev (fun k => term_behind.f k t (a : Int)) (behS t a 1) := by
  unfold term_behind.f
  exact ev_behind_loop t ht hok _ a 1 ha rfl (by omega)
theorem behS_whole (t : List Cel) : (behS t 0 1 = (t.length : Int)) ↔ segN t 1 = some [] := by
  unfold behS
  rw [List.drop_zero]
  cases h : segN t 1 with
  | none => simp
  | some r =>
    have := segN_len h
    simp only [Option.some.injEq]
    constructor
    · intro h1
      apply List.eq_nil_of_length_eq_zero
      omega
    · rintro rfl
      simp
theorem ev_check_loop (t : List Cel) (ht : t.length ≤ 64) : ∀ (s : List Cel) (a : Nat), a ≤ t.length → t.drop a = s → (∀ c ∈ t.take a, Okc c) →
    Ev (fun k => term_Check.l0 k t t (t.length : Int) (a : Int)) (if errs s = 0 then (if segN t 1 = some [] then 0 else 3) else errs s)
  | [], a, ha, hs, hok => by
    have hl := drop_nil_len ha hs
    rw [hl, List.take_length] at hok
    refine Ev.step (f := fun k => (term_behind.f k t 0).bind fun r => (if r = (t.length : Int) then (some 0) else (some 3))) (fun k => by simp only [term_Check.l0]; rw [if_neg (by omega)]) ?_
    refine Ev.bind (ev_behind t ht hok 0 (by omega)) ?_
    refine Ev.congr (f := fun _ => some (if segN t 1 = some [] then 0 else 3)) (fun k => ?_) (Ev.now _)
    by_cases h : segN t 1 = some []
    · rw [if_pos ((behS_whole t).2 h), if_pos h]
    · rw [if_neg (fun h' => h ((behS_whole t).1 h')), if_neg h]
  | c :: s, a, ha, hs, hok => by
    obtain ⟨h1, h2, h3⟩ := drop_cons hs
    refine Ev.step (f := fun k => (term_cell.f k c.f0 c.f1).bind fun e => (if e = 0 then (term_Check.l0 k t t (t.length : Int) ((a + 1 : Nat) : Int)) else (some e))) (fun k => ?_) ?_
    · simp only [term_Check.l0]
      rw [if_pos (by omega), if_pos (by omega), if_pos (by omega), rd_cel hs, wrap_up (by omega) (by omega)]
      rfl
    · refine Ev.bind (ev_cell c) ?_
      by_cases he : cellErr c = 0
      · refine Ev.congr (f := fun k => term_Check.l0 k t t (t.length : Int) ((a + 1 : Nat) : Int)) (fun k => by rw [if_pos he]) ?_
        have : errs (c :: s) = errs s := by simp only [errs]; rw [if_pos he]
        rw [this]
        refine ev_check_loop t ht s (a + 1) (by omega) h3 (fun x hx => ?_)
        rw [List.take_succ_eq_append_getElem h1] at hx
        rcases List.mem_append.1 hx with hx | hx
        · exact hok x hx
        · have hce : t[a] = c := by have := h2 c; rw [List.getD_eq_getElem?_getD, List.getElem?_eq_getElem h1] at this; exact this
          rw [List.mem_singleton.1 hx, hce]
          exact okc_of he
      · refine Ev.congr (f := fun _ => some (cellErr c)) (fun k => by rw [if_neg he]) ?_
        have : errs (c :: s) = cellErr c := by simp only [errs]; rw [if_neg he]
        rw [this, if_neg he]
        exact Ev.now _
theorem ev_check (t : List Cel) : Ev (fun k => term_Check.f k t) (checkS t) := by
  unfold term_Check.f checkS
  by_cases h : t.length > 64
  · rw [if_pos h]
    exact Ev.congr (f := fun _ => some 6) (fun k => if_pos (by omega)) (Ev.now _)
  · rw [if_neg h]
    exact Ev.congr (f := fun k => term_Check.l0 k t t (t.length : Int) ((0 : Nat) : Int)) (fun k => if_neg (by omega)) (ev_check_loop t (by omega) t 0 (by omega) rfl (by simp))

/-! ### the document's: Behind, Check -/
theorem ev_refBehind_at : ∀ (d : Nat) (t : List Cel) (ht : t.length ≤ 64) (hok : ∀ c ∈ t, Okc c) (a : Nat), t.length - a = d → a ≤ t.length → Ev (fun k => aumbryref04_Behind.f k t (a : Int)) (behS t a 1) := by
  intro d
  induction d using Nat.strongRecOn with
  | _ d ih =>
  intro t ht hok a hd ha
  rcases hs : t.drop a with _ | ⟨c, s⟩
  · have hl := drop_nil_len ha hs
    refine Ev.step (f := fun k => aumbryref04_Behind.j0 k t (a : Int) true) (fun k => by simp only [aumbryref04_Behind.f]; rw [if_neg (by omega)]; congr 1; simp; omega) ?_
    refine Ev.step (f := fun k => some (-1)) (fun k => by simp only [aumbryref04_Behind.j0]; rfl) ?_
    have : behS t a 1 = -1 := by
      unfold behS
      rw [hs]
      rfl
    rw [this]
    exact Ev.now _
  · obtain ⟨h1, h2, h3⟩ := drop_cons hs
    have hc : Okc c := hok c (List.mem_of_mem_drop (hs ▸ List.mem_cons_self ..))
    have har : (ar c : Int) = c.f1 := by unfold ar; have := hc.lo; omega
    have hh := hc.hi
    have hl0 := hc.lo
    refine Ev.step (f := fun k => aumbryref04_Behind.j0 k t (a : Int) false) (fun k => by simp only [aumbryref04_Behind.f]; rw [if_neg (by omega)]; congr 1; simp; omega) ?_
    refine Ev.step (f := fun k => aumbryref04_Behind.l0 k t ((a + 1 : Nat) : Int) (ar c : Int) 0) (fun k => by
      simp only [aumbryref04_Behind.j0]
      rw [if_neg (by simp), if_pos (by omega), if_pos (by omega), rd_cel hs, wrap_up (by omega) (by omega), har]
      rfl) ?_
    have loop : ∀ (m : Nat) (b i : Nat), t.length - b < d → b ≤ t.length → i + m = ar c → Ev (fun k => aumbryref04_Behind.l0 k t (b : Int) (ar c : Int) (i : Int)) (behS t b m) := by
      intro m
      induction m with
      | zero =>
        intro b i hb hbl hi
        refine Ev.step (f := fun _ => some (b : Int)) (fun k => by simp only [aumbryref04_Behind.l0]; rw [if_neg (by omega)]) ?_
        have : behS t b 0 = (b : Int) := by
          unfold behS
          rw [segN_zero]
          simp only [List.length_drop]
          omega
        rw [this]
        exact Ev.now _
      | succ m ihm =>
        intro b i hb hbl hi
        refine Ev.step (f := fun k => (aumbryref04_Behind.f k t (b : Int)).bind fun r => aumbryref04_Behind.l0 k t r (ar c : Int) ((i + 1 : Nat) : Int)) (fun k => by
          simp only [aumbryref04_Behind.l0]
          rw [if_pos (by omega), if_pos (by omega), wrap_up (by omega) (by omega)]
          rfl) ?_
        refine Ev.bind (ih _ hb t ht hok b rfl hbl) ?_
        have hadd : segN (t.drop b) (m + 1) = (segN (t.drop b) 1).bind fun r => segN r m := by rw [show m + 1 = 1 + m by omega]; exact segN_add _ _ _
        cases hr : segN (t.drop b) 1 with
        | none =>
          have e1 : behS t b 1 = -1 := by unfold behS; rw [hr]
          have e2 : behS t b (m + 1) = -1 := by unfold behS; rw [hadd, hr]; rfl
          rw [e1, e2]
          refine Ev.step (f := fun _ => some (-1 : Int)) (fun k => ?_) (Ev.now _)
          simp only [aumbryref04_Behind.l0]
          split <;> simp
        | some r =>
          obtain ⟨q, hq1, hq2⟩ := segN_suffix hr
          rw [List.drop_drop] at hq2
          have hlen := segN_len hr
          simp only [List.length_drop] at hlen hq1
          have hrl : r.length = t.length - (b + q) := by rw [← hq2, List.length_drop]
          have e1 : behS t b 1 = ((b + q : Nat) : Int) := by unfold behS; rw [hr]; simp only; omega
          have e2 : behS t b (m + 1) = behS t (b + q) m := by unfold behS; rw [hadd, hr, hq2]; rfl
          rw [e1, e2]
          exact ihm (b + q) (i + 1) (by omega) (by omega) (by omega)
    have : behS t a 1 = behS t (a + 1) (ar c) := by
      unfold behS
      rw [hs, h3]
      show (match segN s (0 + ar c) with | none => (-1 : Int) | some r => _) = _
      rw [Nat.zero_add]
    rw [this]
    exact loop (ar c) (a + 1) 0 (by omega) (by omega) (by omega)
theorem ev_refBehind (t : List Cel) (ht : t.length ≤ 64) (hok : ∀ c ∈ t, Okc c) (a : Nat) (ha : a ≤ t.length) : Ev (fun k => aumbryref04_Behind.f k t (a : Int)) (behS t a 1) := ev_refBehind_at _ t ht hok a rfl ha
theorem ev_refCheck_loop (t : List Cel) (ht : t.length ≤ 64) : ∀ (s : List Cel) (a : Nat), a ≤ t.length → t.drop a = s → (∀ c ∈ t.take a, Okc c) →
    Ev (fun k => aumbryref04_Check.l0 k t (t.length : Int) (a : Int)) (if errs s = 0 then (if segN t 1 = some [] then 0 else 3) else errs s)
  | [], a, ha, hs, hok => by
    have hl := drop_nil_len ha hs
    rw [hl, List.take_length] at hok
    refine Ev.step (f := fun k => (aumbryref04_Behind.f k t 0).bind fun r => (if r = (t.length : Int) then (some 0) else (some 3))) (fun k => by simp only [aumbryref04_Check.l0]; rw [if_neg (by omega)]) ?_
    refine Ev.bind (ev_refBehind t ht hok 0 (by omega)) ?_
    refine Ev.congr (f := fun _ => some (if segN t 1 = some [] then 0 else 3)) (fun k => ?_) (Ev.now _)
    by_cases h : segN t 1 = some []
    · rw [if_pos ((behS_whole t).2 h), if_pos h]
    · rw [if_neg (fun h' => h ((behS_whole t).1 h')), if_neg h]
  | c :: s, a, ha, hs, hok => by
    obtain ⟨h1, h2, h3⟩ := drop_cons hs
    refine Ev.step (f := fun k => (aumbryref03_Kind.f k c.f0).bind fun e => (if e = 0 then (some 4) else (if c.f1 < 0 then (some 5) else (if c.f1 > 4 then (some 5) else (if e = 2 then (if c.f1 = 0 then (aumbryref04_Check.l0 k t (t.length : Int) ((a + 1 : Nat) : Int)) else (some 5)) else (aumbryref04_Check.l0 k t (t.length : Int) ((a + 1 : Nat) : Int))))))) (fun k => ?_) ?_
    · simp only [aumbryref04_Check.l0]
      rw [if_pos (by omega), if_pos (by omega), if_pos (by omega), rd_cel hs, wrap_up (by omega) (by omega)]
      rfl
    · refine Ev.bind (ev_refKind c.f0) ?_
      by_cases he : cellErr c = 0
      · have ho := okc_of he
        have h4 := ho.hi
        have h0 := ho.lo
        refine Ev.congr (f := fun k => aumbryref04_Check.l0 k t (t.length : Int) ((a + 1 : Nat) : Int)) (fun k => ?_) ?_
        · rw [if_neg ho.kind, if_neg (by omega), if_neg (by omega)]
          by_cases hv : kindS c.f0 = 2
          · rw [if_pos hv, if_pos (ho.var hv)]
          · rw [if_neg hv]
        have : errs (c :: s) = errs s := by simp only [errs]; rw [if_pos he]
        rw [this]
        refine ev_refCheck_loop t ht s (a + 1) (by omega) h3 (fun x hx => ?_)
        rw [List.take_succ_eq_append_getElem h1] at hx
        rcases List.mem_append.1 hx with hx | hx
        · exact hok x hx
        · have hce : t[a] = c := by have := h2 c; rw [List.getD_eq_getElem?_getD, List.getElem?_eq_getElem h1] at this; exact this
          rw [List.mem_singleton.1 hx, hce]
          exact ho
      · refine Ev.congr (f := fun _ => some (cellErr c)) (fun k => ?_) ?_
        · unfold cellErr at he ⊢
          by_cases e1 : kindS c.f0 = 0
          · rw [if_pos e1, if_pos e1]
          · rw [if_neg e1] at he
            rw [if_neg e1, if_neg e1]
            by_cases e2 : c.f1 < 0
            · rw [if_pos e2, if_pos e2]
            · rw [if_neg e2] at he
              rw [if_neg e2, if_neg e2]
              by_cases e3 : c.f1 > 4
              · rw [if_pos e3, if_pos e3]
              · rw [if_neg e3] at he
                rw [if_neg e3, if_neg e3]
                by_cases e4 : kindS c.f0 = 2
                · rw [if_pos e4] at he
                  rw [if_pos e4, if_pos e4]
                  by_cases e5 : c.f1 > 0
                  · rw [if_pos e5, if_neg (by omega)]
                  · rw [if_neg e5] at he
                    exact absurd rfl he
                · rw [if_neg e4] at he
                  exact absurd rfl he
        · have : errs (c :: s) = cellErr c := by simp only [errs]; rw [if_neg he]
          rw [this, if_neg he]
          exact Ev.now _
theorem ev_refCheck (t : List Cel) : Ev (fun k => aumbryref04_Check.f k t) (checkS t) := by
  unfold aumbryref04_Check.f checkS
  by_cases h : t.length > 64
  · rw [if_pos h]
    exact Ev.congr (f := fun _ => some 6) (fun k => if_pos (by omega)) (Ev.now _)
  · rw [if_neg h]
    exact Ev.congr (f := fun k => aumbryref04_Check.l0 k t (t.length : Int) ((0 : Nat) : Int)) (fun k => if_neg (by omega)) (ev_refCheck_loop t (by omega) t 0 (by omega) rfl (by simp))
end Go.Proofs.Ytcmnpjgmpgjbdaa.P

-- ==== PLs
/- Plain laws: lists of cells as terms, taken apart (for chapters without match). -/
namespace Go.Proofs.Ytcmnpjgmpgjbdaa.P
open Go.RowKit Go.Proofs.YtcmnpjgmpgjbdaaW.PrintWords
set_option linter.unusedVariables false
set_option linter.unusedSimpArgs false

/-- The first term of a list. -/
def fstT (t r : List Cel) : List Cel := t.take (t.length - r.length)
theorem segN_split {t : List Cel} {n : Nat} (h : segN t (n + 1) = some []) : ∃ r, segN t 1 = some r ∧ segN r n = some [] := by
  rw [show n + 1 = 1 + n by omega, segN_add] at h
  cases hr : segN t 1 with
  | none => rw [hr] at h; cases h
  | some r => rw [hr] at h; exact ⟨r, rfl, h⟩
theorem segN_fst {t r : List Cel} {n : Nat} (h : segN t n = some r) : t = fstT t r ++ r ∧ segN (fstT t r) n = some [] := by
  obtain ⟨m, hm, hd⟩ := segN_suffix h
  have hl : r.length = t.length - m := by rw [← hd, List.length_drop]
  have he : fstT t r = t.take m := by unfold fstT; rw [show t.length - r.length = m by omega]
  rw [he]
  refine ⟨by rw [← hd]; exact (List.take_append_drop m t).symm, ?_⟩
  have : ∀ (l : List Cel) (n m : Nat), m ≤ l.length → segN l n = some (l.drop m) → segN (l.take m) n = some [] := by
    intro l
    induction l with
    | nil =>
      intro n m hm h
      have hm0 : m = 0 := by simpa using hm
      subst hm0
      simpa using h
    | cons c l ih =>
      intro n m hm h
      cases n with
      | zero =>
        rw [segN_zero] at h ⊢
        injection h with h
        have := congrArg List.length h
        simp only [List.length_cons, List.length_drop] at this
        have hm0 : m = 0 := by simp at hm; omega
        rw [hm0]
        rfl
      | succ n =>
        cases m with
        | zero =>
          have := segN_len h
          simp at this
        | succ m =>
          simp only [List.drop_succ_cons] at h
          exact ih (n + ar c) m (by simpa using hm) h
  rw [← hd] at h
  exact this t n m hm h

theorem bytes_eq (a b : ByteArray) : a.toList = b.toList ↔ a = b := by
  rw [ByteArray.toList_eq, ByteArray.toList_eq]
  constructor
  · intro h
    cases a; cases b
    simp only [ByteArray.mk.injEq]
    exact Array.toList_inj.1 h
  · intro h
    rw [h]
theorem cel_ne (c d : Cel) : ((!((c.f0.toList) == (d.f0.toList)) || (!(c.f1 == d.f1))) = true) ↔ c ≠ d := by
  cases c with | mk a b => cases d with | mk a' b' =>
  simp only [Bool.or_eq_true, Bool.not_eq_true', beq_eq_false_iff_ne, ne_eq, bytes_eq, S50.mk.injEq]
  by_cases h : a = a' <;> simp [h]
theorem ev_cels_loop (F : Nat → List Cel → List Cel → Int → Int → Option Bool)
    (hF : ∀ k x y n i, F (k + 1) x y n i = if i < n then (if 0 ≤ i then (if i < (x.length : Int) then (if i < (y.length : Int) then (if (!((((rd_T50 x i).f0).toList) == (((rd_T50 y i).f0).toList)) || (!(((rd_T50 x i).f1) == ((rd_T50 y i).f1)))) = true then (some false) else (F k x y n (wrap64 (i + 1)))) else (none)) else (none)) else (none)) else (some true))
    (x y : List Cel) (hl : x.length = y.length) (hb : x.length ≤ 9223372036854775806) : ∀ (s u : List Cel) (a : Nat), a ≤ x.length → x.drop a = s → y.drop a = u → Ev (fun k => F k x y (x.length : Int) (a : Int)) (decide (s = u))
  | [], u, a, ha, hs, hu => by
    have h1 := drop_nil_len ha hs
    have h2 : u = [] := by rw [← hu]; exact List.drop_eq_nil_of_le (by omega)
    refine Ev.step (f := fun _ => some true) (fun k => by rw [hF, if_neg (by omega)]) ?_
    rw [h2]
    exact Ev.now _
  | c :: s, u, a, ha, hs, hu => by
    obtain ⟨h1, _, h3⟩ := drop_cons hs
    rcases u with _ | ⟨d, u⟩
    · have := drop_nil_len (by omega) hu
      omega
    obtain ⟨_, _, h4⟩ := drop_cons hu
    by_cases hcd : c = d
    · refine Ev.step (f := fun k => F k x y (x.length : Int) ((a + 1 : Nat) : Int)) (fun k => by
        rw [hF, if_pos (by omega), if_pos (by omega), if_pos (by omega), if_pos (by omega), rd_cel hs, rd_cel hu, if_neg (fun h => (cel_ne c d).1 h hcd), wrap_up (by omega) (by omega)]
        rfl) ?_
      have : decide (c :: s = d :: u) = decide (s = u) := by subst hcd; simp
      rw [this]
      exact ev_cels_loop F hF x y hl hb s u (a + 1) (by omega) h3 h4
    · refine Ev.step (f := fun _ => some false) (fun k => by
        rw [hF, if_pos (by omega), if_pos (by omega), if_pos (by omega), if_pos (by omega), rd_cel hs, rd_cel hu, if_pos ((cel_ne c d).2 hcd)]) ?_
      have : decide (c :: s = d :: u) = false := by simp [hcd]
      rw [this]
      exact Ev.now _
theorem ev_refSame4 (x y : List Cel) (hb : x.length ≤ 9223372036854775806 ∨ y.length ≤ 9223372036854775806) : Ev (fun k => aumbryref04_Same.f k x y) (decide (x = y)) := by
  unfold aumbryref04_Same.f
  by_cases h : (x.length : Int) = (y.length : Int)
  · exact Ev.congr (f := fun k => aumbryref04_Same.l0 k x y (x.length : Int) ((0 : Nat) : Int)) (fun k => by rw [if_pos h]; rfl) (ev_cels_loop _ (fun k x y n i => rfl) x y (by omega) (by omega) x y 0 (by omega) rfl rfl)
  · refine Ev.congr (f := fun _ => some (decide (x = y))) (fun k => ?_) (Ev.now _)
    rw [if_neg h]
    congr 1
    rw [Eq.comm, decide_eq_false_iff_not]
    rintro rfl
    exact h rfl
theorem clone_at (x : List Cel) (h : x.length < 5864062014805) : api_Cell.f x = some x := by
  unfold api_Cell.f
  rw [if_pos (by simpa using h)]
  rfl
theorem copy_at (x : List Cel) (h : x.length < 5864062014805) : aumbryref04_Copy.f x = some x := by
  unfold aumbryref04_Copy.f
  rw [if_pos (by simpa using h)]
  rfl

theorem checkS_ok {t : List Cel} (h : checkS t = 0) : t.length ≤ 64 ∧ (∀ c ∈ t, Okc c) ∧ segN t 1 = some [] := by
  unfold checkS at h
  by_cases h1 : t.length > 64
  · rw [if_pos h1] at h
    cases h
  · rw [if_neg h1] at h
    by_cases h2 : errs t = 0
    · rw [if_pos h2] at h
      by_cases h3 : segN t 1 = some []
      · exact ⟨by omega, errs_ok h2, h3⟩
      · rw [if_neg h3] at h
        cases h
    · rw [if_neg h2] at h
      exact absurd h h2
/-- n terms, each for itself. -/
def splitT : Nat → List Cel → List (List Cel)
  | 0, _ => []
  | n + 1, l => match segN l 1 with
    | none => []
    | some r => fstT l r :: splitT n r
def kidsS : List Cel → List (List Cel)
  | [] => []
  | c :: l => splitT (ar c) l
theorem splitT_spec : ∀ (n : Nat) (l : List Cel), segN l n = some [] → (splitT n l).flatten = l ∧ (splitT n l).length = n ∧ ∀ a ∈ splitT n l, segN a 1 = some []
  | 0, l, h => by
    rw [segN_zero] at h
    injection h with h
    subst h
    exact ⟨rfl, rfl, fun a ha => by cases ha⟩
  | n + 1, l, h => by
    obtain ⟨r, h1, h2⟩ := segN_split h
    obtain ⟨g1, g2, g3⟩ := splitT_spec n r h2
    have hf := segN_fst h1
    simp only [splitT, h1, List.flatten_cons, List.length_cons, List.mem_cons]
    refine ⟨by rw [g1]; exact hf.1.symm, by omega, fun a ha => ?_⟩
    rcases ha with rfl | ha
    · exact hf.2
    · exact g3 a ha
theorem cellErr_okc {c : Cel} (h : Okc c) : cellErr c = 0 := by
  unfold cellErr
  have h1 := h.lo
  have h2 := h.hi
  rw [if_neg h.kind, if_neg (by omega), if_neg (by omega)]
  by_cases hk : kindS c.f0 = 2
  · rw [if_pos hk, if_neg (by have := h.var hk; omega)]
  · rw [if_neg hk]
theorem ok_errs : ∀ {l : List Cel}, (∀ c ∈ l, Okc c) → errs l = 0
  | [], _ => rfl
  | a :: l, h => by
    unfold errs
    rw [if_pos (cellErr_okc (h a (List.mem_cons_self ..)))]
    exact ok_errs fun c hc => h c (List.mem_cons_of_mem _ hc)
theorem checkS_of {t : List Cel} (h1 : t.length ≤ 64) (h2 : ∀ c ∈ t, Okc c) (h3 : segN t 1 = some []) : checkS t = 0 := by
  unfold checkS
  rw [if_neg (by omega), if_pos (ok_errs h2), if_pos h3]
end Go.Proofs.Ytcmnpjgmpgjbdaa.P

-- ==== PL4
/- Plain laws of chapter 4: what the statements ask ahead (wakes), and copies. -/
namespace Go.Proofs.Ytcmnpjgmpgjbdaa.P
open Go.RowKit Go.Proofs.YtcmnpjgmpgjbdaaW.PrintWords
set_option linter.unusedVariables false
set_option linter.unusedSimpArgs false

set_option maxRecDepth 100000 in
theorem ev_wakes4 : Ev (fun k => aumbrylaw04_wakes.f k) true := Ev.of (g := fun k => aumbrylaw04_wakes.f k) aumbrylaw04_wakes.mono (k := 40) (by kernel_rfl)
theorem sz_len {l : List Cel} (h : sz23 l) : l.length < 5864062014805 := by
  have := h.1
  omega
end Go.Proofs.Ytcmnpjgmpgjbdaa.P

-- ==== PL4k
/- Plain laws of chapter 4: a term's arguments. -/
namespace Go.Proofs.Ytcmnpjgmpgjbdaa.P
open Go.RowKit Go.Proofs.YtcmnpjgmpgjbdaaW.PrintWords
set_option linter.unusedVariables false
set_option linter.unusedSimpArgs false
theorem rd_trm {t : List (List Cel)} {n : Nat} {c : List Cel} {s : List (List Cel)} (h : t.drop n = c :: s) : rd_L3 t (n : Int) = c := by
  unfold rd_L3
  exact (drop_cons h).2.1 _
theorem up_cast (a : Nat) (h : a < 9223372036854775807) : wrap64 ((a : Int) + 1) = ((a + 1 : Nat) : Int) := by rw [wrap_up (by omega) (by omega)]; rfl
theorem ev_tkids_loop (t : List Cel) (ht : t.length ≤ 64) (hok : ∀ c ∈ t, Okc c) : ∀ (n a : Nat) (out : List (List Cel)), a ≤ t.length → segN (t.drop a) n = some [] → out.length ≤ a →
    Ev (fun k => term_Kids.l0 k t out (a : Int)) (out ++ splitT n (t.drop a), 0)
  | 0, a, out, ha, hn, ho => by
    rw [segN_zero] at hn
    injection hn with hn
    have := drop_nil_len ha hn
    refine Ev.step (fun k => (show term_Kids.l0 (k + 1) t out (a : Int) = _ from by rw [term_Kids.l0])) ?_
    refine evIfn (by omega) ?_
    simp only [splitT, List.append_nil]
    exact Ev.now _
  | n + 1, a, out, ha, hn, ho => by
    obtain ⟨r, hr1, hr2⟩ := segN_split hn
    have hlt := (segN_len hr1).2 (by omega)
    rw [List.length_drop] at hlt
    obtain ⟨q, hq, hqr⟩ := segN_suffix hr1
    rw [List.drop_drop] at hqr
    rw [List.length_drop] at hq
    have hrl : r.length = t.length - (a + q) := by rw [← hqr, List.length_drop]
    have hb : behS t a 1 = ((a + q : Nat) : Int) := by
      unfold behS
      rw [hr1]
      simp only
      omega
    have hq0 : 0 < q := by omega
    have hpart : ((t.take (((a + q : Nat) : Int)).toNat).drop ((a : Int)).toNat : List Cel) = fstT (t.drop a) r := by
      unfold fstT
      rw [List.length_drop]
      simp only [Int.toNat_natCast]
      rw [List.drop_take]
      congr 1
      omega
    refine Ev.step (fun k => (show term_Kids.l0 (k + 1) t out (a : Int) = _ from by rw [term_Kids.l0])) ?_
    refine evIfp (by omega) ?_
    refine Ev.bind (ev_behind t ht hok a ha) ?_
    rw [hb]
    refine evIfp (by omega) (evIfp (by omega) (evIfp (by omega) ?_))
    have hfl : (fstT (t.drop a) r).length = q := by unfold fstT; rw [List.length_take, List.length_drop]; omega
    simp only [hpart]
    refine Ev.bind (evIs (clone_at _ (by omega))) ?_
    refine evIfp (by omega) ?_
    have := ev_tkids_loop t ht hok n (a + q) (out ++ [fstT (t.drop a) r]) (by omega) (by rw [hqr]; exact hr2) (by simp; omega)
    have e : out ++ splitT (n + 1) (t.drop a) = out ++ [fstT (t.drop a) r] ++ splitT n (t.drop (a + q)) := by
      simp only [splitT, hr1, hqr, List.append_assoc, List.singleton_append]
    rw [e]
    exact this
/-- The arguments of a term that is right. -/
theorem ev_tkids {t : List Cel} (h : checkS t = 0) : Ev (fun k => term_Kids.f k t) (kidsS t, 0) := by
  obtain ⟨h1, h2, h3⟩ := checkS_ok h
  unfold term_Kids.f
  refine Ev.bind (ev_check t) ?_
  refine evIfp h ?_
  rcases t with _ | ⟨c, l⟩
  · cases h3
  have h4 : segN l (0 + ar c) = some [] := h3
  rw [Nat.zero_add] at h4
  exact ev_tkids_loop (c :: l) h1 h2 (ar c) 1 [] (by simp) h4 (by simp)
theorem ev_tkids_no {t : List Cel} (h : ¬ checkS t = 0) : Ev (fun k => term_Kids.f k t) ([], checkS t) := by
  unfold term_Kids.f
  refine Ev.bind (ev_check t) ?_
  exact evIfn h (Ev.now _)
end Go.Proofs.Ytcmnpjgmpgjbdaa.P

-- ==== PL4m
/- Plain laws of chapter 4: a name above terms. -/
namespace Go.Proofs.Ytcmnpjgmpgjbdaa.P
open Go.RowKit Go.Proofs.YtcmnpjgmpgjbdaaW.PrintWords
set_option linter.unusedVariables false
set_option linter.unusedSimpArgs false
/-- The first error of a list of terms; 0: none. -/
def errAll : List (List Cel) → Int
  | [] => 0
  | a :: u => if checkS a = 0 then errAll u else checkS a
def finS (x : List Cel) (u : List (List Cel)) : List Cel × Int :=
  if errAll u = 0 then (if checkS (x ++ u.flatten) = 0 then (x ++ u.flatten, 0) else ([], checkS (x ++ u.flatten))) else ([], errAll u)
theorem checkS_big {t : List Cel} (h : 64 < t.length) : checkS t = 6 := by
  unfold checkS
  exact if_pos h
theorem checkS_len {t : List Cel} (h : checkS t = 0) : t.length ≤ 64 := (checkS_ok h).1
theorem errAll_cons {a : List Cel} {u : List (List Cel)} (h : checkS a = 0) : errAll (a :: u) = errAll u := by
  show (if checkS a = 0 then errAll u else checkS a) = errAll u
  exact if_pos h
theorem errAll_no {a : List Cel} {u : List (List Cel)} (h : ¬ checkS a = 0) : errAll (a :: u) = checkS a := by
  show (if checkS a = 0 then errAll u else checkS a) = checkS a
  exact if_neg h
theorem finS_big {x a : List Cel} {u : List (List Cel)} (hx : 64 < x.length) (ha : checkS a = 0) : finS x (a :: u) = finS x u := by
  unfold finS
  rw [errAll_cons ha, checkS_big (t := x ++ (a :: u).flatten) (by simp; omega), checkS_big (t := x ++ u.flatten) (by simp; omega)]
  rfl
theorem finS_app {x a : List Cel} {u : List (List Cel)} (ha : checkS a = 0) : finS x (a :: u) = finS (x ++ a) u := by
  unfold finS
  rw [errAll_cons ha]
  simp only [List.flatten_cons, List.append_assoc]
theorem ev_make_loop (kids : List (List Cel)) (hk : kids.length ≤ 9223372036854775806) : ∀ (u : List (List Cel)) (i : Nat) (x : List Cel), i ≤ kids.length → kids.drop i = u → x.length ≤ 200 →
    Ev (fun k => term_Make.l0 k x kids (kids.length : Int) (i : Int)) (finS x u)
  | [], i, x, hi, hu, hx => by
    have h1 := drop_nil_len hi hu
    refine Ev.step (fun k => (show term_Make.l0 (k + 1) x kids (kids.length : Int) (i : Int) = _ from by rw [term_Make.l0])) ?_
    refine evIfn (by omega) ?_
    refine Ev.bind (ev_check x) ?_
    unfold finS
    simp only [errAll, List.flatten_nil, List.append_nil, if_true]
    by_cases h : checkS x = 0
    · refine evIfp h ?_
      rw [if_pos h]
      exact Ev.now _
    · refine evIfn h ?_
      rw [if_neg h]
      exact Ev.now _
  | a :: u, i, x, hi, hu, hx => by
    obtain ⟨h1, _, h3⟩ := drop_cons hu
    refine Ev.step (fun k => (show term_Make.l0 (k + 1) x kids (kids.length : Int) (i : Int) = _ from by rw [term_Make.l0])) ?_
    refine evIfp (by omega) (evIfp (by omega) (evIfp (by omega) ?_))
    simp only [rd_trm hu, up_cast i (by omega)]
    refine Ev.bind (ev_check a) ?_
    by_cases ha : checkS a = 0
    · refine evIfp ha ?_
      have hal := checkS_len ha
      by_cases hxl : (x.length : Int) ≤ 64
      · refine evIfp hxl (evIfp (by omega) ?_)
        rw [finS_app ha]
        exact ev_make_loop kids hk u (i + 1) (x ++ a) (by omega) h3 (by simp; omega)
      · refine evIfn hxl ?_
        rw [finS_big (by omega) ha]
        exact ev_make_loop kids hk u (i + 1) x (by omega) h3 hx
    · refine evIfn ha ?_
      have : finS x (a :: u) = ([], checkS a) := by
        unfold finS
        rw [errAll_no ha, if_neg ha]
      rw [this]
      exact Ev.now _
theorem ev_tmake (w : ByteArray) (kids : List (List Cel)) (hk : kids.length ≤ 9223372036854775806) : Ev (fun k => term_Make.f k w kids) (finS [⟨w, (kids.length : Int)⟩] kids) := by
  unfold term_Make.f
  exact ev_make_loop kids hk kids 0 _ (by omega) rfl (by simp)
theorem ev_rmake_loop1 (kids : List (List Cel)) (hk : kids.length ≤ 9223372036854775806) : ∀ (u : List (List Cel)) (i : Nat) (x : List Cel), i ≤ kids.length → kids.drop i = u → x.length ≤ 200 → errAll u = 0 →
    Ev (fun k => aumbryref04_Make.l1 k kids x (kids.length : Int) (i : Int)) (finS x u)
  | [], i, x, hi, hu, hx, he => by
    have h1 := drop_nil_len hi hu
    refine Ev.step (fun k => (show aumbryref04_Make.l1 (k + 1) kids x (kids.length : Int) (i : Int) = _ from by rw [aumbryref04_Make.l1])) ?_
    refine evIfn (by omega) ?_
    refine Ev.bind (ev_refCheck x) ?_
    unfold finS
    simp only [errAll, List.flatten_nil, List.append_nil, if_true]
    by_cases h : checkS x = 0
    · refine evIfp h ?_
      rw [if_pos h]
      exact Ev.now _
    · refine evIfn h ?_
      rw [if_neg h]
      exact Ev.now _
  | a :: u, i, x, hi, hu, hx, he => by
    obtain ⟨h1, _, h3⟩ := drop_cons hu
    have ha : checkS a = 0 := by
      by_cases ha : checkS a = 0
      · exact ha
      · rw [errAll_no ha] at he
        exact he
    refine Ev.step (fun k => (show aumbryref04_Make.l1 (k + 1) kids x (kids.length : Int) (i : Int) = _ from by rw [aumbryref04_Make.l1])) ?_
    refine evIfp (by omega) ?_
    by_cases hxl : (x.length : Int) > 64
    · refine evIfp hxl ?_
      have : finS x (a :: u) = ([], 6) := by
        unfold finS
        rw [he, checkS_big (t := x ++ (a :: u).flatten) (by simp; omega)]
        rfl
      rw [this]
      exact Ev.now _
    · have hal := checkS_len ha
      refine evIfn hxl (evIfp (by omega) (evIfp (by omega) ?_))
      simp only [rd_trm hu, up_cast i (by omega)]
      refine evIfp (by omega) ?_
      rw [finS_app ha]
      exact ev_rmake_loop1 kids hk u (i + 1) (x ++ a) (by omega) h3 (by simp; omega) (by rw [← errAll_cons ha]; exact he)
theorem ev_rmake_loop0 (w : ByteArray) (kids : List (List Cel)) (hk : kids.length ≤ 9223372036854775806) (r : List Cel × Int) : ∀ (u : List (List Cel)) (i : Nat), i ≤ kids.length → kids.drop i = u →
    (if errAll u = 0 then Ev (fun k => aumbryref04_Make.l1 k kids ([⟨w, (kids.length : Int)⟩]) (kids.length : Int) 0) r else r = ([], errAll u)) →
    Ev (fun k => aumbryref04_Make.l0 k w kids (kids.length : Int) (i : Int)) r
  | [], i, hi, hu, hr => by
    have h1 := drop_nil_len hi hu
    refine Ev.step (fun k => (show aumbryref04_Make.l0 (k + 1) w kids (kids.length : Int) (i : Int) = _ from by rw [aumbryref04_Make.l0])) ?_
    refine evIfn (by omega) ?_
    simpa [errAll] using hr
  | a :: u, i, hi, hu, hr => by
    obtain ⟨h1, _, h3⟩ := drop_cons hu
    refine Ev.step (fun k => (show aumbryref04_Make.l0 (k + 1) w kids (kids.length : Int) (i : Int) = _ from by rw [aumbryref04_Make.l0])) ?_
    refine evIfp (by omega) (evIfp (by omega) (evIfp (by omega) ?_))
    simp only [rd_trm hu, up_cast i (by omega)]
    refine Ev.bind (ev_refCheck a) ?_
    by_cases ha : checkS a = 0
    · refine evIfp ha ?_
      rw [errAll_cons ha] at hr
      exact ev_rmake_loop0 w kids hk r u (i + 1) (by omega) h3 hr
    · refine evIfn ha ?_
      rw [errAll_no ha, if_neg ha] at hr
      rw [hr]
      exact Ev.now _
theorem ev_rmake (w : ByteArray) (kids : List (List Cel)) (hk : kids.length ≤ 9223372036854775806) : Ev (fun k => aumbryref04_Make.f k w kids) (finS [⟨w, (kids.length : Int)⟩] kids) := by
  unfold aumbryref04_Make.f
  refine ev_rmake_loop0 w kids hk _ kids 0 (by omega) rfl ?_
  by_cases h : errAll kids = 0
  · rw [if_pos h]
    exact ev_rmake_loop1 kids hk kids 0 _ (by omega) rfl (by simp) h
  · rw [if_neg h]
    unfold finS
    rw [if_neg h]
theorem ev_copyAll_loop (l : List (List Cel)) (hl : l.length ≤ 5864062014804) (hs : ∀ a ∈ l, a.length < 5864062014805) : ∀ (u : List (List Cel)) (i : Nat) (x : List (List Cel)), i ≤ l.length → l.drop i = u → x = l.take i →
    Ev (fun k => aumbryref04_CopyAll.l0 k l x (l.length : Int) (i : Int)) l
  | [], i, x, hi, hu, hx => by
    have h1 := drop_nil_len hi hu
    refine Ev.step (fun k => (show aumbryref04_CopyAll.l0 (k + 1) l x (l.length : Int) (i : Int) = _ from by rw [aumbryref04_CopyAll.l0])) ?_
    refine evIfn (by omega) ?_
    have : x = l := by rw [hx, h1, List.take_length]
    rw [this]
    exact Ev.now _
  | a :: u, i, x, hi, hu, hx => by
    obtain ⟨h1, h2, h3⟩ := drop_cons hu
    refine Ev.step (fun k => (show aumbryref04_CopyAll.l0 (k + 1) l x (l.length : Int) (i : Int) = _ from by rw [aumbryref04_CopyAll.l0])) ?_
    refine evIfp (by omega) (evIfp (by omega) (evIfp (by omega) ?_))
    simp only [rd_trm hu, up_cast i (by omega)]
    have hm : a ∈ l := List.mem_of_mem_drop (hu ▸ List.mem_cons_self ..)
    refine Ev.bind (evIs (copy_at a (hs a hm))) ?_
    have hxl : x.length = i := by rw [hx, List.length_take]; omega
    refine evIfp (by omega) ?_
    refine ev_copyAll_loop l hl hs u (i + 1) (x ++ [a]) (by omega) h3 ?_
    rw [hx, List.take_succ_eq_append_getElem h1]
    have := h2 a
    rw [List.getD_eq_getElem?_getD, List.getElem?_eq_getElem h1] at this
    rw [show l[i] = a from this]
theorem ev_copyAll (l : List (List Cel)) (hl : l.length ≤ 5864062014804) (hs : ∀ a ∈ l, a.length < 5864062014805) : Ev (fun k => aumbryref04_CopyAll.f k l) l := by
  unfold aumbryref04_CopyAll.f
  exact ev_copyAll_loop l hl hs l 0 [] (by omega) rfl rfl
/-- A term is its first name above its arguments. -/
theorem errAll_of : ∀ {u : List (List Cel)}, (∀ a ∈ u, checkS a = 0) → errAll u = 0
  | [], _ => rfl
  | a :: u, h => by
    rw [errAll_cons (h a (List.mem_cons_self ..))]
    exact errAll_of fun b hb => h b (List.mem_cons_of_mem _ hb)
theorem kidsS_flat {t : List Cel} (h : checkS t = 0) : ∃ c, t = c :: (kidsS t).flatten ∧ ((kidsS t).length : Int) = c.f1 ∧ (∀ a ∈ kidsS t, checkS a = 0) ∧ (kidsS t).length ≤ 64 := by
  obtain ⟨h1, h2, h3⟩ := checkS_ok h
  rcases t with _ | ⟨c, l⟩
  · cases h3
  have h4 : segN l (0 + ar c) = some [] := h3
  rw [Nat.zero_add] at h4
  obtain ⟨a1, a2, a3⟩ := splitT_spec _ _ h4
  have hc := h2 c (List.mem_cons_self ..)
  have hlo := hc.lo
  have hhi := hc.hi
  have har : (ar c : Int) = c.f1 := by unfold ar; omega
  refine ⟨c, ?_, ?_, ?_, ?_⟩
  · simp only [kidsS, a1]
  · simp only [kidsS, a2]
    exact har
  · intro a ha
    simp only [kidsS] at ha
    have hsub : ∀ x ∈ a, x ∈ l := fun x hx => by rw [← a1]; exact List.mem_flatten.2 ⟨a, ha, hx⟩
    have hlen : a.length ≤ l.length := by
      rw [← a1]
      exact (List.sublist_flatten_of_mem ha).length_le
    exact checkS_of (by simp at h1; omega) (fun x hx => h2 x (List.mem_cons_of_mem _ (hsub x hx))) (a3 a ha)
  · simp only [kidsS, a2]
    omega
theorem make_back {t : List Cel} {c : Cel} (h : checkS t = 0) (h1 : t = c :: (kidsS t).flatten) (h2 : ((kidsS t).length : Int) = c.f1) (h3 : ∀ a ∈ kidsS t, checkS a = 0) : finS [⟨c.f0, ((kidsS t).length : Int)⟩] (kidsS t) = (t, 0) := by
  have e : [(⟨c.f0, ((kidsS t).length : Int)⟩ : Cel)] ++ (kidsS t).flatten = t := by
    rw [h2]
    exact h1.symm
  unfold finS
  rw [errAll_of h3, e, h]
  rfl
end Go.Proofs.Ytcmnpjgmpgjbdaa.P

-- ==== PureTermMakes
/- Any name is put above any terms, or refused, as the document says; a term is its first name above its arguments: for every name, list of terms and term, the law answers true. -/
namespace Go.Proofs.Ytcmnpjgmpgjbdaa.Pure
open Go.RowKit Go.Proofs.Ytcmnpjgmpgjbdaa.P Go.Proofs.YtcmnpjgmpgjbdaaW.PrintWords
set_option linter.unusedVariables false
set_option linter.unusedSimpArgs false
theorem ev_makes_two (t : List Cel) (htl : t.length < 5864062014805) : Ev (fun k => aumbrylaw04_TermMakes.j1 k t false) true := by
  refine Ev.step (fun k => (show aumbrylaw04_TermMakes.j1 (k + 1) t false = _ from by rw [aumbrylaw04_TermMakes.j1])) ?_
  refine evIfn (by simp) ?_
  refine Ev.bind (evIs (copy_at t htl)) ?_
  by_cases hc : checkS t = 0
  · refine Ev.bind (ev_tkids hc) ?_
    refine evIfp rfl ?_
    obtain ⟨c, h1, h2, h3, h4⟩ := kidsS_flat hc
    have hl : 0 < t.length := by rw [h1]; simp
    refine evIfp (by omega) ?_
    have hrd : rd_T50 t 0 = c := rd_cel (t := t) (n := 0) (c := c) (s := (kidsS t).flatten) h1
    simp only [hrd]
    have hm := ev_tmake c.f0 (kidsS t) (by omega)
    rw [make_back hc h1 h2 h3] at hm
    refine Ev.bind hm ?_
    refine evIfp rfl ?_
    have hs := ev_refSame4 t t (.inl (by omega))
    refine Ev.bind hs ?_
    rw [decide_eq_true (p := t = t) rfl]
    exact Ev.now _
  · refine Ev.bind (ev_tkids_no hc) ?_
    exact evIfn hc (Ev.now _)
theorem ev_makes_end (w : ByteArray) (kids : List (List Cel)) (t : List Cel) (htl : t.length < 5864062014805) (hk : kids.length ≤ 1000) (hs : ∀ a ∈ kids, a.length ≤ 1000) :
    Ev (fun k => (aumbryref04_CopyAll.f k kids).bind fun t103 => ((term_Make.f k w t103).bind fun bt106 => ((aumbryref04_Make.f k w kids).bind fun bt110 => ((aumbryref04_Same.f k bt106.1 bt110.1).bind fun t114 => (if t114 = true then (aumbrylaw04_TermMakes.j1 k t (bt106.2 != bt110.2)) else (aumbrylaw04_TermMakes.j1 k t true)))))) true := by
  refine Ev.bind (ev_copyAll kids (by omega) (fun a ha => by have := hs a ha; omega)) ?_
  refine Ev.bind (ev_tmake w kids (by omega)) ?_
  refine Ev.bind (ev_rmake w kids (by omega)) ?_
  have hb : (finS [⟨w, (kids.length : Int)⟩] kids).1.length ≤ 9223372036854775806 := by
    unfold finS
    split
    · split
      · have := checkS_len (by assumption)
        simp only
        omega
      · simp
    · simp
  refine Ev.bind (ev_refSame4 _ _ (.inl hb)) ?_
  refine evIfp (by simp) ?_
  have : ((finS [⟨w, (kids.length : Int)⟩] kids).2 != (finS [⟨w, (kids.length : Int)⟩] kids).2) = false := by simp
  rw [this]
  exact ev_makes_two t htl
theorem ev_makes_loop (w : ByteArray) (kids : List (List Cel)) (t : List Cel) (htl : t.length < 5864062014805) (hk : kids.length ≤ 1000) : ∀ (u : List (List Cel)) (i : Nat), i ≤ kids.length → kids.drop i = u → (∀ a ∈ kids.take i, a.length ≤ 1000) →
    Ev (fun k => aumbrylaw04_TermMakes.l0 k w kids t (kids.length : Int) (i : Int)) true
  | [], i, hi, hu, hs => by
    have h1 := drop_nil_len hi hu
    rw [h1, List.take_length] at hs
    refine Ev.step (fun k => (show aumbrylaw04_TermMakes.l0 (k + 1) w kids t (kids.length : Int) (i : Int) = _ from by rw [aumbrylaw04_TermMakes.l0])) ?_
    refine evIfn (by omega) ?_
    exact ev_makes_end w kids t htl hk hs
  | a :: u, i, hi, hu, hs => by
    obtain ⟨h1, h2, h3⟩ := drop_cons hu
    refine Ev.step (fun k => (show aumbrylaw04_TermMakes.l0 (k + 1) w kids t (kids.length : Int) (i : Int) = _ from by rw [aumbrylaw04_TermMakes.l0])) ?_
    refine evIfp (by omega) (evIfp (by omega) (evIfp (by omega) ?_))
    simp only [rd_trm hu, up_cast i (by omega)]
    by_cases ha : (a.length : Int) > 1000
    · exact evIfp ha (Ev.now _)
    · refine evIfn ha ?_
      refine ev_makes_loop w kids t htl hk u (i + 1) (by omega) h3 (fun b hb => ?_)
      rw [List.take_succ_eq_append_getElem h1] at hb
      rcases List.mem_append.1 hb with hb | hb
      · exact hs b hb
      · have := h2 a
        rw [List.getD_eq_getElem?_getD, List.getElem?_eq_getElem h1] at this
        rw [List.mem_singleton.1 hb, show kids[i] = a from this]
        omega
theorem TermMakes : aumbrylaw04_TermMakes.Pure := by
  intro w kids t hw hkids ht
  have htl := sz_len ht
  refine Ev.rounds ?_
  unfold aumbrylaw04_TermMakes.f
  refine Ev.bind ev_wakes4 ?_
  refine evIfp rfl ?_
  by_cases hk : (kids.length : Int) > 1000
  · exact evIfp hk (Ev.now _)
  · refine evIfn hk ?_
    exact ev_makes_loop w kids t htl (by omega) kids 0 (by omega) rfl (by simp)
end Go.Proofs.Ytcmnpjgmpgjbdaa.Pure

-- ==== RowTermMakes
namespace Go.Proofs.Ytcmnpjgmpgjbdaa.termMakes
open Go.ChangeShapes Go.WideShapes Go.ChangeAt Go.RowKit Go.Proofs.YtcmnpjgmpgjbdaaW.PrintWords Go.Proofs.Ytcmnpjgmpgjbdaa.P Go.Proofs.Ytcmnpjgmpgjbdaa.Open
open Go.ChangeMaps (open_string shut_string)
set_option linter.unusedVariables false
theorem own : ownKnob Try.prog.godebug = none := by kernel_rfl
theorem laidOut : laidOutB Try.prog = true := by kernel_rfl
set_option maxRecDepth 100000 in
theorem core {H : Type} {enc : TypeId × Value → H} (W : World) (base : Nat) (args : Array Value) (ds gs : List (DataW H)) (before : List MemPlace)
    (hval : ∀ (j : Nat) t v, Try.f7.params[j]? = some t → args[j]? = some v → Value.okWide Try.prog W .any base t v)
    (hW : DataW.Whole enc Try.prog Try.f7.params.toList Rows.termMakesSpec.vars false W args.toList ds gs before)
    (hsz : (DataW.weightsEach Try.prog (Try.f7.params.toList ++ Rows.termMakesSpec.plain.varTypes Try.prog) (ds ++ gs)).all (· ≤ reachBytes) = true)
    :
    Calls Try.prog 7 args W fun e W' => ∃ v, e = .returned v ∧ Rows.termMakesSpec.post enc Try.prog Try.f7 false true false false W args v W' := by
  have hW' := hW
  obtain ⟨p, q, hA, hV, rfl, hfz, hnd⟩ := hW
  rw [Try.params7] at hA hval hsz
  obtain ⟨v0, vs0, d0, ds0, p0, q0, hargs, rfl, rfl, h0, r0⟩ := trodAll_cons hA
  obtain ⟨v1, vs1, d1, ds1, p1, q1, rfl, rfl, rfl, h1, r1⟩ := trodAll_cons r0
  obtain ⟨v2, vs2, d2, ds2, p2, q2, rfl, rfl, rfl, h2, r2⟩ := trodAll_cons r1
  obtain ⟨rfl, rfl, rfl⟩ := trodAll_nil r2
  obtain rfl : args = #[v0, v1, v2] := by cases args; simp_all
  obtain ⟨rfl, rfl⟩ := trodVars_none hV
  have k0 := h0
  obtain ⟨n0, hf0⟩ := h0
  obtain ⟨x0, hK0, hS0, hB0⟩ := op9.go hf0 (fun m hm => by have := List.all_eq_true.1 hsz m (DataW.weights_mem_each (j := 0) rfl rfl m hm); simpa using this)
  have lt0 : ∀ z ∈ p0, z.block < W.heap.size := by obtain ⟨m, hm⟩ := k0; exact DataW.trod_lt m _ _ _ hm
  obtain ⟨y0, rfl⟩ := okWide_string Try.underlying9 (hval 0 9 v0 rfl rfl)
  have hcs0' : [_] = [_] := hK0
  injection hcs0' with hcs0'
  injection hcs0' with hq0
  subst hq0
  have k1 := h1
  obtain ⟨n1, hf1⟩ := h1
  obtain ⟨x1, hK1, hS1, hB1⟩ := op40.go hf1 (fun m hm => by have := List.all_eq_true.1 hsz m (DataW.weights_mem_each (j := 1) rfl rfl m hm); simpa using this)
  have lt1 : ∀ z ∈ p1, z.block < W.heap.size := by obtain ⟨m, hm⟩ := k1; exact DataW.trod_lt m _ _ _ hm
  obtain ⟨a1, len1, cap1, rfl⟩ := okWide_slice Try.underlying40 (hval 1 40 v1 rfl rfl)
  obtain ⟨A1, c1, hcs1, hc1, hr1⟩ := hK1
  have hcs1' : [(Value.slice a1 len1 cap1)] = [.slice A1 x1.length c1] := hcs1
  injection hcs1' with hcs1'
  injection hcs1' with ha1 hl1 hk1
  subst ha1 hl1 hk1
  have k2 := h2
  obtain ⟨n2, hf2⟩ := h2
  obtain ⟨x2, hK2, hS2, hB2⟩ := op23.go hf2 (fun m hm => by have := List.all_eq_true.1 hsz m (DataW.weights_mem_each (j := 2) rfl rfl m hm); simpa using this)
  have lt2 : ∀ z ∈ p2, z.block < W.heap.size := by obtain ⟨m, hm⟩ := k2; exact DataW.trod_lt m _ _ _ hm
  obtain ⟨a2, len2, cap2, rfl⟩ := okWide_slice Try.underlying23 (hval 2 23 v2 rfl rfl)
  obtain ⟨A2, c2, hcs2, hc2, hr2⟩ := hK2
  have hcs2' : [(Value.slice a2 len2 cap2)] = [.slice A2 x2.length c2] := hcs2
  injection hcs2' with hcs2'
  injection hcs2' with ha2 hl2 hk2
  subst ha2 hl2 hk2
  obtain ⟨k, h⟩ := Pure.TermMakes y0 x1 x2 hS0 hS1 hS2
  refine (aumbrylaw04_TermMakes.calls k y0 _ _ x1 _ _ x2 true W hr1 hc1 hr2 hc2 h).mono ?_
  rintro e W' ⟨rfl, hd⟩
  have bel : Below W.heap.size W W' := hd
  exact ⟨_, rfl, _, _, _, [], _, [], hW', trodAll_mk1 (shut_bool Try.underlying4 _), (trodAll_cons_mk (Below.trod laidOut (by kernel_rfl) (of_decide_eq_true (by kernel_rfl)) k0 bel lt0) (trodAll_cons_mk (Below.trod laidOut (by kernel_rfl) (of_decide_eq_true (by kernel_rfl)) k1 bel lt1) (trodAll_cons_mk (Below.trod laidOut (by kernel_rfl) (of_decide_eq_true (by kernel_rfl)) k2 bel lt2) trodAll_mk0))), rfl, bel.frame _, fun h => by cases h⟩
set_option maxRecDepth 100000 in
theorem lifted (os : Os) (started : os.Started) (H : Type) (enc : TypeId × Value → H) :
    ReturnsInHanded {} Try.checked os 7 .any (Rows.termMakesSpec.pre6 enc Try.prog Try.f7 Rows.termMakesRow.domain false) (Rows.termMakesSpec.post enc Try.prog Try.f7 false true false false) := by
  refine returnsInHanded_of_change_sized (C := Try.checked) own started (by kernel_rfl) Try.func7
    (ChangeSpec.witness6 (enc := enc) (C := Try.checked) false ⟨#[], #[.string ByteArray.empty, .slice none 0 0, .slice none 0 0], []⟩ 8 (by kernel_rfl) (by kernel_rfl) (by kernel_rfl) (by kernel_rfl)) ?_
  intro W base args ds gs before hval0 hW hcnd hsz0 _
  exact core W base args ds gs before hval0 hW hsz0
theorem over : Rows.termMakesRow.holds Try.pinned (OpenSpec.ofChange Rows.termMakesSpec) :=
  OpenClaim.holds_of_wide 7 Try.f7 rfl rfl rfl rfl rfl rfl rfl ⟨rfl, rfl, rfl, rfl, rfl⟩ rfl rfl rfl rfl rfl (by kernel_rfl) Try.func7 (by kernel_rfl)
    (of_decide_eq_true (by kernel_rfl)) (by unfold Func.isWrapper; first | (rw [if_pos (by decide +kernel)]; kernel_rfl) | (rw [if_neg (by decide +kernel)]; exact ⟨rfl, rfl⟩))
    (fun os started H enc _ => lifted os started H enc)
theorem proved : Rows.TermMakesSaid := over
end Go.Proofs.Ytcmnpjgmpgjbdaa.termMakes
namespace Go.Proofs.Ytcmnpjgmpgjbdaa
/-- The row, under a short name, for the claim. -/
theorem termMakes_holds : Rows.TermMakesSaid := termMakes.proved
#print axioms termMakes_holds
end Go.Proofs.Ytcmnpjgmpgjbdaa
