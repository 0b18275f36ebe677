/- TermReads: the law answers true at every input that the given row speaks of. Conditions: those of the given row, none besides. (Part 3 of 3; written by programs of this session, which drive the kit's print, and by hand.) -/
import Derived.Test.YtcmnpjgmpgjbdaaRows
import Derived.Test.YtcmnpjgmpgjbdaaZTermReadsWWords
import Derived.Deep.Slices
import Derived.SizedLaws
import Derived.ChangeSame
import Derived.ChangeArms
import Derived.KernelRfl
import Derived.WalkKit
import Derived.ProofKit
import Derived.OpenShut
import Derived.ShutString
import Derived.ChangeOld
import Derived.Below
import Derived.Carry
import Derived.Test.YtcmnpjgmpgjbdaaZTermReads0
import Derived.Test.YtcmnpjgmpgjbdaaZTermReads1
-- ==== PF39
namespace Go.Proofs.Ytcmnpjgmpgjbdaa.P
open Go.RowKit Go.Proofs.YtcmnpjgmpgjbdaaW.PrintWords Go.Proofs.YtcmnpjgmpgjbdaaW.PrintLast Go.Proofs.YtcmnpjgmpgjbdaaW.PrintMore
attribute [local go_sem] max2_int min2_int max_two min_two max_three min_three max_four min_four   -- for this text's walks alone
set_option linter.unusedVariables false
set_option linter.unusedSimpArgs false

/-! ### aumbryref04_Read: function 39 -/
mutual
def aumbryref04_Read.j1 : Nat → ByteArray → Int → List (S50) → Int → Option ((List (S50)) × Int × Int)
  | 0, _, _, _, _ => none
  | k + 1, x0, x1, x2, x9 => if 0 ≤ x1 then (if x1 ≤ x9 then (if x9 ≤ (x0.size : Int) then (if (x0.extract (x1 : Int).toNat (x9 : Int).toNat).toList = ([] : List UInt8) then (some (([] : List (S50)), x1, 3)) else ((aumbryref03_Kind.f k (x0.extract (x1 : Int).toNat (x9 : Int).toNat)).bind fun t102 => (if t102 = 0 then (some (([] : List (S50)), x1, 4)) else (if (x2.length : Int) = 64 then (some (([] : List (S50)), x1, 6)) else (if x2.length < 5864062014805 then ((some (x2 ++ [(⟨x0.extract (x1 : Int).toNat (x9 : Int).toNat, 0⟩ : S50)] : List (S50))).bind fun y103 => (if x9 = (x0.size : Int) then (aumbryref04_Read.j2 k x0 y103 x9 t102 (x2.length : Int) true) else (if 0 ≤ x9 then (if x9 < (x0.size : Int) then (aumbryref04_Read.j2 k x0 y103 x9 t102 (x2.length : Int) ((bt x0 x9) != 40)) else (none)) else (none)))) else (none)))))) else (none)) else (none)) else (none)
def aumbryref04_Read.j2 : Nat → ByteArray → List (S50) → Int → Int → Int → Bool → Option ((List (S50)) × Int × Int)
  | 0, _, _, _, _, _, _ => none
  | k + 1, x0, x2, x9, x11, x12, x62 => if x62 = true then (some (x2, x9, 0)) else (if x11 = 2 then (some (([] : List (S50)), x9, 5)) else (aumbryref04_Read.l1 k x0 x2 x9 x12 1))
def aumbryref04_Read.l1 : Nat → ByteArray → List (S50) → Int → Int → Int → Option ((List (S50)) × Int × Int)
  | 0, _, _, _, _, _ => none
  | k + 1, x0, x2, x9, x12, x13 => (aumbryref04_Read.f k x0 (wrap64 (x9 + 1)) x2).bind fun bt106 => (if bt106.2.2 = 0 then (if 0 ≤ x12 then (if x12 < (bt106.1.length : Int) then ((some (bt106.1.set (x12 : Int).toNat (⟨(rd_T50 bt106.1 x12).f0, x13⟩ : S50) : List (S50))).bind fun y111 => (if bt106.2.1 < (x0.size : Int) then (if 0 ≤ bt106.2.1 then (aumbryref04_Read.j4 k x0 y111 bt106.2.1 x12 x13 ((bt x0 bt106.2.1) == 41)) else (none)) else (aumbryref04_Read.j4 k x0 y111 bt106.2.1 x12 x13 false))) else (none)) else (none)) else (some (([] : List (S50)), bt106.2.1, bt106.2.2)))
def aumbryref04_Read.j4 : Nat → ByteArray → List (S50) → Int → Int → Int → Bool → Option ((List (S50)) × Int × Int)
  | 0, _, _, _, _, _, _ => none
  | k + 1, x0, x2, x9, x12, x13, x99 => if x99 = true then (some (x2, wrap64 (x9 + 1), 0)) else (if x9 = (x0.size : Int) then (aumbryref04_Read.j5 k x0 x2 x9 x12 x13 true) else (if 0 ≤ x9 then (if x9 < (x0.size : Int) then (aumbryref04_Read.j5 k x0 x2 x9 x12 x13 ((bt x0 x9) != 44)) else (none)) else (none)))
def aumbryref04_Read.j5 : Nat → ByteArray → List (S50) → Int → Int → Int → Bool → Option ((List (S50)) × Int × Int)
  | 0, _, _, _, _, _, _ => none
  | k + 1, x0, x2, x9, x12, x13, x112 => if x112 = true then (some (([] : List (S50)), x9, 3)) else (if x13 = 4 then (some (([] : List (S50)), x9, 5)) else (aumbryref04_Read.l1 k x0 x2 x9 x12 (wrap64 (x13 + 1))))
def aumbryref04_Read.l0 : Nat → ByteArray → Int → List (S50) → Int → Option ((List (S50)) × Int × Int)
  | 0, _, _, _, _ => none
  | k + 1, x0, x1, x2, x9 => if x9 < (x0.size : Int) then (if 0 ≤ x9 then ((aumbryref04_sign.f (bt x0 x9)).bind fun t101 => (if t101 = true then (aumbryref04_Read.l0 k x0 x1 x2 (wrap64 (x9 + 1))) else (aumbryref04_Read.j1 k x0 x1 x2 x9))) else (none)) else (aumbryref04_Read.j1 k x0 x1 x2 x9)
def aumbryref04_Read.f : Nat → ByteArray → Int → List (S50) → Option ((List (S50)) × Int × Int)
  | 0, _, _, _ => none
  | k + 1, a0, a1, l2 => aumbryref04_Read.l0 k a0 a1 l2 a1
end
set_option maxHeartbeats 8000000 in
set_option maxRecDepth 100000 in
theorem aumbryref04_Read.calls (k : Nat) : ∀ (a0 : ByteArray) (a1 : Int) (P2_ : Nat → Prop) (u9000_ : Value) (l2 : List (S50)) (r1 : List (S50)) (r2 : Int) (r3 : Int) (w0 w : World) (hB : Below w0.heap.size w0 w) (ho2 : Kd.R k50 50 w w0.heap.size P2_ u9000_ l2) (h : aumbryref04_Read.f k a0 a1 l2 = some (r1, r2, r3)),
    Calls Try.prog 39 #[.string a0, .int .i64 a1, u9000_] w fun e w' => ∃ v0_ : Value, e = .returned (.tuple #[v0_, .int .i64 r2, .int .i64 r3]) ∧ Kd.R k50 50 w' w0.heap.size (fun k_ => (P2_ k_ ∨ w.heap.size ≤ k_)) v0_ r1 ∧ Below w0.heap.size w0 w' ∧ Kept w w' (fun k_ => P2_ k_) := by
  induction k using Nat.strongRecOn with
  | _ k ih =>
  intro a0 a1 P2_ u9000_ l2 r1 r2 r3 w0 w hB ho2 h
  cases k with
  | zero => exact absurd h (by simp [aumbryref04_Read.f])
  | succ k =>
  simp only [aumbryref04_Read.f] at h
  have hu50 := Try.underlying50
  have HO2 := Aside0.mk (show Kd.R k50 50 w w0.heap.size (fun k_ => (P2_ k_ ∨ w.heap.size ≤ k_)) u9000_ l2 from Kd.R_mono ho2 (fun k_ hk => (.inl hk)))
  have HK := Aside0.mk (Kept.refl w (fun k_ => P2_ k_))
  have HW0 := Aside0.mk hB.size
  have HB := Aside0.mk hB
  clear hB
  have H : (aumbryref04_Read.l0 k a0 a1 l2 a1) = some (r1, r2, r3) := h
  clear h
  have HC4 := Aside0.mk H
  clear H
  go_enter Try.func39, Try.ntmps39
  go_upto_block 0 with (fail)
  go_cut [9] (fun v9 wc => ∃ (kq : Nat) (x9_3 : Int), v9 = .int .i64 x9_3 ∧ Aside0 (aumbryref04_Read.j1 kq a0 a1 l2 x9_3 = some (r1, r2, r3)) ∧ Aside0 (kq ≤ k) ∧ Aside0 (Kd.R k50 50 wc w0.heap.size (fun k_ => (P2_ k_ ∨ w.heap.size ≤ k_)) u9000_ l2) ∧ Aside0 (Kept w wc (fun k_ => P2_ k_)) ∧ Aside0 (Below w0.heap.size w0 wc))
  case first =>
    have H := HC4.out
    clear HC4
    have H' := Aside0.mk H
    clear H
    go_wp2
    go_loopg [9] k (fun kq v9 w' => ∃ (x9_1 : Int), v9 = .int .i64 x9_1 ∧ Aside0 (aumbryref04_Read.l0 kq a0 a1 l2 x9_1 = some (r1, r2, r3)) ∧ Aside0 (kq ≤ k) ∧ Aside0 (Kd.R k50 50 w' w0.heap.size (fun k_ => (P2_ k_ ∨ w.heap.size ≤ k_)) u9000_ l2) ∧ Aside0 (Kept w w' (fun k_ => P2_ k_)) ∧ Aside0 (Below w0.heap.size w0 w'))
    case atStart => exact ⟨(a1), (by first | rfl | (simp; done) | (simp [*]; done)), H', ⟨Nat.le_refl _⟩, ⟨by (with_reducible repeat (first | apply Kd.R_alloc | apply Kd.R_drewN | apply Kd.R_drew)); exact HO2.out⟩, ⟨by repeat (first | (with_reducible first | exact HK.out | apply Kept.alloc | apply Kept.drewN | apply Kept.drew) | exact HK.out)⟩, ⟨by repeat (first | (with_reducible first | exact HB.out | apply below_alloc | apply pw_below_drewN | apply below_drew1) | exact HB.out)⟩⟩
    case round =>
      clear H'
      try clear p2
      try clear c3
      obtain ⟨x9_1, rfl, HA, HK1, HO_2, HK, HB⟩ := hrel
      cases gk with
      | zero => exact absurd HA.out (by simp [aumbryref04_Read.l0])
      | succ k1 =>
        have H := HA.out
        clear HA
        simp only [aumbryref04_Read.l0] at H
        by_cases c5 : x9_1 < (a0.size : Int)
        · rw [if_pos c5] at H
          have c5b0 : decide (x9_1 < (a0.size : Int)) = true := decide_eq_true c5
          clear c5
          (first | rw [c5b0] | (simp only [i64_w, i32_w]; rw [c5b0]) | skip)
          by_cases c6 : 0 ≤ x9_1
          · rw [if_pos c6] at H
            have c6b0 : decide (0 ≤ x9_1) = true := decide_eq_true c6
            clear c6
            replace H := Option.bind_eq_some_iff.mp H
            obtain ⟨t101, A80, H⟩ := H
            replace H : (if t101 = true then (aumbryref04_Read.l0 k1 a0 a1 l2 (wrap64 (x9_1 + 1))) else (aumbryref04_Read.j1 k1 a0 a1 l2 x9_1)) = some (r1, r2, r3) := H
            have A8 := Aside0.mk A80
            clear A80
            by_cases c9 : t101 = true
            · subst c9
              have H1 : (aumbryref04_Read.l0 k1 a0 a1 l2 (wrap64 (x9_1 + 1))) = some (r1, r2, r3) := by rw [if_pos rfl] at H; exact H
              clear H
              have H := H1
              clear H1
              have H' := Aside0.mk H
              clear H
              have p7 : 0 ≤ (x9_1 : Int) := of_decide_eq_true (by first | (with_reducible assumption) | assumption)
              have q7 : x9_1 < (a0.size : Int) := of_decide_eq_true (by first | (with_reducible assumption) | assumption)
              have hx7 := bt_at a0 x9_1
              replace p7 := eq_true p7
              replace q7 := eq_true q7
              go_wp2_with (first | (go_at_call 50; (with_reducible refine (aumbryref04_sign.calls (bt a0 x9_1) true _ A8.out).mono ?_); rintro e w' ⟨rfl, ⟨nd, rfl⟩⟩))
              go_roundg k1
              case measure => have := HK1.out; omega
              case rel => exact ⟨(wrap64 (x9_1 + 1)), (by first | rfl | (simp; done) | (simp [*]; done)), H', ⟨by have := HK1.out; omega⟩, ⟨by (with_reducible repeat (first | apply Kd.R_alloc | apply Kd.R_drewN | apply Kd.R_drew)); exact HO_2.out⟩, ⟨by repeat (first | (with_reducible first | exact HK.out | apply Kept.alloc | apply Kept.drewN | apply Kept.drew) | exact HK.out)⟩, ⟨by repeat (first | (with_reducible first | exact HB.out | apply below_alloc | apply pw_below_drewN | apply below_drew1) | exact HB.out)⟩⟩
            · replace c9 := Bool.eq_false_iff.mpr c9
              subst c9
              have H1 : (aumbryref04_Read.j1 k1 a0 a1 l2 x9_1) = some (r1, r2, r3) := by rw [if_neg (show ¬ (false = true) by decide)] at H; exact H
              clear H
              have H := H1
              clear H1
              have H' := Aside0.mk H
              clear H
              have p7 : 0 ≤ (x9_1 : Int) := of_decide_eq_true (by first | (with_reducible assumption) | assumption)
              have q7 : x9_1 < (a0.size : Int) := of_decide_eq_true (by first | (with_reducible assumption) | assumption)
              have hx7 := bt_at a0 x9_1
              replace p7 := eq_true p7
              replace q7 := eq_true q7
              go_wp2_with (first | (go_at_call 50; (with_reducible refine (aumbryref04_sign.calls (bt a0 x9_1) false _ A8.out).mono ?_); rintro e w' ⟨rfl, ⟨nd, rfl⟩⟩))
              go_meet
              case rel => exact ⟨_, (x9_1), (by first | rfl | (simp; done) | (simp [*]; done)), H', ⟨by have := HK1.out; first | omega | exact Nat.le_refl _⟩, ⟨by (with_reducible repeat (first | apply Kd.R_alloc | apply Kd.R_drewN | apply Kd.R_drew)); exact HO_2.out⟩, ⟨by repeat (first | (with_reducible first | exact HK.out | apply Kept.alloc | apply Kept.drewN | apply Kept.drew) | exact HK.out)⟩, ⟨by repeat (first | (with_reducible first | exact HB.out | apply below_alloc | apply pw_below_drewN | apply below_drew1) | exact HB.out)⟩⟩
          · rw [if_neg c6] at H
            exact absurd H (by simp)
        · rw [if_neg c5] at H
          have c5b0 : decide (x9_1 < (a0.size : Int)) = false := decide_eq_false c5
          clear c5
          (first | rw [c5b0] | (simp only [i64_w, i32_w]; rw [c5b0]) | skip)
          have H' := Aside0.mk H
          clear H
          go_wp2
          go_meet
          case rel => exact ⟨_, (x9_1), (by first | rfl | (simp; done) | (simp [*]; done)), H', ⟨by have := HK1.out; first | omega | exact Nat.le_refl _⟩, ⟨by (with_reducible repeat (first | apply Kd.R_alloc | apply Kd.R_drewN | apply Kd.R_drew)); exact HO_2.out⟩, ⟨by repeat (first | (with_reducible first | exact HK.out | apply Kept.alloc | apply Kept.drewN | apply Kept.drew) | exact HK.out)⟩, ⟨by repeat (first | (with_reducible first | exact HB.out | apply below_alloc | apply pw_below_drewN | apply below_drew1) | exact HB.out)⟩⟩
  case rest =>
    clear HC4
    try clear p2
    try clear c3
    try clear c5
    try clear c5b0
    try clear c6
    try clear c6b0
    try clear p6
    try clear p7
    try clear q7
    try clear hx7
    try clear c9
    try clear p2
    try clear p7
    try clear q7
    obtain ⟨kq, x9_3, rfl, HA, HJ3, HO_2, HK, HB⟩ := hcut
    cases kq with
    | zero => exact absurd HA.out (by simp [aumbryref04_Read.j1])
    | succ kj3 =>
      have H := HA.out
      clear HA
      simp only [aumbryref04_Read.j1] at H
      by_cases c10 : 0 ≤ a1
      · rw [if_pos c10] at H
        have c10b0 := eq_true c10
        have c10b1 : decide (0 ≤ a1) = true := decide_eq_true c10
        clear c10
        by_cases c11 : a1 ≤ x9_3
        · rw [if_pos c11] at H
          have c11b0 := eq_true c11
          have c11b1 : decide (a1 ≤ x9_3) = true := decide_eq_true c11
          clear c11
          by_cases c12 : x9_3 ≤ (a0.size : Int)
          · rw [if_pos c12] at H
            have c12b0 := eq_true c12
            have c12b1 : decide (x9_3 ≤ (a0.size : Int)) = true := decide_eq_true c12
            clear c12
            by_cases c13 : (a0.extract (a1 : Int).toNat (x9_3 : Int).toNat).toList = ([] : List UInt8)
            · rw [if_pos c13] at H
              have c13b0 : ((a0.extract (a1 : Int).toNat (x9_3 : Int).toNat).toList == ([] : List UInt8)) = true := beq_iff_eq.mpr c13
              have c13b1 : ((a0.extract (a1 : Int).toNat (x9_3 : Int).toNat).toList != ([] : List UInt8)) = false := bne_eq_false_iff_eq.mpr c13
              clear c13
              simp only [Option.some.injEq, Prod.mk.injEq] at H
              obtain ⟨rfl, rfl, rfl⟩ := H
              go_wp2
              go_ret3
              exact ⟨_, by first | rfl | (simp [errW_none, errW_some] <;> rfl) | (simp [*, errW_none, errW_some] <;> rfl), by first | exact Kd.R_nil _ _ _ _ _ | exact Kd.N_nil _ _ _ _ _ | exact Kd.V_nil _ _ _ _ _ | exact Kd.Q_nil _ _ _ _ _ | exact Kd.S_nil _ _ _ _ _, by repeat (first | (with_reducible first | exact HB.out | apply below_alloc | apply pw_below_drewN | apply below_drew1) | exact HB.out), by repeat (first | (with_reducible first | exact HK.out | apply Kept.alloc | apply Kept.drewN | apply Kept.drew) | exact HK.out)⟩
            · rw [if_neg c13] at H
              have c13b0 : ((a0.extract (a1 : Int).toNat (x9_3 : Int).toNat).toList == ([] : List UInt8)) = false := beq_eq_false_iff_ne.mpr c13
              have c13b1 : ((a0.extract (a1 : Int).toNat (x9_3 : Int).toNat).toList != ([] : List UInt8)) = true := bne_iff_ne.mpr c13
              replace H := Option.bind_eq_some_iff.mp H
              obtain ⟨t102, A140, H⟩ := H
              replace H : (if t102 = 0 then (some (([] : List (S50)), a1, 4)) else (if (l2.length : Int) = 64 then (some (([] : List (S50)), a1, 6)) else (if l2.length < 5864062014805 then ((some (l2 ++ [(⟨a0.extract (a1 : Int).toNat (x9_3 : Int).toNat, 0⟩ : S50)] : List (S50))).bind fun y103 => (if x9_3 = (a0.size : Int) then (aumbryref04_Read.j2 kj3 a0 y103 x9_3 t102 (l2.length : Int) true) else (if 0 ≤ x9_3 then (if x9_3 < (a0.size : Int) then (aumbryref04_Read.j2 kj3 a0 y103 x9_3 t102 (l2.length : Int) ((bt a0 x9_3) != 40)) else (none)) else (none)))) else (none)))) = some (r1, r2, r3) := H
              have A14 := Aside0.mk A140
              clear A140
              by_cases c15 : t102 = 0
              · rw [if_pos c15] at H
                have c15b0 : (t102 == 0) = true := beq_iff_eq.mpr c15
                have c15b1 : (t102 != 0) = false := bne_eq_false_iff_eq.mpr c15
                clear c15
                simp only [Option.some.injEq, Prod.mk.injEq] at H
                obtain ⟨rfl, rfl, rfl⟩ := H
                go_wp2_with (first | ((with_reducible refine gate_callee (f := 34) rfl ?_); refine goesL_ (some 38) rfl rfl Try.func34 (by kernel_rfl) rfl #[.string (a0.extract (a1 : Int).toNat (x9_3 : Int).toNat)] rfl (by (try simp only [List.map_toArray, List.map_cons, List.map_nil]); first | done | rfl | (simp only [List.length_drop, List.length_take]; rfl)) ?_; (with_reducible refine (aumbryref03_Kind.calls kj3 (a0.extract (a1 : Int).toNat (x9_3 : Int).toNat) t102 _ A14.out).mono ?_); rintro e w' ⟨rfl, ⟨nd, rfl⟩⟩; refine ⟨_, rfl, ?_⟩))
                go_ret3
                exact ⟨_, by first | rfl | (simp [errW_none, errW_some] <;> rfl) | (simp [*, errW_none, errW_some] <;> rfl), by first | exact Kd.R_nil _ _ _ _ _ | exact Kd.N_nil _ _ _ _ _ | exact Kd.V_nil _ _ _ _ _ | exact Kd.Q_nil _ _ _ _ _ | exact Kd.S_nil _ _ _ _ _, by repeat (first | (with_reducible first | exact HB.out | apply below_alloc | apply pw_below_drewN | apply below_drew1) | exact HB.out), by repeat (first | (with_reducible first | exact HK.out | apply Kept.alloc | apply Kept.drewN | apply Kept.drew) | exact HK.out)⟩
              · rw [if_neg c15] at H
                have c15b0 : (t102 == 0) = false := beq_eq_false_iff_ne.mpr c15
                have c15b1 : (t102 != 0) = true := bne_iff_ne.mpr c15
                by_cases c16 : (l2.length : Int) = 64
                · rw [if_pos c16] at H
                  have c16b0 : ((l2.length : Int) == 64) = true := beq_iff_eq.mpr c16
                  have c16b1 : ((l2.length : Int) != 64) = false := bne_eq_false_iff_eq.mpr c16
                  clear c16
                  simp only [Option.some.injEq, Prod.mk.injEq] at H
                  obtain ⟨rfl, rfl, rfl⟩ := H
                  go_wp2_with (first | ((with_reducible refine gate_callee (f := 34) rfl ?_); refine goesL_ (some 38) rfl rfl Try.func34 (by kernel_rfl) rfl #[.string (a0.extract (a1 : Int).toNat (x9_3 : Int).toNat)] rfl (by (try simp only [List.map_toArray, List.map_cons, List.map_nil]); first | done | rfl | (simp only [List.length_drop, List.length_take]; rfl)) ?_; (with_reducible refine (aumbryref03_Kind.calls kj3 (a0.extract (a1 : Int).toNat (x9_3 : Int).toNat) t102 _ A14.out).mono ?_); rintro e w' ⟨rfl, ⟨nd, rfl⟩⟩; refine ⟨_, rfl, ?_⟩; obtain ⟨Ao17, co17, eo17⟩ := Kd.R_slice HO_2.out; subst eo17))
                  go_ret3
                  exact ⟨_, by first | rfl | (simp [errW_none, errW_some] <;> rfl) | (simp [*, errW_none, errW_some] <;> rfl), by first | exact Kd.R_nil _ _ _ _ _ | exact Kd.N_nil _ _ _ _ _ | exact Kd.V_nil _ _ _ _ _ | exact Kd.Q_nil _ _ _ _ _ | exact Kd.S_nil _ _ _ _ _, by repeat (first | (with_reducible first | exact HB.out | apply below_alloc | apply pw_below_drewN | apply below_drew1) | exact HB.out), by repeat (first | (with_reducible first | exact HK.out | apply Kept.alloc | apply Kept.drewN | apply Kept.drew) | exact HK.out)⟩
                · rw [if_neg c16] at H
                  have c16b0 : ((l2.length : Int) == 64) = false := beq_eq_false_iff_ne.mpr c16
                  have c16b1 : ((l2.length : Int) != 64) = true := bne_iff_ne.mpr c16
                  by_cases c18 : l2.length < 5864062014805
                  · rw [if_pos c18] at H
                    have LMc18 := Aside0.mk c18
                    clear c18
                    obtain ⟨y103, hy103⟩ : ∃ y_ : List (S50), y_ = (l2 ++ [(⟨a0.extract (a1 : Int).toNat (x9_3 : Int).toNat, 0⟩ : S50)]) := ⟨_, rfl⟩
                    replace H : (if x9_3 = (a0.size : Int) then (aumbryref04_Read.j2 kj3 a0 y103 x9_3 t102 (l2.length : Int) true) else (if 0 ≤ x9_3 then (if x9_3 < (a0.size : Int) then (aumbryref04_Read.j2 kj3 a0 y103 x9_3 t102 (l2.length : Int) ((bt a0 x9_3) != 40)) else (none)) else (none))) = some (r1, r2, r3) := by first | (rw [hy103]; with_reducible exact H) | (have H2_ := (Option.bind_some _ _).symm.trans H; rw [hy103]; with_reducible exact H2_) | (have H2_ := (Option.bind_some _ _).symm.trans H; with_reducible exact H2_) | with_reducible exact H | (rw [hy103]; exact H) | exact H
                    have Ny103 := Aside0.mk hy103
                    clear hy103
                    have HC19 := Aside0.mk H
                    clear H
                    go_upto_region 14 with (first | ((with_reducible refine gate_callee (f := 34) rfl ?_); refine goesL_ (some 38) rfl rfl Try.func34 (by kernel_rfl) rfl #[.string (a0.extract (a1 : Int).toNat (x9_3 : Int).toNat)] rfl (by (try simp only [List.map_toArray, List.map_cons, List.map_nil]); first | done | rfl | (simp only [List.length_drop, List.length_take]; rfl)) ?_; (with_reducible refine (aumbryref03_Kind.calls kj3 (a0.extract (a1 : Int).toNat (x9_3 : Int).toNat) t102 _ A14.out).mono ?_); rintro e w' ⟨rfl, ⟨nd, rfl⟩⟩; refine ⟨_, rfl, ?_⟩; obtain ⟨Ao20, co20, eo20⟩ := Kd.R_slice HO_2.out; subst eo20) | ((with_reducible refine gate_builtin (b := .append) (xs := #[.tmp 48, .tmp 51]) rfl ?_); at_builtin; refine Kd.R_append k50 (w0 := w0) w0.heap.size rfl (.tmp 48) (.tmp 51) 23 50 (.agg #[(.string ⟨#[]⟩), (.int .i64 0)]) 24 rfl Try.underlying23 info50 rfl (by decide) (by omega) (.slice Ao20 l2.length co20) l2 (⟨a0.extract (a1 : Int).toNat (x9_3 : Int).toNat, 0⟩ : S50) [.string (a0.extract (a1 : Int).toNat (x9_3 : Int).toNat), .int .i64 0] (fun k_ => (P2_ k_ ∨ w.heap.size ≤ k_)) (fun _ => False) rfl rfl ?aP (fun _ hk => hk.elim) ?aF ?aO ?aB ?aS ?aL ?_; (case aP => exact k50_mkM _ _ _ (⟨a0.extract (a1 : Int).toNat (x9_3 : Int).toNat, 0⟩ : S50)); (case aB => exact (by repeat (first | (with_reducible first | exact HB.out | apply below_alloc | apply pw_below_drewN | apply below_drew1) | exact HB.out))); (case aF => exact (fun k_ hk => (.inr (Nat.le_trans (by first | exact HK.out.1 | exact (show Kept w _ (fun k_ => P2_ k_) from by repeat (first | (with_reducible first | exact HK.out | apply Kept.alloc | apply Kept.drewN | apply Kept.drew) | exact HK.out)).1) hk)))); (case aO => exact (by (with_reducible repeat (first | apply Kd.R_alloc | apply Kd.R_drewN | apply Kd.R_drew)); exact HO_2.out)); (case aS => exact (below_size (by repeat (first | (with_reducible first | exact HB.out | apply below_alloc | apply pw_below_drewN | apply below_drew1) | exact HB.out)))); (case aL => have := LMc18.out; omega); intro v104 w21 ho hb hg hat; rw [← Ny103.out] at ho; have n0_ := Aside0.mk (hb); have n1_ := Aside0.mk (Kept.of_grown (S := (fun k_ => P2_ k_)) hg (by repeat (first | (with_reducible first | exact HK.out | apply Kept.alloc | apply Kept.drewN | apply Kept.drew) | exact HK.out)) (fun k_ e_ => (HO_2.out.1 k_ e_))); have n2_ := Aside0.mk (ho); clear HB; clear HK; clear HO_2; have HB := n0_; have HK := n1_; have HO105 := n2_; clear n0_ n1_ n2_; clear ho hb hg hat))
                    (try simp only [Act.put, List.setIfInBounds_toArray, List.set_cons_zero, List.set_cons_succ])
                    go_cut [62] (fun v62 wc => ∃ (kq : Nat) (x62_18 : Bool), v62 = .bool x62_18 ∧ Aside0 (aumbryref04_Read.j2 kq a0 y103 x9_3 t102 (l2.length : Int) x62_18 = some (r1, r2, r3)) ∧ Aside0 (kq ≤ kj3) ∧ Aside0 (Kd.R k50 50 wc w0.heap.size (fun k_ => (P2_ k_ ∨ w.heap.size ≤ k_)) v104 y103) ∧ Aside0 (Kept w wc (fun k_ => P2_ k_)) ∧ Aside0 (Below w0.heap.size w0 wc))
                    case first =>
                      have H := HC19.out
                      clear HC19
                      by_cases c22 : x9_3 = (a0.size : Int)
                      · rw [if_pos c22] at H
                        have c22b0 : (x9_3 == (a0.size : Int)) = true := beq_iff_eq.mpr c22
                        have c22b1 : (x9_3 != (a0.size : Int)) = false := bne_eq_false_iff_eq.mpr c22
                        clear c22
                        (first | rw [c22b0] | (simp only [i64_w, i32_w]; rw [c22b0]) | skip)
                        have H' := Aside0.mk H
                        clear H
                        go_wp2
                        go_meet
                        case rel => exact ⟨_, (true), (by first | rfl | (simp; done) | (simp [*]; done)), H', ⟨by have := HJ3.out; first | omega | exact Nat.le_refl _⟩, ⟨by (with_reducible repeat (first | apply Kd.R_alloc | apply Kd.R_drewN | apply Kd.R_drew)); exact HO105.out⟩, ⟨by repeat (first | (with_reducible first | exact HK.out | apply Kept.alloc | apply Kept.drewN | apply Kept.drew) | exact HK.out)⟩, ⟨by repeat (first | (with_reducible first | exact HB.out | apply below_alloc | apply pw_below_drewN | apply below_drew1) | exact HB.out)⟩⟩
                      · rw [if_neg c22] at H
                        have c22b0 : (x9_3 == (a0.size : Int)) = false := beq_eq_false_iff_ne.mpr c22
                        have c22b1 : (x9_3 != (a0.size : Int)) = true := bne_iff_ne.mpr c22
                        (first | rw [c22b0] | (simp only [i64_w, i32_w]; rw [c22b0]) | skip)
                        by_cases c23 : 0 ≤ x9_3
                        · rw [if_pos c23] at H
                          have c23b0 : decide (0 ≤ x9_3) = true := decide_eq_true c23
                          clear c23
                          by_cases c24 : x9_3 < (a0.size : Int)
                          · rw [if_pos c24] at H
                            have c24b0 : decide (x9_3 < (a0.size : Int)) = true := decide_eq_true c24
                            clear c24
                            have H' := Aside0.mk H
                            clear H
                            have p25 : 0 ≤ (x9_3 : Int) := of_decide_eq_true (by first | (with_reducible assumption) | assumption)
                            have q25 : x9_3 < (a0.size : Int) := of_decide_eq_true (by first | (with_reducible assumption) | assumption)
                            have hx25 := bt_at a0 x9_3
                            replace p25 := eq_true p25
                            replace q25 := eq_true q25
                            go_wp2
                            go_meet
                            case rel => exact ⟨_, (((bt a0 x9_3) != 40)), (by first | rfl | (simp; done) | (simp [*]; done)), H', ⟨by have := HJ3.out; first | omega | exact Nat.le_refl _⟩, ⟨by (with_reducible repeat (first | apply Kd.R_alloc | apply Kd.R_drewN | apply Kd.R_drew)); exact HO105.out⟩, ⟨by repeat (first | (with_reducible first | exact HK.out | apply Kept.alloc | apply Kept.drewN | apply Kept.drew) | exact HK.out)⟩, ⟨by repeat (first | (with_reducible first | exact HB.out | apply below_alloc | apply pw_below_drewN | apply below_drew1) | exact HB.out)⟩⟩
                          · rw [if_neg c24] at H
                            exact absurd H (by simp)
                        · rw [if_neg c23] at H
                          exact absurd H (by simp)
                    case rest =>
                      clear HC19
                      try clear c1
                      try clear c2
                      try clear p2
                      try clear q2
                      try clear hx2
                      try clear c3
                      try clear c5
                      try clear c5b0
                      try clear c6
                      try clear c6b0
                      try clear p6
                      try clear p7
                      try clear q7
                      try clear hx7
                      try clear c9
                      try clear c10
                      try clear c10b0
                      try clear c10b1
                      try clear c11
                      try clear c11b0
                      try clear c11b1
                      try clear c12
                      try clear c12b0
                      try clear c12b1
                      try clear c13
                      try clear c13b0
                      try clear c13b1
                      try clear c15
                      try clear c15b0
                      try clear c15b1
                      try clear c16
                      try clear c16b0
                      try clear c16b1
                      try clear c18
                      try clear c22
                      try clear c22b0
                      try clear c22b1
                      try clear c23
                      try clear c23b0
                      try clear c24
                      try clear c24b0
                      try clear p25
                      try clear q25
                      try clear hx25
                      try clear p2
                      try clear p25
                      try clear p6
                      try clear p7
                      try clear q25
                      try clear q7
                      obtain ⟨kq, x62_18, rfl, HA, HJ18, HO_2, HK, HB⟩ := hcut
                      cases kq with
                      | zero => exact absurd HA.out (by simp [aumbryref04_Read.j2])
                      | succ kj18 =>
                        have H := HA.out
                        clear HA
                        simp only [aumbryref04_Read.j2] at H
                        by_cases c26 : x62_18 = true
                        · subst c26
                          have H1 : (some (y103, x9_3, 0)) = some (r1, r2, r3) := by rw [if_pos rfl] at H; exact H
                          clear H
                          have H := H1
                          clear H1
                          simp only [Option.some.injEq, Prod.mk.injEq] at H
                          obtain ⟨rfl, rfl, rfl⟩ := H
                          go_wp2
                          go_ret3
                          exact ⟨_, by first | rfl | (simp [errW_none, errW_some] <;> rfl) | (simp [*, errW_none, errW_some] <;> rfl), by (with_reducible repeat (first | apply Kd.R_alloc | apply Kd.R_drewN | apply Kd.R_drew)); exact HO_2.out, by repeat (first | (with_reducible first | exact HB.out | apply below_alloc | apply pw_below_drewN | apply below_drew1) | exact HB.out), by repeat (first | (with_reducible first | exact HK.out | apply Kept.alloc | apply Kept.drewN | apply Kept.drew) | exact HK.out)⟩
                        · replace c26 := Bool.eq_false_iff.mpr c26
                          subst c26
                          have H1 : (if t102 = 2 then (some (([] : List (S50)), x9_3, 5)) else (aumbryref04_Read.l1 kj18 a0 y103 x9_3 (l2.length : Int) 1)) = some (r1, r2, r3) := by rw [if_neg (show ¬ (false = true) by decide)] at H; exact H
                          clear H
                          have H := H1
                          clear H1
                          by_cases c27 : t102 = 2
                          · rw [if_pos c27] at H
                            have c27b0 : (t102 == 2) = true := beq_iff_eq.mpr c27
                            have c27b1 : (t102 != 2) = false := bne_eq_false_iff_eq.mpr c27
                            clear c27
                            simp only [Option.some.injEq, Prod.mk.injEq] at H
                            obtain ⟨rfl, rfl, rfl⟩ := H
                            go_wp2
                            go_ret3
                            exact ⟨_, by first | rfl | (simp [errW_none, errW_some] <;> rfl) | (simp [*, errW_none, errW_some] <;> rfl), by first | exact Kd.R_nil _ _ _ _ _ | exact Kd.N_nil _ _ _ _ _ | exact Kd.V_nil _ _ _ _ _ | exact Kd.Q_nil _ _ _ _ _ | exact Kd.S_nil _ _ _ _ _, by repeat (first | (with_reducible first | exact HB.out | apply below_alloc | apply pw_below_drewN | apply below_drew1) | exact HB.out), by repeat (first | (with_reducible first | exact HK.out | apply Kept.alloc | apply Kept.drewN | apply Kept.drew) | exact HK.out)⟩
                          · rw [if_neg c27] at H
                            have c27b0 : (t102 == 2) = false := beq_eq_false_iff_ne.mpr c27
                            have c27b1 : (t102 != 2) = true := bne_iff_ne.mpr c27
                            have H' := Aside0.mk H
                            clear H
                            go_wp2
                            go_loopg [2, 9, 13] kj18 (fun kq v2 v9 v13 w' => ∃ (x2_3 : List (S50)) (x9_3 : Int) (x13_3 : Int), v9 = .int .i64 x9_3 ∧ v13 = .int .i64 x13_3 ∧ Aside0 (aumbryref04_Read.l1 kq a0 x2_3 x9_3 (l2.length : Int) x13_3 = some (r1, r2, r3)) ∧ Aside0 (kq ≤ kj18) ∧ Aside0 (Kd.R k50 50 w' w0.heap.size (fun k_ => (P2_ k_ ∨ w.heap.size ≤ k_)) v2 x2_3) ∧ Aside0 (Kept w w' (fun k_ => P2_ k_)) ∧ Aside0 (Below w0.heap.size w0 w'))
                            case atStart => exact ⟨(y103), (x9_3), (1), (by first | rfl | (simp; done) | (simp [*]; done)), (by first | rfl | (simp; done) | (simp [*]; done)), H', ⟨Nat.le_refl _⟩, ⟨by (with_reducible repeat (first | apply Kd.R_alloc | apply Kd.R_drewN | apply Kd.R_drew)); exact HO_2.out⟩, ⟨by repeat (first | (with_reducible first | exact HK.out | apply Kept.alloc | apply Kept.drewN | apply Kept.drew) | exact HK.out)⟩, ⟨by repeat (first | (with_reducible first | exact HB.out | apply below_alloc | apply pw_below_drewN | apply below_drew1) | exact HB.out)⟩⟩
                            case round =>
                              clear H'
                              try clear c1
                              try clear c2
                              try clear p2
                              try clear q2
                              try clear hx2
                              try clear c3
                              try clear c5
                              try clear c5b0
                              try clear c6
                              try clear c6b0
                              try clear p6
                              try clear p7
                              try clear q7
                              try clear hx7
                              try clear c9
                              try clear c10
                              try clear c10b0
                              try clear c10b1
                              try clear c11
                              try clear c11b0
                              try clear c11b1
                              try clear c12
                              try clear c12b0
                              try clear c12b1
                              try clear c13
                              try clear c13b0
                              try clear c13b1
                              try clear c15
                              try clear c15b0
                              try clear c15b1
                              try clear c16
                              try clear c16b0
                              try clear c16b1
                              try clear c18
                              try clear c22
                              try clear c22b0
                              try clear c22b1
                              try clear c23
                              try clear c23b0
                              try clear c24
                              try clear c24b0
                              try clear p25
                              try clear q25
                              try clear hx25
                              try clear c26
                              try clear c27
                              try clear c27b0
                              try clear c27b1
                              try clear p2
                              try clear p25
                              try clear p6
                              try clear p7
                              try clear q2
                              try clear q25
                              try clear q7
                              obtain ⟨x2_3, x9_3, x13_3, rfl, rfl, HA, HK3, HO_2, HK, HB⟩ := hrel
                              cases gk with
                              | zero => exact absurd HA.out (by simp [aumbryref04_Read.l1])
                              | succ k3 =>
                                have H := HA.out
                                clear HA
                                simp only [aumbryref04_Read.l1] at H
                                replace H := Option.bind_eq_some_iff.mp H
                                obtain ⟨⟨t106, t109, t110⟩, A280, H⟩ := H
                                replace H : (if t110 = 0 then (if 0 ≤ (l2.length : Int) then (if (l2.length : Int) < (t106.length : Int) then ((some (t106.set ((l2.length : Int) : Int).toNat (⟨(rd_T50 t106 (l2.length : Int)).f0, x13_3⟩ : S50) : List (S50))).bind fun y111 => (if t109 < (a0.size : Int) then (if 0 ≤ t109 then (aumbryref04_Read.j4 k3 a0 y111 t109 (l2.length : Int) x13_3 ((bt a0 t109) == 41)) else (none)) else (aumbryref04_Read.j4 k3 a0 y111 t109 (l2.length : Int) x13_3 false))) else (none)) else (none)) else (some (([] : List (S50)), t109, t110))) = some (r1, r2, r3) := H
                                have A28 := Aside0.mk A280
                                clear A280
                                by_cases c29 : t110 = 0
                                · rw [if_pos c29] at H
                                  have c29b0 : (t110 == 0) = true := beq_iff_eq.mpr c29
                                  have c29b1 : (t110 != 0) = false := bne_eq_false_iff_eq.mpr c29
                                  clear c29
                                  by_cases c30 : 0 ≤ (l2.length : Int)
                                  · rw [if_pos c30] at H
                                    have c30b0 : decide (0 ≤ (l2.length : Int)) = true := decide_eq_true c30
                                    have c30b1 : decide (0 ≤ l2.length) = true := decide_eq_true (by omega)
                                    clear c30
                                    by_cases c31 : (l2.length : Int) < (t106.length : Int)
                                    · rw [if_pos c31] at H
                                      have c31b0 : decide ((l2.length : Int) < (t106.length : Int)) = true := decide_eq_true c31
                                      have c31b1 : decide (l2.length < t106.length) = true := decide_eq_true (Int.ofNat_lt.mp c31)
                                      clear c31
                                      obtain ⟨y111, hy111⟩ : ∃ y_ : List (S50), y_ = (t106.set ((l2.length : Int) : Int).toNat (⟨(rd_T50 t106 (l2.length : Int)).f0, x13_3⟩ : S50)) := ⟨_, rfl⟩
                                      replace H : (if t109 < (a0.size : Int) then (if 0 ≤ t109 then (aumbryref04_Read.j4 k3 a0 y111 t109 (l2.length : Int) x13_3 ((bt a0 t109) == 41)) else (none)) else (aumbryref04_Read.j4 k3 a0 y111 t109 (l2.length : Int) x13_3 false)) = some (r1, r2, r3) := by first | (rw [hy111]; with_reducible exact H) | (have H2_ := (Option.bind_some _ _).symm.trans H; rw [hy111]; with_reducible exact H2_) | (have H2_ := (Option.bind_some _ _).symm.trans H; with_reducible exact H2_) | with_reducible exact H | (rw [hy111]; exact H) | exact H
                                      have Ny111 := Aside0.mk hy111
                                      clear hy111
                                      have HC33 := Aside0.mk H
                                      clear H
                                      obtain ⟨Ao34, co34, eo34⟩ := Kd.R_slice HO_2.out
                                      subst eo34
                                      go_upto_region 26 with (first | ((with_reducible refine gate_callee (f := 39) rfl ?_); refine goesL_ (some 75) rfl rfl Try.func39 (by kernel_rfl) rfl #[.string a0, .int .i64 (wrap64 (x9_3 + 1)), .slice Ao34 x2_3.length co34] rfl (by (try simp only [List.map_toArray, List.map_cons, List.map_nil]); first | done | rfl | (simp only [List.length_drop, List.length_take]; rfl)) ?_; (with_reducible refine (ih k3 (by have := HJ3.out; have := HJ18.out; have := HK3.out; omega) a0 (wrap64 (x9_3 + 1)) (fun k_ => some k_ = (.slice Ao34 x2_3.length co34 : Value).ownBlock) (.slice Ao34 x2_3.length co34) x2_3 t106 t109 t110 w0 _ ?side1 ?side2 A28.out).mono ?_); (case side1 => repeat (first | (with_reducible first | exact HB.out | apply below_alloc | apply pw_below_drewN | apply below_drew1) | exact HB.out)); (case side2 => exact Kd.R_tight rfl HO_2.out); rintro e w35 ⟨v107, rfl, ho0, hb, hkp⟩; refine ⟨_, rfl, ?_⟩; have n0_ := Aside0.mk (Kd.R_mono (ok' := fun k_ => (P2_ k_ ∨ w.heap.size ≤ k_)) ho0 (fun k_ hk_ => Or.elim hk_ (fun hs_ => (HO_2.out.1 k_ (hs_).symm)) (fun hn_ => (.inr (Nat.le_trans (by first | exact HK.out.1 | exact (show Kept w _ (fun k_ => P2_ k_) from by repeat (first | (with_reducible first | exact HK.out | apply Kept.alloc | apply Kept.drewN | apply Kept.drew) | exact HK.out)).1) hn_))))); have n1_ := Aside0.mk (Kept.then_ (S := (fun k_ => P2_ k_)) (by repeat (first | (with_reducible first | exact HK.out | apply Kept.alloc | apply Kept.drewN | apply Kept.drew) | exact HK.out)) hkp (fun k_ hs_ => (fun e_ => (HO_2.out.1 k_ e_.symm)) hs_)); have n2_ := Aside0.mk (hb); clear HK; clear HB; clear HO_2; have HO108 := n0_; have HK := n1_; have HB := n2_; clear n0_ n1_ n2_; (try clear hb); (try clear hkp); (try clear ho0); have p32 : 0 ≤ ((l2.length : Int) : Int) := of_decide_eq_true (by first | (with_reducible assumption) | assumption); have q32 : ((l2.length : Int) : Int) < ((t106.length : Int) : Int) := of_decide_eq_true (by first | (with_reducible assumption) | assumption); obtain ⟨go32, co32, eo32, gb32, gl32, cl32, HG32⟩ := Kd.R_form HO108.out (by omega); (first | cases eo32 | (injection eo32 with ea_ en_ ec_; (first | subst ea_ | (injection ea_ with ea_; subst ea_)); subst ec_; clear en_)); have GB32 := Aside0.mk gb32; have GG32 := Aside0.mk HG32; clear gb32 gl32 HG32; have HMgo32 := Aside0.mk (show (P2_ go32 ∨ w.heap.size ≤ go32) from (HO108.out.1 _ rfl)); obtain ⟨ce32, hcl32, hM32, hcc32, hfr32⟩ := Kd.R_elem HO108.out z50 ((l2.length : Int) : Int) p32 q32; obtain rfl := k50_openM hM32; have hx32_0 : w35.cell? ⟨go32, ((l2.length : Int) : Int).toNat * 2, none⟩ = some (.string ((rd_T50 t106 (l2.length : Int)).f0)) := hcc32 0 _ rfl; have hx32_1 : w35.cell? ⟨go32, ((l2.length : Int) : Int).toNat * 2 + 1, none⟩ = some (.int .i64 ((rd_T50 t106 (l2.length : Int)).f1)) := hcc32 1 _ rfl; have hf32_0 : w35.frozen? ⟨go32, ((l2.length : Int) : Int).toNat * 2, none⟩ = false := hfr32 0; have hf32_1 : w35.frozen? ⟨go32, ((l2.length : Int) : Int).toNat * 2 + 1, none⟩ = false := hfr32 1; clear hcl32 hcc32 hfr32 hM32; replace p32 := eq_true p32; replace q32 := eq_true q32; have HX36 := Aside0.mk (show Kd.R k50 50 w35 w0.heap.size (fun k_ => (P2_ k_ ∨ w.heap.size ≤ k_)) (.slice (some ⟨go32, 0, none⟩) t106.length co32) t106 from (by (with_reducible repeat (first | apply Kd.R_alloc | apply Kd.R_drewN | apply Kd.R_drew)); exact HO108.out)); obtain ⟨ce36, hcl36, hM36, hcc36, hfr36⟩ := Kd.R_elem HX36.out z50 ((l2.length : Int) : Int) (of_decide_eq_true (by first | (with_reducible assumption) | assumption)) (by have h_ : ((l2.length : Int) : Int) < ((t106.length : Int) : Int) := of_decide_eq_true (by first | (with_reducible assumption) | assumption); first | exact h_ | (have e_ := (Kd.R_reads' HO108.out).1; omega) | simpa using h_); obtain rfl := k50_openM hM36; have HP36 := Kd.R_seg HX36.out ((l2.length : Int) : Int) (of_decide_eq_true (by first | (with_reducible assumption) | assumption)) (by have h_ : ((l2.length : Int) : Int) < ((t106.length : Int) : Int) := of_decide_eq_true (by first | (with_reducible assumption) | assumption); first | exact h_ | (have e_ := (Kd.R_reads' HO108.out).1; omega) | simpa using h_) (seg := [.int .i64 x13_3]) (j := 1) hcl36 hcc36 (show 2 ≤ 2 from by decide) (x' := (⟨(rd_T50 t106 (l2.length : Int)).f0, x13_3⟩ : S50)) (k50_mkM _ _ _ (⟨(rd_T50 t106 (l2.length : Int)).f0, x13_3⟩ : S50) ) (fun _ hk => hk); have hx36_1 := hcc36 1 _ rfl; (try simp only [show (k50).sz = 2 from rfl, Nat.mul_one, Nat.add_zero] at hx36_1); have hf36_1 := hfr36 1; (try simp only [show (k50).sz = 2 from rfl, Nat.mul_one, Nat.add_zero] at hf36_1); (try simp only [Int.toNat_natCast] at hf32_0); (try simp only [Int.toNat_natCast] at hf32_1); (try simp only [Int.toNat_natCast] at hf36_1); (try simp only [Int.toNat_natCast] at hx32_0); (try simp only [Int.toNat_natCast] at hx32_1); (try simp only [Int.toNat_natCast] at hx36_1); clear hcl36 hcc36 hfr36 hM36) | ((with_reducible refine gate_store (t := 3) (p := 88) rfl ?_); refine store_event (t := 3) (p := 88) (v := ?vo_w37) (w1 := (w35.setCell ⟨go32, ((l2.length : Int) : Int).toNat * 2 + 1, none⟩ (.int .i64 x13_3))) ?hg ?ho ?hn ?hr ?_; (case ho => rfl); (case hg => rfl); (case hn => rfl); (case hr => first | (go_simp; done) | (go_simp; rfl)); intro w37 hw; have hg : w35.grownBy w37 (some go32) := (by rw [hw]; exact HP36.2); have hp_ : Kd.R k50 50 w37 w0.heap.size (fun k_ => (P2_ k_ ∨ w.heap.size ≤ k_)) (.slice (some ⟨go32, 0, none⟩) t106.length co32) y111 := (by rw [hw, Ny111.out]; exact HP36.1); clear HP36; have n0_ := Aside0.mk (hp_); have n1_ := Aside0.mk ((by rw [hw]; exact below_set (HB.out) GB32.out : Below w0.heap.size w0 w37)); have n2_ := Aside0.mk (Kept.of_grown (S := (fun k_ => P2_ k_)) hg (by repeat (first | (with_reducible first | exact HK.out | apply Kept.alloc | apply Kept.drewN | apply Kept.drew) | exact HK.out)) (fun k_ e_ => (HO108.out.1 k_ e_))); clear HO108; clear HB; clear HK; have HO108 := n0_; have HB := n1_; have HK := n2_; clear n0_ n1_ n2_; clear hg hw hp_))
                                      (try simp only [Act.put, List.setIfInBounds_toArray, List.set_cons_zero, List.set_cons_succ])
                                      go_cut [99] (fun v99 wc => ∃ (kq : Nat) (x99_32 : Bool), v99 = .bool x99_32 ∧ Aside0 (aumbryref04_Read.j4 kq a0 y111 t109 (l2.length : Int) x13_3 x99_32 = some (r1, r2, r3)) ∧ Aside0 (kq ≤ k3) ∧ Aside0 (Kd.R k50 50 wc w0.heap.size (fun k_ => (P2_ k_ ∨ w.heap.size ≤ k_)) (.slice (some ⟨go32, 0, none⟩) t106.length co32) y111) ∧ Aside0 (Kept w wc (fun k_ => P2_ k_)) ∧ Aside0 (Below w0.heap.size w0 wc))
                                      case first =>
                                        have H := HC33.out
                                        clear HC33
                                        by_cases c38 : t109 < (a0.size : Int)
                                        · rw [if_pos c38] at H
                                          have c38b0 : decide (t109 < (a0.size : Int)) = true := decide_eq_true c38
                                          clear c38
                                          (first | rw [c38b0] | (simp only [i64_w, i32_w]; rw [c38b0]) | skip)
                                          by_cases c39 : 0 ≤ t109
                                          · rw [if_pos c39] at H
                                            have c39b0 : decide (0 ≤ t109) = true := decide_eq_true c39
                                            clear c39
                                            have H' := Aside0.mk H
                                            clear H
                                            have p40 : 0 ≤ (t109 : Int) := of_decide_eq_true (by first | (with_reducible assumption) | assumption)
                                            have q40 : t109 < (a0.size : Int) := of_decide_eq_true (by first | (with_reducible assumption) | assumption)
                                            have hx40 := bt_at a0 t109
                                            replace p40 := eq_true p40
                                            replace q40 := eq_true q40
                                            go_wp2
                                            go_meet
                                            case rel => exact ⟨_, (((bt a0 t109) == 41)), (by first | rfl | (simp; done) | (simp [*]; done)), H', ⟨by have := HJ3.out; have := HJ18.out; have := HK3.out; first | omega | exact Nat.le_refl _⟩, ⟨by (with_reducible repeat (first | apply Kd.R_alloc | apply Kd.R_drewN | apply Kd.R_drew)); exact HO108.out⟩, ⟨by repeat (first | (with_reducible first | exact HK.out | apply Kept.alloc | apply Kept.drewN | apply Kept.drew) | exact HK.out)⟩, ⟨by repeat (first | (with_reducible first | exact HB.out | apply below_alloc | apply pw_below_drewN | apply below_drew1) | exact HB.out)⟩⟩
                                          · rw [if_neg c39] at H
                                            exact absurd H (by simp)
                                        · rw [if_neg c38] at H
                                          have c38b0 : decide (t109 < (a0.size : Int)) = false := decide_eq_false c38
                                          clear c38
                                          (first | rw [c38b0] | (simp only [i64_w, i32_w]; rw [c38b0]) | skip)
                                          have H' := Aside0.mk H
                                          clear H
                                          go_wp2
                                          go_meet
                                          case rel => exact ⟨_, (false), (by first | rfl | (simp; done) | (simp [*]; done)), H', ⟨by have := HJ3.out; have := HJ18.out; have := HK3.out; first | omega | exact Nat.le_refl _⟩, ⟨by (with_reducible repeat (first | apply Kd.R_alloc | apply Kd.R_drewN | apply Kd.R_drew)); exact HO108.out⟩, ⟨by repeat (first | (with_reducible first | exact HK.out | apply Kept.alloc | apply Kept.drewN | apply Kept.drew) | exact HK.out)⟩, ⟨by repeat (first | (with_reducible first | exact HB.out | apply below_alloc | apply pw_below_drewN | apply below_drew1) | exact HB.out)⟩⟩
                                      case rest =>
                                        clear HC33
                                        try clear c1
                                        try clear c2
                                        try clear p2
                                        try clear q2
                                        try clear hx2
                                        try clear c3
                                        try clear p3
                                        try clear q3
                                        try clear hx3
                                        try clear hf3
                                        try clear p4
                                        try clear q4
                                        try clear hx4
                                        try clear c5
                                        try clear c5b0
                                        try clear c6
                                        try clear c6b0
                                        try clear p6
                                        try clear p7
                                        try clear q7
                                        try clear hx7
                                        try clear c9
                                        try clear c10
                                        try clear c10b0
                                        try clear c10b1
                                        try clear c11
                                        try clear c11b0
                                        try clear c11b1
                                        try clear c12
                                        try clear c12b0
                                        try clear c12b1
                                        try clear c13
                                        try clear c13b0
                                        try clear c13b1
                                        try clear c15
                                        try clear c15b0
                                        try clear c15b1
                                        try clear c16
                                        try clear c16b0
                                        try clear c16b1
                                        try clear c18
                                        try clear c22
                                        try clear c22b0
                                        try clear c22b1
                                        try clear c23
                                        try clear c23b0
                                        try clear c24
                                        try clear c24b0
                                        try clear p25
                                        try clear q25
                                        try clear hx25
                                        try clear c26
                                        try clear c27
                                        try clear c27b0
                                        try clear c27b1
                                        try clear c29
                                        try clear c29b0
                                        try clear c29b1
                                        try clear c30
                                        try clear c30b0
                                        try clear c30b1
                                        try clear c31
                                        try clear c31b0
                                        try clear c31b1
                                        try clear c32
                                        try clear p32
                                        try clear q32
                                        try clear hx32
                                        try clear hf32
                                        try clear c34
                                        try clear c36
                                        try clear hx36
                                        try clear hf36
                                        try clear c38
                                        try clear c38b0
                                        try clear c39
                                        try clear c39b0
                                        try clear p40
                                        try clear q40
                                        try clear hx40
                                        try clear hx32_0
                                        try clear hx32_1
                                        try clear hx36_1
                                        try clear p2
                                        try clear p25
                                        try clear p32
                                        try clear p40
                                        try clear p6
                                        try clear p7
                                        try clear q2
                                        try clear q25
                                        try clear q32
                                        try clear q40
                                        try clear q7
                                        obtain ⟨kq, x99_32, rfl, HA, HJ32, HO_2, HK, HB⟩ := hcut
                                        have hl2_32 := (Kd.R_reads' HO_2.out).1
                                        rw [hl2_32] at HO_2
                                        (try simp only [hl2_32])
                                        cases kq with
                                        | zero => exact absurd HA.out (by simp [aumbryref04_Read.j4])
                                        | succ kj32 =>
                                          have H := HA.out
                                          clear HA
                                          simp only [aumbryref04_Read.j4] at H
                                          by_cases c41 : x99_32 = true
                                          · subst c41
                                            have H1 : (some (y111, wrap64 (t109 + 1), 0)) = some (r1, r2, r3) := by rw [if_pos rfl] at H; exact H
                                            clear H
                                            have H := H1
                                            clear H1
                                            simp only [Option.some.injEq, Prod.mk.injEq] at H
                                            obtain ⟨rfl, rfl, rfl⟩ := H
                                            go_wp2
                                            go_ret3
                                            exact ⟨_, by first | rfl | (simp [errW_none, errW_some] <;> rfl) | (simp [*, errW_none, errW_some] <;> rfl), by (with_reducible repeat (first | apply Kd.R_alloc | apply Kd.R_drewN | apply Kd.R_drew)); exact HO_2.out, by repeat (first | (with_reducible first | exact HB.out | apply below_alloc | apply pw_below_drewN | apply below_drew1) | exact HB.out), by repeat (first | (with_reducible first | exact HK.out | apply Kept.alloc | apply Kept.drewN | apply Kept.drew) | exact HK.out)⟩
                                          · replace c41 := Bool.eq_false_iff.mpr c41
                                            subst c41
                                            have H1 : (if t109 = (a0.size : Int) then (aumbryref04_Read.j5 kj32 a0 y111 t109 (l2.length : Int) x13_3 true) else (if 0 ≤ t109 then (if t109 < (a0.size : Int) then (aumbryref04_Read.j5 kj32 a0 y111 t109 (l2.length : Int) x13_3 ((bt a0 t109) != 44)) else (none)) else (none))) = some (r1, r2, r3) := by rw [if_neg (show ¬ (false = true) by decide)] at H; exact H
                                            clear H
                                            have H := H1
                                            clear H1
                                            have HC42 := Aside0.mk H
                                            clear H
                                            go_upto_region 28 with (fail)
                                            go_cut [112] (fun v112 wc => ∃ (kq : Nat) (x112_41 : Bool), v112 = .bool x112_41 ∧ Aside0 (aumbryref04_Read.j5 kq a0 y111 t109 (l2.length : Int) x13_3 x112_41 = some (r1, r2, r3)) ∧ Aside0 (kq ≤ kj32) ∧ Aside0 (Kd.R k50 50 wc w0.heap.size (fun k_ => (P2_ k_ ∨ w.heap.size ≤ k_)) (.slice (some ⟨go32, 0, none⟩) y111.length co32) y111) ∧ Aside0 (Kept w wc (fun k_ => P2_ k_)) ∧ Aside0 (Below w0.heap.size w0 wc))
                                            case first =>
                                              have H := HC42.out
                                              clear HC42
                                              by_cases c43 : t109 = (a0.size : Int)
                                              · rw [if_pos c43] at H
                                                have c43b0 : (t109 == (a0.size : Int)) = true := beq_iff_eq.mpr c43
                                                have c43b1 : (t109 != (a0.size : Int)) = false := bne_eq_false_iff_eq.mpr c43
                                                clear c43
                                                (first | rw [c43b0] | (simp only [i64_w, i32_w]; rw [c43b0]) | skip)
                                                have H' := Aside0.mk H
                                                clear H
                                                go_wp2
                                                go_meet
                                                case rel => exact ⟨_, (true), (by first | rfl | (simp; done) | (simp [*]; done)), H', ⟨by have := HJ3.out; have := HJ18.out; have := HK3.out; have := HJ32.out; first | omega | exact Nat.le_refl _⟩, ⟨by (try simp only [hl2_32]); (with_reducible repeat (first | apply Kd.R_alloc | apply Kd.R_drewN | apply Kd.R_drew)); exact HO_2.out⟩, ⟨by repeat (first | (with_reducible first | exact HK.out | apply Kept.alloc | apply Kept.drewN | apply Kept.drew) | exact HK.out)⟩, ⟨by repeat (first | (with_reducible first | exact HB.out | apply below_alloc | apply pw_below_drewN | apply below_drew1) | exact HB.out)⟩⟩
                                              · rw [if_neg c43] at H
                                                have c43b0 : (t109 == (a0.size : Int)) = false := beq_eq_false_iff_ne.mpr c43
                                                have c43b1 : (t109 != (a0.size : Int)) = true := bne_iff_ne.mpr c43
                                                (first | rw [c43b0] | (simp only [i64_w, i32_w]; rw [c43b0]) | skip)
                                                by_cases c44 : 0 ≤ t109
                                                · rw [if_pos c44] at H
                                                  have c44b0 : decide (0 ≤ t109) = true := decide_eq_true c44
                                                  clear c44
                                                  by_cases c45 : t109 < (a0.size : Int)
                                                  · rw [if_pos c45] at H
                                                    have c45b0 : decide (t109 < (a0.size : Int)) = true := decide_eq_true c45
                                                    clear c45
                                                    have H' := Aside0.mk H
                                                    clear H
                                                    have p46 : 0 ≤ (t109 : Int) := of_decide_eq_true (by first | (with_reducible assumption) | assumption)
                                                    have q46 : t109 < (a0.size : Int) := of_decide_eq_true (by first | (with_reducible assumption) | assumption)
                                                    have hx46 := bt_at a0 t109
                                                    replace p46 := eq_true p46
                                                    replace q46 := eq_true q46
                                                    go_wp2
                                                    go_meet
                                                    case rel => exact ⟨_, (((bt a0 t109) != 44)), (by first | rfl | (simp; done) | (simp [*]; done)), H', ⟨by have := HJ3.out; have := HJ18.out; have := HK3.out; have := HJ32.out; first | omega | exact Nat.le_refl _⟩, ⟨by (try simp only [hl2_32]); (with_reducible repeat (first | apply Kd.R_alloc | apply Kd.R_drewN | apply Kd.R_drew)); exact HO_2.out⟩, ⟨by repeat (first | (with_reducible first | exact HK.out | apply Kept.alloc | apply Kept.drewN | apply Kept.drew) | exact HK.out)⟩, ⟨by repeat (first | (with_reducible first | exact HB.out | apply below_alloc | apply pw_below_drewN | apply below_drew1) | exact HB.out)⟩⟩
                                                  · rw [if_neg c45] at H
                                                    exact absurd H (by simp)
                                                · rw [if_neg c44] at H
                                                  exact absurd H (by simp)
                                            case rest =>
                                              clear HC42
                                              try clear c1
                                              try clear c2
                                              try clear p2
                                              try clear q2
                                              try clear hx2
                                              try clear c3
                                              try clear p3
                                              try clear q3
                                              try clear hx3
                                              try clear hf3
                                              try clear c4
                                              try clear p4
                                              try clear q4
                                              try clear hx4
                                              try clear c5
                                              try clear c5b0
                                              try clear c6
                                              try clear c6b0
                                              try clear p6
                                              try clear p7
                                              try clear q7
                                              try clear hx7
                                              try clear c9
                                              try clear c10
                                              try clear c10b0
                                              try clear c10b1
                                              try clear c11
                                              try clear c11b0
                                              try clear c11b1
                                              try clear c12
                                              try clear c12b0
                                              try clear c12b1
                                              try clear c13
                                              try clear c13b0
                                              try clear c13b1
                                              try clear c15
                                              try clear c15b0
                                              try clear c15b1
                                              try clear c16
                                              try clear c16b0
                                              try clear c16b1
                                              try clear c18
                                              try clear c22
                                              try clear c22b0
                                              try clear c22b1
                                              try clear c23
                                              try clear c23b0
                                              try clear c24
                                              try clear c24b0
                                              try clear p25
                                              try clear q25
                                              try clear hx25
                                              try clear c26
                                              try clear c27
                                              try clear c27b0
                                              try clear c27b1
                                              try clear c29
                                              try clear c29b0
                                              try clear c29b1
                                              try clear c30
                                              try clear c30b0
                                              try clear c30b1
                                              try clear c31
                                              try clear c31b0
                                              try clear c31b1
                                              try clear c32
                                              try clear p32
                                              try clear q32
                                              try clear hx32
                                              try clear hf32
                                              try clear c34
                                              try clear c36
                                              try clear hx36
                                              try clear hf36
                                              try clear c38
                                              try clear c38b0
                                              try clear c39
                                              try clear c39b0
                                              try clear p40
                                              try clear q40
                                              try clear hx40
                                              try clear c41
                                              try clear c43
                                              try clear c43b0
                                              try clear c43b1
                                              try clear c44
                                              try clear c44b0
                                              try clear c45
                                              try clear c45b0
                                              try clear p46
                                              try clear q46
                                              try clear hx46
                                              try clear hx32_0
                                              try clear hx32_1
                                              try clear hx36_1
                                              try clear p2
                                              try clear p25
                                              try clear p3
                                              try clear p32
                                              try clear p4
                                              try clear p40
                                              try clear p46
                                              try clear p6
                                              try clear p7
                                              try clear q2
                                              try clear q25
                                              try clear q3
                                              try clear q32
                                              try clear q4
                                              try clear q40
                                              try clear q46
                                              try clear q7
                                              obtain ⟨kq, x112_41, rfl, HA, HJ41, HO_2, HK, HB⟩ := hcut
                                              cases kq with
                                              | zero => exact absurd HA.out (by simp [aumbryref04_Read.j5])
                                              | succ kj41 =>
                                                have H := HA.out
                                                clear HA
                                                simp only [aumbryref04_Read.j5] at H
                                                by_cases c47 : x112_41 = true
                                                · subst c47
                                                  have H1 : (some (([] : List (S50)), t109, 3)) = some (r1, r2, r3) := by rw [if_pos rfl] at H; exact H
                                                  clear H
                                                  have H := H1
                                                  clear H1
                                                  simp only [Option.some.injEq, Prod.mk.injEq] at H
                                                  obtain ⟨rfl, rfl, rfl⟩ := H
                                                  go_wp2
                                                  go_ret3
                                                  exact ⟨_, by first | rfl | (simp [errW_none, errW_some] <;> rfl) | (simp [*, errW_none, errW_some] <;> rfl), by first | exact Kd.R_nil _ _ _ _ _ | exact Kd.N_nil _ _ _ _ _ | exact Kd.V_nil _ _ _ _ _ | exact Kd.Q_nil _ _ _ _ _ | exact Kd.S_nil _ _ _ _ _, by repeat (first | (with_reducible first | exact HB.out | apply below_alloc | apply pw_below_drewN | apply below_drew1) | exact HB.out), by repeat (first | (with_reducible first | exact HK.out | apply Kept.alloc | apply Kept.drewN | apply Kept.drew) | exact HK.out)⟩
                                                · replace c47 := Bool.eq_false_iff.mpr c47
                                                  subst c47
                                                  have H1 : (if x13_3 = 4 then (some (([] : List (S50)), t109, 5)) else (aumbryref04_Read.l1 kj41 a0 y111 t109 (l2.length : Int) (wrap64 (x13_3 + 1)))) = some (r1, r2, r3) := by rw [if_neg (show ¬ (false = true) by decide)] at H; exact H
                                                  clear H
                                                  have H := H1
                                                  clear H1
                                                  by_cases c48 : x13_3 = 4
                                                  · rw [if_pos c48] at H
                                                    have c48b0 : (x13_3 == 4) = true := beq_iff_eq.mpr c48
                                                    have c48b1 : (x13_3 != 4) = false := bne_eq_false_iff_eq.mpr c48
                                                    clear c48
                                                    simp only [Option.some.injEq, Prod.mk.injEq] at H
                                                    obtain ⟨rfl, rfl, rfl⟩ := H
                                                    go_wp2
                                                    go_ret3
                                                    exact ⟨_, by first | rfl | (simp [errW_none, errW_some] <;> rfl) | (simp [*, errW_none, errW_some] <;> rfl), by first | exact Kd.R_nil _ _ _ _ _ | exact Kd.N_nil _ _ _ _ _ | exact Kd.V_nil _ _ _ _ _ | exact Kd.Q_nil _ _ _ _ _ | exact Kd.S_nil _ _ _ _ _, by repeat (first | (with_reducible first | exact HB.out | apply below_alloc | apply pw_below_drewN | apply below_drew1) | exact HB.out), by repeat (first | (with_reducible first | exact HK.out | apply Kept.alloc | apply Kept.drewN | apply Kept.drew) | exact HK.out)⟩
                                                  · rw [if_neg c48] at H
                                                    have c48b0 : (x13_3 == 4) = false := beq_eq_false_iff_ne.mpr c48
                                                    have c48b1 : (x13_3 != 4) = true := bne_iff_ne.mpr c48
                                                    have H' := Aside0.mk H
                                                    clear H
                                                    go_wp2
                                                    (try simp only [← hl2_32])
                                                    go_roundg kj41
                                                    case measure => have := HJ3.out; have := HJ18.out; have := HK3.out; have := HJ32.out; have := HJ41.out; omega
                                                    case rel => exact ⟨(y111), (t109), (wrap64 (x13_3 + 1)), (by first | rfl | (simp; done) | (simp [*]; done)), (by first | rfl | (simp; done) | (simp [*]; done)), H', ⟨by have := HJ3.out; have := HJ18.out; have := HK3.out; have := HJ32.out; have := HJ41.out; omega⟩, ⟨by (try simp only [hl2_32]); (with_reducible repeat (first | apply Kd.R_alloc | apply Kd.R_drewN | apply Kd.R_drew)); exact HO_2.out⟩, ⟨by repeat (first | (with_reducible first | exact HK.out | apply Kept.alloc | apply Kept.drewN | apply Kept.drew) | exact HK.out)⟩, ⟨by repeat (first | (with_reducible first | exact HB.out | apply below_alloc | apply pw_below_drewN | apply below_drew1) | exact HB.out)⟩⟩
                                    · rw [if_neg c31] at H
                                      exact absurd H (by simp)
                                  · rw [if_neg c30] at H
                                    exact absurd H (by simp)
                                · rw [if_neg c29] at H
                                  have c29b0 : (t110 == 0) = false := beq_eq_false_iff_ne.mpr c29
                                  have c29b1 : (t110 != 0) = true := bne_iff_ne.mpr c29
                                  simp only [Option.some.injEq, Prod.mk.injEq] at H
                                  obtain ⟨rfl, rfl, rfl⟩ := H
                                  obtain ⟨Ao49, co49, eo49⟩ := Kd.R_slice HO_2.out
                                  subst eo49
                                  go_wp2_with (first | ((with_reducible refine gate_callee (f := 39) rfl ?_); refine goesL_ (some 75) rfl rfl Try.func39 (by kernel_rfl) rfl #[.string a0, .int .i64 (wrap64 (x9_3 + 1)), .slice Ao49 x2_3.length co49] rfl (by (try simp only [List.map_toArray, List.map_cons, List.map_nil]); first | done | rfl | (simp only [List.length_drop, List.length_take]; rfl)) ?_; (with_reducible refine (ih k3 (by have := HJ3.out; have := HJ18.out; have := HK3.out; omega) a0 (wrap64 (x9_3 + 1)) (fun k_ => some k_ = (.slice Ao49 x2_3.length co49 : Value).ownBlock) (.slice Ao49 x2_3.length co49) x2_3 t106 t109 t110 w0 _ ?side1 ?side2 A28.out).mono ?_); (case side1 => repeat (first | (with_reducible first | exact HB.out | apply below_alloc | apply pw_below_drewN | apply below_drew1) | exact HB.out)); (case side2 => exact Kd.R_tight rfl HO_2.out); rintro e w50 ⟨v107, rfl, ho0, hb, hkp⟩; refine ⟨_, rfl, ?_⟩; have n0_ := Aside0.mk (Kd.R_mono (ok' := fun k_ => (P2_ k_ ∨ w.heap.size ≤ k_)) ho0 (fun k_ hk_ => Or.elim hk_ (fun hs_ => (HO_2.out.1 k_ (hs_).symm)) (fun hn_ => (.inr (Nat.le_trans (by first | exact HK.out.1 | exact (show Kept w _ (fun k_ => P2_ k_) from by repeat (first | (with_reducible first | exact HK.out | apply Kept.alloc | apply Kept.drewN | apply Kept.drew) | exact HK.out)).1) hn_))))); have n1_ := Aside0.mk (Kept.then_ (S := (fun k_ => P2_ k_)) (by repeat (first | (with_reducible first | exact HK.out | apply Kept.alloc | apply Kept.drewN | apply Kept.drew) | exact HK.out)) hkp (fun k_ hs_ => (fun e_ => (HO_2.out.1 k_ e_.symm)) hs_)); have n2_ := Aside0.mk (hb); clear HK; clear HB; clear HO_2; have HO108 := n0_; have HK := n1_; have HB := n2_; clear n0_ n1_ n2_; (try clear hb); (try clear hkp); (try clear ho0)))
                                  go_ret3
                                  exact ⟨_, by first | rfl | (simp [errW_none, errW_some] <;> rfl) | (simp [*, errW_none, errW_some] <;> rfl), by first | exact Kd.R_nil _ _ _ _ _ | exact Kd.N_nil _ _ _ _ _ | exact Kd.V_nil _ _ _ _ _ | exact Kd.Q_nil _ _ _ _ _ | exact Kd.S_nil _ _ _ _ _, by repeat (first | (with_reducible first | exact HB.out | apply below_alloc | apply pw_below_drewN | apply below_drew1) | exact HB.out), by repeat (first | (with_reducible first | exact HK.out | apply Kept.alloc | apply Kept.drewN | apply Kept.drew) | exact HK.out)⟩
                  · rw [if_neg c18] at H
                    exact absurd H (by simp)
          · rw [if_neg c12] at H
            exact absurd H (by simp)
        · rw [if_neg c11] at H
          exact absurd H (by simp)
      · rw [if_neg c10] at H
        exact absurd H (by simp)

end Go.Proofs.Ytcmnpjgmpgjbdaa.P

-- ==== PF15
namespace Go.Proofs.Ytcmnpjgmpgjbdaa.P
open Go.RowKit Go.Proofs.YtcmnpjgmpgjbdaaW.PrintWords Go.Proofs.YtcmnpjgmpgjbdaaW.PrintLast Go.Proofs.YtcmnpjgmpgjbdaaW.PrintMore
attribute [local go_sem] max2_int min2_int max_two min_two max_three min_three max_four min_four   -- for this text's walks alone
set_option linter.unusedVariables false
set_option linter.unusedSimpArgs false

/-! ### aumbryref04_Parse: function 15 -/
def aumbryref04_Parse.j0 : Nat → List (S50) → Int → Int → Bool → Option ((List (S50)) × Int × Int)
  | 0, _, _, _, _ => none
  | k + 1, x5, x6, x7, x24 => if x24 = true then (some (([] : List (S50)), x6, 3)) else (if x7 = 0 then (some (x5, 0, 0)) else (some (([] : List (S50)), x6, x7)))
def aumbryref04_Parse.f (k : Nat) (a0 : ByteArray) : Option ((List (S50)) × Int × Int) := if (a0.size : Int) > 1024 then (some (([] : List (S50)), 0, 2)) else ((aumbryref04_Read.f k a0 0 ([] : List (S50))).bind fun bt101 => (if bt101.2.2 = 0 then (aumbryref04_Parse.j0 k bt101.1 bt101.2.1 bt101.2.2 (decide (bt101.2.1 < (a0.size : Int)))) else (aumbryref04_Parse.j0 k bt101.1 bt101.2.1 bt101.2.2 false)))
set_option maxHeartbeats 8000000 in
set_option maxRecDepth 100000 in
theorem aumbryref04_Parse.calls (k : Nat) (a0 : ByteArray) (r1 : List (S50)) (r2 : Int) (r3 : Int) (w : World) (h : aumbryref04_Parse.f k a0 = some (r1, r2, r3)) :
    Calls Try.prog 15 #[.string a0] w fun e w' => ∃ v0_ : Value, e = .returned (.tuple #[v0_, .int .i64 r2, .int .i64 r3]) ∧ Kd.R k50 50 w' w.heap.size (fun _ => True) v0_ r1 ∧ Below w.heap.size w w' := by
  have HB := Aside0.mk (Below.refl w.heap.size w)
  have H : (if (a0.size : Int) > 1024 then (some (([] : List (S50)), 0, 2)) else ((aumbryref04_Read.f k a0 0 ([] : List (S50))).bind fun bt101 => (if bt101.2.2 = 0 then (aumbryref04_Parse.j0 k bt101.1 bt101.2.1 bt101.2.2 (decide (bt101.2.1 < (a0.size : Int)))) else (aumbryref04_Parse.j0 k bt101.1 bt101.2.1 bt101.2.2 false)))) = some (r1, r2, r3) := h
  clear h
  by_cases c2 : (a0.size : Int) > 1024
  · rw [if_pos c2] at H
    have c2b0 : decide (1024 < (a0.size : Int)) = true := decide_eq_true c2
    have c2b1 : decide (1024 < a0.size) = true := decide_eq_true (by omega)
    clear c2
    simp only [Option.some.injEq, Prod.mk.injEq] at H
    obtain ⟨rfl, rfl, rfl⟩ := H
    go_enter Try.func15, Try.ntmps15
    go_wp2
    go_ret3
    exact ⟨_, by first | rfl | (simp [errW_none, errW_some] <;> rfl) | (simp [*, errW_none, errW_some] <;> rfl), by first | exact Kd.R_nil _ _ _ _ _ | exact Kd.N_nil _ _ _ _ _ | exact Kd.V_nil _ _ _ _ _ | exact Kd.Q_nil _ _ _ _ _ | exact Kd.S_nil _ _ _ _ _, by repeat (first | (with_reducible first | exact HB.out | apply below_alloc | apply pw_below_drewN | apply below_drew1) | exact HB.out)⟩
  · rw [if_neg c2] at H
    have c2b0 : decide (1024 < (a0.size : Int)) = false := decide_eq_false c2
    have c2b1 : decide (1024 < a0.size) = false := decide_eq_false (by omega)
    clear c2
    replace H := Option.bind_eq_some_iff.mp H
    obtain ⟨⟨t101, t104, t105⟩, A30, H⟩ := H
    replace H : (if t105 = 0 then (aumbryref04_Parse.j0 k t101 t104 t105 (decide (t104 < (a0.size : Int)))) else (aumbryref04_Parse.j0 k t101 t104 t105 false)) = some (r1, r2, r3) := H
    have A3 := Aside0.mk A30
    clear A30
    have HC4 := Aside0.mk H
    clear H
    go_enter Try.func15, Try.ntmps15
    go_upto_region 4 with (first | ((with_reducible refine gate_callee (f := 39) rfl ?_); refine goesL_ (some 13) rfl rfl Try.func39 (by kernel_rfl) rfl #[.string a0, .int .i64 0, .slice none 0 0] rfl (by (try simp only [List.map_toArray, List.map_cons, List.map_nil]); first | done | rfl | (simp only [List.length_drop, List.length_take]; rfl)) ?_; (refine (aumbryref04_Read.calls k a0 0 (fun k_ => some k_ = (.slice none 0 0 : Value).ownBlock) (.slice none 0 0) ([] : List (S50)) t101 t104 t105 w _ ?side1 ?side2 A3.out).mono ?_); (case side1 => repeat (first | (with_reducible first | exact HB.out | apply below_alloc | apply pw_below_drewN | apply below_drew1) | exact HB.out)); (case side2 => exact Kd.R_nil _ _ _ _ _); rintro e w5 ⟨v102, rfl, ho0, hb, hkp⟩; refine ⟨_, rfl, ?_⟩; have n0_ := Aside0.mk (Kd.R_mono (ok' := fun k_ => True) ho0 (fun k_ hk_ => trivial)); have n1_ := Aside0.mk (hb); clear HB; have HO103 := n0_; have HB := n1_; clear n0_ n1_; (try clear hb); (try clear hkp); (try clear ho0)))
    (try simp only [Act.put, List.setIfInBounds_toArray, List.set_cons_zero, List.set_cons_succ])
    go_cut [24] (fun v24 wc => ∃ (kq : Nat) (x24_3 : Bool), v24 = .bool x24_3 ∧ Aside0 (aumbryref04_Parse.j0 kq t101 t104 t105 x24_3 = some (r1, r2, r3)) ∧ Aside0 (kq ≤ k) ∧ Aside0 (Kd.R k50 50 wc w.heap.size (fun _ => True) v102 t101) ∧ Aside0 (Below w.heap.size w wc))
    case first =>
      have H := HC4.out
      clear HC4
      by_cases c6 : t105 = 0
      · rw [if_pos c6] at H
        have c6b0 : (t105 == 0) = true := beq_iff_eq.mpr c6
        have c6b1 : (t105 != 0) = false := bne_eq_false_iff_eq.mpr c6
        clear c6
        (first | rw [c6b0] | (simp only [i64_w, i32_w]; rw [c6b0]) | skip)
        have H' := Aside0.mk H
        clear H
        go_wp2
        go_meet
        case rel => exact ⟨_, (decide (t104 < (a0.size : Int))), (by first | rfl | (simp; done) | (simp [*]; done)), H', ⟨by first | omega | exact Nat.le_refl _⟩, ⟨by (with_reducible repeat (first | apply Kd.R_alloc | apply Kd.R_drewN | apply Kd.R_drew)); exact HO103.out⟩, ⟨by repeat (first | (with_reducible first | exact HB.out | apply below_alloc | apply pw_below_drewN | apply below_drew1) | exact HB.out)⟩⟩
      · rw [if_neg c6] at H
        have c6b0 : (t105 == 0) = false := beq_eq_false_iff_ne.mpr c6
        have c6b1 : (t105 != 0) = true := bne_iff_ne.mpr c6
        (first | rw [c6b0] | (simp only [i64_w, i32_w]; rw [c6b0]) | skip)
        have H' := Aside0.mk H
        clear H
        go_wp2
        go_meet
        case rel => exact ⟨_, (false), (by first | rfl | (simp; done) | (simp [*]; done)), H', ⟨by first | omega | exact Nat.le_refl _⟩, ⟨by (with_reducible repeat (first | apply Kd.R_alloc | apply Kd.R_drewN | apply Kd.R_drew)); exact HO103.out⟩, ⟨by repeat (first | (with_reducible first | exact HB.out | apply below_alloc | apply pw_below_drewN | apply below_drew1) | exact HB.out)⟩⟩
    case rest =>
      clear HC4
      try clear c1
      try clear c2
      try clear c2b0
      try clear c2b1
      try clear p2
      try clear c3
      try clear c6
      try clear c6b0
      try clear c6b1
      obtain ⟨kq, x24_3, rfl, HA, HJ3, HO_5, HB⟩ := hcut
      cases kq with
      | zero => exact absurd HA.out (by simp [aumbryref04_Parse.j0])
      | succ kj3 =>
        have H := HA.out
        clear HA
        simp only [aumbryref04_Parse.j0] at H
        by_cases c7 : x24_3 = true
        · subst c7
          have H1 : (some (([] : List (S50)), t104, 3)) = some (r1, r2, r3) := by rw [if_pos rfl] at H; exact H
          clear H
          have H := H1
          clear H1
          simp only [Option.some.injEq, Prod.mk.injEq] at H
          obtain ⟨rfl, rfl, rfl⟩ := H
          go_wp2
          go_ret3
          exact ⟨_, by first | rfl | (simp [errW_none, errW_some] <;> rfl) | (simp [*, errW_none, errW_some] <;> rfl), by first | exact Kd.R_nil _ _ _ _ _ | exact Kd.N_nil _ _ _ _ _ | exact Kd.V_nil _ _ _ _ _ | exact Kd.Q_nil _ _ _ _ _ | exact Kd.S_nil _ _ _ _ _, by repeat (first | (with_reducible first | exact HB.out | apply below_alloc | apply pw_below_drewN | apply below_drew1) | exact HB.out)⟩
        · replace c7 := Bool.eq_false_iff.mpr c7
          subst c7
          have H1 : (if t105 = 0 then (some (t101, 0, 0)) else (some (([] : List (S50)), t104, t105))) = some (r1, r2, r3) := by rw [if_neg (show ¬ (false = true) by decide)] at H; exact H
          clear H
          have H := H1
          clear H1
          by_cases c8 : t105 = 0
          · rw [if_pos c8] at H
            have c8b0 : (t105 == 0) = true := beq_iff_eq.mpr c8
            have c8b1 : (t105 != 0) = false := bne_eq_false_iff_eq.mpr c8
            clear c8
            simp only [Option.some.injEq, Prod.mk.injEq] at H
            obtain ⟨rfl, rfl, rfl⟩ := H
            go_wp2
            go_ret3
            exact ⟨_, by first | rfl | (simp [errW_none, errW_some] <;> rfl) | (simp [*, errW_none, errW_some] <;> rfl), by (with_reducible repeat (first | apply Kd.R_alloc | apply Kd.R_drewN | apply Kd.R_drew)); exact HO_5.out, by repeat (first | (with_reducible first | exact HB.out | apply below_alloc | apply pw_below_drewN | apply below_drew1) | exact HB.out)⟩
          · rw [if_neg c8] at H
            have c8b0 : (t105 == 0) = false := beq_eq_false_iff_ne.mpr c8
            have c8b1 : (t105 != 0) = true := bne_iff_ne.mpr c8
            simp only [Option.some.injEq, Prod.mk.injEq] at H
            obtain ⟨rfl, rfl, rfl⟩ := H
            go_wp2
            go_ret3
            exact ⟨_, by first | rfl | (simp [errW_none, errW_some] <;> rfl) | (simp [*, errW_none, errW_some] <;> rfl), by first | exact Kd.R_nil _ _ _ _ _ | exact Kd.N_nil _ _ _ _ _ | exact Kd.V_nil _ _ _ _ _ | exact Kd.Q_nil _ _ _ _ _ | exact Kd.S_nil _ _ _ _ _, by repeat (first | (with_reducible first | exact HB.out | apply below_alloc | apply pw_below_drewN | apply below_drew1) | exact HB.out)⟩

end Go.Proofs.Ytcmnpjgmpgjbdaa.P

-- ==== PF16
namespace Go.Proofs.Ytcmnpjgmpgjbdaa.P
open Go.RowKit Go.Proofs.YtcmnpjgmpgjbdaaW.PrintWords Go.Proofs.YtcmnpjgmpgjbdaaW.PrintLast Go.Proofs.YtcmnpjgmpgjbdaaW.PrintMore
attribute [local go_sem] max2_int min2_int max_two min_two max_three min_three max_four min_four   -- for this text's walks alone
set_option linter.unusedVariables false
set_option linter.unusedSimpArgs false

attribute [local go_sem high] eqA50
/-! ### aumbryref04_Same: function 16 -/
def aumbryref04_Same.l0 : Nat → List (S50) → List (S50) → Int → Int → Option (Bool)
  | 0, _, _, _, _ => none
  | k + 1, x0, x1, x12, x13 => if x13 < x12 then (if 0 ≤ x13 then (if x13 < (x0.length : Int) then (if x13 < (x1.length : Int) then (if (!((((rd_T50 x0 x13).f0).toList) == (((rd_T50 x1 x13).f0).toList)) || (!(((rd_T50 x0 x13).f1) == ((rd_T50 x1 x13).f1)))) = true then (some false) else (aumbryref04_Same.l0 k x0 x1 x12 (wrap64 (x13 + 1)))) else (none)) else (none)) else (none)) else (some true)
def aumbryref04_Same.f (k : Nat) (l0 : List (S50)) (l1 : List (S50)) : Option (Bool) := if (l0.length : Int) = (l1.length : Int) then (aumbryref04_Same.l0 k l0 l1 (l0.length : Int) 0) else (some false)
set_option maxHeartbeats 8000000 in
set_option maxRecDepth 100000 in
theorem aumbryref04_Same.calls (k : Nat) (A0 : Option Addr) (c0 : Nat) (l0 : List (S50)) (A1 : Option Addr) (c1 : Nat) (l1 : List (S50)) (r : Bool) (w : World) (hr0 : Kd.C k50 w A0 l0.length l0) (hc0 : l0.length ≤ c0) (hr1 : Kd.C k50 w A1 l1.length l1) (hc1 : l1.length ≤ c1) (h : aumbryref04_Same.f k l0 l1 = some r) :
    Calls Try.prog 16 #[.slice A0 l0.length c0, .slice A1 l1.length c1] w fun e w' => e = .returned (.bool r) ∧ Drawn0 w w' := by
  have hu50 := Try.underlying50
  have HR0 := Aside0.mk hr0
  have HC0 := Aside0.mk hc0
  clear hr0 hc0
  have HR1 := Aside0.mk hr1
  have HC1 := Aside0.mk hc1
  clear hr1 hc1
  have H : (if (l0.length : Int) = (l1.length : Int) then (aumbryref04_Same.l0 k l0 l1 (l0.length : Int) 0) else (some false)) = some r := h
  clear h
  by_cases c3 : (l0.length : Int) = (l1.length : Int)
  · rw [if_pos c3] at H
    have c3b0 : ((l0.length : Int) == (l1.length : Int)) = true := beq_iff_eq.mpr c3
    have c3b1 : ((l0.length : Int) != (l1.length : Int)) = false := bne_eq_false_iff_eq.mpr c3
    have c3b2 : (l0.length == l1.length) = true := by first | simpa using c3 | (simp at c3 ⊢; omega)
    clear c3
    have H' := Aside0.mk H
    clear H
    go_enter Try.func16, Try.ntmps16
    go_wp2
    repeat (go_quiet (fail); try go_wp2)
    go_loopg [13] k (fun kq v13 w' => ∃ (x13_1 : Int), v13 = .int .i64 x13_1 ∧ Aside0 (aumbryref04_Same.l0 kq l0 l1 (l0.length : Int) x13_1 = some r) ∧ Aside0 (kq ≤ k) ∧ Drawn0 w w')
    case atStart => exact ⟨(0), (by first | rfl | (simp; done) | (simp [*]; done)), H', ⟨Nat.le_refl _⟩, by repeat (first | exact Drawn0.refl _ | apply Drawn0.step)⟩
    case round =>
      clear H'
      try clear c1
      try clear p2
      try clear c3
      try clear c3b0
      try clear c3b1
      try clear c3b2
      obtain ⟨x13_1, rfl, HA, HK1, ⟨m1, rfl⟩⟩ := hrel
      cases gk with
      | zero => exact absurd HA.out (by simp [aumbryref04_Same.l0])
      | succ k1 =>
        have H := HA.out
        clear HA
        simp only [aumbryref04_Same.l0] at H
        by_cases c4 : x13_1 < (l0.length : Int)
        · rw [if_pos c4] at H
          have c4b0 : decide (x13_1 < (l0.length : Int)) = true := decide_eq_true c4
          clear c4
          by_cases c5 : 0 ≤ x13_1
          · rw [if_pos c5] at H
            have c5b0 : decide (0 ≤ x13_1) = true := decide_eq_true c5
            clear c5
            by_cases c6 : x13_1 < (l0.length : Int)
            · rw [if_pos c6] at H
              have c6b0 : decide (x13_1 < (l0.length : Int)) = true := decide_eq_true c6
              clear c6
              by_cases c7 : x13_1 < (l1.length : Int)
              · rw [if_pos c7] at H
                have c7b0 : decide (x13_1 < (l1.length : Int)) = true := decide_eq_true c7
                clear c7
                by_cases c8 : (!((((rd_T50 l0 x13_1).f0).toList) == (((rd_T50 l1 x13_1).f0).toList)) || (!(((rd_T50 l0 x13_1).f1) == ((rd_T50 l1 x13_1).f1)))) = true
                · rw [if_pos c8] at H
                  have c8b0 : (!((((rd_T50 l0 x13_1).f0).toList) == (((rd_T50 l1 x13_1).f0).toList)) || (!(((rd_T50 l0 x13_1).f1) == ((rd_T50 l1 x13_1).f1)))) = true := c8
                  clear c8
                  obtain rfl := Option.some.inj H
                  have p101 : 0 ≤ (x13_1 : Int) := of_decide_eq_true (by first | (with_reducible assumption) | assumption)
                  have q101 : x13_1 < (l0.length : Int) := of_decide_eq_true (by first | (with_reducible assumption) | assumption)
                  obtain ⟨ad101, e101, hx101_0, hx101_1⟩ := at_T50 HR0.out x13_1 p101 q101
                  cases e101
                  replace p101 := eq_true p101
                  replace q101 := eq_true q101
                  have p102 : 0 ≤ (x13_1 : Int) := of_decide_eq_true (by first | (with_reducible assumption) | assumption)
                  have q102 : x13_1 < (l1.length : Int) := of_decide_eq_true (by first | (with_reducible assumption) | assumption)
                  obtain ⟨ad102, e102, hx102_0, hx102_1⟩ := at_T50 HR1.out x13_1 p102 q102
                  cases e102
                  replace p102 := eq_true p102
                  replace q102 := eq_true q102
                  go_wp2
                  repeat (go_quiet (fail); try go_wp2)
                  go_ret
                  exact ⟨by first | rfl | (simp; done) | (simp [*]; done), by repeat (first | exact Drawn0.refl _ | apply Drawn0.step)⟩
                · rw [if_neg c8] at H
                  have c8b0 : (!((((rd_T50 l0 x13_1).f0).toList) == (((rd_T50 l1 x13_1).f0).toList)) || (!(((rd_T50 l0 x13_1).f1) == ((rd_T50 l1 x13_1).f1)))) = false := by simpa using c8
                  clear c8
                  have H' := Aside0.mk H
                  clear H
                  have p101 : 0 ≤ (x13_1 : Int) := of_decide_eq_true (by first | (with_reducible assumption) | assumption)
                  have q101 : x13_1 < (l0.length : Int) := of_decide_eq_true (by first | (with_reducible assumption) | assumption)
                  obtain ⟨ad101, e101, hx101_0, hx101_1⟩ := at_T50 HR0.out x13_1 p101 q101
                  cases e101
                  replace p101 := eq_true p101
                  replace q101 := eq_true q101
                  have p102 : 0 ≤ (x13_1 : Int) := of_decide_eq_true (by first | (with_reducible assumption) | assumption)
                  have q102 : x13_1 < (l1.length : Int) := of_decide_eq_true (by first | (with_reducible assumption) | assumption)
                  obtain ⟨ad102, e102, hx102_0, hx102_1⟩ := at_T50 HR1.out x13_1 p102 q102
                  cases e102
                  replace p102 := eq_true p102
                  replace q102 := eq_true q102
                  go_wp2
                  repeat (go_quiet (fail); try go_wp2)
                  go_roundg k1
                  case measure => have := HK1.out; omega
                  case rel => exact ⟨(wrap64 (x13_1 + 1)), (by first | rfl | (simp; done) | (simp [*]; done)), H', ⟨by have := HK1.out; omega⟩, by repeat (first | exact Drawn0.refl _ | apply Drawn0.step)⟩
              · rw [if_neg c7] at H
                exact absurd H (by simp)
            · rw [if_neg c6] at H
              exact absurd H (by simp)
          · rw [if_neg c5] at H
            exact absurd H (by simp)
        · rw [if_neg c4] at H
          have c4b0 : decide (x13_1 < (l0.length : Int)) = false := decide_eq_false c4
          clear c4
          obtain rfl := Option.some.inj H
          go_wp2
          repeat (go_quiet (fail); try go_wp2)
          go_ret
          exact ⟨by first | rfl | (simp; done) | (simp [*]; done), by repeat (first | exact Drawn0.refl _ | apply Drawn0.step)⟩
  · rw [if_neg c3] at H
    have c3b0 : ((l0.length : Int) == (l1.length : Int)) = false := beq_eq_false_iff_ne.mpr c3
    have c3b1 : ((l0.length : Int) != (l1.length : Int)) = true := bne_iff_ne.mpr c3
    have c3b2 : (l0.length == l1.length) = false := by first | simpa using c3 | (simp at c3 ⊢; omega)
    obtain rfl := Option.some.inj H
    go_enter Try.func16, Try.ntmps16
    go_wp2
    repeat (go_quiet (fail); try go_wp2)
    go_ret
    exact ⟨by first | rfl | (simp; done) | (simp [*]; done), by repeat (first | exact Drawn0.refl _ | apply Drawn0.step)⟩

end Go.Proofs.Ytcmnpjgmpgjbdaa.P

-- ==== PF4
namespace Go.Proofs.Ytcmnpjgmpgjbdaa.P
open Go.RowKit Go.Proofs.YtcmnpjgmpgjbdaaW.PrintWords Go.Proofs.YtcmnpjgmpgjbdaaW.PrintLast Go.Proofs.YtcmnpjgmpgjbdaaW.PrintMore
attribute [local go_sem] max2_int min2_int max_two min_two max_three min_three max_four min_four   -- for this text's walks alone
set_option linter.unusedVariables false
set_option linter.unusedSimpArgs false

/-! ### aumbrylaw04_TermReads: function 4 -/
def aumbrylaw04_TermReads.f (k : Nat) (a0 : ByteArray) : Option (Bool) := (aumbrylaw04_wakes.f k).bind fun t101 => (if t101 = true then ((term_Parse.f k a0).bind fun bt102 => ((aumbryref04_Parse.f k a0).bind fun bt107 => ((aumbryref04_Same.f k bt102.1 bt107.1).bind fun t112 => (if t112 = true then (if bt102.2.1 = bt107.2.1 then (some (bt102.2.2 == bt107.2.2)) else (some false)) else (some false))))) else (some false))
set_option maxHeartbeats 8000000 in
set_option maxRecDepth 100000 in
theorem aumbrylaw04_TermReads.calls (k : Nat) (a0 : ByteArray) (r : Bool) (w : World) (h : aumbrylaw04_TermReads.f k a0 = some r) :
    Calls Try.prog 4 #[.string a0] w fun e w' => e = .returned (.bool r) ∧ Below w.heap.size w w' := by
  have HB := Aside0.mk (Below.refl w.heap.size w)
  have H : ((aumbrylaw04_wakes.f k).bind fun t101 => (if t101 = true then ((term_Parse.f k a0).bind fun bt102 => ((aumbryref04_Parse.f k a0).bind fun bt107 => ((aumbryref04_Same.f k bt102.1 bt107.1).bind fun t112 => (if t112 = true then (if bt102.2.1 = bt107.2.1 then (some (bt102.2.2 == bt107.2.2)) else (some false)) else (some false))))) else (some false))) = some r := h
  clear h
  replace H := Option.bind_eq_some_iff.mp H
  obtain ⟨t101, A20, H⟩ := H
  replace H : (if t101 = true then ((term_Parse.f k a0).bind fun bt102 => ((aumbryref04_Parse.f k a0).bind fun bt107 => ((aumbryref04_Same.f k bt102.1 bt107.1).bind fun t112 => (if t112 = true then (if bt102.2.1 = bt107.2.1 then (some (bt102.2.2 == bt107.2.2)) else (some false)) else (some false))))) else (some false)) = some r := H
  have A2 := Aside0.mk A20
  clear A20
  by_cases c3 : t101 = true
  · subst c3
    have H1 : ((term_Parse.f k a0).bind fun bt102 => ((aumbryref04_Parse.f k a0).bind fun bt107 => ((aumbryref04_Same.f k bt102.1 bt107.1).bind fun t112 => (if t112 = true then (if bt102.2.1 = bt107.2.1 then (some (bt102.2.2 == bt107.2.2)) else (some false)) else (some false))))) = some r := by rw [if_pos rfl] at H; exact H
    clear H
    have H := H1
    clear H1
    replace H := Option.bind_eq_some_iff.mp H
    obtain ⟨⟨t102, t103, t104⟩, A40, H⟩ := H
    replace H : ((aumbryref04_Parse.f k a0).bind fun bt107 => ((aumbryref04_Same.f k t102 bt107.1).bind fun t112 => (if t112 = true then (if t103 = bt107.2.1 then (some (t104 == bt107.2.2)) else (some false)) else (some false)))) = some r := H
    have A4 := Aside0.mk A40
    clear A40
    replace H := Option.bind_eq_some_iff.mp H
    obtain ⟨⟨t107, t108, t109⟩, A50, H⟩ := H
    replace H : ((aumbryref04_Same.f k t102 t107).bind fun t112 => (if t112 = true then (if t103 = t108 then (some (t104 == t109)) else (some false)) else (some false))) = some r := H
    have A5 := Aside0.mk A50
    clear A50
    replace H := Option.bind_eq_some_iff.mp H
    obtain ⟨t112, A60, H⟩ := H
    replace H : (if t112 = true then (if t103 = t108 then (some (t104 == t109)) else (some false)) else (some false)) = some r := H
    have A6 := Aside0.mk A60
    clear A60
    by_cases c7 : t112 = true
    · subst c7
      have H1 : (if t103 = t108 then (some (t104 == t109)) else (some false)) = some r := by rw [if_pos rfl] at H; exact H
      clear H
      have H := H1
      clear H1
      by_cases c8 : t103 = t108
      · rw [if_pos c8] at H
        have c8b0 : (t103 == t108) = true := beq_iff_eq.mpr c8
        have c8b1 : (t103 != t108) = false := bne_eq_false_iff_eq.mpr c8
        clear c8
        obtain rfl := Option.some.inj H
        go_enter Try.func4, Try.ntmps4
        go_wp2_with (first | ((with_reducible refine gate_callee (f := 10) rfl ?_); refine goesL_ (some 9) rfl rfl Try.func10 (by kernel_rfl) rfl #[] rfl (by (try simp only [List.map_toArray, List.map_cons, List.map_nil]); first | done | rfl | (simp only [List.length_drop, List.length_take]; rfl)) ?_; (with_reducible refine (aumbrylaw04_wakes.calls k  true _ A2.out).mono ?_); rintro e w9 ⟨rfl, hb⟩; refine ⟨_, rfl, ?_⟩; have n0_ := Aside0.mk (below_step (by repeat (first | (with_reducible first | exact HB.out | apply below_alloc | apply pw_below_drewN | apply below_drew1) | exact HB.out)) hb); clear HB; have HB := n0_; clear n0_; (try clear hb); (try clear hb2); (try clear hk); (try clear hi)) | ((with_reducible refine gate_callee (f := 14) rfl ?_); refine goesL_ (some 13) rfl rfl Try.func14 (by kernel_rfl) rfl #[.string a0] rfl (by (try simp only [List.map_toArray, List.map_cons, List.map_nil]); first | done | rfl | (simp only [List.length_drop, List.length_take]; rfl)) ?_; (with_reducible refine (term_Parse.calls k a0 t102 t103 t104 _ A4.out).mono ?_); rintro e w10 ⟨v105, rfl, ho0, hb⟩; refine ⟨_, rfl, ?_⟩; have n0_ := Aside0.mk (Kd.R_lower ho0 (below_size (by repeat (first | (with_reducible first | exact HB.out | apply below_alloc | apply pw_below_drewN | apply below_drew1) | exact HB.out)))); have n1_ := Aside0.mk (below_step (by repeat (first | (with_reducible first | exact HB.out | apply below_alloc | apply pw_below_drewN | apply below_drew1) | exact HB.out)) hb); clear HB; have HO106 := n0_; have HB := n1_; clear n0_ n1_; (try clear hb); (try clear hb2); (try clear hk); (try clear hi); (try clear ho0)) | ((with_reducible refine gate_callee (f := 15) rfl ?_); refine goesL_ (some 19) rfl rfl Try.func15 (by kernel_rfl) rfl #[.string a0] rfl (by (try simp only [List.map_toArray, List.map_cons, List.map_nil]); first | done | rfl | (simp only [List.length_drop, List.length_take]; rfl)) ?_; (with_reducible refine (aumbryref04_Parse.calls k a0 t107 t108 t109 _ A5.out).mono ?_); rintro e w11 ⟨v110, rfl, ho0, hb⟩; refine ⟨_, rfl, ?_⟩; have n0_ := Aside0.mk (Kd.R_elder' (by (with_reducible repeat (first | apply Kd.R_alloc | apply Kd.R_drewN | apply Kd.R_drew)); exact HO106.out) (Kd.R_base ho0) hb); have n1_ := Aside0.mk (Kd.R_lower (Kd.R_new' ho0 (Kd.R_lt (by (with_reducible repeat (first | apply Kd.R_alloc | apply Kd.R_drewN | apply Kd.R_drew)); exact HO106.out))) (below_size (by repeat (first | (with_reducible first | exact HB.out | apply below_alloc | apply pw_below_drewN | apply below_drew1) | exact HB.out)))); have n2_ := Aside0.mk (below_step (by repeat (first | (with_reducible first | exact HB.out | apply below_alloc | apply pw_below_drewN | apply below_drew1) | exact HB.out)) hb); clear HO106; clear HB; have HO106 := n0_; have HO111 := n1_; have HB := n2_; clear n0_ n1_ n2_; (try clear hb); (try clear hb2); (try clear hk); (try clear hi); (try clear ho0); obtain ⟨Ao12, co12, eo12⟩ := Kd.R_slice HO106.out; subst eo12; obtain ⟨Ao13, co13, eo13⟩ := Kd.R_slice HO111.out; subst eo13) | ((with_reducible refine gate_callee (f := 16) rfl ?_); refine goesL_ (some 25) rfl rfl Try.func16 (by kernel_rfl) rfl #[.slice Ao12 t102.length co12, .slice Ao13 t107.length co13] rfl (by (try simp only [List.map_toArray, List.map_cons, List.map_nil]); first | done | rfl | (simp only [List.length_drop, List.length_take]; rfl)) ?_; (with_reducible refine (aumbryref04_Same.calls k _ _ t102 _ _ t107 true _ ?side1 ?side2 ?side3 ?side4 A6.out).mono ?_); (case side1 => repeat (first | exact (Kd.R_reads' HO106.out).2.2 | (with_reducible refine Kd.C_alloc ?_ _) | (with_reducible refine Kd.C_drewN ?_ _) | (with_reducible refine Kd.C_drew ?_))); (case side2 => exact (Kd.R_reads' HO106.out).2.1); (case side3 => repeat (first | exact (Kd.R_reads' HO111.out).2.2 | (with_reducible refine Kd.C_alloc ?_ _) | (with_reducible refine Kd.C_drewN ?_ _) | (with_reducible refine Kd.C_drew ?_))); (case side4 => exact (Kd.R_reads' HO111.out).2.1); rintro e w' ⟨rfl, ⟨nd, rfl⟩⟩; refine ⟨_, rfl, ?_⟩))
        go_ret
        exact ⟨by first | rfl | (simp [errW_none, errW_some] <;> rfl) | (simp [*, errW_none, errW_some] <;> rfl), by repeat (first | (with_reducible first | exact HB.out | apply below_alloc | apply pw_below_drewN | apply below_drew1) | exact HB.out)⟩
      · rw [if_neg c8] at H
        have c8b0 : (t103 == t108) = false := beq_eq_false_iff_ne.mpr c8
        have c8b1 : (t103 != t108) = true := bne_iff_ne.mpr c8
        obtain rfl := Option.some.inj H
        go_enter Try.func4, Try.ntmps4
        go_wp2_with (first | ((with_reducible refine gate_callee (f := 10) rfl ?_); refine goesL_ (some 9) rfl rfl Try.func10 (by kernel_rfl) rfl #[] rfl (by (try simp only [List.map_toArray, List.map_cons, List.map_nil]); first | done | rfl | (simp only [List.length_drop, List.length_take]; rfl)) ?_; (with_reducible refine (aumbrylaw04_wakes.calls k  true _ A2.out).mono ?_); rintro e w14 ⟨rfl, hb⟩; refine ⟨_, rfl, ?_⟩; have n0_ := Aside0.mk (below_step (by repeat (first | (with_reducible first | exact HB.out | apply below_alloc | apply pw_below_drewN | apply below_drew1) | exact HB.out)) hb); clear HB; have HB := n0_; clear n0_; (try clear hb); (try clear hb2); (try clear hk); (try clear hi)) | ((with_reducible refine gate_callee (f := 14) rfl ?_); refine goesL_ (some 13) rfl rfl Try.func14 (by kernel_rfl) rfl #[.string a0] rfl (by (try simp only [List.map_toArray, List.map_cons, List.map_nil]); first | done | rfl | (simp only [List.length_drop, List.length_take]; rfl)) ?_; (with_reducible refine (term_Parse.calls k a0 t102 t103 t104 _ A4.out).mono ?_); rintro e w15 ⟨v105, rfl, ho0, hb⟩; refine ⟨_, rfl, ?_⟩; have n0_ := Aside0.mk (Kd.R_lower ho0 (below_size (by repeat (first | (with_reducible first | exact HB.out | apply below_alloc | apply pw_below_drewN | apply below_drew1) | exact HB.out)))); have n1_ := Aside0.mk (below_step (by repeat (first | (with_reducible first | exact HB.out | apply below_alloc | apply pw_below_drewN | apply below_drew1) | exact HB.out)) hb); clear HB; have HO106 := n0_; have HB := n1_; clear n0_ n1_; (try clear hb); (try clear hb2); (try clear hk); (try clear hi); (try clear ho0)) | ((with_reducible refine gate_callee (f := 15) rfl ?_); refine goesL_ (some 19) rfl rfl Try.func15 (by kernel_rfl) rfl #[.string a0] rfl (by (try simp only [List.map_toArray, List.map_cons, List.map_nil]); first | done | rfl | (simp only [List.length_drop, List.length_take]; rfl)) ?_; (with_reducible refine (aumbryref04_Parse.calls k a0 t107 t108 t109 _ A5.out).mono ?_); rintro e w16 ⟨v110, rfl, ho0, hb⟩; refine ⟨_, rfl, ?_⟩; have n0_ := Aside0.mk (Kd.R_elder' (by (with_reducible repeat (first | apply Kd.R_alloc | apply Kd.R_drewN | apply Kd.R_drew)); exact HO106.out) (Kd.R_base ho0) hb); have n1_ := Aside0.mk (Kd.R_lower (Kd.R_new' ho0 (Kd.R_lt (by (with_reducible repeat (first | apply Kd.R_alloc | apply Kd.R_drewN | apply Kd.R_drew)); exact HO106.out))) (below_size (by repeat (first | (with_reducible first | exact HB.out | apply below_alloc | apply pw_below_drewN | apply below_drew1) | exact HB.out)))); have n2_ := Aside0.mk (below_step (by repeat (first | (with_reducible first | exact HB.out | apply below_alloc | apply pw_below_drewN | apply below_drew1) | exact HB.out)) hb); clear HO106; clear HB; have HO106 := n0_; have HO111 := n1_; have HB := n2_; clear n0_ n1_ n2_; (try clear hb); (try clear hb2); (try clear hk); (try clear hi); (try clear ho0); obtain ⟨Ao17, co17, eo17⟩ := Kd.R_slice HO106.out; subst eo17; obtain ⟨Ao18, co18, eo18⟩ := Kd.R_slice HO111.out; subst eo18) | ((with_reducible refine gate_callee (f := 16) rfl ?_); refine goesL_ (some 25) rfl rfl Try.func16 (by kernel_rfl) rfl #[.slice Ao17 t102.length co17, .slice Ao18 t107.length co18] rfl (by (try simp only [List.map_toArray, List.map_cons, List.map_nil]); first | done | rfl | (simp only [List.length_drop, List.length_take]; rfl)) ?_; (with_reducible refine (aumbryref04_Same.calls k _ _ t102 _ _ t107 true _ ?side1 ?side2 ?side3 ?side4 A6.out).mono ?_); (case side1 => repeat (first | exact (Kd.R_reads' HO106.out).2.2 | (with_reducible refine Kd.C_alloc ?_ _) | (with_reducible refine Kd.C_drewN ?_ _) | (with_reducible refine Kd.C_drew ?_))); (case side2 => exact (Kd.R_reads' HO106.out).2.1); (case side3 => repeat (first | exact (Kd.R_reads' HO111.out).2.2 | (with_reducible refine Kd.C_alloc ?_ _) | (with_reducible refine Kd.C_drewN ?_ _) | (with_reducible refine Kd.C_drew ?_))); (case side4 => exact (Kd.R_reads' HO111.out).2.1); rintro e w' ⟨rfl, ⟨nd, rfl⟩⟩; refine ⟨_, rfl, ?_⟩))
        go_ret
        exact ⟨by first | rfl | (simp [errW_none, errW_some] <;> rfl) | (simp [*, errW_none, errW_some] <;> rfl), by repeat (first | (with_reducible first | exact HB.out | apply below_alloc | apply pw_below_drewN | apply below_drew1) | exact HB.out)⟩
    · replace c7 := Bool.eq_false_iff.mpr c7
      subst c7
      have H1 : (some false) = some r := by rw [if_neg (show ¬ (false = true) by decide)] at H; exact H
      clear H
      have H := H1
      clear H1
      obtain rfl := Option.some.inj H
      go_enter Try.func4, Try.ntmps4
      go_wp2_with (first | ((with_reducible refine gate_callee (f := 10) rfl ?_); refine goesL_ (some 9) rfl rfl Try.func10 (by kernel_rfl) rfl #[] rfl (by (try simp only [List.map_toArray, List.map_cons, List.map_nil]); first | done | rfl | (simp only [List.length_drop, List.length_take]; rfl)) ?_; (with_reducible refine (aumbrylaw04_wakes.calls k  true _ A2.out).mono ?_); rintro e w19 ⟨rfl, hb⟩; refine ⟨_, rfl, ?_⟩; have n0_ := Aside0.mk (below_step (by repeat (first | (with_reducible first | exact HB.out | apply below_alloc | apply pw_below_drewN | apply below_drew1) | exact HB.out)) hb); clear HB; have HB := n0_; clear n0_; (try clear hb); (try clear hb2); (try clear hk); (try clear hi)) | ((with_reducible refine gate_callee (f := 14) rfl ?_); refine goesL_ (some 13) rfl rfl Try.func14 (by kernel_rfl) rfl #[.string a0] rfl (by (try simp only [List.map_toArray, List.map_cons, List.map_nil]); first | done | rfl | (simp only [List.length_drop, List.length_take]; rfl)) ?_; (with_reducible refine (term_Parse.calls k a0 t102 t103 t104 _ A4.out).mono ?_); rintro e w20 ⟨v105, rfl, ho0, hb⟩; refine ⟨_, rfl, ?_⟩; have n0_ := Aside0.mk (Kd.R_lower ho0 (below_size (by repeat (first | (with_reducible first | exact HB.out | apply below_alloc | apply pw_below_drewN | apply below_drew1) | exact HB.out)))); have n1_ := Aside0.mk (below_step (by repeat (first | (with_reducible first | exact HB.out | apply below_alloc | apply pw_below_drewN | apply below_drew1) | exact HB.out)) hb); clear HB; have HO106 := n0_; have HB := n1_; clear n0_ n1_; (try clear hb); (try clear hb2); (try clear hk); (try clear hi); (try clear ho0)) | ((with_reducible refine gate_callee (f := 15) rfl ?_); refine goesL_ (some 19) rfl rfl Try.func15 (by kernel_rfl) rfl #[.string a0] rfl (by (try simp only [List.map_toArray, List.map_cons, List.map_nil]); first | done | rfl | (simp only [List.length_drop, List.length_take]; rfl)) ?_; (with_reducible refine (aumbryref04_Parse.calls k a0 t107 t108 t109 _ A5.out).mono ?_); rintro e w21 ⟨v110, rfl, ho0, hb⟩; refine ⟨_, rfl, ?_⟩; have n0_ := Aside0.mk (Kd.R_elder' (by (with_reducible repeat (first | apply Kd.R_alloc | apply Kd.R_drewN | apply Kd.R_drew)); exact HO106.out) (Kd.R_base ho0) hb); have n1_ := Aside0.mk (Kd.R_lower (Kd.R_new' ho0 (Kd.R_lt (by (with_reducible repeat (first | apply Kd.R_alloc | apply Kd.R_drewN | apply Kd.R_drew)); exact HO106.out))) (below_size (by repeat (first | (with_reducible first | exact HB.out | apply below_alloc | apply pw_below_drewN | apply below_drew1) | exact HB.out)))); have n2_ := Aside0.mk (below_step (by repeat (first | (with_reducible first | exact HB.out | apply below_alloc | apply pw_below_drewN | apply below_drew1) | exact HB.out)) hb); clear HO106; clear HB; have HO106 := n0_; have HO111 := n1_; have HB := n2_; clear n0_ n1_ n2_; (try clear hb); (try clear hb2); (try clear hk); (try clear hi); (try clear ho0); obtain ⟨Ao22, co22, eo22⟩ := Kd.R_slice HO106.out; subst eo22; obtain ⟨Ao23, co23, eo23⟩ := Kd.R_slice HO111.out; subst eo23) | ((with_reducible refine gate_callee (f := 16) rfl ?_); refine goesL_ (some 25) rfl rfl Try.func16 (by kernel_rfl) rfl #[.slice Ao22 t102.length co22, .slice Ao23 t107.length co23] rfl (by (try simp only [List.map_toArray, List.map_cons, List.map_nil]); first | done | rfl | (simp only [List.length_drop, List.length_take]; rfl)) ?_; (with_reducible refine (aumbryref04_Same.calls k _ _ t102 _ _ t107 false _ ?side1 ?side2 ?side3 ?side4 A6.out).mono ?_); (case side1 => repeat (first | exact (Kd.R_reads' HO106.out).2.2 | (with_reducible refine Kd.C_alloc ?_ _) | (with_reducible refine Kd.C_drewN ?_ _) | (with_reducible refine Kd.C_drew ?_))); (case side2 => exact (Kd.R_reads' HO106.out).2.1); (case side3 => repeat (first | exact (Kd.R_reads' HO111.out).2.2 | (with_reducible refine Kd.C_alloc ?_ _) | (with_reducible refine Kd.C_drewN ?_ _) | (with_reducible refine Kd.C_drew ?_))); (case side4 => exact (Kd.R_reads' HO111.out).2.1); rintro e w' ⟨rfl, ⟨nd, rfl⟩⟩; refine ⟨_, rfl, ?_⟩))
      go_ret
      exact ⟨by first | rfl | (simp [errW_none, errW_some] <;> rfl) | (simp [*, errW_none, errW_some] <;> rfl), by repeat (first | (with_reducible first | exact HB.out | apply below_alloc | apply pw_below_drewN | apply below_drew1) | exact HB.out)⟩
  · replace c3 := Bool.eq_false_iff.mpr c3
    subst c3
    have H1 : (some false) = some r := by rw [if_neg (show ¬ (false = true) by decide)] at H; exact H
    clear H
    have H := H1
    clear H1
    obtain rfl := Option.some.inj H
    go_enter Try.func4, Try.ntmps4
    go_wp2_with (first | ((with_reducible refine gate_callee (f := 10) rfl ?_); refine goesL_ (some 9) rfl rfl Try.func10 (by kernel_rfl) rfl #[] rfl (by (try simp only [List.map_toArray, List.map_cons, List.map_nil]); first | done | rfl | (simp only [List.length_drop, List.length_take]; rfl)) ?_; (with_reducible refine (aumbrylaw04_wakes.calls k  false _ A2.out).mono ?_); rintro e w24 ⟨rfl, hb⟩; refine ⟨_, rfl, ?_⟩; have n0_ := Aside0.mk (below_step (by repeat (first | (with_reducible first | exact HB.out | apply below_alloc | apply pw_below_drewN | apply below_drew1) | exact HB.out)) hb); clear HB; have HB := n0_; clear n0_; (try clear hb); (try clear hb2); (try clear hk); (try clear hi)))
    go_ret
    exact ⟨by first | rfl | (simp [errW_none, errW_some] <;> rfl) | (simp [*, errW_none, errW_some] <;> rfl), by repeat (first | (with_reducible first | exact HB.out | apply below_alloc | apply pw_below_drewN | apply below_drew1) | exact HB.out)⟩


end Go.Proofs.Ytcmnpjgmpgjbdaa.P

-- ==== Open
/- What came in and can be read as data, read as the print's kinds: for each kind one fact, put together by the types' shapes. -/
set_option linter.unusedVariables false
namespace Go.Proofs.Ytcmnpjgmpgjbdaa.Open
open Go.RowKit Go.Proofs.YtcmnpjgmpgjbdaaW.PrintWords Go.Proofs.Ytcmnpjgmpgjbdaa.Rows

structure Opens {α : Type} (P : Program) (t : TypeId) (d : Kd α) (Sz : α → Prop) (Bk : α → Nat) : Prop where
  cells : P.cellsOf t = d.sz
  go : ∀ {H : Type} {enc : TypeId × Value → H} {w : World} {base : Nat} {spare : Nat → Bool} {held : Bool} {n : Nat} {cs : List Value} {x : DataW H × List MemPlace},
    DataW.trod enc P w base spare held n t cs = some x → (∀ m ∈ x.1.weights P t, m ≤ reachBytes) → ∃ v : α, d.K w v cs ∧ Sz v ∧ Bk v ≤ uptoBulk x.1

theorem opens_string {P : Program} {t : TypeId} (ht : P.underlying t = some .string) (hc : P.cellsOf t = 1) : Opens P t Kd.string (fun s => s.size ≤ 140737488351232) (fun s => s.size + 1) := by
  refine ⟨hc, fun h hw => ?_⟩
  obtain ⟨a, rfl, rfl, hs⟩ := DataW.trod_string ht h
  have hl : a.data.toList.length = a.size := data_length a
  refine ⟨a, rfl, ?_, ?_⟩
  · have := hw a.data.toList.length (by simp [DataW.weights])
    rw [hl] at this
    exact this
  · simp only [uptoBulk]
    omega

/-! Structs: the fields, one behind the other. -/
def offs (P : Program) : List TypeId → Nat → Nat
  | [], _ => 0
  | _, 0 => 0
  | t :: ts, i + 1 => P.cellsOf t + offs P ts i

structure OpensF {α : Type} (P : Program) (ts : List TypeId) (d : Kd α) (Sz : α → Prop) (Bk : α → Nat) : Prop where
  cells : (ts.map P.cellsOf).sum = d.sz
  go : ∀ {H : Type} {enc : TypeId × Value → H} {w : World} {base : Nat} {spare : Nat → Bool} {held : Bool} {n : Nat} {cs : List Value} {xs : List (DataW H × List MemPlace)},
    cs.length = d.sz → xs.length = ts.length → (∀ (i : Nat) t, ts[i]? = some t → DataW.trod enc P w base spare held n t ((cs.drop (offs P ts i)).take (P.cellsOf t)) = xs[i]?) →
    (∀ m ∈ DataW.weightsEach P ts (xs.map (·.1)), m ≤ reachBytes) → ∃ v : α, d.K w v cs ∧ Sz v ∧ Bk v ≤ uptoBulkAll (xs.map (·.1))

end Go.Proofs.Ytcmnpjgmpgjbdaa.Open

-- ==== PO
set_option linter.unusedVariables false
namespace Go.Proofs.Ytcmnpjgmpgjbdaa.P
open Go.RowKit Go.Proofs.YtcmnpjgmpgjbdaaW.PrintWords Go.Proofs.Ytcmnpjgmpgjbdaa.Open
def sz9 (s : ByteArray) : Prop := s.size ≤ 140737488351232
def bk9 (s : ByteArray) : Nat := s.size + 1
theorem op9 : Opens Try.prog 9 Kd.string sz9 bk9 := opens_string Try.underlying9 (by kernel_rfl)
end Go.Proofs.Ytcmnpjgmpgjbdaa.P

-- ==== PS4
namespace Go.Proofs.Ytcmnpjgmpgjbdaa.P
open Go.RowKit Go.Proofs.YtcmnpjgmpgjbdaaW.PrintWords
def aumbrylaw04_TermReads.Pure : Prop := ∀ (a0 : ByteArray), sz9 a0 → ∃ k, aumbrylaw04_TermReads.f k a0 = some true
end Go.Proofs.Ytcmnpjgmpgjbdaa.P

-- ==== PLa
/- Plain laws, part a: what kind a text is: the program's way and the document's way come to one function. -/
namespace Go.Proofs.Ytcmnpjgmpgjbdaa.P
open Go.RowKit Go.Proofs.YtcmnpjgmpgjbdaaW.PrintWords
set_option linter.unusedVariables false
set_option linter.unusedSimpArgs false

theorem wrap_up {i : Int} (h0 : 0 ≤ i) (h : i < 9223372036854775807) : wrap64 (i + 1) = i + 1 := by
  unfold wrap64
  omega
theorem evIfp {α : Type} {c : Prop} [Decidable c] {f g : Nat → Option α} {r : α} (h : c) (hf : Ev f r) : Ev (fun k => if c then f k else g k) r :=
  Ev.congr (fun _ => if_pos h) hf
theorem evIfn {α : Type} {c : Prop} [Decidable c] {f g : Nat → Option α} {r : α} (h : ¬ c) (hf : Ev g r) : Ev (fun k => if c then f k else g k) r :=
  Ev.congr (fun _ => if_neg h) hf
theorem evIs {α : Type} {x : Option α} {a : α} (h : x = some a) : Ev (fun _ => x) a := ⟨0, fun _ _ => h⟩

def lowB (s : ByteArray) (i : Int) : Bool := (decide (97 ≤ bt s i) && decide (bt s i ≤ 122)) || (decide (48 ≤ bt s i) && decide (bt s i ≤ 57) && decide (0 < i))
def upB (s : ByteArray) (i : Int) : Bool := (decide (65 ≤ bt s i) && decide (bt s i ≤ 90)) || (decide (48 ≤ bt s i) && decide (bt s i ≤ 57) && decide (0 < i))
/-- p holds at i, i + 1, .. (d places). -/
def allN (p : Int → Bool) : Nat → Int → Bool
  | 0, _ => true
  | d + 1, i => p i && allN p d (i + 1)
theorem allN_congr {p q : Int → Bool} : ∀ (d : Nat) (i : Int), (∀ j, i ≤ j → j < i + d → p j = q j) → allN p d i = allN q d i
  | 0, _, _ => rfl
  | d + 1, i, h => by
    simp only [allN]
    rw [h i (Int.le_refl _) (by omega), allN_congr d (i + 1) (fun j h1 h2 => h j (by omega) (by omega))]
def kindS (s : ByteArray) : Int :=
  if s.size < 1 ∨ 8 < s.size then 0 else if allN (lowB s) s.size 0 = true then 1 else if allN (upB s) s.size 0 = true then 2 else 0

theorem kindS_bad {s : ByteArray} (h : s.size < 1 ∨ 8 < s.size) : kindS s = 0 := by
  unfold kindS
  exact if_pos h
theorem kindS_good {s : ByteArray} (h1 : 1 ≤ s.size) (h8 : s.size ≤ 8) : kindS s = (if allN (lowB s) s.size 0 = true then 1 else if allN (upB s) s.size 0 = true then 2 else 0) := by
  unfold kindS
  exact if_neg (by omega)
/-! ### the document's -/
theorem refKind_step (k : Nat) (s : ByteArray) (a b : Bool) (i : Int) (h0 : 0 ≤ i) (h1 : i < (s.size : Int)) :
    aumbryref03_Kind.l0 (k + 1) s a b i = aumbryref03_Kind.l0 k s (a && lowB s i) (b && upB s i) (wrap64 (i + 1)) := by
  simp only [aumbryref03_Kind.l0]
  rw [if_pos h1, if_pos h0]
  unfold lowB upB
  generalize bt s i = c
  by_cases c1 : c ≥ 48 <;> by_cases c2 : c ≤ 57 <;> by_cases c3 : c ≥ 97 <;> by_cases c4 : c ≤ 122 <;> by_cases c5 : c ≥ 65 <;> by_cases c6 : c ≤ 90 <;> first | (exfalso; omega) | (cases a <;> cases b <;> simp [c1, c2, c3, c4, c5, c6])
theorem refKind_end (k : Nat) (s : ByteArray) (a b : Bool) (i : Int) (h1 : ¬ i < (s.size : Int)) :
    aumbryref03_Kind.l0 (k + 1) s a b i = some (if a = true then 1 else if b = true then 2 else 0) := by
  simp only [aumbryref03_Kind.l0]
  rw [if_neg h1]
  cases a <;> cases b <;> rfl
theorem refKind_loop (s : ByteArray) (hs : s.size ≤ 8) : ∀ (d : Nat) (k : Nat) (a b : Bool) (i : Int), 0 ≤ i → (s.size : Int) - i = d → d < k →
    aumbryref03_Kind.l0 k s a b i = some (if (a && allN (lowB s) d i) = true then 1 else if (b && allN (upB s) d i) = true then 2 else 0)
  | 0, k, a, b, i, h0, hd, hk => by
    obtain ⟨k, rfl⟩ : ∃ m, k = m + 1 := ⟨k - 1, by omega⟩
    rw [refKind_end k s a b i (by omega)]
    simp [allN]
  | d + 1, k, a, b, i, h0, hd, hk => by
    obtain ⟨k, rfl⟩ : ∃ m, k = m + 1 := ⟨k - 1, by omega⟩
    rw [refKind_step k s a b i h0 (by omega), wrap_up h0 (by omega), refKind_loop s hs d k _ _ (i + 1) (by omega) (by omega) (by omega)]
    simp [allN, Bool.and_assoc]
theorem ev_refKind (s : ByteArray) : Ev (fun k => aumbryref03_Kind.f k s) (kindS s) := by
  refine ⟨12, fun k hk => ?_⟩
  show aumbryref03_Kind.f k s = _
  unfold aumbryref03_Kind.f
  obtain ⟨k, rfl⟩ : ∃ m, k = m + 1 := ⟨k - 1, by omega⟩
  by_cases h1 : (s.size : Int) < 1
  · rw [if_pos h1]
    simp [aumbryref03_Kind.j0, kindS_bad (s := s) (.inl (by omega))]
  · rw [if_neg h1]
    simp only [aumbryref03_Kind.j0]
    by_cases h2 : (s.size : Int) > 8
    · rw [if_pos (by simpa using h2), kindS_bad (s := s) (.inr (by omega))]
    · rw [kindS_good (s := s) (by omega) (by omega), if_neg (by simpa using h2), refKind_loop s (by omega) s.size k true true 0 (by omega) (by omega) (by omega)]
      simp

/-! ### the program's -/
def signS (c : Int) : Int × Int := if 97 ≤ c ∧ c ≤ 122 then (1, 1) else if 65 ≤ c ∧ c ≤ 90 then (2, 2) else if 48 ≤ c ∧ c ≤ 57 then (0, 3) else (0, 0)
theorem sign_at (c : Int) (k : Nat) (hk : 2 ≤ k) : name_sign.f k c = some (signS c) := by
  obtain ⟨k, rfl⟩ : ∃ m, k = m + 2 := ⟨k - 2, by omega⟩
  unfold name_sign.f signS
  by_cases c1 : c ≥ 48 <;> by_cases c2 : c ≤ 57 <;> by_cases c3 : c ≥ 97 <;> by_cases c4 : c ≤ 122 <;> by_cases c5 : c ≥ 65 <;> by_cases c6 : c ≤ 90 <;> first | (exfalso; omega) | (simp [name_sign.j0, name_sign.j1, c1, c2, c3, c4, c5, c6])
theorem bits_and_ (a b : Int) (ha : a = 0 ∨ a = 1 ∨ a = 2 ∨ a = 3) (hb : b = 0 ∨ b = 1 ∨ b = 2) : (Go.bits .and .i64 a b = 0) ↔ (b = 0 ∨ (b = 1 ∧ (a = 0 ∨ a = 2)) ∨ (b = 2 ∧ (a = 0 ∨ a = 1))) := by
  rcases ha with rfl | rfl | rfl | rfl <;> rcases hb with rfl | rfl | rfl <;> decide
def goesB (s : ByteArray) (b : Int) (i : Int) : Bool := decide (¬ (Go.bits .and .i64 (signS (bt s i)).2 b = 0))
theorem kind_loop (s : ByteArray) (b : Int) (hs : s.size ≤ 8) : ∀ (d : Nat) (k : Nat) (i : Int), 0 ≤ i → (s.size : Int) - i = d → d + 2 < k →
    name_Kind.l0 k s b (s.size : Int) i = some (if allN (goesB s b) d i = true then b else 0)
  | 0, k, i, h0, hd, hk => by
    obtain ⟨k, rfl⟩ : ∃ m, k = m + 1 := ⟨k - 1, by omega⟩
    simp only [name_Kind.l0]
    rw [if_neg (by omega)]
    simp [allN]
  | d + 1, k, i, h0, hd, hk => by
    obtain ⟨k, rfl⟩ : ∃ m, k = m + 1 := ⟨k - 1, by omega⟩
    simp only [name_Kind.l0]
    rw [if_pos (by omega), if_pos h0, if_pos (by omega), sign_at _ _ (by omega)]
    simp only [Option.bind_some]
    by_cases hg : Go.bits .and .i64 (signS (bt s i)).2 b = 0
    · rw [if_pos hg]
      simp [allN, goesB, hg]
    · rw [if_neg hg, wrap_up h0 (by omega), kind_loop s b hs d k (i + 1) (by omega) (by omega) (by omega)]
      simp [allN, goesB, hg]
theorem signS_two (c : Int) : (signS c).2 = 0 ∨ (signS c).2 = 1 ∨ (signS c).2 = 2 ∨ (signS c).2 = 3 := by
  unfold signS
  repeat' split
  all_goals simp
theorem goes_one (s : ByteArray) (i : Int) (hi : 0 < i) : goesB s 1 i = lowB s i := by
  have h := bits_and_ (signS (bt s i)).2 1 (signS_two _) (by simp)
  unfold goesB lowB
  rw [Bool.eq_iff_iff]
  simp only [decide_eq_true_eq, h, Bool.or_eq_true, Bool.and_eq_true]
  unfold signS
  repeat' split
  all_goals simp
  all_goals omega
theorem goes_two (s : ByteArray) (i : Int) (hi : 0 < i) : goesB s 2 i = upB s i := by
  have h := bits_and_ (signS (bt s i)).2 2 (signS_two _) (by simp)
  unfold goesB upB
  rw [Bool.eq_iff_iff]
  simp only [decide_eq_true_eq, h, Bool.or_eq_true, Bool.and_eq_true]
  unfold signS
  repeat' split
  all_goals simp
  all_goals omega
theorem kind_eq (s : ByteArray) (h1 : 1 ≤ s.size) (h8 : s.size ≤ 8) : (if allN (goesB s (signS (bt s 0)).1) s.size 0 = true then (signS (bt s 0)).1 else 0) = kindS s := by
  rw [kindS_good h1 h8]
  obtain ⟨n, hn⟩ : ∃ n, s.size = n + 1 := ⟨s.size - 1, by omega⟩
  have e1 : allN (goesB s 1) n (0 + 1) = allN (lowB s) n (0 + 1) := allN_congr _ _ (fun j h1 _ => goes_one s j (by omega))
  have e2 : allN (goesB s 2) n (0 + 1) = allN (upB s) n (0 + 1) := allN_congr _ _ (fun j h1 _ => goes_two s j (by omega))
  by_cases hl : 97 ≤ bt s 0 ∧ bt s 0 ≤ 122
  · have hs : signS (bt s 0) = (1, 1) := by unfold signS; rw [if_pos hl]
    have g0 : goesB s 1 0 = true := by unfold goesB; rw [hs]; decide
    have l0 : lowB s 0 = true := by unfold lowB; simp [hl]
    have u0 : upB s 0 = false := by unfold upB; simp; omega
    simp only [hn, hs, allN, e1, g0, l0, u0, Bool.true_and, Bool.false_and]
    split <;> simp
  · by_cases hu : 65 ≤ bt s 0 ∧ bt s 0 ≤ 90
    · have hs : signS (bt s 0) = (2, 2) := by unfold signS; rw [if_neg hl, if_pos hu]
      have g0 : goesB s 2 0 = true := by unfold goesB; rw [hs]; decide
      have l0 : lowB s 0 = false := by unfold lowB; simp; omega
      have u0 : upB s 0 = true := by unfold upB; simp [hu]
      simp only [hn, hs, allN, e2, g0, l0, u0, Bool.true_and, Bool.false_and]
      simp
    · have hs : (signS (bt s 0)).1 = 0 := by unfold signS; rw [if_neg hl, if_neg hu]; split <;> rfl
      have l0 : lowB s 0 = false := by unfold lowB; simp; omega
      have u0 : upB s 0 = false := by unfold upB; simp; omega
      simp only [hn, hs, allN, l0, u0, Bool.true_and, Bool.false_and]
      simp
theorem toList_nil (s : ByteArray) : s.toList = ([] : List UInt8) ↔ s.size = 0 := by
  rw [ByteArray.toList_eq]
  constructor
  · intro h
    have := congrArg List.length h
    simpa [data_length] using this
  · intro h
    apply List.eq_nil_of_length_eq_zero
    rw [data_length]
    exact h
theorem ev_kind (s : ByteArray) : Ev (fun k => name_Kind.f k s) (kindS s) := by
  refine ⟨16, fun k hk => ?_⟩
  show name_Kind.f k s = _
  unfold name_Kind.f
  obtain ⟨k, rfl⟩ : ∃ m, k = m + 1 := ⟨k - 1, by omega⟩
  by_cases h1 : s.toList = ([] : List UInt8)
  · rw [if_pos h1]
    have := (toList_nil s).1 h1
    simp [name_Kind.j0, kindS_bad (s := s) (.inl (by omega))]
  · have h1' : s.size ≠ 0 := fun h => h1 ((toList_nil s).2 h)
    rw [if_neg h1]
    simp only [name_Kind.j0]
    by_cases h2 : (s.size : Int) > 8
    · rw [if_pos (by simpa using h2), kindS_bad (s := s) (.inr (by omega))]
    · rw [if_neg (by simpa using h2), if_pos (by omega), sign_at _ _ (by omega)]
      simp only [Option.bind_some]
      rw [kind_loop s _ (by omega) s.size k 0 (by omega) (by omega) (by omega), kind_eq s (by omega) (by omega)]
end Go.Proofs.Ytcmnpjgmpgjbdaa.P

-- ==== PF19
namespace Go.Proofs.Ytcmnpjgmpgjbdaa.P
open Go.RowKit Go.Proofs.YtcmnpjgmpgjbdaaW.PrintWords Go.Proofs.YtcmnpjgmpgjbdaaW.PrintLast Go.Proofs.YtcmnpjgmpgjbdaaW.PrintMore
attribute [local go_sem] max2_int min2_int max_two min_two max_three min_three max_four min_four   -- for this text's walks alone
set_option linter.unusedVariables false
set_option linter.unusedSimpArgs false

/-! ### aumbryref04_Behind: function 19 -/
mutual
def aumbryref04_Behind.j0 : Nat → List (S50) → Int → Bool → Option (Int)
  | 0, _, _, _ => none
  | k + 1, x0, x1, x14 => if x14 = true then (some (-1)) else (if 0 ≤ x1 then (if x1 < (x0.length : Int) then (aumbryref04_Behind.l0 k x0 (wrap64 (x1 + 1)) ((rd_T50 x0 x1).f1) 0) else (none)) else (none))
def aumbryref04_Behind.l0 : Nat → List (S50) → Int → Int → Int → Option (Int)
  | 0, _, _, _, _ => none
  | k + 1, x0, x1, x5, x6 => if x6 < x5 then (if x1 ≥ 0 then ((aumbryref04_Behind.f k x0 x1).bind fun t102 => (aumbryref04_Behind.l0 k x0 t102 x5 (wrap64 (x6 + 1)))) else (some x1)) else (some x1)
def aumbryref04_Behind.f : Nat → List (S50) → Int → Option (Int)
  | 0, _, _ => none
  | k + 1, l0, a1 => if a1 < 0 then (aumbryref04_Behind.j0 k l0 a1 true) else (aumbryref04_Behind.j0 k l0 a1 (decide (a1 ≥ (l0.length : Int))))
end
end Go.Proofs.Ytcmnpjgmpgjbdaa.P

-- ==== PF13
namespace Go.Proofs.Ytcmnpjgmpgjbdaa.P
open Go.RowKit Go.Proofs.YtcmnpjgmpgjbdaaW.PrintWords Go.Proofs.YtcmnpjgmpgjbdaaW.PrintLast Go.Proofs.YtcmnpjgmpgjbdaaW.PrintMore
attribute [local go_sem] max2_int min2_int max_two min_two max_three min_three max_four min_four   -- for this text's walks alone
set_option linter.unusedVariables false
set_option linter.unusedSimpArgs false

/-! ### aumbryref04_Check: function 13 -/
def aumbryref04_Check.l0 : Nat → List (S50) → Int → Int → Option (Int)
  | 0, _, _, _ => none
  | k + 1, x0, x9, x10 => if x10 < x9 then (if 0 ≤ x10 then (if x10 < (x0.length : Int) then ((aumbryref03_Kind.f k ((rd_T50 x0 x10).f0)).bind fun t103 => (if t103 = 0 then (some 4) else (if ((rd_T50 x0 x10).f1) < 0 then (some 5) else (if ((rd_T50 x0 x10).f1) > 4 then (some 5) else (if t103 = 2 then (if ((rd_T50 x0 x10).f1) = 0 then (aumbryref04_Check.l0 k x0 x9 (wrap64 (x10 + 1))) else (some 5)) else (aumbryref04_Check.l0 k x0 x9 (wrap64 (x10 + 1)))))))) else (none)) else (none)) else ((aumbryref04_Behind.f k x0 0).bind fun t101 => (if t101 = (x0.length : Int) then (some 0) else (some 3)))
def aumbryref04_Check.f (k : Nat) (l0 : List (S50)) : Option (Int) := if (l0.length : Int) > 64 then (some 6) else (aumbryref04_Check.l0 k l0 (l0.length : Int) 0)
end Go.Proofs.Ytcmnpjgmpgjbdaa.P

-- ==== PLb
/- Plain laws, part b: a list of cells as terms one behind the other; whether it is a term (both ways come to one function). -/
namespace Go.Proofs.Ytcmnpjgmpgjbdaa.P
open Go.RowKit Go.Proofs.YtcmnpjgmpgjbdaaW.PrintWords
set_option linter.unusedVariables false
set_option linter.unusedSimpArgs false

abbrev Cel := S50
instance celEq : DecidableEq Cel := fun a b =>
  if h : a.f0 = b.f0 ∧ a.f1 = b.f1 then isTrue (by cases a; cases b; simp only at h; rw [h.1, h.2]) else isFalse (fun e => h (by rw [e]; exact ⟨rfl, rfl⟩))
theorem drop_cons {α : Type} {t : List α} {n : Nat} {c : α} {s : List α} (h : t.drop n = c :: s) : n < t.length ∧ (∀ d, t.getD n d = c) ∧ t.drop (n + 1) = s := by
  have h1 : n < t.length := by
    rcases Nat.lt_or_ge n t.length with h1 | h1
    · exact h1
    · rw [List.drop_eq_nil_of_le h1] at h
      cases h
  rw [List.drop_eq_getElem_cons h1] at h
  injection h with h2 h3
  exact ⟨h1, fun d => by rw [List.getD_eq_getElem?_getD, List.getElem?_eq_getElem h1]; exact h2, h3⟩
theorem drop_nil_len {α : Type} {t : List α} {n : Nat} (hn : n ≤ t.length) (h : t.drop n = []) : n = t.length := by
  have := congrArg List.length h
  simp at this
  omega
theorem rd_cel {t : List Cel} {n : Nat} {c : Cel} {s : List Cel} (h : t.drop n = c :: s) : rd_T50 t (n : Int) = c := by
  unfold rd_T50
  exact (drop_cons h).2.1 _

def ar (c : Cel) : Nat := c.f1.toNat
/-- What the cells of a term that is right are. -/
structure Okc (c : Cel) : Prop where
  kind : kindS c.f0 ≠ 0
  lo : 0 ≤ c.f1
  hi : c.f1 ≤ 4
  var : kindS c.f0 = 2 → c.f1 = 0
/-! ### the program's: behind, Check -/
/-! ### the document's: Behind, Check -/
end Go.Proofs.Ytcmnpjgmpgjbdaa.P

-- ==== PF12
namespace Go.Proofs.Ytcmnpjgmpgjbdaa.P
open Go.RowKit Go.Proofs.YtcmnpjgmpgjbdaaW.PrintWords Go.Proofs.YtcmnpjgmpgjbdaaW.PrintLast Go.Proofs.YtcmnpjgmpgjbdaaW.PrintMore
attribute [local go_sem] max2_int min2_int max_two min_two max_three min_three max_four min_four   -- for this text's walks alone
set_option linter.unusedVariables false
set_option linter.unusedSimpArgs false

/-! ### aumbryref04_Copy: function 12 -/
def aumbryref04_Copy.f (l0 : List (S50)) : Option ((List (S50))) := if ([] : List (S50)).length + l0.length < 5864062014805 then (some (([] : List (S50)) ++ l0)) else (none)
end Go.Proofs.Ytcmnpjgmpgjbdaa.P

-- ==== PLs
/- Plain laws: lists of cells as terms, taken apart (for chapters without match). -/
namespace Go.Proofs.Ytcmnpjgmpgjbdaa.P
open Go.RowKit Go.Proofs.YtcmnpjgmpgjbdaaW.PrintWords
set_option linter.unusedVariables false
set_option linter.unusedSimpArgs false

theorem bytes_eq (a b : ByteArray) : a.toList = b.toList ↔ a = b := by
  rw [ByteArray.toList_eq, ByteArray.toList_eq]
  constructor
  · intro h
    cases a; cases b
    simp only [ByteArray.mk.injEq]
    exact Array.toList_inj.1 h
  · intro h
    rw [h]
theorem cel_ne (c d : Cel) : ((!((c.f0.toList) == (d.f0.toList)) || (!(c.f1 == d.f1))) = true) ↔ c ≠ d := by
  cases c with | mk a b => cases d with | mk a' b' =>
  simp only [Bool.or_eq_true, Bool.not_eq_true', beq_eq_false_iff_ne, ne_eq, bytes_eq, S50.mk.injEq]
  by_cases h : a = a' <;> simp [h]
theorem ev_cels_loop (F : Nat → List Cel → List Cel → Int → Int → Option Bool)
    (hF : ∀ k x y n i, F (k + 1) x y n i = if i < n then (if 0 ≤ i then (if i < (x.length : Int) then (if i < (y.length : Int) then (if (!((((rd_T50 x i).f0).toList) == (((rd_T50 y i).f0).toList)) || (!(((rd_T50 x i).f1) == ((rd_T50 y i).f1)))) = true then (some false) else (F k x y n (wrap64 (i + 1)))) else (none)) else (none)) else (none)) else (some true))
    (x y : List Cel) (hl : x.length = y.length) (hb : x.length ≤ 9223372036854775806) : ∀ (s u : List Cel) (a : Nat), a ≤ x.length → x.drop a = s → y.drop a = u → Ev (fun k => F k x y (x.length : Int) (a : Int)) (decide (s = u))
  | [], u, a, ha, hs, hu => by
    have h1 := drop_nil_len ha hs
    have h2 : u = [] := by rw [← hu]; exact List.drop_eq_nil_of_le (by omega)
    refine Ev.step (f := fun _ => some true) (fun k => by rw [hF, if_neg (by omega)]) ?_
    rw [h2]
    exact Ev.now _
  | c :: s, u, a, ha, hs, hu => by
    obtain ⟨h1, _, h3⟩ := drop_cons hs
    rcases u with _ | ⟨d, u⟩
    · have := drop_nil_len (by omega) hu
      omega
    obtain ⟨_, _, h4⟩ := drop_cons hu
    by_cases hcd : c = d
    · refine Ev.step (f := fun k => F k x y (x.length : Int) ((a + 1 : Nat) : Int)) (fun k => by
        rw [hF, if_pos (by omega), if_pos (by omega), if_pos (by omega), if_pos (by omega), rd_cel hs, rd_cel hu, if_neg (fun h => (cel_ne c d).1 h hcd), wrap_up (by omega) (by omega)]
        rfl) ?_
      have : decide (c :: s = d :: u) = decide (s = u) := by subst hcd; simp
      rw [this]
      exact ev_cels_loop F hF x y hl hb s u (a + 1) (by omega) h3 h4
    · refine Ev.step (f := fun _ => some false) (fun k => by
        rw [hF, if_pos (by omega), if_pos (by omega), if_pos (by omega), if_pos (by omega), rd_cel hs, rd_cel hu, if_pos ((cel_ne c d).2 hcd)]) ?_
      have : decide (c :: s = d :: u) = false := by simp [hcd]
      rw [this]
      exact Ev.now _
theorem ev_refSame4 (x y : List Cel) (hb : x.length ≤ 9223372036854775806 ∨ y.length ≤ 9223372036854775806) : Ev (fun k => aumbryref04_Same.f k x y) (decide (x = y)) := by
  unfold aumbryref04_Same.f
  by_cases h : (x.length : Int) = (y.length : Int)
  · exact Ev.congr (f := fun k => aumbryref04_Same.l0 k x y (x.length : Int) ((0 : Nat) : Int)) (fun k => by rw [if_pos h]; rfl) (ev_cels_loop _ (fun k x y n i => rfl) x y (by omega) (by omega) x y 0 (by omega) rfl rfl)
  · refine Ev.congr (f := fun _ => some (decide (x = y))) (fun k => ?_) (Ev.now _)
    rw [if_neg h]
    congr 1
    rw [Eq.comm, decide_eq_false_iff_not]
    rintro rfl
    exact h rfl
end Go.Proofs.Ytcmnpjgmpgjbdaa.P

-- ==== PL4
/- Plain laws of chapter 4: what the statements ask ahead (wakes), and copies. -/
namespace Go.Proofs.Ytcmnpjgmpgjbdaa.P
open Go.RowKit Go.Proofs.YtcmnpjgmpgjbdaaW.PrintWords
set_option linter.unusedVariables false
set_option linter.unusedSimpArgs false

set_option maxRecDepth 100000 in
theorem ev_wakes4 : Ev (fun k => aumbrylaw04_wakes.f k) true := Ev.of (g := fun k => aumbrylaw04_wakes.f k) aumbrylaw04_wakes.mono (k := 40) (by kernel_rfl)
end Go.Proofs.Ytcmnpjgmpgjbdaa.P

-- ==== PF20
namespace Go.Proofs.Ytcmnpjgmpgjbdaa.P
open Go.RowKit Go.Proofs.YtcmnpjgmpgjbdaaW.PrintWords Go.Proofs.YtcmnpjgmpgjbdaaW.PrintLast Go.Proofs.YtcmnpjgmpgjbdaaW.PrintMore
attribute [local go_sem] max2_int min2_int max_two min_two max_three min_three max_four min_four   -- for this text's walks alone
set_option linter.unusedVariables false
set_option linter.unusedSimpArgs false

/-! ### term_Kids: function 20 -/
def term_Kids.l0 : Nat → List (S50) → List (List (S50)) → Int → Option ((List (List (S50))) × Int)
  | 0, _, _, _ => none
  | k + 1, x0, x5, x6 => if x6 < (x0.length : Int) then ((term_behind.f k x0 x6).bind fun t102 => (if 0 ≤ x6 then (if x6 ≤ t102 then (if t102 ≤ (x0.length : Int) then ((api_Cell.f ((x0.take (t102 : Int).toNat).drop (x6 : Int).toNat)).bind fun t107 => (if x5.length < 5864062014805 then (term_Kids.l0 k x0 (x5 ++ [t107]) t102) else (none))) else (none)) else (none)) else (none))) else (some (x5, 0))
def term_Kids.f (k : Nat) (l0 : List (S50)) : Option ((List (List (S50))) × Int) := (term_Check.f k l0).bind fun t101 => (if t101 = 0 then (term_Kids.l0 k l0 ([] : List (List (S50))) 1) else (some (([] : List (List (S50))), t101)))
end Go.Proofs.Ytcmnpjgmpgjbdaa.P

-- ==== PL4k
/- Plain laws of chapter 4: a term's arguments. -/
namespace Go.Proofs.Ytcmnpjgmpgjbdaa.P
open Go.RowKit Go.Proofs.YtcmnpjgmpgjbdaaW.PrintWords
set_option linter.unusedVariables false
set_option linter.unusedSimpArgs false
theorem up_cast (a : Nat) (h : a < 9223372036854775807) : wrap64 ((a : Int) + 1) = ((a + 1 : Nat) : Int) := by rw [wrap_up (by omega) (by omega)]; rfl
end Go.Proofs.Ytcmnpjgmpgjbdaa.P

-- ==== PL4x
/- Plain laws of chapter 4: a text's signs, its words. -/
namespace Go.Proofs.Ytcmnpjgmpgjbdaa.P
open Go.RowKit Go.Proofs.YtcmnpjgmpgjbdaaW.PrintWords
set_option linter.unusedVariables false
set_option linter.unusedSimpArgs false
def signI (c : Int) : Bool := (decide (97 ≤ c) && decide (c ≤ 122)) || (decide (65 ≤ c) && decide (c ≤ 90)) || (decide (48 ≤ c) && decide (c ≤ 57))
def signU (x : UInt8) : Bool := signI (x.toNat : Int)
abbrev bl (s : ByteArray) : List UInt8 := s.data.toList
theorem bl_len (s : ByteArray) : (bl s).length = s.size := data_length s
theorem bt_drop {s : ByteArray} {j : Nat} {x : UInt8} {r : List UInt8} (h : (bl s).drop j = x :: r) : j < s.size ∧ bt s (j : Int) = (x.toNat : Int) ∧ (bl s).drop (j + 1) = r := by
  obtain ⟨h1, h2, h3⟩ := drop_cons h
  rw [bl_len] at h1
  refine ⟨h1, ?_, h3⟩
  unfold bt
  simp only [Int.toNat_natCast]
  rw [dif_pos h1]
  have := h2 0
  rw [List.getD_eq_getElem?_getD, List.getElem?_eq_getElem (by rw [bl_len]; exact h1)] at this
  simp only [Option.getD_some] at this
  rw [← this]
  simp [bl, ByteArray.getElem_eq_getElem_data]
theorem bl_drop_nil {s : ByteArray} {j : Nat} (h : j ≤ s.size) (h1 : (bl s).drop j = []) : j = s.size := by
  have := drop_nil_len (by rw [bl_len]; exact h) h1
  rw [bl_len] at this
  exact this
theorem bl_extract (s : ByteArray) (i j : Nat) : bl (s.extract i j) = ((bl s).drop i).take (j - i) := by
  unfold bl
  rw [ByteArray.data_extract, Array.toList_extract]
theorem sign_eq (c : Int) : aumbryref04_sign.f c = some (signI c) := by
  unfold aumbryref04_sign.f signI
  by_cases c1 : c ≥ 48 <;> by_cases c2 : c ≤ 57 <;> by_cases c3 : c ≥ 97 <;> by_cases c4 : c ≤ 122 <;> by_cases c5 : c ≥ 65 <;> by_cases c6 : c ≤ 90 <;> first | (exfalso; omega) | (simp [c1, c2, c3, c4, c5, c6])
/-- The word that begins at a place. -/
def wdL (s : ByteArray) (i : Nat) : List UInt8 := ((bl s).drop i).takeWhile signU
theorem wdL_cons {s : ByteArray} {j : Nat} {x : UInt8} {r : List UInt8} (h : (bl s).drop j = x :: r) (hx : signU x = true) : wdL s j = x :: wdL s (j + 1) := by
  unfold wdL
  rw [h, List.takeWhile_cons_of_pos hx, (bt_drop h).2.2]
theorem wdL_stop {s : ByteArray} {j : Nat} {x : UInt8} {r : List UInt8} (h : (bl s).drop j = x :: r) (hx : ¬ signU x = true) : wdL s j = [] := by
  unfold wdL
  rw [h, List.takeWhile_cons_of_neg hx]
theorem wdL_end {s : ByteArray} {j : Nat} (h : (bl s).drop j = []) : wdL s j = [] := by
  unfold wdL
  rw [h]
  rfl
theorem wdL_bound {s : ByteArray} {j : Nat} (h : j ≤ s.size) : j + (wdL s j).length ≤ s.size := by
  have h1 : (wdL s j).length ≤ ((bl s).drop j).length := by
    unfold wdL
    exact (List.takeWhile_sublist _).length_le
  rw [List.length_drop, bl_len] at h1
  omega
/-- The word, as a text. -/
def wdT (s : ByteArray) (i : Nat) : ByteArray := s.extract i (i + (wdL s i).length)
theorem wdT_bl (s : ByteArray) (i : Nat) : bl (wdT s i) = wdL s i := by
  unfold wdT
  rw [bl_extract, show i + (wdL s i).length - i = (wdL s i).length by omega]
  have : wdL s i <+: (bl s).drop i := List.takeWhile_prefix _
  exact (List.prefix_iff_eq_take.1 this).symm
/-- Behind the word no sign stands. -/
theorem wd_behind (s : ByteArray) (i : Nat) : (bl s).drop (i + (wdL s i).length) = ((bl s).drop i).dropWhile signU := by
  rw [← List.drop_drop]
  have : ∀ l : List UInt8, l.drop (l.takeWhile signU).length = l.dropWhile signU := by
    intro l
    induction l with
    | nil => rfl
    | cons x l ih =>
      by_cases hx : signU x = true
      · rw [List.takeWhile_cons_of_pos hx, List.dropWhile_cons_of_pos hx]
        simpa using ih
      · rw [List.takeWhile_cons_of_neg hx, List.dropWhile_cons_of_neg hx]
        rfl
  exact this _
def nxL (s : ByteArray) (i : Nat) : Int := match (bl s).drop i with
  | [] => 0
  | x :: _ => (x.toNat : Int)
theorem nxS_eq (s : ByteArray) (i : Nat) (h : i ≤ s.size) : nxS s (i : Int) = nxL s i := by
  unfold nxS nxL
  cases hd : (bl s).drop i with
  | nil =>
    have := bl_drop_nil h hd
    rw [if_neg (by omega)]
  | cons x r =>
    have := bt_drop hd
    rw [if_pos (by omega), this.2.1]
theorem word_step (k : Nat) (from_ c : Int) (s : ByteArray) (i : Int) (v : Value) : term_reader_word.l0 (k + 1) from_ c s i v =
    if signI c = true then ((term_reader_next.f s (wrap64 (i + 1)) v).bind fun b => term_reader_word.l0 k from_ b.1 b.2.1 b.2.2 v)
    else (if 0 ≤ from_ then (if from_ ≤ i then (if i ≤ (s.size : Int) then some (s.extract from_.toNat i.toNat, s, i) else none) else none) else none) := by
  rw [term_reader_word.l0]
  unfold signI
  by_cases c1 : c ≥ 48 <;> by_cases c2 : c ≤ 57 <;> by_cases c3 : c ≥ 97 <;> by_cases c4 : c ≤ 122 <;> by_cases c5 : c ≥ 65 <;> by_cases c6 : c ≤ 90 <;> first | (exfalso; omega) | (simp [c1, c2, c3, c4, c5, c6])
theorem ev_word_loop (s : ByteArray) (v : Value) (hs : s.size ≤ 100000) (from_ : Nat) : ∀ (l : List UInt8) (j : Nat), from_ ≤ j → j ≤ s.size → (bl s).drop j = l →
    Ev (fun k => term_reader_word.l0 k (from_ : Int) (nxL s j) s (j : Int) v) (s.extract from_ (j + (wdL s j).length), s, ((j + (wdL s j).length : Nat) : Int))
  | [], j, hf, hj, hd => by
    have h0 : nxL s j = 0 := by unfold nxL; rw [hd]
    refine Ev.step (fun k => word_step k _ _ s _ v) ?_
    rw [h0, wdL_end hd]
    refine evIfn (by decide) (evIfp (by omega) (evIfp (by omega) (evIfp (by omega) ?_)))
    simp only [Int.toNat_natCast, List.length_nil, Nat.add_zero]
    exact Ev.now _
  | x :: r, j, hf, hj, hd => by
    obtain ⟨h1, h2, h3⟩ := bt_drop hd
    have h0 : nxL s j = (x.toNat : Int) := by unfold nxL; rw [hd]
    refine Ev.step (fun k => word_step k _ _ s _ v) ?_
    rw [h0]
    by_cases hx : signU x = true
    · refine evIfp hx ?_
      rw [wrap_up (by omega) (by omega)]
      have hn : term_reader_next.f s ((j : Int) + 1) v = some (nxL s (j + 1), s, ((j + 1 : Nat) : Int)) := by
        rw [next_at s _ v (by omega), show (j : Int) + 1 = ((j + 1 : Nat) : Int) by omega, nxS_eq s (j + 1) (by omega)]
      refine Ev.bind (evIs hn) ?_
      rw [wdL_cons hd hx]
      have := ev_word_loop s v hs from_ r (j + 1) (by omega) (by omega) h3
      simp only [List.length_cons]
      rw [show j + ((wdL s (j + 1)).length + 1) = j + 1 + (wdL s (j + 1)).length by omega]
      exact this
    · refine evIfn hx (evIfp (by omega) (evIfp (by omega) (evIfp (by omega) ?_)))
      rw [wdL_stop hd hx]
      simp only [Int.toNat_natCast, List.length_nil, Nat.add_zero]
      exact Ev.now _
theorem ev_word (s : ByteArray) (v : Value) (hs : s.size ≤ 100000) (i : Nat) (hi : i ≤ s.size) : Ev (fun k => term_reader_word.f k s (i : Int) v) (wdT s i, s, ((i + (wdL s i).length : Nat) : Int)) := by
  unfold term_reader_word.f
  have hn : term_reader_next.f s (i : Int) v = some (nxL s i, s, (i : Int)) := by
    rw [next_at s _ v (by omega), nxS_eq s i hi]
  refine Ev.bind (evIs hn) ?_
  exact ev_word_loop s v hs i _ i (by omega) hi rfl
end Go.Proofs.Ytcmnpjgmpgjbdaa.P

-- ==== PL4t
/- Plain laws of chapter 4: a term's text. -/
namespace Go.Proofs.Ytcmnpjgmpgjbdaa.P
open Go.RowKit Go.Proofs.YtcmnpjgmpgjbdaaW.PrintWords
set_option linter.unusedVariables false
set_option linter.unusedSimpArgs false
def closeB (n : Nat) : List UInt8 := if n = 0 then [] else [41]
def sepB (i : Nat) : UInt8 := if i = 0 then 40 else 44
/-- The arguments i, .., n - 1 of a cell with n, their text, their depth. -/
inductive Tx : Nat → Nat → List Cel → List UInt8 → Nat → Prop
  | done (n : Nat) : Tx n n [] [] 0
  | arg {i n : Nat} {c : Cel} {l1 l2 : List Cel} {b1 b2 : List UInt8} {d1 d2 : Nat} (h : i < n) (h1 : Tx 0 (ar c) l1 b1 d1) (h2 : Tx (i + 1) n l2 b2 d2) :
      Tx i n (c :: (l1 ++ l2)) (sepB i :: (bl c.f0 ++ b1 ++ closeB (ar c) ++ b2)) (max (d1 + 1) d2)
/-! ### writing -/
def txtL (c : Cel) (b : List UInt8) : List UInt8 := bl c.f0 ++ b ++ closeB (ar c)
end Go.Proofs.Ytcmnpjgmpgjbdaa.P

-- ==== PL4r
/- Plain laws of chapter 4: reading: what the program's reader and the document's come to, for every text; a term's text is read as the term. -/
namespace Go.Proofs.Ytcmnpjgmpgjbdaa.P
open Go.RowKit Go.Proofs.YtcmnpjgmpgjbdaaW.PrintWords
set_option linter.unusedVariables false
set_option linter.unusedSimpArgs false
abbrev RdR := Sum (Int × Int) (Int × List Cel)
theorem nxL_cons {s : ByteArray} {j : Nat} {x : UInt8} {r : List UInt8} (h : (bl s).drop j = x :: r) : nxL s j = (x.toNat : Int) := by
  unfold nxL
  rw [h]
theorem nxL_pos {s : ByteArray} {j : Nat} {c : Int} (h : nxL s j = c) (hc : c ≠ 0) : ∃ x r, (bl s).drop j = x :: r ∧ (x.toNat : Int) = c := by
  unfold nxL at h
  cases hd : (bl s).drop j with
  | nil => rw [hd] at h; exact absurd h.symm hc
  | cons x r => rw [hd] at h; exact ⟨x, r, rfl, h⟩
theorem u8_of {x : UInt8} {n : Nat} (h : (x.toNat : Int) = (n : Int)) (hn : n < 256) : x = UInt8.ofNat n := by
  apply UInt8.toNat_inj.1
  rw [UInt8.toNat_ofNat']
  omega
theorem wdT_empty (s : ByteArray) (i : Nat) : (wdT s i).toList = [] ↔ wdL s i = [] := by
  rw [toList_nil, ← bl_len, wdT_bl]
  exact List.length_eq_zero_iff
theorem drop_word (s : ByteArray) (i : Nat) : (bl s).drop i = wdL s i ++ (bl s).drop (i + (wdL s i).length) := by
  rw [wd_behind]
  exact (List.takeWhile_append_dropWhile).symm
/-! ### the program's steps -/
theorem ev_rdTerm_at {s : ByteArray} {l : List Cel} {i : Nat} {r : RdR} (hs : s.size ≤ 100000) (hi : i ≤ s.size)
    (h : Ev (fun k => if (wdT s i).toList = [] then some (.inl ((i : Int), (3 : Int))) else if kindS (wdT s i) = 0 then some (.inl ((i : Int), (4 : Int))) else if (l.length : Int) = 64 then some (.inl ((i : Int), (6 : Int)))
      else if nxL s (i + (wdL s i).length) = 40 then (if kindS (wdT s i) = 2 then some (.inl (((i + (wdL s i).length : Nat) : Int), (5 : Int))) else rdArgs k s ((i + (wdL s i).length : Nat) : Int) (l ++ [⟨wdT s i, 0⟩]) l.length 1) else some (.inr (((i + (wdL s i).length : Nat) : Int), l ++ [⟨wdT s i, 0⟩]))) r) :
    Ev (fun k => rdTerm k s (i : Int) l) r := by
  refine Ev.step (fun k => (show rdTerm (k + 1) s (i : Int) l = _ from by rw [rdTerm])) ?_
  refine Ev.bind (ev_word s .nilIface hs i hi) ?_
  refine Ev.bind (ev_kind (wdT s i)) ?_
  simp only [nxS_eq s (i + (wdL s i).length) (wdL_bound hi)]
  exact h
theorem ev_rdArgs_inl {s : ByteArray} {l : List Cel} {i c : Nat} {n : Int} {x : Int × Int} (hi : i < 100000) (h : Ev (fun k => rdTerm k s ((i + 1 : Nat) : Int) l) (.inl x)) : Ev (fun k => rdArgs k s (i : Int) l c n) (.inl x) := by
  refine Ev.step (fun k => (show rdArgs (k + 1) s (i : Int) l c n = _ from by rw [rdArgs])) ?_
  rw [up_cast i (by omega)]
  exact Ev.bind h (Ev.now _)
theorem ev_rdArgs_inr {s : ByteArray} {l m : List Cel} {i c j : Nat} {n : Int} {r : RdR} (hi : i < 100000) (hj : j ≤ s.size) (hs : s.size ≤ 100000) (h : Ev (fun k => rdTerm k s ((i + 1 : Nat) : Int) l) (.inr ((j : Int), m))) (hc : c < m.length)
    (h2 : Ev (fun k => if nxL s j = 41 then some (.inr (((j + 1 : Nat) : Int), m.set c ⟨(rd_T50 m (c : Int)).f0, n⟩))
        else if nxL s j = 44 then (if n = 4 then some (.inl ((j : Int), (5 : Int))) else rdArgs k s (j : Int) (m.set c ⟨(rd_T50 m (c : Int)).f0, n⟩) c (wrap64 (n + 1))) else some (.inl ((j : Int), (3 : Int)))) r) :
    Ev (fun k => rdArgs k s (i : Int) l c n) r := by
  refine Ev.step (fun k => (show rdArgs (k + 1) s (i : Int) l c n = _ from by rw [rdArgs])) ?_
  rw [up_cast i (by omega)]
  refine Ev.bind h ?_
  refine evIfp hc ?_
  simp only [nxS_eq s j hj, up_cast j (by omega)]
  exact h2
/-! ### the document's steps -/
theorem ev_read_scan {s : ByteArray} {l : List Cel} {i : Nat} {r : List Cel × Int × Int} (hs : s.size ≤ 100000) : ∀ (q : List UInt8) (j : Nat), j ≤ s.size → (bl s).drop j = q →
    Ev (fun k => aumbryref04_Read.j1 k s (i : Int) l ((j + (wdL s j).length : Nat) : Int)) r → Ev (fun k => aumbryref04_Read.l0 k s (i : Int) l (j : Int)) r
  | [], j, hj, hd, h => by
    have := bl_drop_nil hj hd
    rw [wdL_end hd] at h
    refine Ev.step (fun k => (show aumbryref04_Read.l0 (k + 1) s (i : Int) l (j : Int) = _ from by rw [aumbryref04_Read.l0])) ?_
    exact evIfn (by omega) h
  | x :: q, j, hj, hd, h => by
    obtain ⟨h1, h2, h3⟩ := bt_drop hd
    refine Ev.step (fun k => (show aumbryref04_Read.l0 (k + 1) s (i : Int) l (j : Int) = _ from by rw [aumbryref04_Read.l0])) ?_
    refine evIfp (by omega) (evIfp (by omega) ?_)
    refine Ev.bind (evIs (sign_eq _)) ?_
    rw [h2, up_cast j (by omega)]
    by_cases hx : signU x = true
    · refine evIfp hx ?_
      rw [wdL_cons hd hx] at h
      refine ev_read_scan hs q (j + 1) (by omega) h3 ?_
      simp only [List.length_cons] at h
      rw [show j + 1 + (wdL s (j + 1)).length = j + ((wdL s (j + 1)).length + 1) by omega]
      exact h
    · refine evIfn hx ?_
      rw [wdL_stop hd hx] at h
      exact h
theorem ev_Read_at {s : ByteArray} {l : List Cel} {i : Nat} {r : List Cel × Int × Int} (hs : s.size ≤ 100000) (hi : i ≤ s.size) (hl : l.length ≤ 64)
    (h : Ev (fun k => if (wdT s i).toList = [] then some (([] : List Cel), (i : Int), (3 : Int)) else if kindS (wdT s i) = 0 then some (([] : List Cel), (i : Int), (4 : Int)) else if (l.length : Int) = 64 then some (([] : List Cel), (i : Int), (6 : Int))
      else if nxL s (i + (wdL s i).length) = 40 then (if kindS (wdT s i) = 2 then some (([] : List Cel), ((i + (wdL s i).length : Nat) : Int), (5 : Int)) else aumbryref04_Read.l1 k s (l ++ [⟨wdT s i, 0⟩]) ((i + (wdL s i).length : Nat) : Int) (l.length : Int) 1) else some (l ++ [⟨wdT s i, 0⟩], ((i + (wdL s i).length : Nat) : Int), (0 : Int))) r) :
    Ev (fun k => aumbryref04_Read.f k s (i : Int) l) r := by
  have hb := wdL_bound (s := s) hi
  refine Ev.step (fun k => (show aumbryref04_Read.f (k + 1) s (i : Int) l = _ from by rw [aumbryref04_Read.f])) ?_
  refine ev_read_scan hs _ i hi rfl ?_
  refine Ev.step (fun k => (show aumbryref04_Read.j1 (k + 1) s (i : Int) l ((i + (wdL s i).length : Nat) : Int) = _ from by rw [aumbryref04_Read.j1])) ?_
  refine evIfp (by omega) (evIfp (by omega) (evIfp (by omega) ?_))
  have hw : s.extract ((i : Int)).toNat (((i + (wdL s i).length : Nat) : Int)).toNat = wdT s i := rfl
  simp only [hw]
  by_cases h1 : (wdT s i).toList = []
  · simp only [if_pos h1] at h ⊢
    exact h
  · simp only [if_neg h1] at h ⊢
    refine Ev.bind (ev_refKind _) ?_
    by_cases h2 : kindS (wdT s i) = 0
    · simp only [if_pos h2] at h ⊢
      exact h
    · simp only [if_neg h2] at h ⊢
      by_cases h3 : (l.length : Int) = 64
      · simp only [if_pos h3] at h ⊢
        exact h
      · simp only [if_neg h3] at h ⊢
        refine evIfp (by omega) ?_
        simp only [Option.bind_some]
        have hj2 : ∀ fl : Bool, Ev (fun k => if fl = true then some (l ++ [(⟨wdT s i, 0⟩ : Cel)], ((i + (wdL s i).length : Nat) : Int), (0 : Int)) else (if kindS (wdT s i) = 2 then some (([] : List Cel), ((i + (wdL s i).length : Nat) : Int), (5 : Int)) else aumbryref04_Read.l1 k s (l ++ [⟨wdT s i, 0⟩]) ((i + (wdL s i).length : Nat) : Int) (l.length : Int) 1)) r →
            Ev (fun k => aumbryref04_Read.j2 k s (l ++ [⟨wdT s i, 0⟩]) ((i + (wdL s i).length : Nat) : Int) (kindS (wdT s i)) (l.length : Int) fl) r := by
          intro fl hf
          refine Ev.step (fun k => (show aumbryref04_Read.j2 (k + 1) s (l ++ [⟨wdT s i, 0⟩]) ((i + (wdL s i).length : Nat) : Int) (kindS (wdT s i)) (l.length : Int) fl = _ from by rw [aumbryref04_Read.j2])) ?_
          exact hf
        cases hd : (bl s).drop (i + (wdL s i).length) with
        | nil =>
          have := bl_drop_nil hb hd
          have hn : nxL s (i + (wdL s i).length) = 0 := by unfold nxL; rw [hd]
          rw [hn] at h
          refine evIfp (by omega) (hj2 true ?_)
          simp only [if_true]
          simpa using h
        | cons x q =>
          obtain ⟨g1, g2, g3⟩ := bt_drop hd
          have hn := nxL_cons hd
          rw [hn] at h
          refine evIfn (by omega) (evIfp (by omega) (evIfp (by omega) ?_))
          rw [g2]
          refine hj2 _ ?_
          by_cases hx : (x.toNat : Int) = 40
          · have e : ((x.toNat : Int) != 40) = false := by simp [hx]
            simp only [if_pos hx] at h
            rw [e]
            simpa using h
          · have e : ((x.toNat : Int) != 40) = true := by simpa using hx
            simp only [if_neg hx] at h
            rw [e]
            simpa using h
theorem ev_Readl1_inl {s : ByteArray} {l : List Cel} {i c : Nat} {n p e : Int} (hi : i < 100000) (he : e ≠ 0) (h : Ev (fun k => aumbryref04_Read.f k s ((i + 1 : Nat) : Int) l) ([], p, e)) : Ev (fun k => aumbryref04_Read.l1 k s l (i : Int) (c : Int) n) ([], p, e) := by
  refine Ev.step (fun k => (show aumbryref04_Read.l1 (k + 1) s l (i : Int) (c : Int) n = _ from by rw [aumbryref04_Read.l1])) ?_
  rw [up_cast i (by omega)]
  refine Ev.bind h ?_
  exact evIfn he (Ev.now _)
theorem ev_Readl1_inr {s : ByteArray} {l m : List Cel} {i c j : Nat} {n : Int} {r : List Cel × Int × Int} (hi : i < 100000) (hj : j ≤ s.size) (hs : s.size ≤ 100000) (h : Ev (fun k => aumbryref04_Read.f k s ((i + 1 : Nat) : Int) l) (m, (j : Int), 0)) (hc : c < m.length)
    (h2 : Ev (fun k => if nxL s j = 41 then some (m.set c ⟨(rd_T50 m (c : Int)).f0, n⟩, ((j + 1 : Nat) : Int), (0 : Int))
        else if nxL s j = 44 then (if n = 4 then some (([] : List Cel), (j : Int), (5 : Int)) else aumbryref04_Read.l1 k s (m.set c ⟨(rd_T50 m (c : Int)).f0, n⟩) (j : Int) (c : Int) (wrap64 (n + 1))) else some (([] : List Cel), (j : Int), (3 : Int))) r) :
    Ev (fun k => aumbryref04_Read.l1 k s l (i : Int) (c : Int) n) r := by
  refine Ev.step (fun k => (show aumbryref04_Read.l1 (k + 1) s l (i : Int) (c : Int) n = _ from by rw [aumbryref04_Read.l1])) ?_
  rw [up_cast i (by omega)]
  refine Ev.bind h ?_
  refine evIfp rfl (evIfp (by omega) (evIfp (by simp only; omega) ?_))
  simp only [Option.bind_some, Int.toNat_natCast]
  generalize m.set c ⟨(rd_T50 m (c : Int)).f0, n⟩ = m' at h2 ⊢
  have hj5 : ∀ fl : Bool, Ev (fun k => if fl = true then some (([] : List Cel), (j : Int), (3 : Int)) else (if n = 4 then some (([] : List Cel), (j : Int), (5 : Int)) else aumbryref04_Read.l1 k s m' (j : Int) (c : Int) (wrap64 (n + 1)))) r →
      Ev (fun k => aumbryref04_Read.j5 k s m' (j : Int) (c : Int) n fl) r := by
    intro fl hf
    refine Ev.step (fun k => (show aumbryref04_Read.j5 (k + 1) s m' (j : Int) (c : Int) n fl = _ from by rw [aumbryref04_Read.j5])) ?_
    exact hf
  have hj4 : ∀ fl : Bool, Ev (fun k => if fl = true then some (m', ((j + 1 : Nat) : Int), (0 : Int)) else (if (j : Int) = (s.size : Int) then (aumbryref04_Read.j5 k s m' (j : Int) (c : Int) n true) else (if 0 ≤ (j : Int) then (if (j : Int) < (s.size : Int) then (aumbryref04_Read.j5 k s m' (j : Int) (c : Int) n ((bt s (j : Int)) != 44)) else none) else none))) r →
      Ev (fun k => aumbryref04_Read.j4 k s m' (j : Int) (c : Int) n fl) r := by
    intro fl hf
    refine Ev.step (fun k => (show aumbryref04_Read.j4 (k + 1) s m' (j : Int) (c : Int) n fl = _ from by rw [aumbryref04_Read.j4])) ?_
    rw [up_cast j (by omega)]
    exact hf
  cases hd : (bl s).drop j with
  | nil =>
    have := bl_drop_nil hj hd
    have hn : nxL s j = 0 := by unfold nxL; rw [hd]
    rw [hn] at h2
    refine evIfn (by omega) (hj4 false ?_)
    refine evIfn (by simp) (evIfp (by omega) (hj5 true ?_))
    simpa using h2
  | cons x q =>
    obtain ⟨g1, g2, g3⟩ := bt_drop hd
    have hn := nxL_cons hd
    rw [hn] at h2
    refine evIfp (by omega) (evIfp (by omega) ?_)
    rw [g2]
    refine hj4 _ ?_
    by_cases hx : (x.toNat : Int) = 41
    · have e : ((x.toNat : Int) == 41) = true := by simp [hx]
      simp only [if_pos hx] at h2
      rw [e]
      simpa using h2
    · have e : ((x.toNat : Int) == 41) = false := by simpa using hx
      simp only [if_neg hx] at h2
      rw [e]
      refine evIfn (by simp) (evIfn (by omega) (evIfp (by omega) (evIfp (by omega) ?_)))
      rw [g2]
      refine hj5 _ ?_
      by_cases hy : (x.toNat : Int) = 44
      · have e : ((x.toNat : Int) != 44) = false := by simp [hy]
        simp only [if_pos hy] at h2
        rw [e]
        simpa using h2
      · have e : ((x.toNat : Int) != 44) = true := by simpa using hy
        simp only [if_neg hy] at h2
        rw [e]
        simpa using h2
/-! ### what reading comes to, both ways -/
def cA : Sum (Nat × Int) (Nat × List Cel) → RdR
  | .inl x => .inl ((x.1 : Int), x.2)
  | .inr y => .inr ((y.1 : Int), y.2)
def cR : Sum (Nat × Int) (Nat × List Cel) → List Cel × Int × Int
  | .inl x => ([], (x.1 : Int), x.2)
  | .inr y => (y.2, (y.1 : Int), 0)
def RdOk (s : ByteArray) (pos : Nat) (acc : List Cel) : Sum (Nat × Int) (Nat × List Cel) → Prop
  | .inl x => x.1 ≤ s.size ∧ x.2 ≠ 0
  | .inr y => ∃ c l b d, y.2 = acc ++ c :: l ∧ Tx 0 (ar c) l b d ∧ (∀ x ∈ c :: l, Okc x) ∧ y.2.length ≤ 64 ∧ y.1 ≤ s.size ∧ pos < y.1 ∧ (bl s).drop pos = txtL c b ++ (bl s).drop y.1
def ArOk (s : ByteArray) (pos : Nat) (acc : List Cel) (cI i : Nat) : Sum (Nat × Int) (Nat × List Cel) → Prop
  | .inl x => x.1 ≤ s.size ∧ x.2 ≠ 0
  | .inr y => ∃ (N : Nat) (l : List Cel) (b : List UInt8) (d : Nat), i < N ∧ N ≤ 4 ∧ y.2 = acc.set cI ⟨(acc.getD cI z50).f0, (N : Int)⟩ ++ l ∧ Tx i N l b d ∧ (∀ x ∈ l, Okc x) ∧ y.2.length ≤ 64 ∧ y.1 ≤ s.size ∧ pos < y.1 ∧ (bl s).drop pos = b ++ 41 :: (bl s).drop y.1
theorem rd_getD (m : List Cel) (c : Nat) : rd_T50 m (c : Int) = m.getD c z50 := rfl
theorem getD_app {acc q : List Cel} {c : Nat} (h : c < acc.length) (z : Cel) : (acc ++ q).getD c z = acc.getD c z := by
  rw [List.getD_eq_getElem?_getD, List.getD_eq_getElem?_getD, List.getElem?_append_left h]
theorem getD_set {m : List Cel} {c : Nat} {x : Cel} (h : c < m.length) (z : Cel) : (m.set c x).getD c z = x := by
  rw [List.getD_eq_getElem?_getD, List.getElem?_set_self h]
  rfl
theorem set_app {acc q : List Cel} {c : Nat} {x : Cel} (h : c < acc.length) : (acc ++ q).set c x = acc.set c x ++ q := List.set_append_left c x h
theorem rd_sound (s : ByteArray) (hs : s.size ≤ 100000) : ∀ D : Nat,
    (∀ (pos : Nat) (acc : List Cel), s.size - pos < D → pos ≤ s.size → acc.length ≤ 64 → ∃ r, Ev (fun k => rdTerm k s (pos : Int) acc) (cA r) ∧ Ev (fun k => aumbryref04_Read.f k s (pos : Int) acc) (cR r) ∧ RdOk s pos acc r) ∧
    (∀ (pos : Nat) (acc : List Cel) (cI i : Nat) (q : List UInt8), s.size - pos < D → (bl s).drop pos = sepB i :: q → cI < acc.length → acc.length ≤ 64 → i < 4 → ∃ r, Ev (fun k => rdArgs k s (pos : Int) acc cI ((i + 1 : Nat) : Int)) (cA r) ∧ Ev (fun k => aumbryref04_Read.l1 k s acc (pos : Int) (cI : Int) ((i + 1 : Nat) : Int)) (cR r) ∧ ArOk s pos acc cI i r)
  | 0 => ⟨fun _ _ h => absurd h (Nat.not_lt_zero _), fun _ _ _ _ _ h => absurd h (Nat.not_lt_zero _)⟩
  | D + 1 => by
    obtain ⟨ihT, ihA⟩ := rd_sound s hs D
    constructor
    · intro pos acc hD hp hl
      have hb := wdL_bound (s := s) hp
      have hdw := drop_word s pos
      by_cases h1 : (wdT s pos).toList = []
      · refine ⟨.inl (pos, 3), ev_rdTerm_at hs hp (evIfp h1 (Ev.now _)), ev_Read_at hs hp hl (evIfp h1 (Ev.now _)), hp, show (3 : Int) ≠ 0 by decide⟩
      have h1' : wdL s pos ≠ [] := fun h => h1 ((wdT_empty s pos).2 h)
      have hw0 : 0 < (wdL s pos).length := List.length_pos_iff.2 h1'
      by_cases h2 : kindS (wdT s pos) = 0
      · refine ⟨.inl (pos, 4), ev_rdTerm_at hs hp (evIfn h1 (evIfp h2 (Ev.now _))), ev_Read_at hs hp hl (evIfn h1 (evIfp h2 (Ev.now _))), hp, show (4 : Int) ≠ 0 by decide⟩
      by_cases h3 : (acc.length : Int) = 64
      · refine ⟨.inl (pos, 6), ev_rdTerm_at hs hp (evIfn h1 (evIfn h2 (evIfp h3 (Ev.now _)))), ev_Read_at hs hp hl (evIfn h1 (evIfn h2 (evIfp h3 (Ev.now _)))), hp, show (6 : Int) ≠ 0 by decide⟩
      by_cases h4 : nxL s (pos + (wdL s pos).length) = 40
      · by_cases h5 : kindS (wdT s pos) = 2
        · refine ⟨.inl (pos + (wdL s pos).length, 5), ev_rdTerm_at hs hp (evIfn h1 (evIfn h2 (evIfn h3 (evIfp h4 (evIfp h5 (Ev.now _)))))), ev_Read_at hs hp hl (evIfn h1 (evIfn h2 (evIfn h3 (evIfp h4 (evIfp h5 (Ev.now _)))))), hb, show (5 : Int) ≠ 0 by decide⟩
        · obtain ⟨x, q, hq, hx⟩ := nxL_pos h4 (by decide)
          have hx' : x = sepB 0 := u8_of (n := 40) hx (by decide)
          rw [hx'] at hq
          obtain ⟨r, e1, e2, e3⟩ := ihA (pos + (wdL s pos).length) (acc ++ [⟨wdT s pos, 0⟩]) acc.length 0 q (by have := (bt_drop hq).1; omega) hq (by simp) (by simp; omega) (by decide)
          refine ⟨r, ev_rdTerm_at hs hp (evIfn h1 (evIfn h2 (evIfn h3 (evIfp h4 (evIfn h5 e1))))), ev_Read_at hs hp hl (evIfn h1 (evIfn h2 (evIfn h3 (evIfp h4 (evIfn h5 e2))))), ?_⟩
          rcases r with ⟨p, e⟩ | ⟨j, m⟩
          · exact e3
          · obtain ⟨N, l, b, d, g1, g2, g3, g4, g5, g6, g7, g8, g9⟩ := e3
            have hcell : (acc ++ [(⟨wdT s pos, 0⟩ : Cel)]).getD acc.length z50 = ⟨wdT s pos, 0⟩ := by
              rw [List.getD_eq_getElem?_getD, List.getElem?_append_right (Nat.le_refl _), Nat.sub_self]
              rfl
            rw [hcell] at g3
            have hset : (acc ++ [(⟨wdT s pos, 0⟩ : Cel)]).set acc.length ⟨wdT s pos, (N : Int)⟩ = acc ++ [⟨wdT s pos, (N : Int)⟩] := by
              rw [List.set_append_right _ _ (Nat.le_refl _), Nat.sub_self]
              rfl
            have harN : ar (⟨wdT s pos, (N : Int)⟩ : Cel) = N := by unfold ar; simp
            refine ⟨⟨wdT s pos, (N : Int)⟩, l, b, d, ?_, by rw [harN]; exact g4, ?_, g6, g7, by simp only at g8; omega, ?_⟩
            · rw [g3]
              simp only
              rw [hset]
              simp
            · intro y hy
              rcases List.mem_cons.1 hy with rfl | hy
              · exact ⟨h2, by simp only; omega, by simp only; omega, fun hk => absurd hk h5⟩
              · exact g5 y hy
            · rw [hdw, g9]
              unfold txtL closeB
              rw [harN, if_neg (by omega), wdT_bl]
              simp
      · refine ⟨.inr (pos + (wdL s pos).length, acc ++ [⟨wdT s pos, 0⟩]), ev_rdTerm_at hs hp (evIfn h1 (evIfn h2 (evIfn h3 (evIfn h4 (Ev.now _))))), ev_Read_at hs hp hl (evIfn h1 (evIfn h2 (evIfn h3 (evIfn h4 (Ev.now _))))), ?_⟩
        refine ⟨⟨wdT s pos, 0⟩, [], [], 0, rfl, .done 0, ?_, by simp; omega, hb, by simp only; omega, ?_⟩
        · intro y hy
          rw [List.mem_singleton.1 hy]
          exact ⟨h2, Int.le_refl _, show (0 : Int) ≤ 4 by decide, fun _ => rfl⟩
        · rw [hdw]
          unfold txtL closeB
          rw [show ar (⟨wdT s pos, 0⟩ : Cel) = 0 from rfl, if_pos rfl, wdT_bl]
          simp
    · intro pos acc cI i q hD hd hc hl hi
      obtain ⟨p1, p2, p3⟩ := bt_drop hd
      obtain ⟨r, e1, e2, e3⟩ := ihT (pos + 1) acc (by omega) (by omega) hl
      rcases r with ⟨p, e⟩ | ⟨j, m⟩
      · exact ⟨.inl (p, e), ev_rdArgs_inl (by omega) e1, ev_Readl1_inl (by omega) e3.2 e2, e3⟩
      · obtain ⟨c, l1, b1, d1, g1, g2, g3, g4, g5, g6, g7⟩ := e3
        simp only at g1 g4 g5 g6 g7
        have hcm : cI < m.length := by rw [g1, List.length_append]; omega
        have hnm : (rd_T50 m (cI : Int)).f0 = (acc.getD cI z50).f0 := by rw [rd_getD, g1, getD_app hc]
        have hset : ∀ N : Int, m.set cI ⟨(rd_T50 m (cI : Int)).f0, N⟩ = acc.set cI ⟨(acc.getD cI z50).f0, N⟩ ++ c :: l1 := by
          intro N
          rw [hnm, g1, set_app hc]
        have hdp : (bl s).drop pos = sepB i :: (txtL c b1 ++ (bl s).drop j) := by rw [hd, ← p3, g7]
        by_cases k1 : nxL s j = 41
        · obtain ⟨x, q', hq, hx⟩ := nxL_pos k1 (by decide)
          have hx' : x = 41 := u8_of (n := 41) hx (by decide)
          rw [hx'] at hq
          have hj := bt_drop hq
          refine ⟨.inr (j + 1, m.set cI ⟨(rd_T50 m (cI : Int)).f0, ((i + 1 : Nat) : Int)⟩), ev_rdArgs_inr (by omega) g5 hs e1 hcm (evIfp k1 (Ev.now _)), ev_Readl1_inr (by omega) g5 hs e2 hcm (evIfp k1 (Ev.now _)), ?_⟩
          refine ⟨i + 1, c :: (l1 ++ []), _, _, by omega, by omega, ?_, Tx.arg (by omega) g2 (.done _), ?_, ?_, by simp only; omega, by simp only; omega, ?_⟩
          · rw [hset]
            simp
          · rw [List.append_nil]
            exact g3
          · simp only [List.length_set]
            exact g4
          · rw [hdp, hq, hj.2.2]
            unfold txtL
            simp
        · by_cases k2 : nxL s j = 44
          · by_cases k3 : ((i + 1 : Nat) : Int) = 4
            · exact ⟨.inl (j, 5), ev_rdArgs_inr (by omega) g5 hs e1 hcm (evIfn k1 (evIfp k2 (evIfp k3 (Ev.now _)))), ev_Readl1_inr (by omega) g5 hs e2 hcm (evIfn k1 (evIfp k2 (evIfp k3 (Ev.now _)))), g5, show (5 : Int) ≠ 0 by decide⟩
            · obtain ⟨x, q', hq, hx⟩ := nxL_pos k2 (by decide)
              have hx' : x = sepB (i + 1) := u8_of (n := 44) hx (by decide)
              rw [hx'] at hq
              have hj := bt_drop hq
              obtain ⟨r2, f1, f2, f3⟩ := ihA j (m.set cI ⟨(rd_T50 m (cI : Int)).f0, ((i + 1 : Nat) : Int)⟩) cI (i + 1) q' (by omega) hq (by rw [List.length_set]; exact hcm) (by rw [List.length_set]; exact g4) (by omega)
              have hup : wrap64 (((i + 1 : Nat) : Int) + 1) = ((i + 1 + 1 : Nat) : Int) := up_cast (i + 1) (by omega)
              refine ⟨r2, ev_rdArgs_inr (by omega) g5 hs e1 hcm (evIfn k1 (evIfp k2 (evIfn k3 (by rw [hup]; exact f1)))), ev_Readl1_inr (by omega) g5 hs e2 hcm (evIfn k1 (evIfp k2 (evIfn k3 (by rw [hup]; exact f2)))), ?_⟩
              rcases r2 with ⟨p, e⟩ | ⟨j2, m2⟩
              · exact f3
              · obtain ⟨N, l2, b2, d2, u1, u2, u3, u4, u5, u6, u7, u8, u9⟩ := f3
                simp only at u3 u6 u7 u8 u9
                clear hup
                rw [getD_set hcm, List.set_set, hset] at u3
                refine ⟨N, c :: (l1 ++ l2), _, _, by omega, u2, ?_, Tx.arg (by omega) g2 u4, ?_, u6, u7, by simp only; omega, ?_⟩
                · rw [u3]
                  simp
                · intro y hy
                  rcases List.mem_cons.1 hy with rfl | hy
                  · exact g3 _ (List.mem_cons_self ..)
                  · rcases List.mem_append.1 hy with hy | hy
                    · exact g3 _ (List.mem_cons_of_mem _ hy)
                    · exact u5 y hy
                · rw [hdp, u9]
                  unfold txtL
                  simp
          · exact ⟨.inl (j, 3), ev_rdArgs_inr (by omega) g5 hs e1 hcm (evIfn k1 (evIfn k2 (Ev.now _))), ev_Readl1_inr (by omega) g5 hs e2 hcm (evIfn k1 (evIfn k2 (Ev.now _))), g5, show (3 : Int) ≠ 0 by decide⟩
/-- What Parse comes to, both ways. -/
theorem parse_sound (s : ByteArray) : ∃ u at_ e, Ev (fun k => term_Parse.f k s) (u, at_, e) ∧ Ev (fun k => aumbryref04_Parse.f k s) (u, at_, e) ∧ u.length ≤ 64 ∧
    ((e ≠ 0 ∧ u = [] ∧ 0 ≤ at_ ∧ at_ ≤ (s.size : Int)) ∨ (e = 0 ∧ at_ = 0 ∧ ∃ c l b d, u = c :: l ∧ Tx 0 (ar c) l b d ∧ (∀ x ∈ c :: l, Okc x) ∧ bl s = txtL c b)) := by
  have hj0 : ∀ (u : List Cel) (a e : Int) (fl : Bool), Ev (fun k => aumbryref04_Parse.j0 k u a e fl) (if fl = true then ([], a, 3) else if e = 0 then (u, 0, 0) else ([], a, e)) := by
    intro u a e fl
    refine Ev.step (fun k => (show aumbryref04_Parse.j0 (k + 1) u a e fl = _ from by rw [aumbryref04_Parse.j0])) ?_
    cases fl
    · refine evIfn (by simp) ?_
      by_cases he : e = 0
      · simp only [if_pos he]; exact Ev.now _
      · simp only [if_neg he]; exact Ev.now _
    · exact evIfp rfl (Ev.now _)
  by_cases hs : (s.size : Int) > 1024
  · refine ⟨[], 0, 2, ?_, ?_, by simp, .inl ⟨by decide, rfl, by decide, by omega⟩⟩
    · unfold term_Parse.f parseF
      exact evIfp hs (Ev.now _)
    · unfold aumbryref04_Parse.f
      exact evIfp hs (Ev.now _)
  · obtain ⟨r, e1, e2, e3⟩ := (rd_sound s (by omega) (s.size + 1)).1 0 [] (by omega) (by omega) (by simp)
    rcases r with ⟨p, e⟩ | ⟨j, m⟩
    · refine ⟨[], (p : Int), e, ?_, ?_, by simp, .inl ⟨e3.2, rfl, by omega, by have := e3.1; simp only at this; omega⟩⟩
      · unfold term_Parse.f parseF
        exact evIfn hs (Ev.bind e1 (Ev.now _))
      · unfold aumbryref04_Parse.f
        refine evIfn hs (Ev.bind e2 (evIfn e3.2 ?_))
        have := hj0 [] (p : Int) e false
        rw [if_neg (by simp), if_neg e3.2] at this
        exact this
    · obtain ⟨c, l, b, d, g1, g2, g3, g4, g5, g6, g7⟩ := e3
      simp only [List.nil_append] at g1 g4 g5 g6 g7
      by_cases hj : (j : Int) < (s.size : Int)
      · refine ⟨[], (j : Int), 3, ?_, ?_, by simp, .inl ⟨by decide, rfl, by omega, by omega⟩⟩
        · unfold term_Parse.f parseF
          exact evIfn hs (Ev.bind e1 (evIfp hj (Ev.now _)))
        · unfold aumbryref04_Parse.f
          refine evIfn hs (Ev.bind e2 (evIfp rfl ?_))
          have := hj0 m (j : Int) 0 true
          rw [if_pos rfl] at this
          have hdj : decide ((j : Int) < (s.size : Int)) = true := decide_eq_true hj
          rw [show (cR (.inr (j, m))).2.1 = (j : Int) from rfl, hdj]
          exact this
      · refine ⟨m, 0, 0, ?_, ?_, g4, .inr ⟨rfl, rfl, c, l, b, d, g1, g2, g3, ?_⟩⟩
        · unfold term_Parse.f parseF
          exact evIfn hs (Ev.bind e1 (evIfn hj (Ev.now _)))
        · unfold aumbryref04_Parse.f
          refine evIfn hs (Ev.bind e2 (evIfp rfl ?_))
          have := hj0 m (j : Int) 0 false
          rw [if_neg (by simp), if_pos rfl] at this
          have hdj : decide ((j : Int) < (s.size : Int)) = false := decide_eq_false hj
          rw [show (cR (.inr (j, m))).2.1 = (j : Int) from rfl, hdj]
          exact this
        · rw [List.drop_zero] at g7
          have : j = s.size := by omega
          rw [g7, this, List.drop_eq_nil_of_le (by rw [bl_len]; omega), List.append_nil]
/-! ### a term's text is read as the term -/
end Go.Proofs.Ytcmnpjgmpgjbdaa.P

-- ==== PureTermReads
/- Any text is read as a term, or refused at the place at which it can't go on, just as the document says: for every text, the law answers true. -/
namespace Go.Proofs.Ytcmnpjgmpgjbdaa.Pure
open Go.RowKit Go.Proofs.Ytcmnpjgmpgjbdaa.P Go.Proofs.YtcmnpjgmpgjbdaaW.PrintWords
theorem TermReads : aumbrylaw04_TermReads.Pure := by
  intro s hs
  refine Ev.rounds ?_
  unfold aumbrylaw04_TermReads.f
  refine Ev.bind ev_wakes4 ?_
  refine evIfp rfl ?_
  obtain ⟨u, a, e, h1, h2, h3, _⟩ := parse_sound s
  refine Ev.bind h1 (Ev.bind h2 ?_)
  refine Ev.bind (ev_refSame4 u u (.inl (by omega))) ?_
  refine evIfp (decide_eq_true rfl) (evIfp rfl ?_)
  have he : (e == e) = true := by simp
  simp only [he]
  exact Ev.now _
end Go.Proofs.Ytcmnpjgmpgjbdaa.Pure

-- ==== RowTermReads
namespace Go.Proofs.Ytcmnpjgmpgjbdaa.termReads
open Go.ChangeShapes Go.WideShapes Go.ChangeAt Go.RowKit Go.Proofs.YtcmnpjgmpgjbdaaW.PrintWords Go.Proofs.Ytcmnpjgmpgjbdaa.P Go.Proofs.Ytcmnpjgmpgjbdaa.Open
open Go.ChangeMaps (open_string shut_string)
set_option linter.unusedVariables false
theorem own : ownKnob Try.prog.godebug = none := by kernel_rfl
theorem laidOut : laidOutB Try.prog = true := by kernel_rfl
set_option maxRecDepth 100000 in
theorem core {H : Type} {enc : TypeId × Value → H} (W : World) (base : Nat) (args : Array Value) (ds gs : List (DataW H)) (before : List MemPlace)
    (hval : ∀ (j : Nat) t v, Try.f4.params[j]? = some t → args[j]? = some v → Value.okWide Try.prog W .any base t v)
    (hW : DataW.Whole enc Try.prog Try.f4.params.toList Rows.termReadsSpec.vars false W args.toList ds gs before)
    (hsz : (DataW.weightsEach Try.prog (Try.f4.params.toList ++ Rows.termReadsSpec.plain.varTypes Try.prog) (ds ++ gs)).all (· ≤ reachBytes) = true)
    :
    Calls Try.prog 4 args W fun e W' => ∃ v, e = .returned v ∧ Rows.termReadsSpec.post enc Try.prog Try.f4 false true false false W args v W' := by
  have hW' := hW
  obtain ⟨p, q, hA, hV, rfl, hfz, hnd⟩ := hW
  rw [Try.params4] at hA hval hsz
  obtain ⟨v0, vs0, d0, ds0, p0, q0, hargs, rfl, rfl, h0, r0⟩ := trodAll_cons hA
  obtain ⟨rfl, rfl, rfl⟩ := trodAll_nil r0
  obtain rfl : args = #[v0] := by cases args; simp_all
  obtain ⟨rfl, rfl⟩ := trodVars_none hV
  have k0 := h0
  obtain ⟨n0, hf0⟩ := h0
  obtain ⟨x0, hK0, hS0, hB0⟩ := op9.go hf0 (fun m hm => by have := List.all_eq_true.1 hsz m (DataW.weights_mem_each (j := 0) rfl rfl m hm); simpa using this)
  have lt0 : ∀ z ∈ p0, z.block < W.heap.size := by obtain ⟨m, hm⟩ := k0; exact DataW.trod_lt m _ _ _ hm
  obtain ⟨y0, rfl⟩ := okWide_string Try.underlying9 (hval 0 9 v0 rfl rfl)
  have hcs0' : [_] = [_] := hK0
  injection hcs0' with hcs0'
  injection hcs0' with hq0
  subst hq0
  obtain ⟨k, h⟩ := Pure.TermReads y0 hS0
  refine (aumbrylaw04_TermReads.calls k y0 true W h).mono ?_
  rintro e W' ⟨rfl, hd⟩
  have bel : Below W.heap.size W W' := hd
  exact ⟨_, rfl, _, _, _, [], _, [], hW', trodAll_mk1 (shut_bool Try.underlying4 _), (trodAll_cons_mk (Below.trod laidOut (by kernel_rfl) (of_decide_eq_true (by kernel_rfl)) k0 bel lt0) trodAll_mk0), rfl, bel.frame _, fun h => by cases h⟩
set_option maxRecDepth 100000 in
theorem lifted (os : Os) (started : os.Started) (H : Type) (enc : TypeId × Value → H) :
    ReturnsInHanded {} Try.checked os 4 .any (Rows.termReadsSpec.pre6 enc Try.prog Try.f4 Rows.termReadsRow.domain false) (Rows.termReadsSpec.post enc Try.prog Try.f4 false true false false) := by
  refine returnsInHanded_of_change_sized (C := Try.checked) own started (by kernel_rfl) Try.func4
    (ChangeSpec.witness6 (enc := enc) (C := Try.checked) false ⟨#[], #[.string ByteArray.empty], []⟩ 8 (by kernel_rfl) (by kernel_rfl) (by kernel_rfl) (by kernel_rfl)) ?_
  intro W base args ds gs before hval0 hW hcnd hsz0 _
  exact core W base args ds gs before hval0 hW hsz0
theorem over : Rows.termReadsRow.holds Try.pinned (OpenSpec.ofChange Rows.termReadsSpec) :=
  OpenClaim.holds_of_wide 4 Try.f4 rfl rfl rfl rfl rfl rfl rfl ⟨rfl, rfl, rfl, rfl, rfl⟩ rfl rfl rfl rfl rfl (by kernel_rfl) Try.func4 (by kernel_rfl)
    (of_decide_eq_true (by kernel_rfl)) (by unfold Func.isWrapper; first | (rw [if_pos (by decide +kernel)]; kernel_rfl) | (rw [if_neg (by decide +kernel)]; exact ⟨rfl, rfl⟩))
    (fun os started H enc _ => lifted os started H enc)
theorem proved : Rows.TermReadsSaid := over
end Go.Proofs.Ytcmnpjgmpgjbdaa.termReads
namespace Go.Proofs.Ytcmnpjgmpgjbdaa
/-- The row, under a short name, for the claim. -/
theorem termReads_holds : Rows.TermReadsSaid := termReads.proved
#print axioms termReads_holds
end Go.Proofs.Ytcmnpjgmpgjbdaa
