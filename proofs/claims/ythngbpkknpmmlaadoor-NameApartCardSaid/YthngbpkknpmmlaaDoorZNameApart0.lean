/- NameApart: the law answers true at every input that the given row speaks of. Conditions: those of the given row, none besides. (Part 1 of 1; written by programs of this session, which drive the kit's print, and by hand.) -/
import Derived.Test.YthngbpkknpmmlaaDoorProg
import Derived.Below
import Derived.Deep.Draws
import Derived.Deep.AppendLies
import Derived.Maps.AppendAt
import Derived.OwnWalk
import Derived.Laws.BytesArg
import Derived.Laws.MakeOwn
import Derived.Laws.OwnMore
import Derived.Deep.OwnRows
import Derived.Tactics
import Derived.Lib.ConvBytes
import Derived.Laws.Slices
import Derived.WalkKit
import Derived.KernelRfl
import Derived.RowKit3
import Derived.Deep.LoopGhost
import Derived.Deep.QuietTactic
import Derived.BigQuiet
import Derived.WideLaws
import Derived.Deep.DeepCutAuto
import Derived.Deep.CutBlock
import Derived.Deep.RegionHeld3
import Derived.Laws.Rows
import Derived.Lib.AppendStr
import Derived.ArgAppend
import Derived.Laws.IdiomCopy
import Derived.OrdersHeld
import Derived.Laws.BitsLemmas
import Derived.RowKit
import Derived.Test.YthngbpkknpmmlaaDoorZNameApartWWords
import Derived.Test.YthngbpkknpmmlaaDoorZNameApartWLast
import Derived.Test.YthngbpkknpmmlaaDoorZNameApartWApart
import Derived.Test.YthngbpkknpmmlaaDoorZNameApartWFoot
import Derived.Test.YthngbpkknpmmlaaDoorZNameApartWShare
import Derived.Test.YthngbpkknpmmlaaDoorZNameApartWN
import Derived.Laws.StructEq
import Derived.Test.YthngbpkknpmmlaaDoorZNameApartWRepsOne
import Derived.Test.YthngbpkknpmmlaaDoorZNameApartWInv
import Derived.Test.YthngbpkknpmmlaaDoorZNameApartWGuard
import Derived.Test.YthngbpkknpmmlaaDoorZNameApartWMore
import Derived.Shelf.Strconv.Itoa0
import Derived.Shelf.Strconv.Itoa1
import Derived.Shelf.LaysM
import Derived.Shelf.Strconv.Itoa2
import Derived.Shelf.Strconv.Itoa3
import Derived.Shelf.Strconv.Itoa4
import Derived.Shelf.Strconv.ParseIntEmpty
import Derived.Shelf.Strconv.Clone
import Derived.Shelf.Strconv.SyntaxError
import Derived.Shelf.LaysC
import Derived.Shelf.Strconv.ToError
import Derived.Shelf.Strconv.Lower
import Derived.Shelf.Strconv.ParseUint10
import Derived.Shelf.Strconv.ParseUint10Empty
import Derived.Shelf.Strconv.ParseUint10Any
import Derived.Shelf.Strconv.ParseInt10
import Derived.Shelf.Strconv.RangeError
import Derived.Shelf.Strconv.ToErrorRange
import Derived.Shelf.Strconv.ParseUintEmpty
import Derived.Shelf.Strconv.ParseUint10b64
import Derived.Shelf.Strconv.ParseUint10b32
import Derived.Shelf.Strconv.ParseUint10b16
import Derived.Shelf.Strconv.ParseUint10b8
import Derived.Shelf.Strconv.ParseUint10At
import Derived.Shelf.Strconv.ParseInt10At64
import Derived.Shelf.Strconv.ParseInt10At32
import Derived.Shelf.Strconv.ParseInt10At16
import Derived.Shelf.Strconv.ParseInt10At8
import Derived.Shelf.Strconv.ParseInt10All
import Derived.Shelf.Strconv.ParseIntPublic10
import Derived.Shelf.Strconv.ErrVarParseInt
import Derived.Test.YthngbpkknpmmlaaDoorRows
import Derived.Lib.LaidTab
import Derived.Stop.LaidErr
import Derived.Lib.SmallJoins
import Derived.RangeFuncNested
import Derived.RangeFuncBound
import Derived.RangeFuncCalls
import Derived.RangeFuncLeaves
import Derived.RangeFuncBox
import Derived.Shelf.Abstract
import Derived.Shelf.RegionOpen
import Derived.OwnWalkIn
import Derived.TacticsInMore
import Derived.LoopNIn
import Derived.LoopIn
import Derived.RangeFuncFrom
import Derived.RangeFuncWrites
import Derived.Deep.Slices
import Derived.SizedLaws
import Derived.ChangeSame
import Derived.ChangeArms
import Derived.Lib.ParseIntBCases
import Derived.Lib.ItoaMem
import Derived.Test.YthngbpkknpmmlaaDoorCards
import Derived.Test.YthngbpkknpmmlaaDoorTie
import Derived.Deep.DeepHandedRow
import Derived.Lay
import Derived.SevenTiedAt
import Derived.ProofKit
import Derived.OpenShut
import Derived.ShutString
import Derived.ChangeOld
import Derived.Carry
-- ==== P0
namespace Go.Proofs.YthngbpkknpmmlaaDoor.P
open Go.RowKit Go.Proofs.YthngbpkknpmmlaaDoorW.PrintWords Go.Proofs.YthngbpkknpmmlaaDoorW.PrintLast Go.Proofs.YthngbpkknpmmlaaDoorW.PrintMore
attribute [local go_sem] max2_int min2_int max_two min_two max_three min_three max_four min_four   -- for this text's walks alone
set_option linter.unusedVariables false
set_option linter.unusedSimpArgs false



def errW : Option Int → Value
  | none => .nilIface
  | some c => .iface 52 (.int .i64 c)
theorem errW_none : errW none = .nilIface := rfl
theorem errW_some (c : Int) : errW (some c) = .iface 52 (.int .i64 c) := rfl
end Go.Proofs.YthngbpkknpmmlaaDoor.P

-- ==== PF19
namespace Go.Proofs.YthngbpkknpmmlaaDoor.P
open Go.RowKit Go.Proofs.YthngbpkknpmmlaaDoorW.PrintWords Go.Proofs.YthngbpkknpmmlaaDoorW.PrintLast Go.Proofs.YthngbpkknpmmlaaDoorW.PrintMore
attribute [local go_sem] max2_int min2_int max_two min_two max_three min_three max_four min_four   -- for this text's walks alone
set_option linter.unusedVariables false
set_option linter.unusedSimpArgs false

/-! ### name_sign: function 19 -/
mutual
def name_sign.j0 : Nat → Int → Bool → Option (Int × Int)
  | 0, _, _ => none
  | k + 1, x0, x4 => if x4 = true then (some (1, 1)) else (if x0 ≥ 65 then (name_sign.j1 k x0 (decide (x0 ≤ 90))) else (name_sign.j1 k x0 false))
def name_sign.j1 : Nat → Int → Bool → Option (Int × Int)
  | 0, _, _ => none
  | k + 1, x0, x11 => if x11 = true then (some (2, 2)) else (if x0 ≥ 48 then (if x0 ≤ 57 then (some (0, 3)) else (some (0, 0))) else (some (0, 0)))
end
def name_sign.f (k : Nat) (a0 : Int) : Option (Int × Int) := if a0 ≥ 97 then (name_sign.j0 k a0 (decide (a0 ≤ 122))) else (name_sign.j0 k a0 false)
theorem name_sign.mono_l : ∀ k, (∀ y0 y1, LeO (name_sign.j0 k y0 y1) (name_sign.j0 (k + 1) y0 y1)) ∧ (∀ y0 y1, LeO (name_sign.j1 k y0 y1) (name_sign.j1 (k + 1) y0 y1))
  | 0 => ⟨fun _ _ r h => by simp [name_sign.j0] at h, fun _ _ r h => by simp [name_sign.j1] at h⟩
  | k + 1 => by
    obtain ⟨ih0, ih1⟩ := name_sign.mono_l k
    refine ⟨?_, ?_⟩
    · intro y0 y1
      unfold name_sign.j0
      repeat' first
      | (with_reducible exact ih0 _ _)
      | (with_reducible exact ih1 _ _)
      | (with_reducible exact LeO.refl _)
      | (with_reducible exact LeO.none _)
      | (with_reducible refine LeO.ite ?_ ?_)
      | (with_reducible refine LeO.bind ?_ (fun _ => ?_))
      | exact ih0 _ _
      | exact ih1 _ _
      | exact LeO.none _
      | refine LeO.ite ?_ ?_
      | refine LeO.bind ?_ (fun _ => ?_)
    · intro y0 y1
      unfold name_sign.j1
      repeat' first
      | (with_reducible exact ih0 _ _)
      | (with_reducible exact ih1 _ _)
      | (with_reducible exact LeO.refl _)
      | (with_reducible exact LeO.none _)
      | (with_reducible refine LeO.ite ?_ ?_)
      | (with_reducible refine LeO.bind ?_ (fun _ => ?_))
      | exact ih0 _ _
      | exact ih1 _ _
      | exact LeO.none _
      | refine LeO.ite ?_ ?_
      | refine LeO.bind ?_ (fun _ => ?_)
theorem name_sign.mono : ∀ a0 k, LeO (name_sign.f k a0) (name_sign.f (k + 1) a0) := by
  intro a0 k
  obtain ⟨ih0, ih1⟩ := name_sign.mono_l k
  unfold name_sign.f
  repeat' first
      | (with_reducible exact ih0 _ _)
      | (with_reducible exact ih1 _ _)
      | (with_reducible exact LeO.refl _)
      | (with_reducible exact LeO.none _)
      | (with_reducible refine LeO.ite ?_ ?_)
      | (with_reducible refine LeO.bind ?_ (fun _ => ?_))
      | exact ih0 _ _
      | exact ih1 _ _
      | exact LeO.none _
      | refine LeO.ite ?_ ?_
      | refine LeO.bind ?_ (fun _ => ?_)
set_option maxHeartbeats 8000000 in
set_option maxRecDepth 100000 in
theorem name_sign.calls (k : Nat) (a0 : Int) (r1 : Int) (r2 : Int) (w : World) (h : name_sign.f k a0 = some (r1, r2)) :
    Calls Tryd.prog 19 #[.int .u8 a0] w fun e w' => e = .returned (.tuple #[.int .i64 r1, .int .i64 r2]) ∧ Drawn0 w w' := by
  have H : (if a0 ≥ 97 then (name_sign.j0 k a0 (decide (a0 ≤ 122))) else (name_sign.j0 k a0 false)) = some (r1, r2) := h
  clear h
  have HC2 := Aside0.mk H
  clear H
  go_enter Tryd.func19, Tryd.ntmps19
  go_upto_region 1 with (fail)
  go_cut [4] (fun v4 wc => ∃ (kq : Nat) (x4_1 : Bool), v4 = .bool x4_1 ∧ Aside0 (name_sign.j0 kq a0 x4_1 = some (r1, r2)) ∧ Aside0 (kq ≤ k) ∧ Drawn0 w wc)
  case first =>
    have H := HC2.out
    clear HC2
    by_cases c3 : a0 ≥ 97
    · rw [if_pos c3] at H
      have c3b0 : decide (97 ≤ a0) = true := decide_eq_true c3
      clear c3
      (first | rw [c3b0] | (simp only [i64_w, i32_w]; rw [c3b0]) | skip)
      have H' := Aside0.mk H
      clear H
      go_wp2
      go_meet
      case rel => exact ⟨_, (decide (a0 ≤ 122)), (by first | rfl | (simp; done) | (simp [*]; done)), H', ⟨by first | omega | exact Nat.le_refl _⟩, by repeat (first | exact Drawn0.refl _ | apply Drawn0.step)⟩
    · rw [if_neg c3] at H
      have c3b0 : decide (97 ≤ a0) = false := decide_eq_false c3
      clear c3
      (first | rw [c3b0] | (simp only [i64_w, i32_w]; rw [c3b0]) | skip)
      have H' := Aside0.mk H
      clear H
      go_wp2
      go_meet
      case rel => exact ⟨_, (false), (by first | rfl | (simp; done) | (simp [*]; done)), H', ⟨by first | omega | exact Nat.le_refl _⟩, by repeat (first | exact Drawn0.refl _ | apply Drawn0.step)⟩
  case rest =>
    clear HC2
    try clear c1
    try clear p2
    try clear c3
    try clear c3b0
    obtain ⟨kq, x4_1, rfl, HA, HJ1, ⟨mc1, rfl⟩⟩ := hcut
    cases kq with
    | zero => exact absurd HA.out (by simp [name_sign.j0])
    | succ kj1 =>
      have H := HA.out
      clear HA
      simp only [name_sign.j0] at H
      by_cases c4 : x4_1 = true
      · subst c4
        have H1 : (some (1, 1)) = some (r1, r2) := by rw [if_pos rfl] at H; exact H
        clear H
        have H := H1
        clear H1
        simp only [Option.some.injEq, Prod.mk.injEq] at H
        obtain ⟨rfl, rfl⟩ := H
        go_wp2
        go_ret2
        exact ⟨by first | rfl | (simp; done) | (simp [*]; done), by repeat (first | exact Drawn0.refl _ | apply Drawn0.step)⟩
      · replace c4 := Bool.eq_false_iff.mpr c4
        subst c4
        have H1 : (if a0 ≥ 65 then (name_sign.j1 kj1 a0 (decide (a0 ≤ 90))) else (name_sign.j1 kj1 a0 false)) = some (r1, r2) := by rw [if_neg (show ¬ (false = true) by decide)] at H; exact H
        clear H
        have H := H1
        clear H1
        have HC5 := Aside0.mk H
        clear H
        go_upto_region 3 with (fail)
        go_cut [11] (fun v11 wc => ∃ (kq : Nat) (x11_4 : Bool), v11 = .bool x11_4 ∧ Aside0 (name_sign.j1 kq a0 x11_4 = some (r1, r2)) ∧ Aside0 (kq ≤ kj1) ∧ Drawn0 w wc)
        case first =>
          have H := HC5.out
          clear HC5
          by_cases c6 : a0 ≥ 65
          · rw [if_pos c6] at H
            have c6b0 : decide (65 ≤ a0) = true := decide_eq_true c6
            clear c6
            (first | rw [c6b0] | (simp only [i64_w, i32_w]; rw [c6b0]) | skip)
            have H' := Aside0.mk H
            clear H
            go_wp2
            go_meet
            case rel => exact ⟨_, (decide (a0 ≤ 90)), (by first | rfl | (simp; done) | (simp [*]; done)), H', ⟨by have := HJ1.out; first | omega | exact Nat.le_refl _⟩, by repeat (first | exact Drawn0.refl _ | apply Drawn0.step)⟩
          · rw [if_neg c6] at H
            have c6b0 : decide (65 ≤ a0) = false := decide_eq_false c6
            clear c6
            (first | rw [c6b0] | (simp only [i64_w, i32_w]; rw [c6b0]) | skip)
            have H' := Aside0.mk H
            clear H
            go_wp2
            go_meet
            case rel => exact ⟨_, (false), (by first | rfl | (simp; done) | (simp [*]; done)), H', ⟨by have := HJ1.out; first | omega | exact Nat.le_refl _⟩, by repeat (first | exact Drawn0.refl _ | apply Drawn0.step)⟩
        case rest =>
          clear HC5
          try clear c1
          try clear p2
          try clear c3
          try clear c3b0
          try clear c4
          try clear c6
          try clear c6b0
          try clear p2
          obtain ⟨kq, x11_4, rfl, HA, HJ4, ⟨mc4, rfl⟩⟩ := hcut
          cases kq with
          | zero => exact absurd HA.out (by simp [name_sign.j1])
          | succ kj4 =>
            have H := HA.out
            clear HA
            simp only [name_sign.j1] at H
            by_cases c7 : x11_4 = true
            · subst c7
              have H1 : (some (2, 2)) = some (r1, r2) := by rw [if_pos rfl] at H; exact H
              clear H
              have H := H1
              clear H1
              simp only [Option.some.injEq, Prod.mk.injEq] at H
              obtain ⟨rfl, rfl⟩ := H
              go_wp2
              go_ret2
              exact ⟨by first | rfl | (simp; done) | (simp [*]; done), by repeat (first | exact Drawn0.refl _ | apply Drawn0.step)⟩
            · replace c7 := Bool.eq_false_iff.mpr c7
              subst c7
              have H1 : (if a0 ≥ 48 then (if a0 ≤ 57 then (some (0, 3)) else (some (0, 0))) else (some (0, 0))) = some (r1, r2) := by rw [if_neg (show ¬ (false = true) by decide)] at H; exact H
              clear H
              have H := H1
              clear H1
              by_cases c8 : a0 ≥ 48
              · rw [if_pos c8] at H
                have c8b0 : decide (48 ≤ a0) = true := decide_eq_true c8
                clear c8
                by_cases c9 : a0 ≤ 57
                · rw [if_pos c9] at H
                  have c9b0 : decide (a0 ≤ 57) = true := decide_eq_true c9
                  clear c9
                  simp only [Option.some.injEq, Prod.mk.injEq] at H
                  obtain ⟨rfl, rfl⟩ := H
                  go_wp2
                  go_ret2
                  exact ⟨by first | rfl | (simp; done) | (simp [*]; done), by repeat (first | exact Drawn0.refl _ | apply Drawn0.step)⟩
                · rw [if_neg c9] at H
                  have c9b0 : decide (a0 ≤ 57) = false := decide_eq_false c9
                  clear c9
                  simp only [Option.some.injEq, Prod.mk.injEq] at H
                  obtain ⟨rfl, rfl⟩ := H
                  go_wp2
                  go_ret2
                  exact ⟨by first | rfl | (simp; done) | (simp [*]; done), by repeat (first | exact Drawn0.refl _ | apply Drawn0.step)⟩
              · rw [if_neg c8] at H
                have c8b0 : decide (48 ≤ a0) = false := decide_eq_false c8
                clear c8
                simp only [Option.some.injEq, Prod.mk.injEq] at H
                obtain ⟨rfl, rfl⟩ := H
                go_wp2
                go_ret2
                exact ⟨by first | rfl | (simp; done) | (simp [*]; done), by repeat (first | exact Drawn0.refl _ | apply Drawn0.step)⟩

end Go.Proofs.YthngbpkknpmmlaaDoor.P

-- ==== PF10
namespace Go.Proofs.YthngbpkknpmmlaaDoor.P
open Go.RowKit Go.Proofs.YthngbpkknpmmlaaDoorW.PrintWords Go.Proofs.YthngbpkknpmmlaaDoorW.PrintLast Go.Proofs.YthngbpkknpmmlaaDoorW.PrintMore
attribute [local go_sem] max2_int min2_int max_two min_two max_three min_three max_four min_four   -- for this text's walks alone
set_option linter.unusedVariables false
set_option linter.unusedSimpArgs false

/-! ### name_Kind: function 10 -/
mutual
def name_Kind.j0 : Nat → ByteArray → Bool → Option (Int)
  | 0, _, _ => none
  | k + 1, x0, x14 => if x14 = true then (some 0) else (if 0 < (x0.size : Int) then ((name_sign.f k (bt x0 0)).bind fun bt101 => (name_Kind.l0 k x0 bt101.1 (x0.size : Int) 0)) else (none))
def name_Kind.l0 : Nat → ByteArray → Int → Int → Int → Option (Int)
  | 0, _, _, _, _ => none
  | k + 1, x0, x3, x22, x23 => if x23 < x22 then (if 0 ≤ x23 then (if x23 < (x0.size : Int) then ((name_sign.f k (bt x0 x23)).bind fun bt103 => (if (Go.bits .and .i64 bt103.2 x3) = 0 then (some 0) else (name_Kind.l0 k x0 x3 x22 (wrap64 (x23 + 1))))) else (none)) else (none)) else (some x3)
end
def name_Kind.f (k : Nat) (a0 : ByteArray) : Option (Int) := if a0.toList = ([] : List UInt8) then (name_Kind.j0 k a0 true) else (name_Kind.j0 k a0 (decide ((a0.size : Int) > 8)))
theorem name_Kind.mono_l : ∀ k, (∀ y0 y1, LeO (name_Kind.j0 k y0 y1) (name_Kind.j0 (k + 1) y0 y1)) ∧ (∀ y0 y1 y2 y3, LeO (name_Kind.l0 k y0 y1 y2 y3) (name_Kind.l0 (k + 1) y0 y1 y2 y3))
  | 0 => ⟨fun _ _ r h => by simp [name_Kind.j0] at h, fun _ _ _ _ r h => by simp [name_Kind.l0] at h⟩
  | k + 1 => by
    obtain ⟨ih0, ih1⟩ := name_Kind.mono_l k
    refine ⟨?_, ?_⟩
    · intro y0 y1
      unfold name_Kind.j0
      repeat' first
      | (with_reducible exact ih0 _ _)
      | (with_reducible exact ih1 _ _ _ _)
      | (with_reducible exact name_sign.mono _ _)
      | (with_reducible exact LeO.refl _)
      | (with_reducible exact LeO.none _)
      | (with_reducible refine LeO.ite ?_ ?_)
      | (with_reducible refine LeO.bind ?_ (fun _ => ?_))
      | exact ih0 _ _
      | exact ih1 _ _ _ _
      | exact name_sign.mono _ _
      | exact LeO.none _
      | refine LeO.ite ?_ ?_
      | refine LeO.bind ?_ (fun _ => ?_)
    · intro y0 y1 y2 y3
      unfold name_Kind.l0
      repeat' first
      | (with_reducible exact ih0 _ _)
      | (with_reducible exact ih1 _ _ _ _)
      | (with_reducible exact name_sign.mono _ _)
      | (with_reducible exact LeO.refl _)
      | (with_reducible exact LeO.none _)
      | (with_reducible refine LeO.ite ?_ ?_)
      | (with_reducible refine LeO.bind ?_ (fun _ => ?_))
      | exact ih0 _ _
      | exact ih1 _ _ _ _
      | exact name_sign.mono _ _
      | exact LeO.none _
      | refine LeO.ite ?_ ?_
      | refine LeO.bind ?_ (fun _ => ?_)
theorem name_Kind.mono : ∀ a0 k, LeO (name_Kind.f k a0) (name_Kind.f (k + 1) a0) := by
  intro a0 k
  obtain ⟨ih0, ih1⟩ := name_Kind.mono_l k
  unfold name_Kind.f
  repeat' first
      | (with_reducible exact ih0 _ _)
      | (with_reducible exact ih1 _ _ _ _)
      | (with_reducible exact name_sign.mono _ _)
      | (with_reducible exact LeO.refl _)
      | (with_reducible exact LeO.none _)
      | (with_reducible refine LeO.ite ?_ ?_)
      | (with_reducible refine LeO.bind ?_ (fun _ => ?_))
      | exact ih0 _ _
      | exact ih1 _ _ _ _
      | exact name_sign.mono _ _
      | exact LeO.none _
      | refine LeO.ite ?_ ?_
      | refine LeO.bind ?_ (fun _ => ?_)
set_option maxHeartbeats 8000000 in
set_option maxRecDepth 100000 in
theorem name_Kind.calls (k : Nat) (a0 : ByteArray) (r : Int) (w : World) (h : name_Kind.f k a0 = some r) :
    Calls Tryd.prog 10 #[.string a0] w fun e w' => e = .returned (.int .i64 r) ∧ Drawn0 w w' := by
  have H : (if a0.toList = ([] : List UInt8) then (name_Kind.j0 k a0 true) else (name_Kind.j0 k a0 (decide ((a0.size : Int) > 8)))) = some r := h
  clear h
  have HC2 := Aside0.mk H
  clear H
  go_enter Tryd.func10, Tryd.ntmps10
  go_upto_region 1 with (fail)
  go_cut [14] (fun v14 wc => ∃ (kq : Nat) (x14_1 : Bool), v14 = .bool x14_1 ∧ Aside0 (name_Kind.j0 kq a0 x14_1 = some r) ∧ Aside0 (kq ≤ k) ∧ Drawn0 w wc)
  case first =>
    have H := HC2.out
    clear HC2
    by_cases c3 : a0.toList = ([] : List UInt8)
    · rw [if_pos c3] at H
      have c3b0 : (a0.toList == ([] : List UInt8)) = true := beq_iff_eq.mpr c3
      have c3b1 : (a0.toList != ([] : List UInt8)) = false := bne_eq_false_iff_eq.mpr c3
      clear c3
      (first | rw [c3b0] | (simp only [i64_w, i32_w]; rw [c3b0]) | skip)
      have H' := Aside0.mk H
      clear H
      go_wp2
      go_meet
      case rel => exact ⟨_, (true), (by first | rfl | (simp; done) | (simp [*]; done)), H', ⟨by first | omega | exact Nat.le_refl _⟩, by repeat (first | exact Drawn0.refl _ | apply Drawn0.step)⟩
    · rw [if_neg c3] at H
      have c3b0 : (a0.toList == ([] : List UInt8)) = false := beq_eq_false_iff_ne.mpr c3
      have c3b1 : (a0.toList != ([] : List UInt8)) = true := bne_iff_ne.mpr c3
      (first | rw [c3b0] | (simp only [i64_w, i32_w]; rw [c3b0]) | skip)
      have H' := Aside0.mk H
      clear H
      go_wp2
      go_meet
      case rel => exact ⟨_, (decide ((a0.size : Int) > 8)), (by first | rfl | (simp; done) | (simp [*]; done)), H', ⟨by first | omega | exact Nat.le_refl _⟩, by repeat (first | exact Drawn0.refl _ | apply Drawn0.step)⟩
  case rest =>
    clear HC2
    try clear c1
    try clear p2
    try clear c3
    try clear c3b0
    try clear c3b1
    obtain ⟨kq, x14_1, rfl, HA, HJ1, ⟨mc1, rfl⟩⟩ := hcut
    cases kq with
    | zero => exact absurd HA.out (by simp [name_Kind.j0])
    | succ kj1 =>
      have H := HA.out
      clear HA
      simp only [name_Kind.j0] at H
      by_cases c4 : x14_1 = true
      · subst c4
        have H1 : (some 0) = some r := by rw [if_pos rfl] at H; exact H
        clear H
        have H := H1
        clear H1
        obtain rfl := Option.some.inj H
        go_wp2
        go_ret
        exact ⟨by first | rfl | (simp; done) | (simp [*]; done), by repeat (first | exact Drawn0.refl _ | apply Drawn0.step)⟩
      · replace c4 := Bool.eq_false_iff.mpr c4
        subst c4
        have H1 : (if 0 < (a0.size : Int) then ((name_sign.f kj1 (bt a0 0)).bind fun bt101 => (name_Kind.l0 kj1 a0 bt101.1 (a0.size : Int) 0)) else (none)) = some r := by rw [if_neg (show ¬ (false = true) by decide)] at H; exact H
        clear H
        have H := H1
        clear H1
        by_cases c5 : 0 < (a0.size : Int)
        · rw [if_pos c5] at H
          have c5b0 : decide (0 < (a0.size : Int)) = true := decide_eq_true c5
          have c5b1 : decide (0 < a0.size) = true := decide_eq_true (by omega)
          clear c5
          replace H := Option.bind_eq_some_iff.mp H
          obtain ⟨⟨t101, t102⟩, A70, H⟩ := H
          replace H : (name_Kind.l0 kj1 a0 t101 (a0.size : Int) 0) = some r := H
          have A7 := Aside0.mk A70
          clear A70
          have H' := Aside0.mk H
          clear H
          have p6 : 0 ≤ (0 : Int) := (by omega)
          have q6 : 0 < a0.size := (by have : (0 : Int) < (a0.size : Int) := of_decide_eq_true (by first | (with_reducible assumption) | assumption); omega)
          have hx6 : ∀ h : 0 < a0.size, ((a0[0]'h).toNat : Int) = bt a0 0 := bt_at a0 0
          clear p6
          have qi6 : (0 < (a0.size : Int)) = True := eq_true (of_decide_eq_true (by first | (with_reducible assumption) | assumption))
          replace q6 := eq_true q6
          go_wp2_with (first | ((with_reducible refine gate_callee (f := 19) rfl ?_); refine goesL_ (some 18) rfl rfl Tryd.func19 (by kernel_rfl) rfl #[.int .u8 (bt a0 0)] rfl (by (try simp only [List.map_toArray, List.map_cons, List.map_nil]); first | done | rfl | (simp only [List.length_drop, List.length_take]; rfl)) ?_; (with_reducible refine (name_sign.calls kj1 (bt a0 0) t101 t102 _ A7.out).mono ?_); rintro e w' ⟨rfl, ⟨nd, rfl⟩⟩; refine ⟨_, rfl, ?_⟩))
          go_loopg [23] kj1 (fun kq v23 w' => ∃ (x23_2 : Int), v23 = .int .i64 x23_2 ∧ Aside0 (name_Kind.l0 kq a0 t101 (a0.size : Int) x23_2 = some r) ∧ Aside0 (kq ≤ kj1) ∧ Drawn0 w w')
          case atStart => exact ⟨(0), (by first | rfl | (simp; done) | (simp [*]; done)), H', ⟨Nat.le_refl _⟩, by repeat (first | exact Drawn0.refl _ | apply Drawn0.step)⟩
          case round =>
            clear H'
            try clear c1
            try clear p2
            try clear c3
            try clear c3b0
            try clear c3b1
            try clear c4
            try clear c5
            try clear c5b0
            try clear c5b1
            try clear p6
            try clear q6
            try clear hx6
            try clear qi6
            try clear p2
            try clear p6
            try clear q6
            obtain ⟨x23_2, rfl, HA, HK2, ⟨m2, rfl⟩⟩ := hrel
            cases gk with
            | zero => exact absurd HA.out (by simp [name_Kind.l0])
            | succ k2 =>
              have H := HA.out
              clear HA
              simp only [name_Kind.l0] at H
              by_cases c8 : x23_2 < (a0.size : Int)
              · rw [if_pos c8] at H
                have c8b0 : decide (x23_2 < (a0.size : Int)) = true := decide_eq_true c8
                clear c8
                by_cases c9 : 0 ≤ x23_2
                · rw [if_pos c9] at H
                  have c9b0 : decide (0 ≤ x23_2) = true := decide_eq_true c9
                  clear c9
                  by_cases c10 : x23_2 < (a0.size : Int)
                  · rw [if_pos c10] at H
                    have c10b0 : decide (x23_2 < (a0.size : Int)) = true := decide_eq_true c10
                    clear c10
                    replace H := Option.bind_eq_some_iff.mp H
                    obtain ⟨⟨t103, t104⟩, A120, H⟩ := H
                    replace H : (if (Go.bits .and .i64 t104 t101) = 0 then (some 0) else (name_Kind.l0 k2 a0 t101 (a0.size : Int) (wrap64 (x23_2 + 1)))) = some r := H
                    have A12 := Aside0.mk A120
                    clear A120
                    by_cases c13 : (Go.bits .and .i64 t104 t101) = 0
                    · rw [if_pos c13] at H
                      have c13b0 : ((Go.bits .and .i64 t104 t101) == 0) = true := beq_iff_eq.mpr c13
                      have c13b1 : ((Go.bits .and .i64 t104 t101) != 0) = false := bne_eq_false_iff_eq.mpr c13
                      clear c13
                      obtain rfl := Option.some.inj H
                      have p11 : 0 ≤ (x23_2 : Int) := of_decide_eq_true (by first | (with_reducible assumption) | assumption)
                      have q11 : x23_2 < (a0.size : Int) := of_decide_eq_true (by first | (with_reducible assumption) | assumption)
                      have hx11 := bt_at a0 x23_2
                      replace p11 := eq_true p11
                      replace q11 := eq_true q11
                      go_wp2_with (first | ((with_reducible refine gate_callee (f := 19) rfl ?_); refine goesL_ (some 30) rfl rfl Tryd.func19 (by kernel_rfl) rfl #[.int .u8 (bt a0 x23_2)] rfl (by (try simp only [List.map_toArray, List.map_cons, List.map_nil]); first | done | rfl | (simp only [List.length_drop, List.length_take]; rfl)) ?_; (with_reducible refine (name_sign.calls k2 (bt a0 x23_2) t103 t104 _ A12.out).mono ?_); rintro e w' ⟨rfl, ⟨nd, rfl⟩⟩; refine ⟨_, rfl, ?_⟩))
                      go_ret
                      exact ⟨by first | rfl | (simp; done) | (simp [*]; done), by repeat (first | exact Drawn0.refl _ | apply Drawn0.step)⟩
                    · rw [if_neg c13] at H
                      have c13b0 : ((Go.bits .and .i64 t104 t101) == 0) = false := beq_eq_false_iff_ne.mpr c13
                      have c13b1 : ((Go.bits .and .i64 t104 t101) != 0) = true := bne_iff_ne.mpr c13
                      have H' := Aside0.mk H
                      clear H
                      have p11 : 0 ≤ (x23_2 : Int) := of_decide_eq_true (by first | (with_reducible assumption) | assumption)
                      have q11 : x23_2 < (a0.size : Int) := of_decide_eq_true (by first | (with_reducible assumption) | assumption)
                      have hx11 := bt_at a0 x23_2
                      replace p11 := eq_true p11
                      replace q11 := eq_true q11
                      go_wp2_with (first | ((with_reducible refine gate_callee (f := 19) rfl ?_); refine goesL_ (some 30) rfl rfl Tryd.func19 (by kernel_rfl) rfl #[.int .u8 (bt a0 x23_2)] rfl (by (try simp only [List.map_toArray, List.map_cons, List.map_nil]); first | done | rfl | (simp only [List.length_drop, List.length_take]; rfl)) ?_; (with_reducible refine (name_sign.calls k2 (bt a0 x23_2) t103 t104 _ A12.out).mono ?_); rintro e w' ⟨rfl, ⟨nd, rfl⟩⟩; refine ⟨_, rfl, ?_⟩))
                      go_roundg k2
                      case measure => have := HJ1.out; have := HK2.out; omega
                      case rel => exact ⟨(wrap64 (x23_2 + 1)), (by first | rfl | (simp; done) | (simp [*]; done)), H', ⟨by have := HJ1.out; have := HK2.out; omega⟩, by repeat (first | exact Drawn0.refl _ | apply Drawn0.step)⟩
                  · rw [if_neg c10] at H
                    exact absurd H (by simp)
                · rw [if_neg c9] at H
                  exact absurd H (by simp)
              · rw [if_neg c8] at H
                have c8b0 : decide (x23_2 < (a0.size : Int)) = false := decide_eq_false c8
                clear c8
                obtain rfl := Option.some.inj H
                go_wp2
                go_ret
                exact ⟨by first | rfl | (simp; done) | (simp [*]; done), by repeat (first | exact Drawn0.refl _ | apply Drawn0.step)⟩
        · rw [if_neg c5] at H
          exact absurd H (by simp)

end Go.Proofs.YthngbpkknpmmlaaDoor.P

-- ==== Shelf
/-
  DERIVED: THE SHELF's CONTRACTS AT THIS DUMP, IN PLAIN WORDS (tools/lay-plain.mjs out of 'TrydShelf.lean', which tools/lay-shelf.mjs wrote): THE SAME DECLARATIONS UNDER THE SAME NAMES: 'import', 'namespace', 'open', 'def', 'theorem' AND NOTHING ELSE: no command of the shelf's: FOR A HAND-IN. Each laying: the table of numbers ('.._ren') and one theorem, a field a fact of the dump's own or the kernel's comparison; each contract: ONE APPLICATION.
-/
namespace Go.Proofs
open Go.Shelf
def Tryd.laysM173_ren : Go.Shelf.Ren := ⟨fun | 173 => 23 | 246 => 28 | 283 => 34 | 284 => 35 | 285 => 36 | 286 => 37 | 129 => 44 | 317 => 43 | 318 => 45 | 319 => 46 | 320 => 47 | 337 => 49 | 338 => 50 | n => n, fun | 2 => 2 | 3 => 3 | 9 => 9 | 4 => 4 | 171 => 60 | 0 => 0 | 53 => 48 | 37 => 35 | 5 => 5 | 173 => 63 | 212 => 72 | 51 => 73 | 20 => 20 | 213 => 74 | 46 => 55 | 232 => 82 | 233 => 83 | n => n, fun | 17 => 2 | 18 => 3 | 19 => 4 | n => n⟩
theorem Tryd.laysM173 : Go.Proofs.LaysM.n173 Tryd.prog Tryd.laysM173_ren := {
  mixed := by kernel_rfl
  f129 := Tryd.func44.trans (congrArg some (by kernel_rfl))
  f173 := Tryd.func23.trans (congrArg some (by kernel_rfl))
  f246 := Tryd.func28.trans (congrArg some (by kernel_rfl))
  f283 := Tryd.func34.trans (congrArg some (by kernel_rfl))
  f284 := Tryd.func35.trans (congrArg some (by kernel_rfl))
  f285 := Tryd.func36.trans (congrArg some (by kernel_rfl))
  f286 := Tryd.func37.trans (congrArg some (by kernel_rfl))
  f317 := Tryd.func43.trans (congrArg some (by kernel_rfl))
  f318 := Tryd.func45.trans (congrArg some (by kernel_rfl))
  f319 := Tryd.func46.trans (congrArg some (by kernel_rfl))
  f320 := Tryd.func47.trans (congrArg some (by kernel_rfl))
  f337 := Tryd.func49.trans (congrArg some (by kernel_rfl))
  f338 := Tryd.func50.trans (congrArg some (by kernel_rfl))
  t0 := Tryd.underlying0
  a0 := Tryd.isAgg0
  z0 := Tryd.sizeOf0
  v0 := Tryd.zeroValue0
  t2 := Tryd.underlying2
  a2 := Tryd.isAgg2
  z2 := Tryd.sizeOf2
  v2 := Tryd.zeroValue2
  t3 := Tryd.underlying3
  a3 := Tryd.isAgg3
  z3 := Tryd.sizeOf3
  v3 := Tryd.zeroValue3
  t4 := Tryd.underlying4
  a4 := Tryd.isAgg4
  z4 := Tryd.sizeOf4
  v4 := Tryd.zeroValue4
  t5 := Tryd.underlying5
  a5 := Tryd.isAgg5
  z5 := Tryd.sizeOf5
  v5 := Tryd.zeroValue5
  t9 := Tryd.underlying9
  a9 := Tryd.isAgg9
  z9 := Tryd.sizeOf9
  v9 := Tryd.zeroValue9
  t20 := Tryd.underlying20
  a20 := Tryd.isAgg20
  z20 := Tryd.sizeOf20
  v20 := Tryd.zeroValue20
  t37 := Tryd.underlying35
  a37 := Tryd.isAgg35
  z37 := Tryd.sizeOf35
  v37 := Tryd.zeroValue35
  t46 := Tryd.underlying55
  a46 := Tryd.isAgg55
  z46 := Tryd.sizeOf55
  v46 := Tryd.zeroValue55
  t51 := Tryd.underlying73
  a51 := Tryd.isAgg73
  z51 := Tryd.sizeOf73
  v51 := Tryd.zeroValue73
  t53 := Tryd.underlying48
  a53 := Tryd.isAgg48
  z53 := Tryd.sizeOf48
  v53 := Tryd.zeroValue48
  t171 := Tryd.underlying60
  a171 := Tryd.isAgg60
  z171 := Tryd.sizeOf60
  v171 := Tryd.zeroValue60
  t173 := Tryd.underlying63
  a173 := Tryd.isAgg63
  z173 := Tryd.sizeOf63
  v173 := Tryd.zeroValue63
  t212 := Tryd.underlying72
  a212 := Tryd.isAgg72
  z212 := Tryd.sizeOf72
  v212 := Tryd.zeroValue72
  t213 := Tryd.underlying74
  a213 := Tryd.isAgg74
  z213 := Tryd.sizeOf74
  t232 := Tryd.underlying82
  a232 := Tryd.isAgg82
  z232 := Tryd.sizeOf82
  v232 := Tryd.zeroValue82
  t233 := Tryd.underlying83
  a233 := Tryd.isAgg83
  z233 := Tryd.sizeOf83
  v233 := Tryd.zeroValue83
  g17 := by kernel_rfl
  g18 := by kernel_rfl
  g19 := by kernel_rfl
  i0 := by kernel_rfl
  i2 := by kernel_rfl
  i3 := by kernel_rfl
  i4 := by kernel_rfl
  i5 := by kernel_rfl
  i9 := by kernel_rfl
  i20 := by kernel_rfl
  i37 := by kernel_rfl
  i46 := by kernel_rfl
  i51 := by kernel_rfl
  i53 := by kernel_rfl
  i171 := by kernel_rfl
  i173 := by kernel_rfl
  i212 := by kernel_rfl
  i232 := by kernel_rfl
  i233 := by kernel_rfl
  m17 := by kernel_rfl
  m18 := by kernel_rfl
  m19 := by kernel_rfl }
open Go.RowKit Go.Sort Go.Lib in
/-- strconv.FormatInt: "FormatInt returns the string representation of i in the given base": AT BASE 10: i's decimal numeral, for every int64. (LAID: no walk: one application.) -/
theorem Tryd.strconv_FormatInt_10 (n : Int) (h0 : -9223372036854775808 ≤ n) (h1 : n ≤ 9223372036854775807) (w : World) (htab : Lib.TabIs Tryd.prog w "internal/strconv.uint64pow10" .u64 Lib.pow10Tab) :
    Calls Tryd.prog 23 #[.int .i64 n, .int .i64 10] w fun e w' => e = .returned (.string ⟨(Lib.itoa n).toArray⟩) ∧ ∃ k os, w' = grow (w.drewN k) os := Any.strconv_FormatInt_10 Tryd.laysM173 n h0 h1 w htab
def Tryd.laysC174_ren : Go.Shelf.Ren := ⟨fun | 174 => 22 | 247 => 26 | 245 => 27 | 287 => 29 | 279 => 30 | 280 => 31 | 281 => 32 | 282 => 33 | 321 => 38 | 322 => 39 | 316 => 40 | 171 => 42 | 205 => 41 | 243 => 48 | 246 => 28 | 283 => 34 | 284 => 35 | 285 => 36 | 286 => 37 | 129 => 44 | 317 => 43 | 318 => 45 | 319 => 46 | 320 => 47 | 337 => 49 | 338 => 50 | n => n, fun | 9 => 9 | 3 => 3 | 2 => 2 | 75 => 45 | 85 => 46 | 4 => 4 | 167 => 52 | 5 => 5 | 53 => 48 | 175 => 53 | 46 => 55 | 168 => 56 | 37 => 35 | 0 => 0 | 210 => 68 | 21 => 21 | 127 => 77 | 145 => 80 | 143 => 78 | 171 => 60 | 173 => 63 | 212 => 72 | 51 => 73 | 20 => 20 | 213 => 74 | 232 => 82 | 233 => 83 | 80 => 84 | n => n, fun | 15 => 0 | 16 => 1 | 17 => 2 | 18 => 3 | 19 => 4 | n => n⟩
theorem Tryd.laysC174 : Go.Proofs.LaysC.n174 Tryd.prog Tryd.laysC174_ren := {
  mixed := by kernel_rfl
  f129 := Tryd.func44.trans (congrArg some (by kernel_rfl))
  f171 := Tryd.func42.trans (congrArg some (by kernel_rfl))
  f174 := Tryd.func22.trans (congrArg some (by kernel_rfl))
  f205 := Tryd.func41.trans (congrArg some (by kernel_rfl))
  f243 := Tryd.func48.trans (congrArg some (by kernel_rfl))
  f245 := Tryd.func27.trans (congrArg some (by kernel_rfl))
  f246 := Tryd.func28.trans (congrArg some (by kernel_rfl))
  f247 := Tryd.func26.trans (congrArg some (by kernel_rfl))
  f279 := Tryd.func30.trans (congrArg some (by kernel_rfl))
  f280 := Tryd.func31.trans (congrArg some (by kernel_rfl))
  f281 := Tryd.func32.trans (congrArg some (by kernel_rfl))
  f282 := Tryd.func33.trans (congrArg some (by kernel_rfl))
  f283 := Tryd.func34.trans (congrArg some (by kernel_rfl))
  f284 := Tryd.func35.trans (congrArg some (by kernel_rfl))
  f285 := Tryd.func36.trans (congrArg some (by kernel_rfl))
  f286 := Tryd.func37.trans (congrArg some (by kernel_rfl))
  f287 := Tryd.func29.trans (congrArg some (by kernel_rfl))
  f316 := Tryd.func40.trans (congrArg some (by kernel_rfl))
  f317 := Tryd.func43.trans (congrArg some (by kernel_rfl))
  f318 := Tryd.func45.trans (congrArg some (by kernel_rfl))
  f319 := Tryd.func46.trans (congrArg some (by kernel_rfl))
  f320 := Tryd.func47.trans (congrArg some (by kernel_rfl))
  f321 := Tryd.func38.trans (congrArg some (by kernel_rfl))
  f322 := Tryd.func39.trans (congrArg some (by kernel_rfl))
  f337 := Tryd.func49.trans (congrArg some (by kernel_rfl))
  f338 := Tryd.func50.trans (congrArg some (by kernel_rfl))
  t0 := Tryd.underlying0
  a0 := Tryd.isAgg0
  z0 := Tryd.sizeOf0
  v0 := Tryd.zeroValue0
  t2 := Tryd.underlying2
  a2 := Tryd.isAgg2
  z2 := Tryd.sizeOf2
  v2 := Tryd.zeroValue2
  t3 := Tryd.underlying3
  a3 := Tryd.isAgg3
  z3 := Tryd.sizeOf3
  v3 := Tryd.zeroValue3
  t4 := Tryd.underlying4
  a4 := Tryd.isAgg4
  z4 := Tryd.sizeOf4
  v4 := Tryd.zeroValue4
  t5 := Tryd.underlying5
  a5 := Tryd.isAgg5
  z5 := Tryd.sizeOf5
  v5 := Tryd.zeroValue5
  t9 := Tryd.underlying9
  a9 := Tryd.isAgg9
  z9 := Tryd.sizeOf9
  v9 := Tryd.zeroValue9
  t20 := Tryd.underlying20
  a20 := Tryd.isAgg20
  z20 := Tryd.sizeOf20
  v20 := Tryd.zeroValue20
  t21 := Tryd.underlying21
  a21 := Tryd.isAgg21
  z21 := Tryd.sizeOf21
  v21 := Tryd.zeroValue21
  t37 := Tryd.underlying35
  a37 := Tryd.isAgg35
  z37 := Tryd.sizeOf35
  v37 := Tryd.zeroValue35
  t46 := Tryd.underlying55
  a46 := Tryd.isAgg55
  z46 := Tryd.sizeOf55
  v46 := Tryd.zeroValue55
  t51 := Tryd.underlying73
  a51 := Tryd.isAgg73
  z51 := Tryd.sizeOf73
  v51 := Tryd.zeroValue73
  t53 := Tryd.underlying48
  a53 := Tryd.isAgg48
  z53 := Tryd.sizeOf48
  v53 := Tryd.zeroValue48
  t75 := Tryd.underlying45
  a75 := Tryd.isAgg45
  z75 := Tryd.sizeOf45
  v75 := Tryd.zeroValue45
  t85 := Tryd.underlying46
  a85 := Tryd.isAgg46
  z85 := Tryd.sizeOf46
  v85 := Tryd.zeroValue46
  t127 := Tryd.underlying77
  a127 := Tryd.isAgg77
  z127 := Tryd.sizeOf77
  v127 := Tryd.zeroValue77
  t143 := Tryd.underlying78
  a143 := Tryd.isAgg78
  z143 := Tryd.sizeOf78
  v143 := Tryd.zeroValue78
  t145 := Tryd.underlying80
  a145 := Tryd.isAgg80
  z145 := Tryd.sizeOf80
  v145 := Tryd.zeroValue80
  t167 := Tryd.underlying52
  a167 := Tryd.isAgg52
  z167 := Tryd.sizeOf52
  v167 := Tryd.zeroValue52
  t168 := Tryd.underlying56
  a168 := Tryd.isAgg56
  z168 := Tryd.sizeOf56
  v168 := Tryd.zeroValue56
  t171 := Tryd.underlying60
  a171 := Tryd.isAgg60
  z171 := Tryd.sizeOf60
  v171 := Tryd.zeroValue60
  t173 := Tryd.underlying63
  a173 := Tryd.isAgg63
  z173 := Tryd.sizeOf63
  v173 := Tryd.zeroValue63
  t175 := Tryd.underlying53
  a175 := Tryd.isAgg53
  z175 := Tryd.sizeOf53
  v175 := Tryd.zeroValue53
  t210 := Tryd.underlying68
  a210 := Tryd.isAgg68
  z210 := Tryd.sizeOf68
  v210 := Tryd.zeroValue68
  t212 := Tryd.underlying72
  a212 := Tryd.isAgg72
  z212 := Tryd.sizeOf72
  v212 := Tryd.zeroValue72
  t213 := Tryd.underlying74
  a213 := Tryd.isAgg74
  z213 := Tryd.sizeOf74
  t232 := Tryd.underlying82
  a232 := Tryd.isAgg82
  z232 := Tryd.sizeOf82
  v232 := Tryd.zeroValue82
  t233 := Tryd.underlying83
  a233 := Tryd.isAgg83
  z233 := Tryd.sizeOf83
  v233 := Tryd.zeroValue83
  g15 := by kernel_rfl
  g16 := by kernel_rfl
  g17 := by kernel_rfl
  g18 := by kernel_rfl
  g19 := by kernel_rfl
  t80 := Tryd.underlying84
  a80 := Tryd.isAgg84
  z80 := Tryd.sizeOf84
  v80 := Tryd.zeroValue84
  i0 := by kernel_rfl
  i2 := by kernel_rfl
  i3 := by kernel_rfl
  i4 := by kernel_rfl
  i5 := by kernel_rfl
  i9 := by kernel_rfl
  i20 := by kernel_rfl
  i21 := by kernel_rfl
  i37 := by kernel_rfl
  i46 := by kernel_rfl
  i51 := by kernel_rfl
  i53 := by kernel_rfl
  i75 := by kernel_rfl
  i80 := by kernel_rfl
  i85 := by kernel_rfl
  i127 := by kernel_rfl
  i143 := by kernel_rfl
  i145 := by kernel_rfl
  i167 := by kernel_rfl
  i168 := by kernel_rfl
  i171 := by kernel_rfl
  i173 := by kernel_rfl
  i175 := by kernel_rfl
  i210 := by kernel_rfl
  i212 := by kernel_rfl
  i232 := by kernel_rfl
  i233 := by kernel_rfl
  m15 := by kernel_rfl
  m16 := by kernel_rfl
  m17 := by kernel_rfl
  m18 := by kernel_rfl
  m19 := by kernel_rfl
  c0 := by kernel_rfl
  c2 := by kernel_rfl
  c3 := by kernel_rfl
  c4 := by kernel_rfl
  c5 := by kernel_rfl
  c9 := by kernel_rfl
  c20 := by kernel_rfl
  c21 := by kernel_rfl
  c37 := by kernel_rfl
  c46 := by kernel_rfl
  c51 := by kernel_rfl
  c53 := by kernel_rfl
  c75 := by kernel_rfl
  c80 := by kernel_rfl
  c85 := by kernel_rfl
  c127 := by kernel_rfl
  c143 := by kernel_rfl
  c145 := by kernel_rfl
  c167 := by kernel_rfl
  c168 := by kernel_rfl
  c171 := by kernel_rfl
  c173 := by kernel_rfl
  c175 := by kernel_rfl
  c210 := by kernel_rfl
  c212 := by kernel_rfl
  c213 := by kernel_rfl
  c232 := by kernel_rfl
  c233 := by kernel_rfl }
open Go.RowKit in
/-- strconv.ParseInt(s, 10, 64), AT EVERY STRING THAT SPELLS AN int64 ('Lib.parseIntB 64 s.data.toList = .ok v'): v, AND NO ERROR. (LAID: no walk: one application.) -/
theorem Tryd.strconv_ParseInt_10_at64_ok (s : ByteArray) (hmax : s.size ≤ 9223372036854775806) (v : Int) (h : Lib.parseIntB 64 s.data.toList = .ok v) (w : World) :
    Calls Tryd.prog 22 #[.string s, .int .i64 10, .int .i64 64] w fun e w' => e = .returned (.tuple #[.int .i64 v, .nilIface]) ∧ (w' = w ∨ ∃ t, w' = Lib.bytesWorld w 5 t) := Any.strconv_ParseInt_10_at64_ok Tryd.laysC174 s hmax v h w
open Go.RowKit in
theorem Tryd.strconv_ParseInt_10_at64_syntax_var (s : ByteArray) (hlim : s.size ≤ 281474976710656) (h : Lib.parseIntB 64 s.data.toList = .«syntax») (tp : TypeId) (p : Value) (w : World) (hvar : w.var? Tryd.prog "strconv.ErrSyntax" = some #[.iface tp p]) :
    Calls Tryd.prog 22 #[.string s, .int .i64 10, .int .i64 64] w fun e w' => ∃ N, e = .returned (.tuple #[.int .i64 (0), .iface 56 (.pointer (some ⟨N, 0, none⟩))]) ∧ w.heap.size ≤ N ∧ w'.heap[N]? = some (.cells #[.string ⟨#[80, 97, 114, 115, 101, 73, 110, 116]⟩, .string s, .iface tp p] 68 (0, 0)) ∧ Below w.heap.size w w' := Any.strconv_ParseInt_10_at64_syntax_var Tryd.laysC174 s hlim h tp p w hvar
open Go.RowKit in
theorem Tryd.strconv_ParseInt_10_at64_range_var (s : ByteArray) (hlim : s.size ≤ 281474976710656) (h : Lib.parseIntB 64 s.data.toList = .range) (tp : TypeId) (p : Value) (w : World) (hvar : w.var? Tryd.prog "strconv.ErrRange" = some #[.iface tp p]) :
    Calls Tryd.prog 22 #[.string s, .int .i64 10, .int .i64 64] w fun e w' => ∃ N, e = .returned (.tuple #[.int .i64 (Lib.intSat 64 s.data.toList), .iface 56 (.pointer (some ⟨N, 0, none⟩))]) ∧ w.heap.size ≤ N ∧ w'.heap[N]? = some (.cells #[.string ⟨#[80, 97, 114, 115, 101, 73, 110, 116]⟩, .string s, .iface tp p] 68 (0, 0)) ∧ Below w.heap.size w w' := Any.strconv_ParseInt_10_at64_range_var Tryd.laysC174 s hlim h tp p w hvar
end Go.Proofs

-- ==== GlobH
/- What the listed package-level variables hold, as a fact on worlds: it stands in every later world. -/
namespace Go.Proofs.YthngbpkknpmmlaaDoor.P
open Go.RowKit Go.Proofs.YthngbpkknpmmlaaDoorW.PrintWords
set_option linter.unusedVariables false
structure Glob (w : World) : Prop where
  tab : Lib.TabIs Tryd.prog w "internal/strconv.uint64pow10" .u64 Lib.pow10Tab
  syn : ∃ tp p, w.var? Tryd.prog "strconv.ErrSyntax" = some #[.iface tp p]
  rng : ∃ tp p, w.var? Tryd.prog "strconv.ErrRange" = some #[.iface tp p]
theorem var_below {P : Program} {n : String} {cs : Array Value} {w w1 : World} (h : w.var? P n = some cs) (hb : Below w.heap.size w w1) : w1.var? P n = some cs := by
  unfold World.var? at h ⊢
  cases hg : P.globalNamed n with
  | none => rw [hg] at h; cases h
  | some g =>
    rw [hg] at h
    simp only [Option.bind_some] at h ⊢
    cases ho : w.heap[g]? with
    | none => rw [ho] at h; cases h
    | some o =>
      have hlt : g < w.heap.size := (Array.getElem?_eq_some_iff.1 ho).1
      rw [hb.block g hlt, ho]
      rw [ho] at h
      exact h
theorem Glob.below {w w1 : World} (h : Glob w) (hb : Below w.heap.size w w1) : Glob w1 := by
  obtain ⟨h1, ⟨a, b, h2⟩, ⟨c, d, h3⟩⟩ := h
  exact ⟨var_below h1 hb, ⟨a, b, var_below h2 hb⟩, ⟨c, d, var_below h3 hb⟩⟩
theorem gPow : Tryd.prog.globalNamed "internal/strconv.uint64pow10" = some 2 := by kernel_rfl
theorem gSyn : Tryd.prog.globalNamed "strconv.ErrSyntax" = some 0 := by kernel_rfl
theorem gRng : Tryd.prog.globalNamed "strconv.ErrRange" = some 1 := by kernel_rfl
theorem gPowT : (Tryd.prog.globals[2]?).map (·.type) = some 72 := by kernel_rfl
theorem gSynT : (Tryd.prog.globals[0]?).map (·.type) = some 45 := by kernel_rfl
theorem gRngT : (Tryd.prog.globals[1]?).map (·.type) = some 45 := by kernel_rfl
theorem cPow : Tryd.prog.cellsOf 72 = 20 := by kernel_rfl
theorem cU64 : Tryd.prog.cellsOf 48 = 1 := by kernel_rfl
theorem cErrS : Tryd.prog.cellsOf 80 = 1 := by kernel_rfl
theorem cStr : Tryd.prog.cellsOf 9 = 1 := by kernel_rfl
theorem starErr : "*" ++ "errors.errorString" = "*errors.errorString" := by decide
theorem rowErr (u : TypeId) (h : Tryd.prog.typeName? 3 u = some "*errors.errorString") : u = 78 :=
  typeName_ptr_named (nm := "errors.errorString") (by rw [starErr]; kernel_rfl) (by kernel_rfl) (by decide) u (by rw [starErr]; exact h)
theorem glob_of {W : World} {r1 r2 : List (String × DataW Unit)} {t1 t2 : List UInt8} (h0 : laidMet Tryd.prog (("internal/strconv.uint64pow10", Lib.tabData .u64 Lib.pow10Tab) :: ("strconv.ErrRange", .iface "*errors.errorString" (.ptr (.agg [.lit (.string t1)]))) :: ("strconv.ErrSyntax", .iface "*errors.errorString" (.ptr (.agg [.lit (.string t2)]))) :: r2) W) : Glob W := by
  obtain ⟨a1, s1, hv1, -, -, -⟩ := laid_sentinel h0.tail gRng gRngT Tryd.underlying45 rowErr Tryd.underlying78 Tryd.underlying80 rfl rfl Tryd.underlying9 cErrS cStr
  obtain ⟨a2, s2, hv2, -, -, -⟩ := laid_sentinel h0.tail.tail gSyn gSynT Tryd.underlying45 rowErr Tryd.underlying78 Tryd.underlying80 rfl rfl Tryd.underlying9 cErrS cStr
  exact ⟨Lib.tabIs_of_head gPow gPowT Tryd.underlying72 Tryd.underlying48 cU64 cPow h0, ⟨_, _, hv2⟩, ⟨_, _, hv1⟩⟩
theorem glob_row {W : World} (h : laidMet Tryd.prog Rows.nameKindsRow.laid W) : Glob W := glob_of (r1 := []) h.tail.tail
end Go.Proofs.YthngbpkknpmmlaaDoor.P

-- ==== Nu1
namespace Go.Proofs.YthngbpkknpmmlaaDoor.P
open Go.RowKit Go.Proofs.YthngbpkknpmmlaaDoorW.PrintWords Go.Proofs.YthngbpkknpmmlaaDoorW.PrintLast Go.Proofs.YthngbpkknpmmlaaDoorW.PrintMore
set_option linter.unusedVariables false
set_option linter.unusedSimpArgs false
def wrS (n : Int) : ByteArray := if n = -9223372036854775808 then ⟨#[45, 57, 50, 50, 51, 51, 55, 50, 48, 51, 54, 56, 53, 52, 55, 55, 53, 56, 48, 56]⟩ else ⟨(Lib.itoa n).toArray⟩
theorem below_grow {w w1 : World} (h : Below w.heap.size w w1) {k : Nat} {os : Array Obj} : Below w.heap.size w (Sort.grow (w1.drewN k) os) :=
  ⟨h.os, h.tape, h.output, by show w.heap.size ≤ (w1.heap ++ os).size; have := h.size; simp; omega, fun j hj => by
    show (w1.heap ++ os)[j]? = _
    have := h.size
    rw [Array.getElem?_append_left (by omega)]
    exact h.block j hj⟩
set_option maxHeartbeats 8000000 in
set_option maxRecDepth 100000 in
theorem wr_calls (n : Int) (h0 : -9223372036854775808 ≤ n) (h1 : n ≤ 9223372036854775807) (w : World) (hg : Glob w) :
    Calls Tryd.prog 17 #[.int .i64 n] w fun e w' => e = .returned (.string (wrS n)) ∧ Below w.heap.size w w' := by
  unfold wrS
  by_cases hn : n = -9223372036854775808
  · rw [if_pos hn]
    subst hn
    clear h0 h1
    go_enter Tryd.func17, Tryd.ntmps17
    go_wp2
    go_ret
    exact ⟨rfl, Below.refl _ _⟩
  · rw [if_neg hn]
    have hc := Tryd.strconv_FormatInt_10 n h0 h1 w hg.tab
    clear h0 h1
    have hn' := eq_false hn
    go_enter Tryd.func17, Tryd.ntmps17
    go_wp2_with (go_at_call 23; refine hc.mono ?_; rintro e w' ⟨rfl, k, os, rfl⟩)
    go_ret
    exact ⟨rfl, below_grow (Below.refl _ _)⟩
end Go.Proofs.YthngbpkknpmmlaaDoor.P

-- ==== Nu2
namespace Go.Proofs.YthngbpkknpmmlaaDoor.P
open Go.RowKit Go.Proofs.YthngbpkknpmmlaaDoorW.PrintWords Go.Proofs.YthngbpkknpmmlaaDoorW.PrintLast Go.Proofs.YthngbpkknpmmlaaDoorW.PrintMore
set_option linter.unusedVariables false
set_option linter.unusedSimpArgs false
def numS (s : ByteArray) : Int × Int := match Lib.parseIntB 64 s.data.toList with
  | .ok v => if wrS v = s then (v, 0) else (0, 13)
  | _ => (0, 13)
theorem bytes_eq0 (a b : ByteArray) : a.toList = b.toList ↔ a = b := by
  rw [ByteArray.toList_eq, ByteArray.toList_eq]
  constructor
  · intro h
    cases a; cases b
    simp only [ByteArray.mk.injEq]
    exact Array.toList_inj.1 h
  · intro h
    rw [h]
theorem bytes_below {w w1 : World} {e : TypeId} (h : w1 = w ∨ ∃ t, w1 = Lib.bytesWorld w e t) : Below w.heap.size w w1 := by
  rcases h with rfl | ⟨t, rfl⟩
  · exact Below.refl _ _
  · exact Joins.below_bytesWorld _ _ _ _ (Nat.le_refl _)
set_option maxHeartbeats 8000000 in
set_option maxRecDepth 100000 in
theorem num_calls (s : ByteArray) (hs : s.size ≤ 281474976710656) (w : World) (hg : Glob w) :
    Calls Tryd.prog 15 #[.string s] w fun e w' => e = .returned (.tuple #[.int .i64 (numS s).1, .int .i64 (numS s).2]) ∧ Below w.heap.size w w' := by
  unfold numS
  cases hp : Lib.parseIntB 64 s.data.toList with
  | ok v =>
    obtain ⟨b0, b1⟩ := Lib.parseIntB_bounds hp
    have hc := Tryd.strconv_ParseInt_10_at64_ok s (by omega) v hp w
    have b0' : -9223372036854775808 ≤ v := by simpa using b0
    have b1' : v ≤ 9223372036854775807 := by
      have : v < 9223372036854775808 := by simpa using b1
      omega
    have hcw := fun w1 hg1 => wr_calls v b0' b1' w1 hg1
    clear b0 b1 b0' b1' hs
    by_cases hv : wrS v = s
    · simp only [if_pos hv]
      subst hv
      go_enter Tryd.func15, Tryd.ntmps15
      go_wp2_with (first
        | (go_at_call 22; refine hc.mono ?_; rintro e w' ⟨rfl, hw⟩; have hb := bytes_below hw)
        | (go_at_call 17; refine (hcw _ (hg.below hb)).mono ?_; rintro e w2 ⟨rfl, hb2⟩))
      go_ret2
      exact ⟨rfl, hb.trans (hb2.mono hb.size)⟩
    · simp only [if_neg hv]
      have hv' : ((wrS v).toList == s.toList) = false := beq_eq_false_iff_ne.2 (fun e => hv ((bytes_eq0 _ _).1 e))
      go_enter Tryd.func15, Tryd.ntmps15
      go_wp2_with (first
        | (go_at_call 22; refine hc.mono ?_; rintro e w' ⟨rfl, hw⟩; have hb := bytes_below hw)
        | (go_at_call 17; refine (hcw _ (hg.below hb)).mono ?_; rintro e w2 ⟨rfl, hb2⟩))
      go_ret2
      exact ⟨rfl, hb.trans (hb2.mono hb.size)⟩
  | «syntax» =>
    obtain ⟨tp, p, hv⟩ := hg.syn
    have hc := Tryd.strconv_ParseInt_10_at64_syntax_var s hs hp tp p w hv
    go_enter Tryd.func15, Tryd.ntmps15
    go_wp2_with (go_at_call 22; refine hc.mono ?_; rintro e w' ⟨N, rfl, _, _, hb⟩)
    go_ret2
    exact ⟨rfl, hb⟩
  | range =>
    obtain ⟨tp, p, hv⟩ := hg.rng
    have hc := Tryd.strconv_ParseInt_10_at64_range_var s hs hp tp p w hv
    go_enter Tryd.func15, Tryd.ntmps15
    go_wp2_with (go_at_call 22; refine hc.mono ?_; rintro e w' ⟨N, rfl, _, _, hb⟩)
    go_ret2
    exact ⟨rfl, hb⟩
end Go.Proofs.YthngbpkknpmmlaaDoor.P

-- ==== PF15
namespace Go.Proofs.YthngbpkknpmmlaaDoor.P
open Go.RowKit Go.Proofs.YthngbpkknpmmlaaDoorW.PrintWords Go.Proofs.YthngbpkknpmmlaaDoorW.PrintLast Go.Proofs.YthngbpkknpmmlaaDoorW.PrintMore
attribute [local go_sem] max2_int min2_int max_two min_two max_three min_three max_four min_four   -- for this text's walks alone
set_option linter.unusedVariables false
set_option linter.unusedSimpArgs false

/-! ### name_Number: function 15 -/
def name_Number.f (a0 : ByteArray) : Option (Int × Int) := if a0.size ≤ 281474976710656 then some (numS a0) else none
theorem name_Number.calls (a0 : ByteArray) (r1 : Int) (r2 : Int) (w : World) (h : name_Number.f a0 = some (r1, r2)) (hgl : Glob w) :
    Calls Tryd.prog 15 #[.string a0] w fun e w' => e = .returned (.tuple #[.int .i64 r1, .int .i64 r2]) ∧ Below w.heap.size w w' := by
  unfold name_Number.f at h
  by_cases hs : a0.size ≤ 281474976710656
  · rw [if_pos hs] at h
    injection h with h
    have h1 := num_calls a0 hs w hgl
    rw [h] at h1
    exact h1
  · rw [if_neg hs] at h
    cases h


end Go.Proofs.YthngbpkknpmmlaaDoor.P

-- ==== Nw1
namespace Go.Proofs.YthngbpkknpmmlaaDoor.P
open Go.RowKit Go.Shelf Go.Proofs.YthngbpkknpmmlaaDoorW.PrintWords
attribute [local go_sem] Oper.semAt_some
set_option linter.unusedVariables false
set_option linter.unusedSimpArgs false
/-- The words of a text from a place on (m places to go). -/
def wdsF (s : ByteArray) : Nat → Nat → Nat → List ByteArray
  | 0, _, _ => []
  | m + 1, from_, i => if i < s.size ∧ bt s (i : Int) ≠ 32 then wdsF s m from_ (i + 1) else if from_ < i then s.extract from_ i :: wdsF s m (i + 1) (i + 1) else wdsF s m (i + 1) (i + 1)
set_option maxRecDepth 100000 in
set_option maxHeartbeats 4000000 in
theorem words1_in (F : Fence) (n : Nat) (h25 : F.fn 25) (hro : F.round = none) (hn : 1 ≤ n) (l Bs n₀ : Nat) (s : ByteArray) (hs : s.size < 5864062014805) (hB0 : Bs < n₀) (J Jx : List ByteArray → World → Prop)
    (hY : ∀ pre x W, J pre W → pre.length < s.size + 1 → YieldAt F (n - 1) Tryd.prog l #[.string x] W fun e W' =>
      (e = .returned (.bool true) ∧ J (pre ++ [x]) W' ∧ Below n₀ W W') ∨ (e = .returned (.bool false) ∧ Jx (pre ++ [x]) W'))
    (W : World) (hc : W.cell? ⟨Bs, 0, none⟩ = some (.string s)) (h0 : J [] W) :
    CallsIn F n Tryd.prog 25 #[.func (.yield l) #[] #[], .pointer (some ⟨Bs, 0, none⟩)] W fun e W' => (∃ v, e = .returned v) ∧
      ((∃ ys, ys = wdsF s (s.size + 1) 0 0 ∧ J ys W') ∨ (∃ pre, (∃ q, pre ++ q = wdsF s (s.size + 1) 0 0) ∧ Jx pre W')) := by
  refine callsIn_of_wp Tryd.func25 rfl h25 ?_ hro
  simp only [Tryd.ntmps25, List.size_toArray, List.length_cons, List.length_nil, Nat.reduceAdd, Nat.reduceSub, Array.replicate_succ, Array.replicate_zero, List.push_toArray, List.append_toArray, List.nil_append, List.cons_append]
  gi_wp2
  gi_loopw [3, 4] (fun p q wr => ∃ (pre : List ByteArray) (m from_ i : Nat), p = .int .i64 (from_ : Int) ∧ q = .int .i64 (i : Int) ∧ from_ ≤ i ∧ m + i = s.size + 1 ∧ pre.length ≤ from_ ∧ pre ++ wdsF s m from_ i = wdsF s (s.size + 1) 0 0 ∧ J pre wr ∧ wr.cell? ⟨Bs, 0, none⟩ = some (.string s))
    (fun p q _ => s.size + 1 - (intOf q).toNat)
  case atStart =>
    exact ⟨[], s.size + 1, 0, 0, rfl, rfl, Nat.le_refl _, by omega, Nat.le_refl _, rfl, h0, hc⟩
  case round =>
    obtain ⟨pre, m, from_, i, rfl, rfl, hfi, hmi, hpl, hpre, hJ, hcr⟩ := hrel
    have HM := Aside0.mk hmi
    clear hmi
    by_cases hi : i ≤ s.size
    case neg =>
      have HI := Aside0.mk hi
      gi_wp2
      go_end0
      have hm := HM.out
      obtain rfl : m = 0 := by omega
      refine ⟨⟨_, rfl⟩, .inl ⟨_, rfl, ?_⟩⟩
      rw [← hpre]
      simpa [wdsF] using hJ
    have hHM := HM.out
    obtain ⟨m, rfl⟩ : ∃ m', m = m' + 1 := ⟨m - 1, by omega⟩
    clear hHM
    by_cases hb : i < s.size ∧ bt s (i : Int) ≠ 32
    · have hstep : wdsF s (m + 1) from_ i = wdsF s m from_ (i + 1) := by simp only [wdsF, if_pos hb]
      rw [hstep] at hpre
      clear hstep
      have hlt := hb.1
      have hbt : ¬ ((s[i]'hlt).toNat : Int) = 32 := by have := bt_at s (i : Int) (by simpa using hlt); simp only [Int.toNat_natCast] at this; rw [this]; exact hb.2
      clear hY hb
      gi_wp2
      have hm := HM.out
      exact ⟨⟨pre, m, from_, i + 1, rfl, rfl, by omega, by omega, hpl, hpre, hJ, hcr⟩, by simp [intOf]; omega⟩
    · by_cases hfl : from_ < i
      · have hstep : wdsF s (m + 1) from_ i = s.extract from_ i :: wdsF s m (i + 1) (i + 1) := by simp only [wdsF, if_neg hb, if_pos hfl]
        rw [hstep] at hpre
        obtain ⟨fn, tmps, assign, body, hy, hR⟩ := hY pre (s.extract from_ i) wr hJ (by omega)
        clear hstep hY
        by_cases hlt : i < s.size
        · have hbt : ((s[i]'hlt).toNat : Int) = 32 := by
            have := bt_at s (i : Int) (by simpa using hlt)
            simp only [Int.toNat_natCast] at this
            rw [this]
            exact Classical.not_not.1 (fun h => hb ⟨hlt, h⟩)
          clear hb
          gi_wp2
          refine hR.mono ?_
          rintro e W3 (⟨rfl, hJ3, hk3⟩ | ⟨rfl, hJx3⟩)
          · have hc3 : W3.cell? ⟨Bs, 0, none⟩ = some (.string s) := (hk3.cell (p := ⟨Bs, 0, none⟩) hB0).trans hcr
            gi_wp2
            have hm := HM.out
            exact ⟨⟨pre ++ [s.extract from_ i], m, i + 1, i + 1, rfl, rfl, Nat.le_refl _, by omega, by simp; omega, by rw [← hpre]; simp, hJ3, hc3⟩, by simp [intOf]; omega⟩
          · gi_wp2
            refine bodyPost_ret (results_none rfl _ _ _) rfl ?_
            exact ⟨⟨_, rfl⟩, .inr ⟨_, ⟨_, by rw [← hpre]; simp; rfl⟩, hJx3⟩⟩
        · have HL := eq_false hlt
          clear hb
          gi_wp2
          refine hR.mono ?_
          rintro e W3 (⟨rfl, hJ3, hk3⟩ | ⟨rfl, hJx3⟩)
          · have hc3 : W3.cell? ⟨Bs, 0, none⟩ = some (.string s) := (hk3.cell (p := ⟨Bs, 0, none⟩) hB0).trans hcr
            gi_wp2
            have hm := HM.out
            exact ⟨⟨pre ++ [s.extract from_ i], m, i + 1, i + 1, rfl, rfl, Nat.le_refl _, by omega, by simp; omega, by rw [← hpre]; simp, hJ3, hc3⟩, by simp [intOf]; omega⟩
          · gi_wp2
            refine bodyPost_ret (results_none rfl _ _ _) rfl ?_
            exact ⟨⟨_, rfl⟩, .inr ⟨_, ⟨_, by rw [← hpre]; simp; rfl⟩, hJx3⟩⟩
      · have hstep : wdsF s (m + 1) from_ i = wdsF s m (i + 1) (i + 1) := by simp only [wdsF, if_neg hb, if_neg hfl]
        rw [hstep] at hpre
        clear hstep hY
        have HF := eq_false hfl
        by_cases hlt : i < s.size
        · have hbt : ((s[i]'hlt).toNat : Int) = 32 := by
            have := bt_at s (i : Int) (by simpa using hlt)
            simp only [Int.toNat_natCast] at this
            rw [this]
            exact Classical.not_not.1 (fun h => hb ⟨hlt, h⟩)
          clear hb
          gi_wp2
          refine ⟨fun f hf => (by cases hf), ?_⟩
          gi_wp2
          have hm := HM.out
          exact ⟨⟨pre, m, i + 1, i + 1, rfl, rfl, Nat.le_refl _, by omega, by omega, hpre, hJ, hcr⟩, by simp [intOf]; omega⟩
        · have HL := eq_false hlt
          clear hb
          gi_wp2
          refine ⟨fun f hf => (by cases hf), ?_⟩
          gi_wp2
          have hm := HM.out
          exact ⟨⟨pre, m, i + 1, i + 1, rfl, rfl, Nat.le_refl _, by omega, by omega, hpre, hJ, hcr⟩, by simp [intOf]; omega⟩
end Go.Proofs.YthngbpkknpmmlaaDoor.P

-- ==== Nw2
namespace Go.Proofs.YthngbpkknpmmlaaDoor.P
open Go.RowKit Go.Shelf Go.Proofs.YthngbpkknpmmlaaDoorW.PrintWords
attribute [local go_sem] Oper.semAt_some
set_option linter.unusedVariables false
set_option linter.unusedSimpArgs false
def wdsS (s : ByteArray) : List ByteArray := wdsF s (s.size + 1) 0 0
theorem words_stops (F : Fence) (n : Nat) (h25 : F.fn 25) (hro : F.round = none) (hn : 1 ≤ n) (Bs n₀ : Nat) (s : ByteArray) (hs : s.size < 5864062014805) (hB0 : Bs < n₀) (w : World) (hn₀ : n₀ ≤ w.heap.size) (hc : w.cell? ⟨Bs, 0, none⟩ = some (.string s)) :
    SeqStopsK F n Tryd.prog 25 #[.pointer (some ⟨Bs, 0, none⟩)] (fun x : ByteArray => #[Value.string x]) (Below n₀) (fun ys => ys = wdsS s) (fun pre => ∃ q, pre ++ q = wdsS s) (s.size + 1) w := fun l J Jx W hW _ _ hY h0 =>
  words1_in F n h25 hro hn l Bs n₀ s hs hB0 J Jx hY W ((hW.cell (p := ⟨Bs, 0, none⟩) (by show Bs < w.heap.size; omega)).trans hc) h0
theorem info_str : (Tryd.prog.info? 9).map (fun i => (i.zero, i.size, i.bytes)) = some (some (.string ⟨#[]⟩), 1, 16) := by kernel_rfl
set_option maxRecDepth 100000 in
set_option maxHeartbeats 4000000 in
theorem appendSeq_in (F : Fence) (n : Nat) (h24 : F.fn 24) (h25 : F.fn 25) (hro : F.round = none) (hn : 3 ≤ n) (Bs : Nat) (s : ByteArray) (hs : s.size < 5864062014805) (w : World) (hB0 : Bs < w.heap.size) (hc0 : w.cell? ⟨Bs, 0, none⟩ = some (.string s)) :
    CallsIn F n Tryd.prog 24 #[.slice none 0 0, .func (.func 25) #[] #[.pointer (some ⟨Bs, 0, none⟩)]] w fun e W' => ∃ v, e = .returned v ∧ W'.ownsRow w.heap.size 9 1 v (wdsS s).length ((wdsS s).map Value.string) ∧ Below w.heap.size w W' := by
  have h1 : 1 ≤ n := by omega
  obtain ⟨i0, hi, hz0, hz1, hz2⟩ := info_parts info_str
  refine callsIn_of_wp_marks Tryd.func24 rfl h24 ?_ hro
  simp only [Tryd.ntmps24, List.size_toArray, List.length_cons, List.length_nil, Nat.reduceAdd, Nat.reduceSub, Array.replicate_succ, Array.replicate_zero, List.push_toArray, List.append_toArray, List.nil_append, List.cons_append]
  gi_wp2
  have bO := Boxed.new w 26 (.slice none 0 0)
  have hB1 : Below w.heap.size w (w.alloc (.cells #[.slice none 0 0] 26)) := (Below.refl _ w).alloc (Nat.le_refl _) _
  refine wpIn_rangeFunc_ownF hro h1 (gf := 25) (lb := #[.pointer (some ⟨Bs, 0, none⟩)]) rfl h25 (enters_of Tryd.func25 (by kernel_rfl) rfl)
    (words_stops F (n - 1) h25 hro (by omega) Bs w.heap.size s hs hB0 (w.alloc (.cells #[.slice none 0 0] 26)) (by simp) ((hB1.cell (p := ⟨Bs, 0, none⟩) hB0).trans hc0)) belowK_t (belowK_b (by simp)) (Below.refl _ _) (fun _ => rfl)
    (fun pre W => (∃ v, Boxed W w.heap.size 26 v ∧ W.ownsRow w.heap.size 9 1 v pre.length (pre.map Value.string) ∧ (v = .slice none 0 0 ↔ pre = [])) ∧ Below w.heap.size w W)
    (fun _ _ _ => False)
    (OwnFrom.and (Own.from (holdsRow_own w.heap.size w.heap.size 26 9 1 (fun pre => pre.length) (fun pre => pre.map Value.string) (fun pre v => v = .slice none 0 0 ↔ pre = [])) _) (ownFrom_below (Nat.le_refl _) (by simp)))
    (fun _ _ _ _ _ hs _ _ => hs)
    ⟨⟨_, bO, World.ownsRow_nil _ _ _ _, by simp⟩, hB1⟩
    (fun x => { tmps := #[.slice none 0 0, .func (.func 25) #[] #[.pointer (some ⟨Bs, 0, none⟩)], .pointer (some ⟨w.heap.size, 0, none⟩), undef, .slice none 0 0, .string x, .func (.func 25) #[] #[.pointer (some ⟨Bs, 0, none⟩)], .string x, undef, undef, undef, undef, undef], defers := [] }) ?assign ?body ?done ?stop
  case assign =>
    intro l x W K hK
    gi_wp2
    exact hK
  case body =>
    rintro l pre x W ⟨⟨v, hv, hrow, hnil⟩, hB⟩ hlt
    have hc := hv.cell
    gi_wp2_with (gi_at_builtin; refine wpListIn_append_own _ rfl _ _ 26 rfl w.heap.size 9 i0 (.string ⟨#[]⟩) 1 16 Tryd.underlying26 hi hz0 hz1 hz2 rfl (by decide) _ _ _ rfl (hrow.alloc _) ⟨W.heap.size, 0, none⟩ 1 1 [.string x] rfl rfl (cell_one_new _ _ _) (by simp [Value.oneCell']) (by unfold maxLen; omega) (by omega) (by have := hB.size; simp; omega) ?_; intro v' w1 hown' hgrow _; obtain ⟨g', cap', rfl⟩ := ownsRow_succ hown'; obtain ⟨hv1, hv2, hr2, hk2, hb2⟩ := hv.appended (by decide) hrow hB.size (Nat.le_refl _) hown' hgrow; have hc1 := hv1.cell; have hf1 := hv1.frozen)
    exact ⟨hk2, hb2, ⟨_, hv2, by simpa using hr2, by simp⟩, hB.trans hb2⟩
  case done =>
    rintro D ys W hD rfl ⟨⟨v, hv, hrow, hnil⟩, hB⟩ hK
    have hc := hv.cell
    gi_wp2
    refine ⟨by simp, .inl ⟨_, _, rfl, run_takeDeferred hK, ?_⟩⟩
    exact ⟨_, results_tmp rfl _ _ _, v, rfl, ownsRow_putObj hrow _ hK rfl, hB.trans (belowK_b (w := w) (Nat.le_refl _) W D _ _ (by simp at hD; omega) hK rfl rfl)⟩
  case stop =>
    rintro D c pre W _ _ h _
    exact h.elim
end Go.Proofs.YthngbpkknpmmlaaDoor.P

-- ==== Nw3
namespace Go.Proofs.YthngbpkknpmmlaaDoor.P
open Go.RowKit Go.Shelf Go.Proofs.YthngbpkknpmmlaaDoorW.PrintWords
attribute [local go_sem] Oper.semAt_some
set_option linter.unusedVariables false
set_option linter.unusedSimpArgs false
set_option maxRecDepth 100000 in
set_option maxHeartbeats 4000000 in
theorem collect_in (F : Fence) (n : Nat) (h20 : F.fn 20) (h24 : F.fn 24) (h25 : F.fn 25) (hro : F.round = none) (hn : 4 ≤ n) (Bs : Nat) (s : ByteArray) (hs : s.size < 5864062014805) (w : World) (hB0 : Bs < w.heap.size) (hc0 : w.cell? ⟨Bs, 0, none⟩ = some (.string s)) :
    CallsIn F n Tryd.prog 20 #[.func (.func 25) #[] #[.pointer (some ⟨Bs, 0, none⟩)]] w fun e W' => ∃ v, e = .returned v ∧ W'.ownsRow w.heap.size 9 1 v (wdsS s).length ((wdsS s).map Value.string) ∧ Below w.heap.size w W' := by
  have h1 : 1 ≤ n := by omega
  have hc := appendSeq_in F (n - 1) h24 h25 hro (by omega) Bs s hs w hB0 hc0
  refine callsIn_of_wp Tryd.func20 rfl h20 ?_ hro
  simp only [Tryd.ntmps20, List.size_toArray, List.length_cons, List.length_nil, Nat.reduceAdd, Nat.reduceSub, Array.replicate_succ, Array.replicate_zero, List.push_toArray, List.append_toArray, List.nil_append, List.cons_append]
  gi_wp2_with (gi_at_call 24; refine hc.mono ?_; rintro e w' ⟨v, rfl, hr, hb⟩)
  go_ret
  exact ⟨v, rfl, hr, hb⟩
set_option maxRecDepth 100000 in
set_option maxHeartbeats 4000000 in
theorem mkwords_in (F : Fence) (n : Nat) (h21 : F.fn 21) (hro : F.round = none) (s : ByteArray) (w : World) :
    CallsIn F n Tryd.prog 21 #[.string s] w fun e W' => e = .returned (.func (.func 25) #[] #[.pointer (some ⟨w.heap.size, 0, none⟩)]) ∧ W' = w.alloc (.cells #[.string s] 9) := by
  refine callsIn_of_wp Tryd.func21 rfl h21 ?_ hro
  simp only [Tryd.ntmps21, List.size_toArray, List.length_cons, List.length_nil, Nat.reduceAdd, Nat.reduceSub, Array.replicate_succ, Array.replicate_zero, List.push_toArray, List.append_toArray, List.nil_append, List.cons_append]
  gi_wp2
  go_ret
  exact ⟨rfl, rfl⟩
set_option maxRecDepth 100000 in
set_option maxHeartbeats 4000000 in
theorem words_calls (s : ByteArray) (hs : s.size < 5864062014805) (w : World) :
    Calls Tryd.prog 13 #[.string s] w fun e W' => ∃ v, e = .returned v ∧ Kd.R Kd.string 9 W' w.heap.size (fun _ => True) v (wdsS s) ∧ Below w.heap.size w W' := by
  refine (callsIn_wide (n := 6)).1 ?_
  have h20 : Fence.wide.fn 20 := trivial
  have h21 : Fence.wide.fn 21 := trivial
  have h24 : Fence.wide.fn 24 := trivial
  have h25 : Fence.wide.fn 25 := trivial
  have hm := mkwords_in Fence.wide (6 - 1) h21 rfl s w
  have bx := Boxed.new w 9 (.string s)
  have hc := collect_in Fence.wide (6 - 1) h20 h24 h25 rfl (by omega) w.heap.size s hs (w.alloc (.cells #[.string s] 9)) (by simp) bx.cell
  refine callsIn_of_wp Tryd.func13 rfl trivial ?_ rfl
  simp only [Tryd.ntmps13, List.size_toArray, List.length_cons, List.length_nil, Nat.reduceAdd, Nat.reduceSub, Array.replicate_succ, Array.replicate_zero, List.push_toArray, List.append_toArray, List.nil_append, List.cons_append]
  gi_wp2_with (first | (gi_at_call 21; refine hm.mono ?_; rintro e w' ⟨rfl, rfl⟩) | (gi_at_call 20; refine hc.mono ?_; rintro e w2 ⟨v, rfl, hr, hb⟩))
  go_ret
  exact ⟨v, rfl, Kd.R_of_own (own_weaken hr (by simp)) (fun _ _ => trivial), (((Below.refl _ w).alloc (Nat.le_refl _) _).trans (hb.mono (by simp)))⟩
end Go.Proofs.YthngbpkknpmmlaaDoor.P

-- ==== PF13
namespace Go.Proofs.YthngbpkknpmmlaaDoor.P
open Go.RowKit Go.Proofs.YthngbpkknpmmlaaDoorW.PrintWords Go.Proofs.YthngbpkknpmmlaaDoorW.PrintLast Go.Proofs.YthngbpkknpmmlaaDoorW.PrintMore
attribute [local go_sem] max2_int min2_int max_two min_two max_three min_three max_four min_four   -- for this text's walks alone
set_option linter.unusedVariables false
set_option linter.unusedSimpArgs false

/-! ### name_Words: function 13 -/
def name_Words.f (a0 : ByteArray) : Option (List ByteArray) := if a0.size < 5864062014805 then some (wdsS a0) else none
theorem name_Words.calls (a0 : ByteArray) (r : List ByteArray) (w : World) (h : name_Words.f a0 = some r) :
    Calls Tryd.prog 13 #[.string a0] w fun e w' => ∃ v0_ : Value, e = .returned (v0_) ∧ Kd.R Kd.string 9 w' w.heap.size (fun _ => True) v0_ r ∧ Below w.heap.size w w' := by
  unfold name_Words.f at h
  by_cases hs : a0.size < 5864062014805
  · rw [if_pos hs] at h
    injection h with h
    subst h
    exact words_calls a0 hs w
  · rw [if_neg hs] at h
    cases h


end Go.Proofs.YthngbpkknpmmlaaDoor.P

-- ==== PF9
namespace Go.Proofs.YthngbpkknpmmlaaDoor.P
open Go.RowKit Go.Proofs.YthngbpkknpmmlaaDoorW.PrintWords Go.Proofs.YthngbpkknpmmlaaDoorW.PrintLast Go.Proofs.YthngbpkknpmmlaaDoorW.PrintMore
attribute [local go_sem] max2_int min2_int max_two min_two max_three min_three max_four min_four   -- for this text's walks alone
set_option linter.unusedVariables false
set_option linter.unusedSimpArgs false

/-! ### aumbrylaw03_wakes: function 9 -/
def aumbrylaw03_wakes.f (k : Nat)  : Option (Bool) := (name_Number.f (⟨#[45, 49, 50]⟩ : ByteArray)).bind fun bt101 => ((name_Kind.f k (⟨#[112, 108, 117, 115, 50]⟩ : ByteArray)).bind fun t103 => (if t103 = 1 then ((name_Kind.f k (⟨#[88]⟩ : ByteArray)).bind fun t104 => (if t104 = 2 then (if bt101.2 = 0 then (if bt101.1 = (-12) then ((name_Words.f (⟨#[32, 97, 32, 32, 98, 32]⟩ : ByteArray)).bind fun t105 => (some ((t105.length : Int) == 2))) else (some false)) else (some false)) else (some false))) else (some false)))
theorem aumbrylaw03_wakes.mono : ∀ k, LeO (aumbrylaw03_wakes.f k ) (aumbrylaw03_wakes.f (k + 1) ) := by
  intro  k
  unfold aumbrylaw03_wakes.f
  repeat' first
      | (with_reducible exact name_Kind.mono _ _)
      | (with_reducible exact LeO.refl _)
      | (with_reducible exact LeO.none _)
      | (with_reducible refine LeO.ite ?_ ?_)
      | (with_reducible refine LeO.bind ?_ (fun _ => ?_))
      | exact name_Kind.mono _ _
      | exact LeO.none _
      | refine LeO.ite ?_ ?_
      | refine LeO.bind ?_ (fun _ => ?_)
set_option maxHeartbeats 8000000 in
set_option maxRecDepth 100000 in
theorem aumbrylaw03_wakes.calls (k : Nat)  (r : Bool) (w : World) (h : aumbrylaw03_wakes.f k  = some r) (hgl : Glob w) :
    Calls Tryd.prog 9 #[] w fun e w' => e = .returned (.bool r) ∧ Below w.heap.size w w' := by
  have GL := Aside0.mk hgl
  clear hgl
  have HB := Aside0.mk (Below.refl w.heap.size w)
  have H : ((name_Number.f (⟨#[45, 49, 50]⟩ : ByteArray)).bind fun bt101 => ((name_Kind.f k (⟨#[112, 108, 117, 115, 50]⟩ : ByteArray)).bind fun t103 => (if t103 = 1 then ((name_Kind.f k (⟨#[88]⟩ : ByteArray)).bind fun t104 => (if t104 = 2 then (if bt101.2 = 0 then (if bt101.1 = (-12) then ((name_Words.f (⟨#[32, 97, 32, 32, 98, 32]⟩ : ByteArray)).bind fun t105 => (some ((t105.length : Int) == 2))) else (some false)) else (some false)) else (some false))) else (some false)))) = some r := h
  clear h
  replace H := Option.bind_eq_some_iff.mp H
  obtain ⟨⟨t101, t102⟩, A10, H⟩ := H
  replace H : ((name_Kind.f k (⟨#[112, 108, 117, 115, 50]⟩ : ByteArray)).bind fun t103 => (if t103 = 1 then ((name_Kind.f k (⟨#[88]⟩ : ByteArray)).bind fun t104 => (if t104 = 2 then (if t102 = 0 then (if t101 = (-12) then ((name_Words.f (⟨#[32, 97, 32, 32, 98, 32]⟩ : ByteArray)).bind fun t105 => (some ((t105.length : Int) == 2))) else (some false)) else (some false)) else (some false))) else (some false))) = some r := H
  have A1 := Aside0.mk A10
  clear A10
  replace H := Option.bind_eq_some_iff.mp H
  obtain ⟨t103, A20, H⟩ := H
  replace H : (if t103 = 1 then ((name_Kind.f k (⟨#[88]⟩ : ByteArray)).bind fun t104 => (if t104 = 2 then (if t102 = 0 then (if t101 = (-12) then ((name_Words.f (⟨#[32, 97, 32, 32, 98, 32]⟩ : ByteArray)).bind fun t105 => (some ((t105.length : Int) == 2))) else (some false)) else (some false)) else (some false))) else (some false)) = some r := H
  have A2 := Aside0.mk A20
  clear A20
  by_cases c3 : t103 = 1
  · rw [if_pos c3] at H
    have c3b0 : (t103 == 1) = true := beq_iff_eq.mpr c3
    have c3b1 : (t103 != 1) = false := bne_eq_false_iff_eq.mpr c3
    clear c3
    replace H := Option.bind_eq_some_iff.mp H
    obtain ⟨t104, A40, H⟩ := H
    replace H : (if t104 = 2 then (if t102 = 0 then (if t101 = (-12) then ((name_Words.f (⟨#[32, 97, 32, 32, 98, 32]⟩ : ByteArray)).bind fun t105 => (some ((t105.length : Int) == 2))) else (some false)) else (some false)) else (some false)) = some r := H
    have A4 := Aside0.mk A40
    clear A40
    by_cases c5 : t104 = 2
    · rw [if_pos c5] at H
      have c5b0 : (t104 == 2) = true := beq_iff_eq.mpr c5
      have c5b1 : (t104 != 2) = false := bne_eq_false_iff_eq.mpr c5
      clear c5
      by_cases c6 : t102 = 0
      · rw [if_pos c6] at H
        have c6b0 : (t102 == 0) = true := beq_iff_eq.mpr c6
        have c6b1 : (t102 != 0) = false := bne_eq_false_iff_eq.mpr c6
        clear c6
        by_cases c7 : t101 = (-12)
        · rw [if_pos c7] at H
          have c7b0 : (t101 == (-12)) = true := beq_iff_eq.mpr c7
          have c7b1 : (t101 != (-12)) = false := bne_eq_false_iff_eq.mpr c7
          clear c7
          replace H := Option.bind_eq_some_iff.mp H
          obtain ⟨t105, A80, H⟩ := H
          replace H : (some ((t105.length : Int) == 2)) = some r := H
          have A8 := Aside0.mk A80
          clear A80
          obtain rfl := Option.some.inj H
          go_enter Tryd.func9, Tryd.ntmps9
          go_wp2_with (first | ((with_reducible refine gate_callee (f := 15) rfl ?_); refine goesL_ (some 4) rfl rfl Tryd.func15 (by kernel_rfl) rfl #[.string (⟨#[45, 49, 50]⟩ : ByteArray)] rfl (by (try simp only [List.map_toArray, List.map_cons, List.map_nil]); first | done | rfl | (simp only [List.length_drop, List.length_take]; rfl)) ?_; (with_reducible refine (name_Number.calls (⟨#[45, 49, 50]⟩ : ByteArray) t101 t102 _ A1.out ?glob).mono ?_); (case glob => repeat (first | exact GL.out.below HB.out | (with_reducible refine Glob.alloc ?_ _) | (with_reducible refine Glob.drewN ?_) | (with_reducible refine Glob.drew ?_))); rintro e w9 ⟨rfl, hb⟩; refine ⟨_, rfl, ?_⟩; have n0_ := Aside0.mk (below_step (by repeat (first | (with_reducible first | exact HB.out | apply below_alloc | apply pw_below_drewN | apply below_drew1) | exact HB.out)) hb); clear HB; have HB := n0_; clear n0_; (try clear hb); (try clear hb2); (try clear hk); (try clear hi)) | ((with_reducible refine gate_callee (f := 10) rfl ?_); refine goesL_ (some 7) rfl rfl Tryd.func10 (by kernel_rfl) rfl #[.string (⟨#[112, 108, 117, 115, 50]⟩ : ByteArray)] rfl (by (try simp only [List.map_toArray, List.map_cons, List.map_nil]); first | done | rfl | (simp only [List.length_drop, List.length_take]; rfl)) ?_; (with_reducible refine (name_Kind.calls k (⟨#[112, 108, 117, 115, 50]⟩ : ByteArray) t103 _ A2.out).mono ?_); rintro e w' ⟨rfl, ⟨nd, rfl⟩⟩; refine ⟨_, rfl, ?_⟩) | (go_at_call 10; (with_reducible refine (name_Kind.calls k (⟨#[88]⟩ : ByteArray) t104 _ A4.out).mono ?_); rintro e w' ⟨rfl, ⟨nd, rfl⟩⟩) | (go_at_call 13; (with_reducible refine (name_Words.calls (⟨#[32, 97, 32, 32, 98, 32]⟩ : ByteArray) t105 _ A8.out).mono ?_); rintro e w10 ⟨v106, rfl, ho0, hb⟩; have n0_ := Aside0.mk (Kd.R_lower ho0 (below_size (by repeat (first | (with_reducible first | exact HB.out | apply below_alloc | apply pw_below_drewN | apply below_drew1) | exact HB.out)))); have n1_ := Aside0.mk (below_step (by repeat (first | (with_reducible first | exact HB.out | apply below_alloc | apply pw_below_drewN | apply below_drew1) | exact HB.out)) hb); clear HB; have HO107 := n0_; have HB := n1_; clear n0_ n1_; (try clear hb); (try clear hb2); (try clear hk); (try clear hi); (try clear ho0); obtain ⟨Ao11, co11, eo11⟩ := Kd.R_slice HO107.out; subst eo11))
          go_ret
          exact ⟨by first | rfl | (simp [errW_none, errW_some] <;> rfl) | (simp [*, errW_none, errW_some] <;> rfl), by repeat (first | (with_reducible first | exact HB.out | apply below_alloc | apply pw_below_drewN | apply below_drew1) | exact HB.out)⟩
        · rw [if_neg c7] at H
          have c7b0 : (t101 == (-12)) = false := beq_eq_false_iff_ne.mpr c7
          have c7b1 : (t101 != (-12)) = true := bne_iff_ne.mpr c7
          obtain rfl := Option.some.inj H
          go_enter Tryd.func9, Tryd.ntmps9
          go_wp2_with (first | ((with_reducible refine gate_callee (f := 15) rfl ?_); refine goesL_ (some 4) rfl rfl Tryd.func15 (by kernel_rfl) rfl #[.string (⟨#[45, 49, 50]⟩ : ByteArray)] rfl (by (try simp only [List.map_toArray, List.map_cons, List.map_nil]); first | done | rfl | (simp only [List.length_drop, List.length_take]; rfl)) ?_; (with_reducible refine (name_Number.calls (⟨#[45, 49, 50]⟩ : ByteArray) t101 t102 _ A1.out ?glob).mono ?_); (case glob => repeat (first | exact GL.out.below HB.out | (with_reducible refine Glob.alloc ?_ _) | (with_reducible refine Glob.drewN ?_) | (with_reducible refine Glob.drew ?_))); rintro e w12 ⟨rfl, hb⟩; refine ⟨_, rfl, ?_⟩; have n0_ := Aside0.mk (below_step (by repeat (first | (with_reducible first | exact HB.out | apply below_alloc | apply pw_below_drewN | apply below_drew1) | exact HB.out)) hb); clear HB; have HB := n0_; clear n0_; (try clear hb); (try clear hb2); (try clear hk); (try clear hi)) | ((with_reducible refine gate_callee (f := 10) rfl ?_); refine goesL_ (some 7) rfl rfl Tryd.func10 (by kernel_rfl) rfl #[.string (⟨#[112, 108, 117, 115, 50]⟩ : ByteArray)] rfl (by (try simp only [List.map_toArray, List.map_cons, List.map_nil]); first | done | rfl | (simp only [List.length_drop, List.length_take]; rfl)) ?_; (with_reducible refine (name_Kind.calls k (⟨#[112, 108, 117, 115, 50]⟩ : ByteArray) t103 _ A2.out).mono ?_); rintro e w' ⟨rfl, ⟨nd, rfl⟩⟩; refine ⟨_, rfl, ?_⟩) | (go_at_call 10; (with_reducible refine (name_Kind.calls k (⟨#[88]⟩ : ByteArray) t104 _ A4.out).mono ?_); rintro e w' ⟨rfl, ⟨nd, rfl⟩⟩))
          go_ret
          exact ⟨by first | rfl | (simp [errW_none, errW_some] <;> rfl) | (simp [*, errW_none, errW_some] <;> rfl), by repeat (first | (with_reducible first | exact HB.out | apply below_alloc | apply pw_below_drewN | apply below_drew1) | exact HB.out)⟩
      · rw [if_neg c6] at H
        have c6b0 : (t102 == 0) = false := beq_eq_false_iff_ne.mpr c6
        have c6b1 : (t102 != 0) = true := bne_iff_ne.mpr c6
        obtain rfl := Option.some.inj H
        go_enter Tryd.func9, Tryd.ntmps9
        go_wp2_with (first | ((with_reducible refine gate_callee (f := 15) rfl ?_); refine goesL_ (some 4) rfl rfl Tryd.func15 (by kernel_rfl) rfl #[.string (⟨#[45, 49, 50]⟩ : ByteArray)] rfl (by (try simp only [List.map_toArray, List.map_cons, List.map_nil]); first | done | rfl | (simp only [List.length_drop, List.length_take]; rfl)) ?_; (with_reducible refine (name_Number.calls (⟨#[45, 49, 50]⟩ : ByteArray) t101 t102 _ A1.out ?glob).mono ?_); (case glob => repeat (first | exact GL.out.below HB.out | (with_reducible refine Glob.alloc ?_ _) | (with_reducible refine Glob.drewN ?_) | (with_reducible refine Glob.drew ?_))); rintro e w13 ⟨rfl, hb⟩; refine ⟨_, rfl, ?_⟩; have n0_ := Aside0.mk (below_step (by repeat (first | (with_reducible first | exact HB.out | apply below_alloc | apply pw_below_drewN | apply below_drew1) | exact HB.out)) hb); clear HB; have HB := n0_; clear n0_; (try clear hb); (try clear hb2); (try clear hk); (try clear hi)) | ((with_reducible refine gate_callee (f := 10) rfl ?_); refine goesL_ (some 7) rfl rfl Tryd.func10 (by kernel_rfl) rfl #[.string (⟨#[112, 108, 117, 115, 50]⟩ : ByteArray)] rfl (by (try simp only [List.map_toArray, List.map_cons, List.map_nil]); first | done | rfl | (simp only [List.length_drop, List.length_take]; rfl)) ?_; (with_reducible refine (name_Kind.calls k (⟨#[112, 108, 117, 115, 50]⟩ : ByteArray) t103 _ A2.out).mono ?_); rintro e w' ⟨rfl, ⟨nd, rfl⟩⟩; refine ⟨_, rfl, ?_⟩) | (go_at_call 10; (with_reducible refine (name_Kind.calls k (⟨#[88]⟩ : ByteArray) t104 _ A4.out).mono ?_); rintro e w' ⟨rfl, ⟨nd, rfl⟩⟩))
        go_ret
        exact ⟨by first | rfl | (simp [errW_none, errW_some] <;> rfl) | (simp [*, errW_none, errW_some] <;> rfl), by repeat (first | (with_reducible first | exact HB.out | apply below_alloc | apply pw_below_drewN | apply below_drew1) | exact HB.out)⟩
    · rw [if_neg c5] at H
      have c5b0 : (t104 == 2) = false := beq_eq_false_iff_ne.mpr c5
      have c5b1 : (t104 != 2) = true := bne_iff_ne.mpr c5
      obtain rfl := Option.some.inj H
      go_enter Tryd.func9, Tryd.ntmps9
      go_wp2_with (first | ((with_reducible refine gate_callee (f := 15) rfl ?_); refine goesL_ (some 4) rfl rfl Tryd.func15 (by kernel_rfl) rfl #[.string (⟨#[45, 49, 50]⟩ : ByteArray)] rfl (by (try simp only [List.map_toArray, List.map_cons, List.map_nil]); first | done | rfl | (simp only [List.length_drop, List.length_take]; rfl)) ?_; (with_reducible refine (name_Number.calls (⟨#[45, 49, 50]⟩ : ByteArray) t101 t102 _ A1.out ?glob).mono ?_); (case glob => repeat (first | exact GL.out.below HB.out | (with_reducible refine Glob.alloc ?_ _) | (with_reducible refine Glob.drewN ?_) | (with_reducible refine Glob.drew ?_))); rintro e w14 ⟨rfl, hb⟩; refine ⟨_, rfl, ?_⟩; have n0_ := Aside0.mk (below_step (by repeat (first | (with_reducible first | exact HB.out | apply below_alloc | apply pw_below_drewN | apply below_drew1) | exact HB.out)) hb); clear HB; have HB := n0_; clear n0_; (try clear hb); (try clear hb2); (try clear hk); (try clear hi)) | ((with_reducible refine gate_callee (f := 10) rfl ?_); refine goesL_ (some 7) rfl rfl Tryd.func10 (by kernel_rfl) rfl #[.string (⟨#[112, 108, 117, 115, 50]⟩ : ByteArray)] rfl (by (try simp only [List.map_toArray, List.map_cons, List.map_nil]); first | done | rfl | (simp only [List.length_drop, List.length_take]; rfl)) ?_; (with_reducible refine (name_Kind.calls k (⟨#[112, 108, 117, 115, 50]⟩ : ByteArray) t103 _ A2.out).mono ?_); rintro e w' ⟨rfl, ⟨nd, rfl⟩⟩; refine ⟨_, rfl, ?_⟩) | (go_at_call 10; (with_reducible refine (name_Kind.calls k (⟨#[88]⟩ : ByteArray) t104 _ A4.out).mono ?_); rintro e w' ⟨rfl, ⟨nd, rfl⟩⟩))
      go_ret
      exact ⟨by first | rfl | (simp [errW_none, errW_some] <;> rfl) | (simp [*, errW_none, errW_some] <;> rfl), by repeat (first | (with_reducible first | exact HB.out | apply below_alloc | apply pw_below_drewN | apply below_drew1) | exact HB.out)⟩
  · rw [if_neg c3] at H
    have c3b0 : (t103 == 1) = false := beq_eq_false_iff_ne.mpr c3
    have c3b1 : (t103 != 1) = true := bne_iff_ne.mpr c3
    obtain rfl := Option.some.inj H
    go_enter Tryd.func9, Tryd.ntmps9
    go_wp2_with (first | ((with_reducible refine gate_callee (f := 15) rfl ?_); refine goesL_ (some 4) rfl rfl Tryd.func15 (by kernel_rfl) rfl #[.string (⟨#[45, 49, 50]⟩ : ByteArray)] rfl (by (try simp only [List.map_toArray, List.map_cons, List.map_nil]); first | done | rfl | (simp only [List.length_drop, List.length_take]; rfl)) ?_; (with_reducible refine (name_Number.calls (⟨#[45, 49, 50]⟩ : ByteArray) t101 t102 _ A1.out ?glob).mono ?_); (case glob => repeat (first | exact GL.out.below HB.out | (with_reducible refine Glob.alloc ?_ _) | (with_reducible refine Glob.drewN ?_) | (with_reducible refine Glob.drew ?_))); rintro e w15 ⟨rfl, hb⟩; refine ⟨_, rfl, ?_⟩; have n0_ := Aside0.mk (below_step (by repeat (first | (with_reducible first | exact HB.out | apply below_alloc | apply pw_below_drewN | apply below_drew1) | exact HB.out)) hb); clear HB; have HB := n0_; clear n0_; (try clear hb); (try clear hb2); (try clear hk); (try clear hi)) | ((with_reducible refine gate_callee (f := 10) rfl ?_); refine goesL_ (some 7) rfl rfl Tryd.func10 (by kernel_rfl) rfl #[.string (⟨#[112, 108, 117, 115, 50]⟩ : ByteArray)] rfl (by (try simp only [List.map_toArray, List.map_cons, List.map_nil]); first | done | rfl | (simp only [List.length_drop, List.length_take]; rfl)) ?_; (with_reducible refine (name_Kind.calls k (⟨#[112, 108, 117, 115, 50]⟩ : ByteArray) t103 _ A2.out).mono ?_); rintro e w' ⟨rfl, ⟨nd, rfl⟩⟩; refine ⟨_, rfl, ?_⟩))
    go_ret
    exact ⟨by first | rfl | (simp [errW_none, errW_some] <;> rfl) | (simp [*, errW_none, errW_some] <;> rfl), by repeat (first | (with_reducible first | exact HB.out | apply below_alloc | apply pw_below_drewN | apply below_drew1) | exact HB.out)⟩

end Go.Proofs.YthngbpkknpmmlaaDoor.P

-- ==== PF8
namespace Go.Proofs.YthngbpkknpmmlaaDoor.P
open Go.RowKit Go.Proofs.YthngbpkknpmmlaaDoorW.PrintWords Go.Proofs.YthngbpkknpmmlaaDoorW.PrintLast Go.Proofs.YthngbpkknpmmlaaDoorW.PrintMore
attribute [local go_sem] max2_int min2_int max_two min_two max_three min_three max_four min_four   -- for this text's walks alone
set_option linter.unusedVariables false
set_option linter.unusedSimpArgs false

/-! ### aumbrylaw03_NameApart: function 8 -/
def aumbrylaw03_NameApart.f (k : Nat) (a0 : ByteArray) (a1 : Int) : Option (Bool) := (aumbrylaw03_wakes.f k).bind fun t101 => (if t101 = true then ((name_Number.f a0).bind fun bt102 => ((name_Kind.f k a0).bind fun t104 => (if t104 = 0 then (some true) else (if bt102.2 = 0 then (some false) else (if (a0.size : Int) < 8 then (some true) else ((some (([a1] : List Int) : List Int)).bind fun y105 => (if a0.size + (strOfNums y105).size ≤ 9223372036854775807 then ((name_Kind.f k (a0 ++ (strOfNums y105))).bind fun t108 => (some (t108 == 0))) else (none)))))))) else (some false))
set_option maxHeartbeats 8000000 in
set_option maxRecDepth 100000 in
theorem aumbrylaw03_NameApart.calls (k : Nat) (a0 : ByteArray) (a1 : Int) (r : Bool) (w : World) (h : aumbrylaw03_NameApart.f k a0 a1 = some r) (hgl : Glob w) :
    Calls Tryd.prog 8 #[.string a0, .int .u8 a1] w fun e w' => e = .returned (.bool r) ∧ Below w.heap.size w w' := by
  have GL := Aside0.mk hgl
  clear hgl
  have HB := Aside0.mk (Below.refl w.heap.size w)
  have H : ((aumbrylaw03_wakes.f k).bind fun t101 => (if t101 = true then ((name_Number.f a0).bind fun bt102 => ((name_Kind.f k a0).bind fun t104 => (if t104 = 0 then (some true) else (if bt102.2 = 0 then (some false) else (if (a0.size : Int) < 8 then (some true) else ((some (([a1] : List Int) : List Int)).bind fun y105 => (if a0.size + (strOfNums y105).size ≤ 9223372036854775807 then ((name_Kind.f k (a0 ++ (strOfNums y105))).bind fun t108 => (some (t108 == 0))) else (none)))))))) else (some false))) = some r := h
  clear h
  replace H := Option.bind_eq_some_iff.mp H
  obtain ⟨t101, A30, H⟩ := H
  replace H : (if t101 = true then ((name_Number.f a0).bind fun bt102 => ((name_Kind.f k a0).bind fun t104 => (if t104 = 0 then (some true) else (if bt102.2 = 0 then (some false) else (if (a0.size : Int) < 8 then (some true) else ((some (([a1] : List Int) : List Int)).bind fun y105 => (if a0.size + (strOfNums y105).size ≤ 9223372036854775807 then ((name_Kind.f k (a0 ++ (strOfNums y105))).bind fun t108 => (some (t108 == 0))) else (none)))))))) else (some false)) = some r := H
  have A3 := Aside0.mk A30
  clear A30
  by_cases c4 : t101 = true
  · subst c4
    have H1 : ((name_Number.f a0).bind fun bt102 => ((name_Kind.f k a0).bind fun t104 => (if t104 = 0 then (some true) else (if bt102.2 = 0 then (some false) else (if (a0.size : Int) < 8 then (some true) else ((some (([a1] : List Int) : List Int)).bind fun y105 => (if a0.size + (strOfNums y105).size ≤ 9223372036854775807 then ((name_Kind.f k (a0 ++ (strOfNums y105))).bind fun t108 => (some (t108 == 0))) else (none)))))))) = some r := by rw [if_pos rfl] at H; exact H
    clear H
    have H := H1
    clear H1
    replace H := Option.bind_eq_some_iff.mp H
    obtain ⟨⟨t102, t103⟩, A50, H⟩ := H
    replace H : ((name_Kind.f k a0).bind fun t104 => (if t104 = 0 then (some true) else (if t103 = 0 then (some false) else (if (a0.size : Int) < 8 then (some true) else ((some (([a1] : List Int) : List Int)).bind fun y105 => (if a0.size + (strOfNums y105).size ≤ 9223372036854775807 then ((name_Kind.f k (a0 ++ (strOfNums y105))).bind fun t108 => (some (t108 == 0))) else (none))))))) = some r := H
    have A5 := Aside0.mk A50
    clear A50
    replace H := Option.bind_eq_some_iff.mp H
    obtain ⟨t104, A60, H⟩ := H
    replace H : (if t104 = 0 then (some true) else (if t103 = 0 then (some false) else (if (a0.size : Int) < 8 then (some true) else ((some (([a1] : List Int) : List Int)).bind fun y105 => (if a0.size + (strOfNums y105).size ≤ 9223372036854775807 then ((name_Kind.f k (a0 ++ (strOfNums y105))).bind fun t108 => (some (t108 == 0))) else (none)))))) = some r := H
    have A6 := Aside0.mk A60
    clear A60
    by_cases c7 : t104 = 0
    · rw [if_pos c7] at H
      have c7b0 : (t104 == 0) = true := beq_iff_eq.mpr c7
      have c7b1 : (t104 != 0) = false := bne_eq_false_iff_eq.mpr c7
      clear c7
      obtain rfl := Option.some.inj H
      go_enter Tryd.func8, Tryd.ntmps8
      go_wp2_with (first | ((with_reducible refine gate_callee (f := 9) rfl ?_); refine goesL_ (some 8) rfl rfl Tryd.func9 (by kernel_rfl) rfl #[] rfl (by (try simp only [List.map_toArray, List.map_cons, List.map_nil]); first | done | rfl | (simp only [List.length_drop, List.length_take]; rfl)) ?_; (with_reducible refine (aumbrylaw03_wakes.calls k  true _ A3.out ?glob).mono ?_); (case glob => repeat (first | exact GL.out.below HB.out | (with_reducible refine Glob.alloc ?_ _) | (with_reducible refine Glob.drewN ?_) | (with_reducible refine Glob.drew ?_))); rintro e w8 ⟨rfl, hb⟩; refine ⟨_, rfl, ?_⟩; have n0_ := Aside0.mk (below_step (by repeat (first | (with_reducible first | exact HB.out | apply below_alloc | apply pw_below_drewN | apply below_drew1) | exact HB.out)) hb); clear HB; have HB := n0_; clear n0_; (try clear hb); (try clear hb2); (try clear hk); (try clear hi)) | ((with_reducible refine gate_callee (f := 15) rfl ?_); refine goesL_ (some 12) rfl rfl Tryd.func15 (by kernel_rfl) rfl #[.string a0] rfl (by (try simp only [List.map_toArray, List.map_cons, List.map_nil]); first | done | rfl | (simp only [List.length_drop, List.length_take]; rfl)) ?_; (with_reducible refine (name_Number.calls a0 t102 t103 _ A5.out ?glob).mono ?_); (case glob => repeat (first | exact GL.out.below HB.out | (with_reducible refine Glob.alloc ?_ _) | (with_reducible refine Glob.drewN ?_) | (with_reducible refine Glob.drew ?_))); rintro e w9 ⟨rfl, hb⟩; refine ⟨_, rfl, ?_⟩; have n0_ := Aside0.mk (below_step (by repeat (first | (with_reducible first | exact HB.out | apply below_alloc | apply pw_below_drewN | apply below_drew1) | exact HB.out)) hb); clear HB; have HB := n0_; clear n0_; (try clear hb); (try clear hb2); (try clear hk); (try clear hi)) | ((with_reducible refine gate_callee (f := 10) rfl ?_); refine goesL_ (some 16) rfl rfl Tryd.func10 (by kernel_rfl) rfl #[.string a0] rfl (by (try simp only [List.map_toArray, List.map_cons, List.map_nil]); first | done | rfl | (simp only [List.length_drop, List.length_take]; rfl)) ?_; (with_reducible refine (name_Kind.calls k a0 t104 _ A6.out).mono ?_); rintro e w' ⟨rfl, ⟨nd, rfl⟩⟩; refine ⟨_, rfl, ?_⟩))
      go_ret
      exact ⟨by first | rfl | (simp [errW_none, errW_some] <;> rfl) | (simp [*, errW_none, errW_some] <;> rfl), by repeat (first | (with_reducible first | exact HB.out | apply below_alloc | apply pw_below_drewN | apply below_drew1) | exact HB.out)⟩
    · rw [if_neg c7] at H
      have c7b0 : (t104 == 0) = false := beq_eq_false_iff_ne.mpr c7
      have c7b1 : (t104 != 0) = true := bne_iff_ne.mpr c7
      by_cases c10 : t103 = 0
      · rw [if_pos c10] at H
        have c10b0 : (t103 == 0) = true := beq_iff_eq.mpr c10
        have c10b1 : (t103 != 0) = false := bne_eq_false_iff_eq.mpr c10
        clear c10
        obtain rfl := Option.some.inj H
        go_enter Tryd.func8, Tryd.ntmps8
        go_wp2_with (first | ((with_reducible refine gate_callee (f := 9) rfl ?_); refine goesL_ (some 8) rfl rfl Tryd.func9 (by kernel_rfl) rfl #[] rfl (by (try simp only [List.map_toArray, List.map_cons, List.map_nil]); first | done | rfl | (simp only [List.length_drop, List.length_take]; rfl)) ?_; (with_reducible refine (aumbrylaw03_wakes.calls k  true _ A3.out ?glob).mono ?_); (case glob => repeat (first | exact GL.out.below HB.out | (with_reducible refine Glob.alloc ?_ _) | (with_reducible refine Glob.drewN ?_) | (with_reducible refine Glob.drew ?_))); rintro e w11 ⟨rfl, hb⟩; refine ⟨_, rfl, ?_⟩; have n0_ := Aside0.mk (below_step (by repeat (first | (with_reducible first | exact HB.out | apply below_alloc | apply pw_below_drewN | apply below_drew1) | exact HB.out)) hb); clear HB; have HB := n0_; clear n0_; (try clear hb); (try clear hb2); (try clear hk); (try clear hi)) | ((with_reducible refine gate_callee (f := 15) rfl ?_); refine goesL_ (some 12) rfl rfl Tryd.func15 (by kernel_rfl) rfl #[.string a0] rfl (by (try simp only [List.map_toArray, List.map_cons, List.map_nil]); first | done | rfl | (simp only [List.length_drop, List.length_take]; rfl)) ?_; (with_reducible refine (name_Number.calls a0 t102 t103 _ A5.out ?glob).mono ?_); (case glob => repeat (first | exact GL.out.below HB.out | (with_reducible refine Glob.alloc ?_ _) | (with_reducible refine Glob.drewN ?_) | (with_reducible refine Glob.drew ?_))); rintro e w12 ⟨rfl, hb⟩; refine ⟨_, rfl, ?_⟩; have n0_ := Aside0.mk (below_step (by repeat (first | (with_reducible first | exact HB.out | apply below_alloc | apply pw_below_drewN | apply below_drew1) | exact HB.out)) hb); clear HB; have HB := n0_; clear n0_; (try clear hb); (try clear hb2); (try clear hk); (try clear hi)) | ((with_reducible refine gate_callee (f := 10) rfl ?_); refine goesL_ (some 16) rfl rfl Tryd.func10 (by kernel_rfl) rfl #[.string a0] rfl (by (try simp only [List.map_toArray, List.map_cons, List.map_nil]); first | done | rfl | (simp only [List.length_drop, List.length_take]; rfl)) ?_; (with_reducible refine (name_Kind.calls k a0 t104 _ A6.out).mono ?_); rintro e w' ⟨rfl, ⟨nd, rfl⟩⟩; refine ⟨_, rfl, ?_⟩))
        go_ret
        exact ⟨by first | rfl | (simp [errW_none, errW_some] <;> rfl) | (simp [*, errW_none, errW_some] <;> rfl), by repeat (first | (with_reducible first | exact HB.out | apply below_alloc | apply pw_below_drewN | apply below_drew1) | exact HB.out)⟩
      · rw [if_neg c10] at H
        have c10b0 : (t103 == 0) = false := beq_eq_false_iff_ne.mpr c10
        have c10b1 : (t103 != 0) = true := bne_iff_ne.mpr c10
        by_cases c13 : (a0.size : Int) < 8
        · rw [if_pos c13] at H
          have c13b0 : decide ((a0.size : Int) < 8) = true := decide_eq_true c13
          have c13b1 : decide (a0.size < 8) = true := decide_eq_true (by omega)
          clear c13
          obtain rfl := Option.some.inj H
          go_enter Tryd.func8, Tryd.ntmps8
          go_wp2_with (first | ((with_reducible refine gate_callee (f := 9) rfl ?_); refine goesL_ (some 8) rfl rfl Tryd.func9 (by kernel_rfl) rfl #[] rfl (by (try simp only [List.map_toArray, List.map_cons, List.map_nil]); first | done | rfl | (simp only [List.length_drop, List.length_take]; rfl)) ?_; (with_reducible refine (aumbrylaw03_wakes.calls k  true _ A3.out ?glob).mono ?_); (case glob => repeat (first | exact GL.out.below HB.out | (with_reducible refine Glob.alloc ?_ _) | (with_reducible refine Glob.drewN ?_) | (with_reducible refine Glob.drew ?_))); rintro e w14 ⟨rfl, hb⟩; refine ⟨_, rfl, ?_⟩; have n0_ := Aside0.mk (below_step (by repeat (first | (with_reducible first | exact HB.out | apply below_alloc | apply pw_below_drewN | apply below_drew1) | exact HB.out)) hb); clear HB; have HB := n0_; clear n0_; (try clear hb); (try clear hb2); (try clear hk); (try clear hi)) | ((with_reducible refine gate_callee (f := 15) rfl ?_); refine goesL_ (some 12) rfl rfl Tryd.func15 (by kernel_rfl) rfl #[.string a0] rfl (by (try simp only [List.map_toArray, List.map_cons, List.map_nil]); first | done | rfl | (simp only [List.length_drop, List.length_take]; rfl)) ?_; (with_reducible refine (name_Number.calls a0 t102 t103 _ A5.out ?glob).mono ?_); (case glob => repeat (first | exact GL.out.below HB.out | (with_reducible refine Glob.alloc ?_ _) | (with_reducible refine Glob.drewN ?_) | (with_reducible refine Glob.drew ?_))); rintro e w15 ⟨rfl, hb⟩; refine ⟨_, rfl, ?_⟩; have n0_ := Aside0.mk (below_step (by repeat (first | (with_reducible first | exact HB.out | apply below_alloc | apply pw_below_drewN | apply below_drew1) | exact HB.out)) hb); clear HB; have HB := n0_; clear n0_; (try clear hb); (try clear hb2); (try clear hk); (try clear hi)) | ((with_reducible refine gate_callee (f := 10) rfl ?_); refine goesL_ (some 16) rfl rfl Tryd.func10 (by kernel_rfl) rfl #[.string a0] rfl (by (try simp only [List.map_toArray, List.map_cons, List.map_nil]); first | done | rfl | (simp only [List.length_drop, List.length_take]; rfl)) ?_; (with_reducible refine (name_Kind.calls k a0 t104 _ A6.out).mono ?_); rintro e w' ⟨rfl, ⟨nd, rfl⟩⟩; refine ⟨_, rfl, ?_⟩))
          go_ret
          exact ⟨by first | rfl | (simp [errW_none, errW_some] <;> rfl) | (simp [*, errW_none, errW_some] <;> rfl), by repeat (first | (with_reducible first | exact HB.out | apply below_alloc | apply pw_below_drewN | apply below_drew1) | exact HB.out)⟩
        · rw [if_neg c13] at H
          have c13b0 : decide ((a0.size : Int) < 8) = false := decide_eq_false c13
          have c13b1 : decide (a0.size < 8) = false := decide_eq_false (by omega)
          clear c13
          obtain ⟨y105, hy105⟩ : ∃ y_ : List Int, y_ = (([a1] : List Int)) := ⟨_, rfl⟩
          replace H : (if a0.size + (strOfNums y105).size ≤ 9223372036854775807 then ((name_Kind.f k (a0 ++ (strOfNums y105))).bind fun t108 => (some (t108 == 0))) else (none)) = some r := by first | (rw [hy105]; with_reducible exact H) | (have H2_ := (Option.bind_some _ _).symm.trans H; rw [hy105]; with_reducible exact H2_) | (have H2_ := (Option.bind_some _ _).symm.trans H; with_reducible exact H2_) | with_reducible exact H | (rw [hy105]; exact H) | exact H
          have Ny105 := Aside0.mk hy105
          clear hy105
          by_cases c16 : a0.size + (strOfNums y105).size ≤ 9223372036854775807
          · rw [if_pos c16] at H
            have c16b0 := eq_true c16
            have c16b1 : decide (a0.size + (strOfNums y105).size ≤ 9223372036854775807) = true := decide_eq_true c16
            try have c16b2 : (9223372036854775807 < a0.size + (strOfNums y105).size) = False := eq_false (Nat.not_lt.2 c16)
            replace H := Option.bind_eq_some_iff.mp H
            obtain ⟨t108, A170, H⟩ := H
            replace H : (some (t108 == 0)) = some r := H
            have A17 := Aside0.mk A170
            clear A170
            obtain rfl := Option.some.inj H
            go_enter Tryd.func8, Tryd.ntmps8
            go_wp2_with (first | ((with_reducible refine gate_callee (f := 9) rfl ?_); refine goesL_ (some 8) rfl rfl Tryd.func9 (by kernel_rfl) rfl #[] rfl (by (try simp only [List.map_toArray, List.map_cons, List.map_nil]); first | done | rfl | (simp only [List.length_drop, List.length_take]; rfl)) ?_; (with_reducible refine (aumbrylaw03_wakes.calls k  true _ A3.out ?glob).mono ?_); (case glob => repeat (first | exact GL.out.below HB.out | (with_reducible refine Glob.alloc ?_ _) | (with_reducible refine Glob.drewN ?_) | (with_reducible refine Glob.drew ?_))); rintro e w18 ⟨rfl, hb⟩; refine ⟨_, rfl, ?_⟩; have n0_ := Aside0.mk (below_step (by repeat (first | (with_reducible first | exact HB.out | apply below_alloc | apply pw_below_drewN | apply below_drew1) | exact HB.out)) hb); clear HB; have HB := n0_; clear n0_; (try clear hb); (try clear hb2); (try clear hk); (try clear hi)) | ((with_reducible refine gate_callee (f := 15) rfl ?_); refine goesL_ (some 12) rfl rfl Tryd.func15 (by kernel_rfl) rfl #[.string a0] rfl (by (try simp only [List.map_toArray, List.map_cons, List.map_nil]); first | done | rfl | (simp only [List.length_drop, List.length_take]; rfl)) ?_; (with_reducible refine (name_Number.calls a0 t102 t103 _ A5.out ?glob).mono ?_); (case glob => repeat (first | exact GL.out.below HB.out | (with_reducible refine Glob.alloc ?_ _) | (with_reducible refine Glob.drewN ?_) | (with_reducible refine Glob.drew ?_))); rintro e w19 ⟨rfl, hb⟩; refine ⟨_, rfl, ?_⟩; have n0_ := Aside0.mk (below_step (by repeat (first | (with_reducible first | exact HB.out | apply below_alloc | apply pw_below_drewN | apply below_drew1) | exact HB.out)) hb); clear HB; have HB := n0_; clear n0_; (try clear hb); (try clear hb2); (try clear hk); (try clear hi)) | ((with_reducible refine gate_callee (f := 10) rfl ?_); refine goesL_ (some 16) rfl rfl Tryd.func10 (by kernel_rfl) rfl #[.string a0] rfl (by (try simp only [List.map_toArray, List.map_cons, List.map_nil]); first | done | rfl | (simp only [List.length_drop, List.length_take]; rfl)) ?_; (with_reducible refine (name_Kind.calls k a0 t104 _ A6.out).mono ?_); rintro e w' ⟨rfl, ⟨nd, rfl⟩⟩; refine ⟨_, rfl, ?_⟩) | ((with_reducible refine gate_dst (N := 33) rfl ?_); (try (refine gate_guard (by rfl) ?_; dsimp only)); refine Kd.R_lit (Kd.int .u8) _ 5 ?hg (N := 33) ?hd (xs := ([a1] : List Int)) (inner := [.int .u8 a1]) (ok := fun _ => True) (okp := fun _ => True) ?hr ?hp (fun _ hk => hk) trivial (Below.refl _ _) (Nat.le_refl _) (by simp) ?_; (case hd => rfl); (case hg => rfl); (case hr => first | (go_simp; done) | (go_simp; rfl)); (case hp => exact (Reps.one (show Kd.M (Kd.int .u8) _ _ _ a1 [.int .u8 a1] from rfl) (Reps.none _ _))); intro v106 w20 ho21 hb hg_ hnew_; clear hg_ hnew_; (first | rw [← Ny105.out] at ho21 | (simp only [Int.reduceToNat] at ho21; rw [← Ny105.out] at ho21)); have n0_ := Aside0.mk (Kd.R_lower ho21 (below_size (by repeat (first | (with_reducible first | exact HB.out | apply below_alloc | apply pw_below_drewN | apply below_drew1) | exact HB.out)))); have n1_ := Aside0.mk (below_step (by repeat (first | (with_reducible first | exact HB.out | apply below_alloc | apply pw_below_drewN | apply below_drew1) | exact HB.out)) hb); clear HB; have HO107 := n0_; have HB := n1_; clear n0_ n1_; clear hb ho21; have hcv22 := own_string (P := Tryd.prog) Tryd.underlying35 Tryd.underlying5 Tryd.underlying9 (Kd.own_of_R HO107.out)) | (go_at_call 10; (with_reducible refine (name_Kind.calls k (a0 ++ (strOfNums y105)) t108 _ A17.out).mono ?_); rintro e w' ⟨rfl, ⟨nd, rfl⟩⟩))
            go_ret
            exact ⟨by first | rfl | (simp [errW_none, errW_some] <;> rfl) | (simp [*, errW_none, errW_some] <;> rfl), by repeat (first | (with_reducible first | exact HB.out | apply below_alloc | apply pw_below_drewN | apply below_drew1) | exact HB.out)⟩
          · rw [if_neg c16] at H
            exact absurd H (by simp)
  · replace c4 := Bool.eq_false_iff.mpr c4
    subst c4
    have H1 : (some false) = some r := by rw [if_neg (show ¬ (false = true) by decide)] at H; exact H
    clear H
    have H := H1
    clear H1
    obtain rfl := Option.some.inj H
    go_enter Tryd.func8, Tryd.ntmps8
    go_wp2_with (first | ((with_reducible refine gate_callee (f := 9) rfl ?_); refine goesL_ (some 8) rfl rfl Tryd.func9 (by kernel_rfl) rfl #[] rfl (by (try simp only [List.map_toArray, List.map_cons, List.map_nil]); first | done | rfl | (simp only [List.length_drop, List.length_take]; rfl)) ?_; (with_reducible refine (aumbrylaw03_wakes.calls k  false _ A3.out ?glob).mono ?_); (case glob => repeat (first | exact GL.out.below HB.out | (with_reducible refine Glob.alloc ?_ _) | (with_reducible refine Glob.drewN ?_) | (with_reducible refine Glob.drew ?_))); rintro e w23 ⟨rfl, hb⟩; refine ⟨_, rfl, ?_⟩; have n0_ := Aside0.mk (below_step (by repeat (first | (with_reducible first | exact HB.out | apply below_alloc | apply pw_below_drewN | apply below_drew1) | exact HB.out)) hb); clear HB; have HB := n0_; clear n0_; (try clear hb); (try clear hb2); (try clear hk); (try clear hi)))
    go_ret
    exact ⟨by first | rfl | (simp [errW_none, errW_some] <;> rfl) | (simp [*, errW_none, errW_some] <;> rfl), by repeat (first | (with_reducible first | exact HB.out | apply below_alloc | apply pw_below_drewN | apply below_drew1) | exact HB.out)⟩


end Go.Proofs.YthngbpkknpmmlaaDoor.P

-- ==== Open
/- What came in and can be read as data, read as the print's kinds: for each kind one fact, put together by the types' shapes. -/
set_option linter.unusedVariables false
namespace Go.Proofs.YthngbpkknpmmlaaDoor.Open
open Go.RowKit Go.Proofs.YthngbpkknpmmlaaDoorW.PrintWords Go.Proofs.YthngbpkknpmmlaaDoor.Rows

structure Opens {α : Type} (P : Program) (t : TypeId) (d : Kd α) (Sz : α → Prop) (Bk : α → Nat) : Prop where
  cells : P.cellsOf t = d.sz
  go : ∀ {H : Type} {enc : TypeId × Value → H} {w : World} {base : Nat} {spare : Nat → Bool} {held : Bool} {n : Nat} {cs : List Value} {x : DataW H × List MemPlace},
    DataW.trod enc P w base spare held n t cs = some x → (∀ m ∈ x.1.weights P t, m ≤ reachBytes) → ∃ v : α, d.K w v cs ∧ Sz v ∧ Bk v ≤ uptoBulk x.1

theorem opens_int {P : Program} {t : TypeId} {k : IntKind} (ht : P.underlying t = some (.int k)) (hc : P.cellsOf t = 1) : Opens P t (Kd.int k) (fun a => (Lit.int k a).wf = true) (fun _ => 1) := by
  refine ⟨hc, fun h _ => ?_⟩
  obtain ⟨a, rfl, rfl, hw⟩ := DataW.trod_int ht h
  exact ⟨a, rfl, hw, by simp [uptoBulk]⟩

theorem opens_string {P : Program} {t : TypeId} (ht : P.underlying t = some .string) (hc : P.cellsOf t = 1) : Opens P t Kd.string (fun s => s.size ≤ 140737488351232) (fun s => s.size + 1) := by
  refine ⟨hc, fun h hw => ?_⟩
  obtain ⟨a, rfl, rfl, hs⟩ := DataW.trod_string ht h
  have hl : a.data.toList.length = a.size := data_length a
  refine ⟨a, rfl, ?_, ?_⟩
  · have := hw a.data.toList.length (by simp [DataW.weights])
    rw [hl] at this
    exact this
  · simp only [uptoBulk]
    omega

/-! Structs: the fields, one behind the other. -/
def offs (P : Program) : List TypeId → Nat → Nat
  | [], _ => 0
  | _, 0 => 0
  | t :: ts, i + 1 => P.cellsOf t + offs P ts i

structure OpensF {α : Type} (P : Program) (ts : List TypeId) (d : Kd α) (Sz : α → Prop) (Bk : α → Nat) : Prop where
  cells : (ts.map P.cellsOf).sum = d.sz
  go : ∀ {H : Type} {enc : TypeId × Value → H} {w : World} {base : Nat} {spare : Nat → Bool} {held : Bool} {n : Nat} {cs : List Value} {xs : List (DataW H × List MemPlace)},
    cs.length = d.sz → xs.length = ts.length → (∀ (i : Nat) t, ts[i]? = some t → DataW.trod enc P w base spare held n t ((cs.drop (offs P ts i)).take (P.cellsOf t)) = xs[i]?) →
    (∀ m ∈ DataW.weightsEach P ts (xs.map (·.1)), m ≤ reachBytes) → ∃ v : α, d.K w v cs ∧ Sz v ∧ Bk v ≤ uptoBulkAll (xs.map (·.1))

end Go.Proofs.YthngbpkknpmmlaaDoor.Open

-- ==== PO
set_option linter.unusedVariables false
namespace Go.Proofs.YthngbpkknpmmlaaDoor.P
open Go.RowKit Go.Proofs.YthngbpkknpmmlaaDoorW.PrintWords Go.Proofs.YthngbpkknpmmlaaDoor.Open
def sz9 (s : ByteArray) : Prop := s.size ≤ 140737488351232
def bk9 (s : ByteArray) : Nat := s.size + 1
theorem op9 : Opens Tryd.prog 9 Kd.string sz9 bk9 := opens_string Tryd.underlying9 (by kernel_rfl)
def sz5 (a : Int) : Prop := (Lit.int .u8 a).wf = true
def bk5 (_ : Int) : Nat := 1
theorem op5 : Opens Tryd.prog 5 (Kd.int .u8) sz5 bk5 := opens_int Tryd.underlying5 (by kernel_rfl)
end Go.Proofs.YthngbpkknpmmlaaDoor.P

-- ==== PS8
namespace Go.Proofs.YthngbpkknpmmlaaDoor.P
open Go.RowKit Go.Proofs.YthngbpkknpmmlaaDoorW.PrintWords
def aumbrylaw03_NameApart.Pure : Prop := ∀ (a0 : ByteArray) (a1 : Int), sz9 a0 → sz5 a1 → ∃ k, aumbrylaw03_NameApart.f k a0 a1 = some true
end Go.Proofs.YthngbpkknpmmlaaDoor.P

-- ==== PF11
namespace Go.Proofs.YthngbpkknpmmlaaDoor.P
open Go.RowKit Go.Proofs.YthngbpkknpmmlaaDoorW.PrintWords Go.Proofs.YthngbpkknpmmlaaDoorW.PrintLast Go.Proofs.YthngbpkknpmmlaaDoorW.PrintMore
attribute [local go_sem] max2_int min2_int max_two min_two max_three min_three max_four min_four   -- for this text's walks alone
set_option linter.unusedVariables false
set_option linter.unusedSimpArgs false

/-! ### aumbryref03_Kind: function 11 -/
mutual
def aumbryref03_Kind.j0 : Nat → ByteArray → Bool → Option (Int)
  | 0, _, _ => none
  | k + 1, x0, x15 => if x15 = true then (some 0) else (aumbryref03_Kind.l0 k x0 true true 0)
def aumbryref03_Kind.l0 : Nat → ByteArray → Bool → Bool → Int → Option (Int)
  | 0, _, _, _, _ => none
  | k + 1, x0, x3, x4, x5 => if x5 < (x0.size : Int) then (if 0 ≤ x5 then (if (bt x0 x5) ≥ 48 then (if (bt x0 x5) ≤ 57 then (if x3 = true then (if (bt x0 x5) ≥ 97 then (if (bt x0 x5) ≤ 122 then (if x4 = true then (if (bt x0 x5) ≥ 65 then (if (bt x0 x5) ≤ 90 then (aumbryref03_Kind.l0 k x0 true true (wrap64 (x5 + 1))) else (aumbryref03_Kind.l0 k x0 true (decide (x5 > 0)) (wrap64 (x5 + 1)))) else (aumbryref03_Kind.l0 k x0 true (decide (x5 > 0)) (wrap64 (x5 + 1)))) else (aumbryref03_Kind.l0 k x0 true false (wrap64 (x5 + 1)))) else (if x4 = true then (if (bt x0 x5) ≥ 65 then (if (bt x0 x5) ≤ 90 then (aumbryref03_Kind.l0 k x0 (decide (x5 > 0)) true (wrap64 (x5 + 1))) else (aumbryref03_Kind.l0 k x0 (decide (x5 > 0)) (decide (x5 > 0)) (wrap64 (x5 + 1)))) else (aumbryref03_Kind.l0 k x0 (decide (x5 > 0)) (decide (x5 > 0)) (wrap64 (x5 + 1)))) else (aumbryref03_Kind.l0 k x0 (decide (x5 > 0)) false (wrap64 (x5 + 1))))) else (if x4 = true then (if (bt x0 x5) ≥ 65 then (if (bt x0 x5) ≤ 90 then (aumbryref03_Kind.l0 k x0 (decide (x5 > 0)) true (wrap64 (x5 + 1))) else (aumbryref03_Kind.l0 k x0 (decide (x5 > 0)) (decide (x5 > 0)) (wrap64 (x5 + 1)))) else (aumbryref03_Kind.l0 k x0 (decide (x5 > 0)) (decide (x5 > 0)) (wrap64 (x5 + 1)))) else (aumbryref03_Kind.l0 k x0 (decide (x5 > 0)) false (wrap64 (x5 + 1))))) else (if x4 = true then (if (bt x0 x5) ≥ 65 then (if (bt x0 x5) ≤ 90 then (aumbryref03_Kind.l0 k x0 false true (wrap64 (x5 + 1))) else (aumbryref03_Kind.l0 k x0 false (decide (x5 > 0)) (wrap64 (x5 + 1)))) else (aumbryref03_Kind.l0 k x0 false (decide (x5 > 0)) (wrap64 (x5 + 1)))) else (aumbryref03_Kind.l0 k x0 false false (wrap64 (x5 + 1))))) else (if x3 = true then (if (bt x0 x5) ≥ 97 then (if (bt x0 x5) ≤ 122 then (if x4 = true then (if (bt x0 x5) ≥ 65 then (if (bt x0 x5) ≤ 90 then (aumbryref03_Kind.l0 k x0 true true (wrap64 (x5 + 1))) else (aumbryref03_Kind.l0 k x0 true false (wrap64 (x5 + 1)))) else (aumbryref03_Kind.l0 k x0 true false (wrap64 (x5 + 1)))) else (aumbryref03_Kind.l0 k x0 true false (wrap64 (x5 + 1)))) else (if x4 = true then (if (bt x0 x5) ≥ 65 then (if (bt x0 x5) ≤ 90 then (aumbryref03_Kind.l0 k x0 false true (wrap64 (x5 + 1))) else (aumbryref03_Kind.l0 k x0 false false (wrap64 (x5 + 1)))) else (aumbryref03_Kind.l0 k x0 false false (wrap64 (x5 + 1)))) else (aumbryref03_Kind.l0 k x0 false false (wrap64 (x5 + 1))))) else (if x4 = true then (if (bt x0 x5) ≥ 65 then (if (bt x0 x5) ≤ 90 then (aumbryref03_Kind.l0 k x0 false true (wrap64 (x5 + 1))) else (aumbryref03_Kind.l0 k x0 false false (wrap64 (x5 + 1)))) else (aumbryref03_Kind.l0 k x0 false false (wrap64 (x5 + 1)))) else (aumbryref03_Kind.l0 k x0 false false (wrap64 (x5 + 1))))) else (if x4 = true then (if (bt x0 x5) ≥ 65 then (if (bt x0 x5) ≤ 90 then (aumbryref03_Kind.l0 k x0 false true (wrap64 (x5 + 1))) else (aumbryref03_Kind.l0 k x0 false false (wrap64 (x5 + 1)))) else (aumbryref03_Kind.l0 k x0 false false (wrap64 (x5 + 1)))) else (aumbryref03_Kind.l0 k x0 false false (wrap64 (x5 + 1)))))) else (if x3 = true then (if (bt x0 x5) ≥ 97 then (if (bt x0 x5) ≤ 122 then (if x4 = true then (if (bt x0 x5) ≥ 65 then (if (bt x0 x5) ≤ 90 then (aumbryref03_Kind.l0 k x0 true true (wrap64 (x5 + 1))) else (aumbryref03_Kind.l0 k x0 true false (wrap64 (x5 + 1)))) else (aumbryref03_Kind.l0 k x0 true false (wrap64 (x5 + 1)))) else (aumbryref03_Kind.l0 k x0 true false (wrap64 (x5 + 1)))) else (if x4 = true then (if (bt x0 x5) ≥ 65 then (if (bt x0 x5) ≤ 90 then (aumbryref03_Kind.l0 k x0 false true (wrap64 (x5 + 1))) else (aumbryref03_Kind.l0 k x0 false false (wrap64 (x5 + 1)))) else (aumbryref03_Kind.l0 k x0 false false (wrap64 (x5 + 1)))) else (aumbryref03_Kind.l0 k x0 false false (wrap64 (x5 + 1))))) else (if x4 = true then (if (bt x0 x5) ≥ 65 then (if (bt x0 x5) ≤ 90 then (aumbryref03_Kind.l0 k x0 false true (wrap64 (x5 + 1))) else (aumbryref03_Kind.l0 k x0 false false (wrap64 (x5 + 1)))) else (aumbryref03_Kind.l0 k x0 false false (wrap64 (x5 + 1)))) else (aumbryref03_Kind.l0 k x0 false false (wrap64 (x5 + 1))))) else (if x4 = true then (if (bt x0 x5) ≥ 65 then (if (bt x0 x5) ≤ 90 then (aumbryref03_Kind.l0 k x0 false true (wrap64 (x5 + 1))) else (aumbryref03_Kind.l0 k x0 false false (wrap64 (x5 + 1)))) else (aumbryref03_Kind.l0 k x0 false false (wrap64 (x5 + 1)))) else (aumbryref03_Kind.l0 k x0 false false (wrap64 (x5 + 1)))))) else (none)) else (if x3 = true then (some 1) else (if x4 = true then (some 2) else (some 0)))
end
def aumbryref03_Kind.f (k : Nat) (a0 : ByteArray) : Option (Int) := if (a0.size : Int) < 1 then (aumbryref03_Kind.j0 k a0 true) else (aumbryref03_Kind.j0 k a0 (decide ((a0.size : Int) > 8)))
end Go.Proofs.YthngbpkknpmmlaaDoor.P

-- ==== PLa
/- Plain laws, part a: what kind a text is: the program's way and the document's way come to one function. -/
namespace Go.Proofs.YthngbpkknpmmlaaDoor.P
open Go.RowKit Go.Proofs.YthngbpkknpmmlaaDoorW.PrintWords
set_option linter.unusedVariables false
set_option linter.unusedSimpArgs false

theorem wrap_up {i : Int} (h0 : 0 ≤ i) (h : i < 9223372036854775807) : wrap64 (i + 1) = i + 1 := by
  unfold wrap64
  omega
theorem evIfp {α : Type} {c : Prop} [Decidable c] {f g : Nat → Option α} {r : α} (h : c) (hf : Ev f r) : Ev (fun k => if c then f k else g k) r :=
  Ev.congr (fun _ => if_pos h) hf
theorem evIfn {α : Type} {c : Prop} [Decidable c] {f g : Nat → Option α} {r : α} (h : ¬ c) (hf : Ev g r) : Ev (fun k => if c then f k else g k) r :=
  Ev.congr (fun _ => if_neg h) hf
def lowB (s : ByteArray) (i : Int) : Bool := (decide (97 ≤ bt s i) && decide (bt s i ≤ 122)) || (decide (48 ≤ bt s i) && decide (bt s i ≤ 57) && decide (0 < i))
def upB (s : ByteArray) (i : Int) : Bool := (decide (65 ≤ bt s i) && decide (bt s i ≤ 90)) || (decide (48 ≤ bt s i) && decide (bt s i ≤ 57) && decide (0 < i))
/-- p holds at i, i + 1, .. (d places). -/
def allN (p : Int → Bool) : Nat → Int → Bool
  | 0, _ => true
  | d + 1, i => p i && allN p d (i + 1)
theorem allN_congr {p q : Int → Bool} : ∀ (d : Nat) (i : Int), (∀ j, i ≤ j → j < i + d → p j = q j) → allN p d i = allN q d i
  | 0, _, _ => rfl
  | d + 1, i, h => by
    simp only [allN]
    rw [h i (Int.le_refl _) (by omega), allN_congr d (i + 1) (fun j h1 h2 => h j (by omega) (by omega))]
def kindS (s : ByteArray) : Int :=
  if s.size < 1 ∨ 8 < s.size then 0 else if allN (lowB s) s.size 0 = true then 1 else if allN (upB s) s.size 0 = true then 2 else 0

theorem kindS_bad {s : ByteArray} (h : s.size < 1 ∨ 8 < s.size) : kindS s = 0 := by
  unfold kindS
  exact if_pos h
theorem kindS_good {s : ByteArray} (h1 : 1 ≤ s.size) (h8 : s.size ≤ 8) : kindS s = (if allN (lowB s) s.size 0 = true then 1 else if allN (upB s) s.size 0 = true then 2 else 0) := by
  unfold kindS
  exact if_neg (by omega)
/-! ### the document's -/
/-! ### the program's -/
def signS (c : Int) : Int × Int := if 97 ≤ c ∧ c ≤ 122 then (1, 1) else if 65 ≤ c ∧ c ≤ 90 then (2, 2) else if 48 ≤ c ∧ c ≤ 57 then (0, 3) else (0, 0)
theorem sign_at (c : Int) (k : Nat) (hk : 2 ≤ k) : name_sign.f k c = some (signS c) := by
  obtain ⟨k, rfl⟩ : ∃ m, k = m + 2 := ⟨k - 2, by omega⟩
  unfold name_sign.f signS
  by_cases c1 : c ≥ 48 <;> by_cases c2 : c ≤ 57 <;> by_cases c3 : c ≥ 97 <;> by_cases c4 : c ≤ 122 <;> by_cases c5 : c ≥ 65 <;> by_cases c6 : c ≤ 90 <;> first | (exfalso; omega) | (simp [name_sign.j0, name_sign.j1, c1, c2, c3, c4, c5, c6])
theorem bits_and_ (a b : Int) (ha : a = 0 ∨ a = 1 ∨ a = 2 ∨ a = 3) (hb : b = 0 ∨ b = 1 ∨ b = 2) : (Go.bits .and .i64 a b = 0) ↔ (b = 0 ∨ (b = 1 ∧ (a = 0 ∨ a = 2)) ∨ (b = 2 ∧ (a = 0 ∨ a = 1))) := by
  rcases ha with rfl | rfl | rfl | rfl <;> rcases hb with rfl | rfl | rfl <;> decide
def goesB (s : ByteArray) (b : Int) (i : Int) : Bool := decide (¬ (Go.bits .and .i64 (signS (bt s i)).2 b = 0))
theorem kind_loop (s : ByteArray) (b : Int) (hs : s.size ≤ 8) : ∀ (d : Nat) (k : Nat) (i : Int), 0 ≤ i → (s.size : Int) - i = d → d + 2 < k →
    name_Kind.l0 k s b (s.size : Int) i = some (if allN (goesB s b) d i = true then b else 0)
  | 0, k, i, h0, hd, hk => by
    obtain ⟨k, rfl⟩ : ∃ m, k = m + 1 := ⟨k - 1, by omega⟩
    simp only [name_Kind.l0]
    rw [if_neg (by omega)]
    simp [allN]
  | d + 1, k, i, h0, hd, hk => by
    obtain ⟨k, rfl⟩ : ∃ m, k = m + 1 := ⟨k - 1, by omega⟩
    simp only [name_Kind.l0]
    rw [if_pos (by omega), if_pos h0, if_pos (by omega), sign_at _ _ (by omega)]
    simp only [Option.bind_some]
    by_cases hg : Go.bits .and .i64 (signS (bt s i)).2 b = 0
    · rw [if_pos hg]
      simp [allN, goesB, hg]
    · rw [if_neg hg, wrap_up h0 (by omega), kind_loop s b hs d k (i + 1) (by omega) (by omega) (by omega)]
      simp [allN, goesB, hg]
theorem signS_two (c : Int) : (signS c).2 = 0 ∨ (signS c).2 = 1 ∨ (signS c).2 = 2 ∨ (signS c).2 = 3 := by
  unfold signS
  repeat' split
  all_goals simp
theorem goes_one (s : ByteArray) (i : Int) (hi : 0 < i) : goesB s 1 i = lowB s i := by
  have h := bits_and_ (signS (bt s i)).2 1 (signS_two _) (by simp)
  unfold goesB lowB
  rw [Bool.eq_iff_iff]
  simp only [decide_eq_true_eq, h, Bool.or_eq_true, Bool.and_eq_true]
  unfold signS
  repeat' split
  all_goals simp
  all_goals omega
theorem goes_two (s : ByteArray) (i : Int) (hi : 0 < i) : goesB s 2 i = upB s i := by
  have h := bits_and_ (signS (bt s i)).2 2 (signS_two _) (by simp)
  unfold goesB upB
  rw [Bool.eq_iff_iff]
  simp only [decide_eq_true_eq, h, Bool.or_eq_true, Bool.and_eq_true]
  unfold signS
  repeat' split
  all_goals simp
  all_goals omega
theorem kind_eq (s : ByteArray) (h1 : 1 ≤ s.size) (h8 : s.size ≤ 8) : (if allN (goesB s (signS (bt s 0)).1) s.size 0 = true then (signS (bt s 0)).1 else 0) = kindS s := by
  rw [kindS_good h1 h8]
  obtain ⟨n, hn⟩ : ∃ n, s.size = n + 1 := ⟨s.size - 1, by omega⟩
  have e1 : allN (goesB s 1) n (0 + 1) = allN (lowB s) n (0 + 1) := allN_congr _ _ (fun j h1 _ => goes_one s j (by omega))
  have e2 : allN (goesB s 2) n (0 + 1) = allN (upB s) n (0 + 1) := allN_congr _ _ (fun j h1 _ => goes_two s j (by omega))
  by_cases hl : 97 ≤ bt s 0 ∧ bt s 0 ≤ 122
  · have hs : signS (bt s 0) = (1, 1) := by unfold signS; rw [if_pos hl]
    have g0 : goesB s 1 0 = true := by unfold goesB; rw [hs]; decide
    have l0 : lowB s 0 = true := by unfold lowB; simp [hl]
    have u0 : upB s 0 = false := by unfold upB; simp; omega
    simp only [hn, hs, allN, e1, g0, l0, u0, Bool.true_and, Bool.false_and]
    split <;> simp
  · by_cases hu : 65 ≤ bt s 0 ∧ bt s 0 ≤ 90
    · have hs : signS (bt s 0) = (2, 2) := by unfold signS; rw [if_neg hl, if_pos hu]
      have g0 : goesB s 2 0 = true := by unfold goesB; rw [hs]; decide
      have l0 : lowB s 0 = false := by unfold lowB; simp; omega
      have u0 : upB s 0 = true := by unfold upB; simp [hu]
      simp only [hn, hs, allN, e2, g0, l0, u0, Bool.true_and, Bool.false_and]
      simp
    · have hs : (signS (bt s 0)).1 = 0 := by unfold signS; rw [if_neg hl, if_neg hu]; split <;> rfl
      have l0 : lowB s 0 = false := by unfold lowB; simp; omega
      have u0 : upB s 0 = false := by unfold upB; simp; omega
      simp only [hn, hs, allN, l0, u0, Bool.true_and, Bool.false_and]
      simp
theorem toList_nil (s : ByteArray) : s.toList = ([] : List UInt8) ↔ s.size = 0 := by
  rw [ByteArray.toList_eq]
  constructor
  · intro h
    have := congrArg List.length h
    simpa [data_length] using this
  · intro h
    apply List.eq_nil_of_length_eq_zero
    rw [data_length]
    exact h
theorem ev_kind (s : ByteArray) : Ev (fun k => name_Kind.f k s) (kindS s) := by
  refine ⟨16, fun k hk => ?_⟩
  show name_Kind.f k s = _
  unfold name_Kind.f
  obtain ⟨k, rfl⟩ : ∃ m, k = m + 1 := ⟨k - 1, by omega⟩
  by_cases h1 : s.toList = ([] : List UInt8)
  · rw [if_pos h1]
    have := (toList_nil s).1 h1
    simp [name_Kind.j0, kindS_bad (s := s) (.inl (by omega))]
  · have h1' : s.size ≠ 0 := fun h => h1 ((toList_nil s).2 h)
    rw [if_neg h1]
    simp only [name_Kind.j0]
    by_cases h2 : (s.size : Int) > 8
    · rw [if_pos (by simpa using h2), kindS_bad (s := s) (.inr (by omega))]
    · rw [if_neg (by simpa using h2), if_pos (by omega), sign_at _ _ (by omega)]
      simp only [Option.bind_some]
      rw [kind_loop s _ (by omega) s.size k 0 (by omega) (by omega) (by omega), kind_eq s (by omega) (by omega)]
end Go.Proofs.YthngbpkknpmmlaaDoor.P

-- ==== PL3w
/- Plain laws of chapter 3: what the statements ask ahead (wakes). -/
namespace Go.Proofs.YthngbpkknpmmlaaDoor.P
open Go.RowKit Go.Proofs.YthngbpkknpmmlaaDoorW.PrintWords
set_option linter.unusedVariables false
set_option maxRecDepth 100000 in
theorem ev_wakes3 : Ev (fun k => aumbrylaw03_wakes.f k) true := Ev.of (g := fun k => aumbrylaw03_wakes.f k) aumbrylaw03_wakes.mono (k := 40) (by kernel_rfl)
end Go.Proofs.YthngbpkknpmmlaaDoor.P

-- ==== PF12
namespace Go.Proofs.YthngbpkknpmmlaaDoor.P
open Go.RowKit Go.Proofs.YthngbpkknpmmlaaDoorW.PrintWords Go.Proofs.YthngbpkknpmmlaaDoorW.PrintLast Go.Proofs.YthngbpkknpmmlaaDoorW.PrintMore
attribute [local go_sem] max2_int min2_int max_two min_two max_three min_three max_four min_four   -- for this text's walks alone
set_option linter.unusedVariables false
set_option linter.unusedSimpArgs false

/-! ### aumbryref03_Same: function 12 -/
def aumbryref03_Same.l0 : Nat → List ByteArray → List ByteArray → Int → Int → Option (Bool)
  | 0, _, _, _, _ => none
  | k + 1, x0, x1, x12, x13 => if x13 < x12 then (if 0 ≤ x13 then (if x13 < (x0.length : Int) then (if x13 < (x1.length : Int) then (if (rdOf ByteArray.empty x0 x13).toList = (rdOf ByteArray.empty x1 x13).toList then (aumbryref03_Same.l0 k x0 x1 x12 (wrap64 (x13 + 1))) else (some false)) else (none)) else (none)) else (none)) else (some true)
def aumbryref03_Same.f (k : Nat) (l0 : List ByteArray) (l1 : List ByteArray) : Option (Bool) := if (l0.length : Int) = (l1.length : Int) then (aumbryref03_Same.l0 k l0 l1 (l0.length : Int) 0) else (some false)
end Go.Proofs.YthngbpkknpmmlaaDoor.P

-- ==== PL3g
/- Plain laws of chapter 3: texts as lists of bytes. -/
namespace Go.Proofs.YthngbpkknpmmlaaDoor.P
open Go.RowKit Go.Proofs.YthngbpkknpmmlaaDoorW.PrintWords
set_option linter.unusedVariables false
set_option linter.unusedSimpArgs false
theorem drop_cons {α : Type} {t : List α} {n : Nat} {c : α} {s : List α} (h : t.drop n = c :: s) : n < t.length ∧ (∀ d, t.getD n d = c) ∧ t.drop (n + 1) = s := by
  have h1 : n < t.length := by
    rcases Nat.lt_or_ge n t.length with h1 | h1
    · exact h1
    · rw [List.drop_eq_nil_of_le h1] at h
      cases h
  rw [List.drop_eq_getElem_cons h1] at h
  injection h with h2 h3
  exact ⟨h1, fun d => by rw [List.getD_eq_getElem?_getD, List.getElem?_eq_getElem h1]; exact h2, h3⟩
abbrev bl (s : ByteArray) : List UInt8 := s.data.toList
theorem bl_len (s : ByteArray) : (bl s).length = s.size := data_length s
theorem bl_inj {a b : ByteArray} (h : bl a = bl b) : a = b := by
  cases a; cases b
  simp only [ByteArray.mk.injEq]
  exact Array.toList_inj.1 h
theorem bt_drop {s : ByteArray} {j : Nat} {x : UInt8} {r : List UInt8} (h : (bl s).drop j = x :: r) : j < s.size ∧ bt s (j : Int) = (x.toNat : Int) ∧ (bl s).drop (j + 1) = r := by
  obtain ⟨h1, h2, h3⟩ := drop_cons h
  rw [bl_len] at h1
  refine ⟨h1, ?_, h3⟩
  unfold bt
  simp only [Int.toNat_natCast]
  rw [dif_pos h1]
  have := h2 0
  rw [List.getD_eq_getElem?_getD, List.getElem?_eq_getElem (by rw [bl_len]; exact h1)] at this
  simp only [Option.getD_some] at this
  rw [← this]
  simp [bl, ByteArray.getElem_eq_getElem_data]
theorem evIs_ {α : Type} {a : α} {o : Option α} (h : o = some a) : Ev (fun _ => o) a := by rw [h]; exact Ev.now _
end Go.Proofs.YthngbpkknpmmlaaDoor.P

-- ==== PL3d
/- Plain laws of chapter 3: numbers and their digits (no program in sight). -/
namespace Go.Proofs.YthngbpkknpmmlaaDoor.P
open Go.RowKit Go.Proofs.YthngbpkknpmmlaaDoorW.PrintWords
set_option linter.unusedVariables false
set_option linter.unusedSimpArgs false
def dgt (c : UInt8) : Prop := 48 ≤ c.toNat ∧ c.toNat ≤ 57
instance (c : UInt8) : Decidable (dgt c) := inferInstanceAs (Decidable (_ ∧ _))
def vl (a : Nat) (l : List UInt8) : Nat := l.foldl (fun a c => a * 10 + (c.toNat - 48)) a
theorem vl_nil (a : Nat) : vl a [] = a := rfl
theorem vl_cons (a : Nat) (c : UInt8) (l : List UInt8) : vl a (c :: l) = vl (a * 10 + (c.toNat - 48)) l := by unfold vl; rw [List.foldl_cons]
theorem vl_snoc (a : Nat) (l : List UInt8) (c : UInt8) : vl a (l ++ [c]) = vl a l * 10 + (c.toNat - 48) := by simp [vl]
theorem vl_ge : ∀ (l : List UInt8) (a : Nat), a * 10 ^ l.length ≤ vl a l
  | [], a => by simp [vl]
  | c :: l, a => by
    have := vl_ge l (a * 10 + (c.toNat - 48))
    rw [vl_cons, List.length_cons, Nat.pow_succ]
    have h : a * (10 ^ l.length * 10) ≤ (a * 10 + (c.toNat - 48)) * 10 ^ l.length := by
      rw [Nat.mul_comm (10 ^ l.length) 10, ← Nat.mul_assoc]
      exact Nat.mul_le_mul_right _ (by omega)
    omega
theorem dig_toNat {n : Nat} (h : n < 10) : (UInt8.ofNat (48 + n)).toNat = 48 + n := by
  rw [UInt8.toNat_ofNat']
  omega
theorem dig_back {c : UInt8} (h : dgt c) : UInt8.ofNat (48 + (c.toNat - 48)) = c := by
  unfold dgt at h
  have : 48 + (c.toNat - 48) = c.toNat := by omega
  rw [this]
  exact UInt8.ofNat_toNat
theorem dec_step (u : Nat) : Lib.decDigits u = if u < 10 then [UInt8.ofNat (48 + u)] else Lib.decDigits (u / 10) ++ [UInt8.ofNat (48 + u % 10)] := by
  rw [Lib.decDigits]
  split <;> rfl
/-- What the digits of a number are. -/
theorem dec_facts : ∀ (n u : Nat), u ≤ n → Lib.decDigits u ≠ [] ∧ (∀ c ∈ Lib.decDigits u, dgt c) ∧ vl 0 (Lib.decDigits u) = u ∧ (0 < u → ∃ c r, Lib.decDigits u = c :: r ∧ 49 ≤ c.toNat)
  | n, u, h => by
    rw [dec_step]
    by_cases hu : u < 10
    · rw [if_pos hu]
      refine ⟨by simp, fun c hc => ?_, ?_, fun h0 => ⟨_, _, rfl, by rw [dig_toNat hu]; omega⟩⟩
      · rw [List.mem_singleton.1 hc]
        unfold dgt
        rw [dig_toNat hu]
        omega
      · rw [vl_cons, vl_nil, dig_toNat hu]
        omega
    · rw [if_neg hu]
      cases n with
      | zero => omega
      | succ n =>
        obtain ⟨h1, h2, h3, h4⟩ := dec_facts n (u / 10) (by omega)
        have hm : u % 10 < 10 := Nat.mod_lt _ (by omega)
        refine ⟨by simp, fun c hc => ?_, ?_, fun _ => ?_⟩
        · rcases List.mem_append.1 hc with hc | hc
          · exact h2 c hc
          · rw [List.mem_singleton.1 hc]
            unfold dgt
            rw [dig_toNat hm]
            omega
        · rw [vl_snoc, h3, dig_toNat hm]
          omega
        · obtain ⟨c, r, h5, h6⟩ := h4 (by omega)
          exact ⟨c, r ++ [UInt8.ofNat (48 + u % 10)], by rw [h5]; rfl, h6⟩
theorem dec_ne (u : Nat) : Lib.decDigits u ≠ [] := (dec_facts u u (Nat.le_refl _)).1
theorem dec_dig (u : Nat) : ∀ c ∈ Lib.decDigits u, dgt c := (dec_facts u u (Nat.le_refl _)).2.1
theorem dec_vl (u : Nat) : vl 0 (Lib.decDigits u) = u := (dec_facts u u (Nat.le_refl _)).2.2.1
/-- Digits without a nought ahead are their number's digits. -/
theorem dec_back : ∀ (n : Nat) (l : List UInt8), l.length ≤ n → l ≠ [] → (∀ c ∈ l, dgt c) → (∀ c r, l = c :: r → c.toNat = 48 → r = []) → Lib.decDigits (vl 0 l) = l
  | 0, l, hn, h0, _, _ => by
    cases l with
    | nil => exact absurd rfl h0
    | cons c r => simp at hn
  | n + 1, l, hn, h0, hd, hz => by
    obtain ⟨i, c, rfl⟩ : ∃ i c, l = i ++ [c] := ⟨l.dropLast, l.getLast h0, (List.dropLast_concat_getLast h0).symm⟩
    have hc := hd c (by simp)
    have hc' := hc
    unfold dgt at hc'
    rw [vl_snoc, dec_step]
    cases i with
    | nil =>
      rw [vl_nil, if_pos (by omega)]
      have : 0 * 10 + (c.toNat - 48) = c.toNat - 48 := by omega
      rw [this, dig_back hc]
      rfl
    | cons a r =>
      have ha : ¬ a.toNat = 48 := fun h => by
        have := hz a (r ++ [c]) rfl h
        simp at this
      have ha' := hd a (by simp)
      unfold dgt at ha'
      have h1 : 1 ≤ vl 0 (a :: r) := by
        have := vl_ge r (0 * 10 + (a.toNat - 48))
        rw [vl_cons]
        have h2 : 1 ≤ 10 ^ r.length := Nat.one_le_pow _ _ (by omega)
        have h3 : 1 * 1 ≤ (0 * 10 + (a.toNat - 48)) * 10 ^ r.length := Nat.mul_le_mul (by omega) h2
        omega
      rw [if_neg (by omega)]
      have e1 : (vl 0 (a :: r) * 10 + (c.toNat - 48)) / 10 = vl 0 (a :: r) := by omega
      have e2 : (vl 0 (a :: r) * 10 + (c.toNat - 48)) % 10 = c.toNat - 48 := by omega
      rw [e1, e2, dig_back hc, dec_back n (a :: r) (by simp at hn ⊢; omega) (by simp) (fun d hd' => hd d (by simp at hd' ⊢; rcases hd' with h | h <;> simp [h])) (fun x y h hx => by
        injection h with h _
        subst h
        exact absurd hx ha)]
/-! ### what the library reads -/
theorem parseM_ok {M : Nat} (hM : M ≤ 18446744073709551615) : ∀ (l : List UInt8) (a : Nat), (∀ c ∈ l, dgt c) → vl a l ≤ M → Lib.parseUintM M a l = .ok (vl a l)
  | [], a, _, h => rfl
  | c :: l, a, hd, h => by
    have hc := hd c (List.mem_cons_self ..)
    have hc' := hc
    unfold dgt at hc
    rw [vl_cons] at h ⊢
    have h1 := vl_ge l (a * 10 + (c.toNat - 48))
    have h2 : 1 ≤ 10 ^ l.length := Nat.one_le_pow _ _ (by omega)
    have h3 := Nat.mul_le_mul_left (a * 10 + (c.toNat - 48)) h2
    unfold Lib.parseUintM
    rw [if_pos hc, if_neg (by omega), if_neg (by omega)]
    exact parseM_ok hM l _ (fun d hd' => hd d (List.mem_cons_of_mem _ hd')) h
theorem parseU_dec {m : Nat} (h : m ≤ 18446744073709551615) : Lib.parseUintB 64 (Lib.decDigits m) = .ok m := by
  unfold Lib.parseUintB
  rw [if_neg (dec_ne m), parseM_ok (by decide) _ _ (dec_dig m) (by rw [dec_vl]; exact h), dec_vl]
theorem parseI_itoa {v : Int} (h0 : -9223372036854775808 ≤ v) (h1 : v ≤ 9223372036854775807) : Lib.parseIntB 64 (Lib.itoa v) = .ok v := by
  unfold Lib.itoa
  by_cases hv : v < 0
  · rw [if_pos hv, Lib.parseIntB_minus, parseU_dec (by omega)]
    unfold Lib.signedC
    simp only
    rw [if_neg (by show ¬ (9223372036854775808 : Nat) < _; omega)]
    congr 1
    omega
  · rw [if_neg hv]
    obtain ⟨c, r, hcr⟩ : ∃ c r, Lib.decDigits v.toNat = c :: r := by
      cases h : Lib.decDigits v.toNat with
      | nil => exact absurd h (dec_ne _)
      | cons c r => exact ⟨c, r, rfl⟩
    have hc := dec_dig v.toNat c (by rw [hcr]; exact List.mem_cons_self ..)
    unfold dgt at hc
    have hp := parseU_dec (m := v.toNat) (by omega)
    rw [hcr] at hp ⊢
    rw [Lib.parseIntB_plain 64 c r (by omega) (by omega), hp]
    unfold Lib.signlessC
    simp only
    rw [if_neg (by show ¬ (9223372036854775808 : Nat) ≤ _; omega)]
    congr 1
    omega
end Go.Proofs.YthngbpkknpmmlaaDoor.P

-- ==== PF18
namespace Go.Proofs.YthngbpkknpmmlaaDoor.P
open Go.RowKit Go.Proofs.YthngbpkknpmmlaaDoorW.PrintWords Go.Proofs.YthngbpkknpmmlaaDoorW.PrintLast Go.Proofs.YthngbpkknpmmlaaDoorW.PrintMore
attribute [local go_sem] max2_int min2_int max_two min_two max_three min_three max_four min_four   -- for this text's walks alone
set_option linter.unusedVariables false
set_option linter.unusedSimpArgs false

/-! ### aumbryref03_Write: function 18 -/
mutual
def aumbryref03_Write.l0 : Nat → Int → ByteArray → Option (ByteArray)
  | 0, _, _ => none
  | k + 1, x0, x3 => if x0 > 9 then ((some (([(wrap64 (48 + (Int.tmod x0 10))) % 256] : List Int) : List Int)).bind fun y102 => (if (strOfNums y102).size + x3.size ≤ 9223372036854775807 then (aumbryref03_Write.l0 k (wrap64 (Int.tdiv x0 10)) ((strOfNums y102) ++ x3)) else (none))) else ((some (([(wrap64 (48 + x0)) % 256] : List Int) : List Int)).bind fun y105 => (if (strOfNums y105).size + x3.size ≤ 9223372036854775807 then (some ((strOfNums y105) ++ x3)) else (none)))
def aumbryref03_Write.f : Nat → Int → Option (ByteArray)
  | 0, _ => none
  | k + 1, a0 => if a0 = (-9223372036854775808) then (some (⟨#[45, 57, 50, 50, 51, 51, 55, 50, 48, 51, 54, 56, 53, 52, 55, 55, 53, 56, 48, 56]⟩ : ByteArray)) else (if a0 < 0 then ((aumbryref03_Write.f k (wrap64 (-a0))).bind fun t101 => (if 1 + t101.size ≤ 9223372036854775807 then (some ((⟨#[45]⟩ : ByteArray) ++ t101)) else (none))) else (aumbryref03_Write.l0 k a0 (⟨#[]⟩ : ByteArray)))
end
end Go.Proofs.YthngbpkknpmmlaaDoor.P

-- ==== PF16
namespace Go.Proofs.YthngbpkknpmmlaaDoor.P
open Go.RowKit Go.Proofs.YthngbpkknpmmlaaDoorW.PrintWords Go.Proofs.YthngbpkknpmmlaaDoorW.PrintLast Go.Proofs.YthngbpkknpmmlaaDoorW.PrintMore
attribute [local go_sem] max2_int min2_int max_two min_two max_three min_three max_four min_four   -- for this text's walks alone
set_option linter.unusedVariables false
set_option linter.unusedSimpArgs false

/-! ### aumbryref03_Number: function 16 -/
mutual
def aumbryref03_Number.j0 : Nat → ByteArray → Int → Bool → Option (Int × Int)
  | 0, _, _, _ => none
  | k + 1, x0, x4, x14 => if x14 = true then (aumbryref03_Number.j1 k x0 1) else (aumbryref03_Number.j1 k x0 x4)
def aumbryref03_Number.j1 : Nat → ByteArray → Int → Option (Int × Int)
  | 0, _, _ => none
  | k + 1, x0, x4 => if (x0.size : Int) = x4 then (aumbryref03_Number.j2 k x0 x4 true) else (if (wrap64 ((x0.size : Int) - x4)) > 19 then (aumbryref03_Number.j2 k x0 x4 true) else (if 0 ≤ x4 then (if x4 < (x0.size : Int) then (if (bt x0 x4) = 48 then (aumbryref03_Number.j2 k x0 x4 (decide ((x0.size : Int) > 1))) else (aumbryref03_Number.j2 k x0 x4 false)) else (none)) else (none)))
def aumbryref03_Number.j2 : Nat → ByteArray → Int → Bool → Option (Int × Int)
  | 0, _, _, _ => none
  | k + 1, x0, x4, x36 => if x36 = true then (some (0, 13)) else (aumbryref03_Number.l0 k x0 x4 0 x4)
def aumbryref03_Number.l0 : Nat → ByteArray → Int → Int → Int → Option (Int × Int)
  | 0, _, _, _, _ => none
  | k + 1, x0, x4, x5, x6 => if x6 < (x0.size : Int) then (if 0 ≤ x6 then (if (bt x0 x6) < 48 then (some (0, 13)) else (if (bt x0 x6) > 57 then (some (0, 13)) else (aumbryref03_Number.l0 k x0 x4 (IntKind.u64.wrap ((IntKind.u64.wrap (x5 * 10)) + (((bt x0 x6) - 48) % 256))) (wrap64 (x6 + 1))))) else (none)) else (if x5 > 9223372036854775808 then (aumbryref03_Number.j4 k x4 x5 true) else (if x5 = 9223372036854775808 then (aumbryref03_Number.j4 k x4 x5 (x4 == 0)) else (aumbryref03_Number.j4 k x4 x5 false)))
def aumbryref03_Number.j4 : Nat → Int → Int → Bool → Option (Int × Int)
  | 0, _, _, _ => none
  | k + 1, x4, x5, x71 => if x71 = true then (some (0, 13)) else (if x4 = 1 then (some (wrap64 ((wrap64 (-(wrap64 (IntKind.u64.wrap (x5 - 1))))) - 1), 0)) else (some (wrap64 (x5), 0)))
end
def aumbryref03_Number.f (k : Nat) (a0 : ByteArray) : Option (Int × Int) := if (a0.size : Int) > 0 then (if 0 < (a0.size : Int) then (aumbryref03_Number.j0 k a0 0 ((bt a0 0) == 45)) else (none)) else (aumbryref03_Number.j0 k a0 0 false)
end Go.Proofs.YthngbpkknpmmlaaDoor.P

-- ==== PL3n
/- Plain laws of chapter 3: numbers: what is written, what is read. -/
namespace Go.Proofs.YthngbpkknpmmlaaDoor.P
open Go.RowKit Go.Proofs.YthngbpkknpmmlaaDoorW.PrintWords
set_option linter.unusedVariables false
set_option linter.unusedSimpArgs false
def minL : List UInt8 := [57, 50, 50, 51, 51, 55, 50, 48, 51, 54, 56, 53, 52, 55, 55, 53, 56, 48, 56]
theorem dec_min : Lib.decDigits 9223372036854775808 = minL := by
  have h := dec_back 19 minL (by decide) (by decide) (by decide) (fun c r h hc => by
    injection h with h _
    subst h
    exact absurd hc (by decide))
  have e : vl 0 minL = 9223372036854775808 := by decide
  rw [e] at h
  exact h
theorem wrS_itoa {v : Int} (h0 : -9223372036854775808 ≤ v) (h1 : v ≤ 9223372036854775807) : bl (wrS v) = Lib.itoa v := by
  unfold wrS
  by_cases h : v = -9223372036854775808
  · rw [if_pos h]
    subst h
    unfold Lib.itoa
    rw [if_pos (by decide)]
    show _ = 45 :: Lib.decDigits 9223372036854775808
    rw [dec_min]
    rfl
  · rw [if_neg h]
theorem wr_iff {v : Int} (h0 : -9223372036854775808 ≤ v) (h1 : v ≤ 9223372036854775807) (s : ByteArray) : wrS v = s ↔ bl s = Lib.itoa v := by
  rw [← wrS_itoa h0 h1]
  exact ⟨fun h => by rw [h], fun h => bl_inj h.symm⟩
theorem numS_ok {s : ByteArray} {v : Int} (h0 : -9223372036854775808 ≤ v) (h1 : v ≤ 9223372036854775807) (h : bl s = Lib.itoa v) : numS s = (v, 0) := by
  unfold numS
  have e : Lib.parseIntB 64 s.data.toList = .ok v := by
    show Lib.parseIntB 64 (bl s) = _
    rw [h]
    exact parseI_itoa h0 h1
  rw [e]
  simp only
  rw [if_pos ((wr_iff h0 h1 s).2 h)]
theorem numS_no {s : ByteArray} (h : ∀ v : Int, -9223372036854775808 ≤ v → v ≤ 9223372036854775807 → bl s ≠ Lib.itoa v) : numS s = (0, 13) := by
  unfold numS
  cases hp : Lib.parseIntB 64 s.data.toList with
  | ok v =>
    obtain ⟨b0, b1⟩ := Lib.parseIntB_bounds hp
    have b0' : -9223372036854775808 ≤ v := by simpa using b0
    have b1' : v ≤ 9223372036854775807 := by
      have : v < 9223372036854775808 := by simpa using b1
      omega
    simp only
    rw [if_neg (fun e => h v b0' b1' ((wr_iff b0' b1' s).1 e))]
  | «syntax» => rfl
  | range => rfl
theorem numS_cases (s : ByteArray) : (∃ v : Int, -9223372036854775808 ≤ v ∧ v ≤ 9223372036854775807 ∧ bl s = Lib.itoa v ∧ numS s = (v, 0)) ∨ ((∀ v : Int, -9223372036854775808 ≤ v → v ≤ 9223372036854775807 → bl s ≠ Lib.itoa v) ∧ numS s = (0, 13)) := by
  by_cases h : ∃ v : Int, -9223372036854775808 ≤ v ∧ v ≤ 9223372036854775807 ∧ bl s = Lib.itoa v
  · obtain ⟨v, h0, h1, h2⟩ := h
    exact .inl ⟨v, h0, h1, h2, numS_ok h0 h1 h2⟩
  · have h' : ∀ v : Int, -9223372036854775808 ≤ v → v ≤ 9223372036854775807 → bl s ≠ Lib.itoa v := fun v h0 h1 h2 => h ⟨v, h0, h1, h2⟩
    exact .inr ⟨h', numS_no h'⟩
/-! ### the document's Write -/
end Go.Proofs.YthngbpkknpmmlaaDoor.P

-- ==== PureNameApart
/- No text is a symbol and a number, or a variable and a number, and one sign more behind a name of eight makes it none: for every text and byte, the law answers true. -/
namespace Go.Proofs.YthngbpkknpmmlaaDoor.Pure
open Go.RowKit Go.Proofs.YthngbpkknpmmlaaDoor.P Go.Proofs.YthngbpkknpmmlaaDoorW.PrintWords
set_option linter.unusedVariables false
theorem numA_at (s : ByteArray) (h : s.size ≤ 281474976710656) : name_Number.f s = some (numS s) := by
  unfold name_Number.f
  rw [if_pos h]
theorem kind_first {s : ByteArray} (h : kindS s ≠ 0) : ∃ c r, bl s = c :: r ∧ 65 ≤ c.toNat := by
  cases hb : bl s with
  | nil =>
    exfalso
    have := bl_len s
    rw [hb] at this
    simp only [List.length_nil] at this
    exact h (kindS_bad (.inl (by omega)))
  | cons c r =>
    refine ⟨c, r, rfl, ?_⟩
    have hl := bl_len s
    rw [hb, List.length_cons] at hl
    have hd : (bl s).drop 0 = c :: r := by rw [hb]; rfl
    obtain ⟨_, g2, _⟩ := bt_drop hd
    have g2' : bt s 0 = (c.toNat : Int) := g2
    have h8 : s.size ≤ 8 := by
      rcases Nat.lt_or_ge 8 s.size with h1 | h1
      · exact absurd (kindS_bad (.inr h1)) h
      · exact h1
    rw [kindS_good (by omega) h8] at h
    have e : s.size = r.length + 1 := hl.symm
    rw [e] at h
    apply Classical.byContradiction
    intro hc
    apply h
    have a1 : decide ((97 : Int) ≤ (c.toNat : Int)) = false := decide_eq_false (by omega)
    have a2 : decide ((65 : Int) ≤ (c.toNat : Int)) = false := decide_eq_false (by omega)
    have l1 : lowB s 0 = false := by unfold lowB; rw [g2', a1]; simp
    have l2 : upB s 0 = false := by unfold upB; rw [g2', a2]; simp
    have f1 : allN (lowB s) (r.length + 1) 0 = false := by simp only [allN]; rw [l1]; rfl
    have f2 : allN (upB s) (r.length + 1) 0 = false := by simp only [allN]; rw [l2]; rfl
    rw [f1, f2]
    rfl
theorem itoa_first {v : Int} {c : UInt8} {r : List UInt8} (h : Lib.itoa v = c :: r) : c.toNat < 65 := by
  unfold Lib.itoa at h
  by_cases hv : v < 0
  · rw [if_pos hv] at h
    injection h with h _
    rw [← h]
    decide
  · rw [if_neg hv] at h
    have := dec_dig v.toNat c (by rw [h]; exact List.mem_cons_self ..)
    unfold dgt at this
    omega
theorem NameApart : aumbrylaw03_NameApart.Pure := by
  intro s c hs hc
  have hs' : s.size ≤ 281474976710656 := Nat.le_trans hs (by decide)
  have hs2 : s.size ≤ 140737488351232 := hs
  refine Ev.rounds ?_
  unfold aumbrylaw03_NameApart.f
  refine Ev.bind ev_wakes3 (evIfp rfl ?_)
  refine Ev.bind (evIs_ (numA_at s hs')) (Ev.bind (ev_kind s) ?_)
  by_cases hk : kindS s = 0
  · exact evIfp hk (Ev.now _)
  · refine evIfn hk ?_
    have h2 : (numS s).2 ≠ 0 := by
      rcases numS_cases s with ⟨m, b0, b1, b2, b3⟩ | ⟨b1, b2⟩
      · exfalso
        obtain ⟨x, r, e1, e2⟩ := kind_first hk
        rw [e1] at b2
        have := itoa_first b2.symm
        omega
      · rw [b2]
        decide
    refine evIfn h2 ?_
    by_cases h8 : (s.size : Int) < 8
    · exact evIfp h8 (Ev.now _)
    · refine evIfn h8 (Ev.bind (evIs_ rfl) ?_)
      have e1 : (strOfNums [c]).size = 1 := strOfNums_size [c]
      refine evIfp (by rw [e1]; omega) (Ev.bind (ev_kind _) ?_)
      have hb : kindS (s ++ strOfNums [c]) = 0 := kindS_bad (.inr (by rw [ByteArray.size_append, e1]; omega))
      rw [hb]
      exact Ev.now _
end Go.Proofs.YthngbpkknpmmlaaDoor.Pure

-- ==== RowNameApart
namespace Go.Proofs.YthngbpkknpmmlaaDoor.nameApart
open Go.ChangeShapes Go.WideShapes Go.ChangeAt Go.RowKit Go.Proofs.YthngbpkknpmmlaaDoorW.PrintWords Go.Proofs.YthngbpkknpmmlaaDoor.P Go.Proofs.YthngbpkknpmmlaaDoor.Open
open Go.ChangeMaps (open_string shut_string)
set_option linter.unusedVariables false
theorem own : ownKnob Tryd.prog.godebug = none := by kernel_rfl
theorem laidOut : laidOutB Tryd.prog = true := by kernel_rfl
set_option maxRecDepth 100000 in
theorem core {H : Type} {enc : TypeId × Value → H} (W : World) (base : Nat) (args : Array Value) (ds gs : List (DataW H)) (before : List MemPlace)
    (hval : ∀ (j : Nat) t v, Tryd.f8.params[j]? = some t → args[j]? = some v → Value.okWide Tryd.prog W .any base t v)
    (hW : DataW.Whole enc Tryd.prog Tryd.f8.params.toList Rows.nameApartSpec.vars false W args.toList ds gs before)
    (hsz : (DataW.weightsEach Tryd.prog (Tryd.f8.params.toList ++ Rows.nameApartSpec.plain.varTypes Tryd.prog) (ds ++ gs)).all (· ≤ reachBytes) = true)
    (hL : laidMetH Tryd.prog Rows.nameApartRow.laid W)
    :
    Calls Tryd.prog 8 args W fun e W' => ∃ v, e = .returned v ∧ Rows.nameApartSpec.post enc Tryd.prog Tryd.f8 false true false false W args v W' := by
  have hW' := hW
  obtain ⟨p, q, hA, hV, rfl, hfz, hnd⟩ := hW
  rw [Tryd.params8] at hA hval hsz
  obtain ⟨v0, vs0, d0, ds0, p0, q0, hargs, rfl, rfl, h0, r0⟩ := trodAll_cons hA
  obtain ⟨v1, vs1, d1, ds1, p1, q1, rfl, rfl, rfl, h1, r1⟩ := trodAll_cons r0
  obtain ⟨rfl, rfl, rfl⟩ := trodAll_nil r1
  obtain rfl : args = #[v0, v1] := by cases args; simp_all
  obtain ⟨rfl, rfl⟩ := trodVars_none hV
  have k0 := h0
  obtain ⟨n0, hf0⟩ := h0
  obtain ⟨x0, hK0, hS0, hB0⟩ := op9.go hf0 (fun m hm => by have := List.all_eq_true.1 hsz m (DataW.weights_mem_each (j := 0) rfl rfl m hm); simpa using this)
  have lt0 : ∀ z ∈ p0, z.block < W.heap.size := by obtain ⟨m, hm⟩ := k0; exact DataW.trod_lt m _ _ _ hm
  obtain ⟨y0, rfl⟩ := okWide_string Tryd.underlying9 (hval 0 9 v0 rfl rfl)
  have hcs0' : [_] = [_] := hK0
  injection hcs0' with hcs0'
  injection hcs0' with hq0
  subst hq0
  have k1 := h1
  obtain ⟨n1, hf1⟩ := h1
  obtain ⟨x1, hK1, hS1, hB1⟩ := op5.go hf1 (fun m hm => by have := List.all_eq_true.1 hsz m (DataW.weights_mem_each (j := 1) rfl rfl m hm); simpa using this)
  have lt1 : ∀ z ∈ p1, z.block < W.heap.size := by obtain ⟨m, hm⟩ := k1; exact DataW.trod_lt m _ _ _ hm
  obtain ⟨y1, rfl⟩ := okWide_int Tryd.underlying5 (hval 1 5 v1 rfl rfl)
  have hcs1' : [_] = [_] := hK1
  injection hcs1' with hcs1'
  injection hcs1' with _ hq1
  subst hq1
  obtain ⟨k, h⟩ := Pure.NameApart y0 y1 hS0 hS1
  refine (aumbrylaw03_NameApart.calls k y0 y1 true W h (glob_row hL)).mono ?_
  rintro e W' ⟨rfl, hd⟩
  have bel : Below W.heap.size W W' := hd
  exact ⟨_, rfl, _, _, _, [], _, [], hW', trodAll_mk1 (shut_bool Tryd.underlying4 _), (trodAll_cons_mk (Below.trod laidOut (by kernel_rfl) (of_decide_eq_true (by kernel_rfl)) k0 bel lt0) (trodAll_cons_mk (Below.trod laidOut (by kernel_rfl) (of_decide_eq_true (by kernel_rfl)) k1 bel lt1) trodAll_mk0)), rfl, bel.frame _, fun h => by cases h⟩
set_option maxRecDepth 100000 in
theorem laid_met (os : Os) : laidMet Tryd.prog Rows.nameApartRow.laid ((World.laidAll Tryd.prog os Rows.nameApartRow.laid).forCall (fun _ _ => 0) ⟨#[], #[.string ByteArray.empty, .int .u8 0], []⟩).memory :=
  laidMet_laidAll _ (by kernel_rfl) (by kernel_rfl)
set_option maxRecDepth 100000 in
theorem reads (os : Os) {H : Type} (enc : TypeId × Value → H) : (DataW.whole enc Tryd.prog ((World.laidAll Tryd.prog os Rows.nameApartRow.laid).forCall (fun _ _ => 0) ⟨#[], #[.string ByteArray.empty, .int .u8 0], []⟩).memory Tryd.f8.params.toList Rows.nameApartSpec.vars false (#[.string ByteArray.empty, .int .u8 0] : Array Value).toList 8).isSome = true := by kernel_rfl
set_option maxRecDepth 100000 in
theorem lifted (os : Os) (started : os.Started) (H : Type) (enc : TypeId × Value → H) (F : Stop.Interp) :
    ReturnsInHanded {} Tryd.checked os 8 .any ((OpenSpec.ofChange Rows.nameApartSpec).preRow enc Tryd.prog Tryd.f8 Rows.nameApartRow.domain false Rows.nameApartRow.laid) (((OpenSpec.ofChange Rows.nameApartSpec).at F).post enc Tryd.prog Tryd.f8 false true false false) := by
  obtain ⟨x, hx⟩ := Option.isSome_iff_exists.1 (reads os enc)
  refine returnsInHanded_of_row (C := Tryd.checked) (s := OpenSpec.ofChange Rows.nameApartSpec) own started (by kernel_rfl) Tryd.func8
    (witness_row_at (enc := enc) (C := Tryd.checked) false (World.laidAll Tryd.prog os Rows.nameApartRow.laid) #[.string ByteArray.empty, .int .u8 0] rfl (by kernel_rfl) (by kernel_rfl) (by kernel_rfl)
      (OpenSpec.preRow_of_cond 8 hx rfl (fun k hk => by cases hk) (by kernel_rfl) (laid_met os))) ?_
  intro W base args ds gs before hval0 hW _ _ hsz0 hL _ _
  exact core W base args ds gs before hval0 hW hsz0 hL
theorem said : Rows.NameApartSaid :=
  OpenClaim.holds_of_cond 8 Tryd.f8 rfl rfl rfl rfl rfl rfl rfl ⟨rfl, rfl, rfl, rfl, rfl⟩ rfl rfl rfl rfl rfl (by kernel_rfl) Tryd.func8 (by kernel_rfl)
    (of_decide_eq_true (by kernel_rfl)) (by unfold Func.isWrapper; first | (rw [if_pos (by decide +kernel)]; kernel_rfl) | (rw [if_neg (by decide +kernel)]; exact ⟨rfl, rfl⟩))
    (fun os started H enc _ F => by rw [OpenClaim.pre_eq_preRow]; exact lifted os started H enc F)
theorem plain (f : FuncId) (fn : Func) (hf : Tryd.pinned.checked.prog.funcNamed "aumbry/aumbrylaw03.NameApart" = some f) (hfn : Tryd.pinned.checked.prog.funcs[f]? = some fn) :
    true = Tryd.pinned.checked.prog.looks [] ∧ ∀ (j : Nat) t, fn.params[j]? = some t → Tryd.pinned.checked.prog.wantsStandIn t = false := by
  obtain rfl : f = 8 := Option.some.inj ((show Tryd.prog.funcNamed "aumbry/aumbrylaw03.NameApart" = some 8 by kernel_rfl).symm.trans hf) |>.symm
  obtain rfl : fn = Tryd.f8 := (Option.some.inj (Tryd.func8.symm.trans hfn)).symm
  refine ⟨by kernel_rfl, fun j t ht => ?_⟩
  rw [Tryd.params8] at ht
  have hm := Array.mem_of_getElem? ht
  have hm' : t = 9 ∨ t = 5 := by simpa using hm
  rcases hm' with rfl | rfl
  · exact (show Tryd.prog.wantsStandIn 9 = false by kernel_rfl)
  · exact (show Tryd.prog.wantsStandIn 5 = false by kernel_rfl)
theorem card : Rows.NameApartCardSaid :=
  Claim7.holds_tied_plain_at .later [] _ _ _ _ said (fun _ h => by cases h) (by kernel_rfl) (fun _ h => by cases h) nameApart_row_tie rfl ⟨rfl, rfl⟩ (by kernel_rfl) rfl plain (by kernel_rfl)
end Go.Proofs.YthngbpkknpmmlaaDoor.nameApart
namespace Go.Proofs.YthngbpkknpmmlaaDoor
/-- The card, under a short name, for the claim. -/
theorem nameApart_holds : Rows.NameApartCardSaid := nameApart.card
#print axioms nameApart_holds
end Go.Proofs.YthngbpkknpmmlaaDoor
