/- NameJoins: the law answers true at every input that the given row speaks of. Conditions: those of the given row, none besides. (Part 1 of 1; written by programs of this session, which drive the kit's print, and by hand.) -/
import Derived.Test.YthngbpkknpmmlaaDoorProg
import Derived.Below
import Derived.Deep.Draws
import Derived.Deep.AppendLies
import Derived.Maps.AppendAt
import Derived.OwnWalk
import Derived.Laws.BytesArg
import Derived.Laws.MakeOwn
import Derived.Laws.OwnMore
import Derived.Deep.OwnRows
import Derived.Tactics
import Derived.Lib.ConvBytes
import Derived.Laws.Slices
import Derived.WalkKit
import Derived.KernelRfl
import Derived.RowKit3
import Derived.Deep.LoopGhost
import Derived.Deep.QuietTactic
import Derived.BigQuiet
import Derived.WideLaws
import Derived.Deep.DeepCutAuto
import Derived.Deep.CutBlock
import Derived.Deep.RegionHeld3
import Derived.Laws.Rows
import Derived.Lib.AppendStr
import Derived.ArgAppend
import Derived.Laws.IdiomCopy
import Derived.OrdersHeld
import Derived.Laws.BitsLemmas
import Derived.RowKit
import Derived.Test.YthngbpkknpmmlaaDoorZNameJoinsWWords
import Derived.Test.YthngbpkknpmmlaaDoorZNameJoinsWLast
import Derived.Test.YthngbpkknpmmlaaDoorZNameJoinsWApart
import Derived.Test.YthngbpkknpmmlaaDoorZNameJoinsWFoot
import Derived.Test.YthngbpkknpmmlaaDoorZNameJoinsWShare
import Derived.Test.YthngbpkknpmmlaaDoorZNameJoinsWN
import Derived.Laws.StructEq
import Derived.Test.YthngbpkknpmmlaaDoorZNameJoinsWRepsOne
import Derived.Test.YthngbpkknpmmlaaDoorZNameJoinsWInv
import Derived.Test.YthngbpkknpmmlaaDoorZNameJoinsWMore
import Derived.RangeFuncNested
import Derived.RangeFuncBound
import Derived.RangeFuncCalls
import Derived.RangeFuncLeaves
import Derived.RangeFuncBox
import Derived.Shelf.Abstract
import Derived.Shelf.RegionOpen
import Derived.OwnWalkIn
import Derived.TacticsInMore
import Derived.LoopNIn
import Derived.LoopIn
import Derived.RangeFuncFrom
import Derived.RangeFuncWrites
import Derived.Lib.LaidTab
import Derived.Shelf.Strconv.Itoa0
import Derived.Shelf.Strconv.Itoa1
import Derived.Shelf.LaysM
import Derived.Shelf.Strconv.Itoa2
import Derived.Shelf.Strconv.Itoa3
import Derived.Shelf.Strconv.Itoa4
import Derived.Shelf.Strconv.ParseIntEmpty
import Derived.Shelf.Strconv.Clone
import Derived.Shelf.Strconv.SyntaxError
import Derived.Shelf.LaysC
import Derived.Shelf.Strconv.ToError
import Derived.Shelf.Strconv.Lower
import Derived.Shelf.Strconv.ParseUint10
import Derived.Shelf.Strconv.ParseUint10Empty
import Derived.Shelf.Strconv.ParseUint10Any
import Derived.Shelf.Strconv.ParseInt10
import Derived.Shelf.Strconv.RangeError
import Derived.Shelf.Strconv.ToErrorRange
import Derived.Shelf.Strconv.ParseUintEmpty
import Derived.Shelf.Strconv.ParseUint10b64
import Derived.Shelf.Strconv.ParseUint10b32
import Derived.Shelf.Strconv.ParseUint10b16
import Derived.Shelf.Strconv.ParseUint10b8
import Derived.Shelf.Strconv.ParseUint10At
import Derived.Shelf.Strconv.ParseInt10At64
import Derived.Shelf.Strconv.ParseInt10At32
import Derived.Shelf.Strconv.ParseInt10At16
import Derived.Shelf.Strconv.ParseInt10At8
import Derived.Shelf.Strconv.ParseInt10All
import Derived.Shelf.Strconv.ParseIntPublic10
import Derived.Shelf.Strconv.ErrVarParseInt
import Derived.Test.YthngbpkknpmmlaaDoorRows
import Derived.Stop.LaidErr
import Derived.Lib.SmallJoins
import Derived.Deep.Slices
import Derived.SizedLaws
import Derived.ChangeSame
import Derived.ChangeArms
import Derived.Test.YthngbpkknpmmlaaDoorCards
import Derived.Test.YthngbpkknpmmlaaDoorTie
import Derived.Deep.DeepHandedRow
import Derived.Lay
import Derived.SevenTiedAt
import Derived.ProofKit
import Derived.OpenShut
import Derived.ShutString
import Derived.ChangeOld
import Derived.Carry
-- ==== P0
namespace Go.Proofs.YthngbpkknpmmlaaDoor.P
open Go.RowKit Go.Proofs.YthngbpkknpmmlaaDoorW.PrintWords Go.Proofs.YthngbpkknpmmlaaDoorW.PrintLast Go.Proofs.YthngbpkknpmmlaaDoorW.PrintMore
attribute [local go_sem] max2_int min2_int max_two min_two max_three min_three max_four min_four   -- for this text's walks alone
set_option linter.unusedVariables false
set_option linter.unusedSimpArgs false



def errW : Option Int → Value
  | none => .nilIface
  | some c => .iface 52 (.int .i64 c)
theorem errW_none : errW none = .nilIface := rfl
theorem errW_some (c : Int) : errW (some c) = .iface 52 (.int .i64 c) := rfl

theorem info9 : (Tryd.prog.info? 9).map (fun i => (i.zero, i.size, i.bytes)) = some (some (.string ⟨#[]⟩), 1, 16) := by kernel_rfl
end Go.Proofs.YthngbpkknpmmlaaDoor.P

-- ==== PF12
namespace Go.Proofs.YthngbpkknpmmlaaDoor.P
open Go.RowKit Go.Proofs.YthngbpkknpmmlaaDoorW.PrintWords Go.Proofs.YthngbpkknpmmlaaDoorW.PrintLast Go.Proofs.YthngbpkknpmmlaaDoorW.PrintMore
attribute [local go_sem] max2_int min2_int max_two min_two max_three min_three max_four min_four   -- for this text's walks alone
set_option linter.unusedVariables false
set_option linter.unusedSimpArgs false

/-! ### aumbryref03_Same: function 12 -/
def aumbryref03_Same.l0 : Nat → List ByteArray → List ByteArray → Int → Int → Option (Bool)
  | 0, _, _, _, _ => none
  | k + 1, x0, x1, x12, x13 => if x13 < x12 then (if 0 ≤ x13 then (if x13 < (x0.length : Int) then (if x13 < (x1.length : Int) then (if (rdOf ByteArray.empty x0 x13).toList = (rdOf ByteArray.empty x1 x13).toList then (aumbryref03_Same.l0 k x0 x1 x12 (wrap64 (x13 + 1))) else (some false)) else (none)) else (none)) else (none)) else (some true)
def aumbryref03_Same.f (k : Nat) (l0 : List ByteArray) (l1 : List ByteArray) : Option (Bool) := if (l0.length : Int) = (l1.length : Int) then (aumbryref03_Same.l0 k l0 l1 (l0.length : Int) 0) else (some false)
set_option maxHeartbeats 8000000 in
set_option maxRecDepth 100000 in
theorem aumbryref03_Same.calls (k : Nat) (A0 : Option Addr) (c0 : Nat) (l0 : List ByteArray) (A1 : Option Addr) (c1 : Nat) (l1 : List ByteArray) (r : Bool) (w : World) (hr0 : Kd.C Kd.string w A0 l0.length l0) (hc0 : l0.length ≤ c0) (hr1 : Kd.C Kd.string w A1 l1.length l1) (hc1 : l1.length ≤ c1) (h : aumbryref03_Same.f k l0 l1 = some r) :
    Calls Tryd.prog 12 #[.slice A0 l0.length c0, .slice A1 l1.length c1] w fun e w' => e = .returned (.bool r) ∧ Drawn0 w w' := by
  have HR0 := Aside0.mk hr0
  have HC0 := Aside0.mk hc0
  clear hr0 hc0
  have HR1 := Aside0.mk hr1
  have HC1 := Aside0.mk hc1
  clear hr1 hc1
  have H : (if (l0.length : Int) = (l1.length : Int) then (aumbryref03_Same.l0 k l0 l1 (l0.length : Int) 0) else (some false)) = some r := h
  clear h
  by_cases c3 : (l0.length : Int) = (l1.length : Int)
  · rw [if_pos c3] at H
    have c3b0 : ((l0.length : Int) == (l1.length : Int)) = true := beq_iff_eq.mpr c3
    have c3b1 : ((l0.length : Int) != (l1.length : Int)) = false := bne_eq_false_iff_eq.mpr c3
    have c3b2 : (l0.length == l1.length) = true := by first | simpa using c3 | (simp at c3 ⊢; omega)
    clear c3
    have H' := Aside0.mk H
    clear H
    go_enter Tryd.func12, Tryd.ntmps12
    go_wp2
    repeat (go_quiet (fail); try go_wp2)
    go_loopg [13] k (fun kq v13 w' => ∃ (x13_1 : Int), v13 = .int .i64 x13_1 ∧ Aside0 (aumbryref03_Same.l0 kq l0 l1 (l0.length : Int) x13_1 = some r) ∧ Aside0 (kq ≤ k) ∧ Drawn0 w w')
    case atStart => exact ⟨(0), (by first | rfl | (simp; done) | (simp [*]; done)), H', ⟨Nat.le_refl _⟩, by repeat (first | exact Drawn0.refl _ | apply Drawn0.step)⟩
    case round =>
      clear H'
      try clear c1
      try clear p2
      try clear c3
      try clear c3b0
      try clear c3b1
      try clear c3b2
      obtain ⟨x13_1, rfl, HA, HK1, ⟨m1, rfl⟩⟩ := hrel
      cases gk with
      | zero => exact absurd HA.out (by simp [aumbryref03_Same.l0])
      | succ k1 =>
        have H := HA.out
        clear HA
        simp only [aumbryref03_Same.l0] at H
        by_cases c4 : x13_1 < (l0.length : Int)
        · rw [if_pos c4] at H
          have c4b0 : decide (x13_1 < (l0.length : Int)) = true := decide_eq_true c4
          clear c4
          by_cases c5 : 0 ≤ x13_1
          · rw [if_pos c5] at H
            have c5b0 : decide (0 ≤ x13_1) = true := decide_eq_true c5
            clear c5
            by_cases c6 : x13_1 < (l0.length : Int)
            · rw [if_pos c6] at H
              have c6b0 : decide (x13_1 < (l0.length : Int)) = true := decide_eq_true c6
              clear c6
              by_cases c7 : x13_1 < (l1.length : Int)
              · rw [if_pos c7] at H
                have c7b0 : decide (x13_1 < (l1.length : Int)) = true := decide_eq_true c7
                clear c7
                by_cases c8 : (rdOf ByteArray.empty l0 x13_1).toList = (rdOf ByteArray.empty l1 x13_1).toList
                · rw [if_pos c8] at H
                  have c8b0 : ((rdOf ByteArray.empty l0 x13_1).toList == (rdOf ByteArray.empty l1 x13_1).toList) = true := beq_iff_eq.mpr c8
                  have c8b1 : ((rdOf ByteArray.empty l0 x13_1).toList != (rdOf ByteArray.empty l1 x13_1).toList) = false := bne_eq_false_iff_eq.mpr c8
                  clear c8
                  have H' := Aside0.mk H
                  clear H
                  have p101 : 0 ≤ (x13_1 : Int) := of_decide_eq_true (by first | (with_reducible assumption) | assumption)
                  have q101 : x13_1 < (l0.length : Int) := of_decide_eq_true (by first | (with_reducible assumption) | assumption)
                  obtain ⟨ad101, e101, hx101_0⟩ := Kd.at_string HR0.out x13_1 p101 q101
                  cases e101
                  replace p101 := eq_true p101
                  replace q101 := eq_true q101
                  have p102 : 0 ≤ (x13_1 : Int) := of_decide_eq_true (by first | (with_reducible assumption) | assumption)
                  have q102 : x13_1 < (l1.length : Int) := of_decide_eq_true (by first | (with_reducible assumption) | assumption)
                  obtain ⟨ad102, e102, hx102_0⟩ := Kd.at_string HR1.out x13_1 p102 q102
                  cases e102
                  replace p102 := eq_true p102
                  replace q102 := eq_true q102
                  go_wp2
                  repeat (go_quiet (fail); try go_wp2)
                  go_roundg k1
                  case measure => have := HK1.out; omega
                  case rel => exact ⟨(wrap64 (x13_1 + 1)), (by first | rfl | (simp; done) | (simp [*]; done)), H', ⟨by have := HK1.out; omega⟩, by repeat (first | exact Drawn0.refl _ | apply Drawn0.step)⟩
                · rw [if_neg c8] at H
                  have c8b0 : ((rdOf ByteArray.empty l0 x13_1).toList == (rdOf ByteArray.empty l1 x13_1).toList) = false := beq_eq_false_iff_ne.mpr c8
                  have c8b1 : ((rdOf ByteArray.empty l0 x13_1).toList != (rdOf ByteArray.empty l1 x13_1).toList) = true := bne_iff_ne.mpr c8
                  obtain rfl := Option.some.inj H
                  have p101 : 0 ≤ (x13_1 : Int) := of_decide_eq_true (by first | (with_reducible assumption) | assumption)
                  have q101 : x13_1 < (l0.length : Int) := of_decide_eq_true (by first | (with_reducible assumption) | assumption)
                  obtain ⟨ad101, e101, hx101_0⟩ := Kd.at_string HR0.out x13_1 p101 q101
                  cases e101
                  replace p101 := eq_true p101
                  replace q101 := eq_true q101
                  have p102 : 0 ≤ (x13_1 : Int) := of_decide_eq_true (by first | (with_reducible assumption) | assumption)
                  have q102 : x13_1 < (l1.length : Int) := of_decide_eq_true (by first | (with_reducible assumption) | assumption)
                  obtain ⟨ad102, e102, hx102_0⟩ := Kd.at_string HR1.out x13_1 p102 q102
                  cases e102
                  replace p102 := eq_true p102
                  replace q102 := eq_true q102
                  go_wp2
                  repeat (go_quiet (fail); try go_wp2)
                  go_ret
                  exact ⟨by first | rfl | (simp; done) | (simp [*]; done), by repeat (first | exact Drawn0.refl _ | apply Drawn0.step)⟩
              · rw [if_neg c7] at H
                exact absurd H (by simp)
            · rw [if_neg c6] at H
              exact absurd H (by simp)
          · rw [if_neg c5] at H
            exact absurd H (by simp)
        · rw [if_neg c4] at H
          have c4b0 : decide (x13_1 < (l0.length : Int)) = false := decide_eq_false c4
          clear c4
          obtain rfl := Option.some.inj H
          go_wp2
          repeat (go_quiet (fail); try go_wp2)
          go_ret
          exact ⟨by first | rfl | (simp; done) | (simp [*]; done), by repeat (first | exact Drawn0.refl _ | apply Drawn0.step)⟩
  · rw [if_neg c3] at H
    have c3b0 : ((l0.length : Int) == (l1.length : Int)) = false := beq_eq_false_iff_ne.mpr c3
    have c3b1 : ((l0.length : Int) != (l1.length : Int)) = true := bne_iff_ne.mpr c3
    have c3b2 : (l0.length == l1.length) = false := by first | simpa using c3 | (simp at c3 ⊢; omega)
    obtain rfl := Option.some.inj H
    go_enter Tryd.func12, Tryd.ntmps12
    go_wp2
    repeat (go_quiet (fail); try go_wp2)
    go_ret
    exact ⟨by first | rfl | (simp; done) | (simp [*]; done), by repeat (first | exact Drawn0.refl _ | apply Drawn0.step)⟩

end Go.Proofs.YthngbpkknpmmlaaDoor.P

-- ==== Nw1
namespace Go.Proofs.YthngbpkknpmmlaaDoor.P
open Go.RowKit Go.Shelf Go.Proofs.YthngbpkknpmmlaaDoorW.PrintWords
attribute [local go_sem] Oper.semAt_some
set_option linter.unusedVariables false
set_option linter.unusedSimpArgs false
/-- The words of a text from a place on (m places to go). -/
def wdsF (s : ByteArray) : Nat → Nat → Nat → List ByteArray
  | 0, _, _ => []
  | m + 1, from_, i => if i < s.size ∧ bt s (i : Int) ≠ 32 then wdsF s m from_ (i + 1) else if from_ < i then s.extract from_ i :: wdsF s m (i + 1) (i + 1) else wdsF s m (i + 1) (i + 1)
set_option maxRecDepth 100000 in
set_option maxHeartbeats 4000000 in
theorem words1_in (F : Fence) (n : Nat) (h25 : F.fn 25) (hro : F.round = none) (hn : 1 ≤ n) (l Bs n₀ : Nat) (s : ByteArray) (hs : s.size < 5864062014805) (hB0 : Bs < n₀) (J Jx : List ByteArray → World → Prop)
    (hY : ∀ pre x W, J pre W → pre.length < s.size + 1 → YieldAt F (n - 1) Tryd.prog l #[.string x] W fun e W' =>
      (e = .returned (.bool true) ∧ J (pre ++ [x]) W' ∧ Below n₀ W W') ∨ (e = .returned (.bool false) ∧ Jx (pre ++ [x]) W'))
    (W : World) (hc : W.cell? ⟨Bs, 0, none⟩ = some (.string s)) (h0 : J [] W) :
    CallsIn F n Tryd.prog 25 #[.func (.yield l) #[] #[], .pointer (some ⟨Bs, 0, none⟩)] W fun e W' => (∃ v, e = .returned v) ∧
      ((∃ ys, ys = wdsF s (s.size + 1) 0 0 ∧ J ys W') ∨ (∃ pre, (∃ q, pre ++ q = wdsF s (s.size + 1) 0 0) ∧ Jx pre W')) := by
  refine callsIn_of_wp Tryd.func25 rfl h25 ?_ hro
  simp only [Tryd.ntmps25, List.size_toArray, List.length_cons, List.length_nil, Nat.reduceAdd, Nat.reduceSub, Array.replicate_succ, Array.replicate_zero, List.push_toArray, List.append_toArray, List.nil_append, List.cons_append]
  gi_wp2
  gi_loopw [3, 4] (fun p q wr => ∃ (pre : List ByteArray) (m from_ i : Nat), p = .int .i64 (from_ : Int) ∧ q = .int .i64 (i : Int) ∧ from_ ≤ i ∧ m + i = s.size + 1 ∧ pre.length ≤ from_ ∧ pre ++ wdsF s m from_ i = wdsF s (s.size + 1) 0 0 ∧ J pre wr ∧ wr.cell? ⟨Bs, 0, none⟩ = some (.string s))
    (fun p q _ => s.size + 1 - (intOf q).toNat)
  case atStart =>
    exact ⟨[], s.size + 1, 0, 0, rfl, rfl, Nat.le_refl _, by omega, Nat.le_refl _, rfl, h0, hc⟩
  case round =>
    obtain ⟨pre, m, from_, i, rfl, rfl, hfi, hmi, hpl, hpre, hJ, hcr⟩ := hrel
    have HM := Aside0.mk hmi
    clear hmi
    by_cases hi : i ≤ s.size
    case neg =>
      have HI := Aside0.mk hi
      gi_wp2
      go_end0
      have hm := HM.out
      obtain rfl : m = 0 := by omega
      refine ⟨⟨_, rfl⟩, .inl ⟨_, rfl, ?_⟩⟩
      rw [← hpre]
      simpa [wdsF] using hJ
    have hHM := HM.out
    obtain ⟨m, rfl⟩ : ∃ m', m = m' + 1 := ⟨m - 1, by omega⟩
    clear hHM
    by_cases hb : i < s.size ∧ bt s (i : Int) ≠ 32
    · have hstep : wdsF s (m + 1) from_ i = wdsF s m from_ (i + 1) := by simp only [wdsF, if_pos hb]
      rw [hstep] at hpre
      clear hstep
      have hlt := hb.1
      have hbt : ¬ ((s[i]'hlt).toNat : Int) = 32 := by have := bt_at s (i : Int) (by simpa using hlt); simp only [Int.toNat_natCast] at this; rw [this]; exact hb.2
      clear hY hb
      gi_wp2
      have hm := HM.out
      exact ⟨⟨pre, m, from_, i + 1, rfl, rfl, by omega, by omega, hpl, hpre, hJ, hcr⟩, by simp [intOf]; omega⟩
    · by_cases hfl : from_ < i
      · have hstep : wdsF s (m + 1) from_ i = s.extract from_ i :: wdsF s m (i + 1) (i + 1) := by simp only [wdsF, if_neg hb, if_pos hfl]
        rw [hstep] at hpre
        obtain ⟨fn, tmps, assign, body, hy, hR⟩ := hY pre (s.extract from_ i) wr hJ (by omega)
        clear hstep hY
        by_cases hlt : i < s.size
        · have hbt : ((s[i]'hlt).toNat : Int) = 32 := by
            have := bt_at s (i : Int) (by simpa using hlt)
            simp only [Int.toNat_natCast] at this
            rw [this]
            exact Classical.not_not.1 (fun h => hb ⟨hlt, h⟩)
          clear hb
          gi_wp2
          refine hR.mono ?_
          rintro e W3 (⟨rfl, hJ3, hk3⟩ | ⟨rfl, hJx3⟩)
          · have hc3 : W3.cell? ⟨Bs, 0, none⟩ = some (.string s) := (hk3.cell (p := ⟨Bs, 0, none⟩) hB0).trans hcr
            gi_wp2
            have hm := HM.out
            exact ⟨⟨pre ++ [s.extract from_ i], m, i + 1, i + 1, rfl, rfl, Nat.le_refl _, by omega, by simp; omega, by rw [← hpre]; simp, hJ3, hc3⟩, by simp [intOf]; omega⟩
          · gi_wp2
            refine bodyPost_ret (results_none rfl _ _ _) rfl ?_
            exact ⟨⟨_, rfl⟩, .inr ⟨_, ⟨_, by rw [← hpre]; simp; rfl⟩, hJx3⟩⟩
        · have HL := eq_false hlt
          clear hb
          gi_wp2
          refine hR.mono ?_
          rintro e W3 (⟨rfl, hJ3, hk3⟩ | ⟨rfl, hJx3⟩)
          · have hc3 : W3.cell? ⟨Bs, 0, none⟩ = some (.string s) := (hk3.cell (p := ⟨Bs, 0, none⟩) hB0).trans hcr
            gi_wp2
            have hm := HM.out
            exact ⟨⟨pre ++ [s.extract from_ i], m, i + 1, i + 1, rfl, rfl, Nat.le_refl _, by omega, by simp; omega, by rw [← hpre]; simp, hJ3, hc3⟩, by simp [intOf]; omega⟩
          · gi_wp2
            refine bodyPost_ret (results_none rfl _ _ _) rfl ?_
            exact ⟨⟨_, rfl⟩, .inr ⟨_, ⟨_, by rw [← hpre]; simp; rfl⟩, hJx3⟩⟩
      · have hstep : wdsF s (m + 1) from_ i = wdsF s m (i + 1) (i + 1) := by simp only [wdsF, if_neg hb, if_neg hfl]
        rw [hstep] at hpre
        clear hstep hY
        have HF := eq_false hfl
        by_cases hlt : i < s.size
        · have hbt : ((s[i]'hlt).toNat : Int) = 32 := by
            have := bt_at s (i : Int) (by simpa using hlt)
            simp only [Int.toNat_natCast] at this
            rw [this]
            exact Classical.not_not.1 (fun h => hb ⟨hlt, h⟩)
          clear hb
          gi_wp2
          refine ⟨fun f hf => (by cases hf), ?_⟩
          gi_wp2
          have hm := HM.out
          exact ⟨⟨pre, m, i + 1, i + 1, rfl, rfl, Nat.le_refl _, by omega, by omega, hpre, hJ, hcr⟩, by simp [intOf]; omega⟩
        · have HL := eq_false hlt
          clear hb
          gi_wp2
          refine ⟨fun f hf => (by cases hf), ?_⟩
          gi_wp2
          have hm := HM.out
          exact ⟨⟨pre, m, i + 1, i + 1, rfl, rfl, Nat.le_refl _, by omega, by omega, hpre, hJ, hcr⟩, by simp [intOf]; omega⟩
end Go.Proofs.YthngbpkknpmmlaaDoor.P

-- ==== Nw2
namespace Go.Proofs.YthngbpkknpmmlaaDoor.P
open Go.RowKit Go.Shelf Go.Proofs.YthngbpkknpmmlaaDoorW.PrintWords
attribute [local go_sem] Oper.semAt_some
set_option linter.unusedVariables false
set_option linter.unusedSimpArgs false
def wdsS (s : ByteArray) : List ByteArray := wdsF s (s.size + 1) 0 0
theorem words_stops (F : Fence) (n : Nat) (h25 : F.fn 25) (hro : F.round = none) (hn : 1 ≤ n) (Bs n₀ : Nat) (s : ByteArray) (hs : s.size < 5864062014805) (hB0 : Bs < n₀) (w : World) (hn₀ : n₀ ≤ w.heap.size) (hc : w.cell? ⟨Bs, 0, none⟩ = some (.string s)) :
    SeqStopsK F n Tryd.prog 25 #[.pointer (some ⟨Bs, 0, none⟩)] (fun x : ByteArray => #[Value.string x]) (Below n₀) (fun ys => ys = wdsS s) (fun pre => ∃ q, pre ++ q = wdsS s) (s.size + 1) w := fun l J Jx W hW _ _ hY h0 =>
  words1_in F n h25 hro hn l Bs n₀ s hs hB0 J Jx hY W ((hW.cell (p := ⟨Bs, 0, none⟩) (by show Bs < w.heap.size; omega)).trans hc) h0
theorem info_str : (Tryd.prog.info? 9).map (fun i => (i.zero, i.size, i.bytes)) = some (some (.string ⟨#[]⟩), 1, 16) := by kernel_rfl
set_option maxRecDepth 100000 in
set_option maxHeartbeats 4000000 in
theorem appendSeq_in (F : Fence) (n : Nat) (h24 : F.fn 24) (h25 : F.fn 25) (hro : F.round = none) (hn : 3 ≤ n) (Bs : Nat) (s : ByteArray) (hs : s.size < 5864062014805) (w : World) (hB0 : Bs < w.heap.size) (hc0 : w.cell? ⟨Bs, 0, none⟩ = some (.string s)) :
    CallsIn F n Tryd.prog 24 #[.slice none 0 0, .func (.func 25) #[] #[.pointer (some ⟨Bs, 0, none⟩)]] w fun e W' => ∃ v, e = .returned v ∧ W'.ownsRow w.heap.size 9 1 v (wdsS s).length ((wdsS s).map Value.string) ∧ Below w.heap.size w W' := by
  have h1 : 1 ≤ n := by omega
  obtain ⟨i0, hi, hz0, hz1, hz2⟩ := info_parts info_str
  refine callsIn_of_wp_marks Tryd.func24 rfl h24 ?_ hro
  simp only [Tryd.ntmps24, List.size_toArray, List.length_cons, List.length_nil, Nat.reduceAdd, Nat.reduceSub, Array.replicate_succ, Array.replicate_zero, List.push_toArray, List.append_toArray, List.nil_append, List.cons_append]
  gi_wp2
  have bO := Boxed.new w 26 (.slice none 0 0)
  have hB1 : Below w.heap.size w (w.alloc (.cells #[.slice none 0 0] 26)) := (Below.refl _ w).alloc (Nat.le_refl _) _
  refine wpIn_rangeFunc_ownF hro h1 (gf := 25) (lb := #[.pointer (some ⟨Bs, 0, none⟩)]) rfl h25 (enters_of Tryd.func25 (by kernel_rfl) rfl)
    (words_stops F (n - 1) h25 hro (by omega) Bs w.heap.size s hs hB0 (w.alloc (.cells #[.slice none 0 0] 26)) (by simp) ((hB1.cell (p := ⟨Bs, 0, none⟩) hB0).trans hc0)) belowK_t (belowK_b (by simp)) (Below.refl _ _) (fun _ => rfl)
    (fun pre W => (∃ v, Boxed W w.heap.size 26 v ∧ W.ownsRow w.heap.size 9 1 v pre.length (pre.map Value.string) ∧ (v = .slice none 0 0 ↔ pre = [])) ∧ Below w.heap.size w W)
    (fun _ _ _ => False)
    (OwnFrom.and (Own.from (holdsRow_own w.heap.size w.heap.size 26 9 1 (fun pre => pre.length) (fun pre => pre.map Value.string) (fun pre v => v = .slice none 0 0 ↔ pre = [])) _) (ownFrom_below (Nat.le_refl _) (by simp)))
    (fun _ _ _ _ _ hs _ _ => hs)
    ⟨⟨_, bO, World.ownsRow_nil _ _ _ _, by simp⟩, hB1⟩
    (fun x => { tmps := #[.slice none 0 0, .func (.func 25) #[] #[.pointer (some ⟨Bs, 0, none⟩)], .pointer (some ⟨w.heap.size, 0, none⟩), undef, .slice none 0 0, .string x, .func (.func 25) #[] #[.pointer (some ⟨Bs, 0, none⟩)], .string x, undef, undef, undef, undef, undef], defers := [] }) ?assign ?body ?done ?stop
  case assign =>
    intro l x W K hK
    gi_wp2
    exact hK
  case body =>
    rintro l pre x W ⟨⟨v, hv, hrow, hnil⟩, hB⟩ hlt
    have hc := hv.cell
    gi_wp2_with (gi_at_builtin; refine wpListIn_append_own _ rfl _ _ 26 rfl w.heap.size 9 i0 (.string ⟨#[]⟩) 1 16 Tryd.underlying26 hi hz0 hz1 hz2 rfl (by decide) _ _ _ rfl (hrow.alloc _) ⟨W.heap.size, 0, none⟩ 1 1 [.string x] rfl rfl (cell_one_new _ _ _) (by simp [Value.oneCell']) (by unfold maxLen; omega) (by omega) (by have := hB.size; simp; omega) ?_; intro v' w1 hown' hgrow _; obtain ⟨g', cap', rfl⟩ := ownsRow_succ hown'; obtain ⟨hv1, hv2, hr2, hk2, hb2⟩ := hv.appended (by decide) hrow hB.size (Nat.le_refl _) hown' hgrow; have hc1 := hv1.cell; have hf1 := hv1.frozen)
    exact ⟨hk2, hb2, ⟨_, hv2, by simpa using hr2, by simp⟩, hB.trans hb2⟩
  case done =>
    rintro D ys W hD rfl ⟨⟨v, hv, hrow, hnil⟩, hB⟩ hK
    have hc := hv.cell
    gi_wp2
    refine ⟨by simp, .inl ⟨_, _, rfl, run_takeDeferred hK, ?_⟩⟩
    exact ⟨_, results_tmp rfl _ _ _, v, rfl, ownsRow_putObj hrow _ hK rfl, hB.trans (belowK_b (w := w) (Nat.le_refl _) W D _ _ (by simp at hD; omega) hK rfl rfl)⟩
  case stop =>
    rintro D c pre W _ _ h _
    exact h.elim
end Go.Proofs.YthngbpkknpmmlaaDoor.P

-- ==== Nw3
namespace Go.Proofs.YthngbpkknpmmlaaDoor.P
open Go.RowKit Go.Shelf Go.Proofs.YthngbpkknpmmlaaDoorW.PrintWords
attribute [local go_sem] Oper.semAt_some
set_option linter.unusedVariables false
set_option linter.unusedSimpArgs false
set_option maxRecDepth 100000 in
set_option maxHeartbeats 4000000 in
theorem collect_in (F : Fence) (n : Nat) (h20 : F.fn 20) (h24 : F.fn 24) (h25 : F.fn 25) (hro : F.round = none) (hn : 4 ≤ n) (Bs : Nat) (s : ByteArray) (hs : s.size < 5864062014805) (w : World) (hB0 : Bs < w.heap.size) (hc0 : w.cell? ⟨Bs, 0, none⟩ = some (.string s)) :
    CallsIn F n Tryd.prog 20 #[.func (.func 25) #[] #[.pointer (some ⟨Bs, 0, none⟩)]] w fun e W' => ∃ v, e = .returned v ∧ W'.ownsRow w.heap.size 9 1 v (wdsS s).length ((wdsS s).map Value.string) ∧ Below w.heap.size w W' := by
  have h1 : 1 ≤ n := by omega
  have hc := appendSeq_in F (n - 1) h24 h25 hro (by omega) Bs s hs w hB0 hc0
  refine callsIn_of_wp Tryd.func20 rfl h20 ?_ hro
  simp only [Tryd.ntmps20, List.size_toArray, List.length_cons, List.length_nil, Nat.reduceAdd, Nat.reduceSub, Array.replicate_succ, Array.replicate_zero, List.push_toArray, List.append_toArray, List.nil_append, List.cons_append]
  gi_wp2_with (gi_at_call 24; refine hc.mono ?_; rintro e w' ⟨v, rfl, hr, hb⟩)
  go_ret
  exact ⟨v, rfl, hr, hb⟩
set_option maxRecDepth 100000 in
set_option maxHeartbeats 4000000 in
theorem mkwords_in (F : Fence) (n : Nat) (h21 : F.fn 21) (hro : F.round = none) (s : ByteArray) (w : World) :
    CallsIn F n Tryd.prog 21 #[.string s] w fun e W' => e = .returned (.func (.func 25) #[] #[.pointer (some ⟨w.heap.size, 0, none⟩)]) ∧ W' = w.alloc (.cells #[.string s] 9) := by
  refine callsIn_of_wp Tryd.func21 rfl h21 ?_ hro
  simp only [Tryd.ntmps21, List.size_toArray, List.length_cons, List.length_nil, Nat.reduceAdd, Nat.reduceSub, Array.replicate_succ, Array.replicate_zero, List.push_toArray, List.append_toArray, List.nil_append, List.cons_append]
  gi_wp2
  go_ret
  exact ⟨rfl, rfl⟩
set_option maxRecDepth 100000 in
set_option maxHeartbeats 4000000 in
theorem words_calls (s : ByteArray) (hs : s.size < 5864062014805) (w : World) :
    Calls Tryd.prog 13 #[.string s] w fun e W' => ∃ v, e = .returned v ∧ Kd.R Kd.string 9 W' w.heap.size (fun _ => True) v (wdsS s) ∧ Below w.heap.size w W' := by
  refine (callsIn_wide (n := 6)).1 ?_
  have h20 : Fence.wide.fn 20 := trivial
  have h21 : Fence.wide.fn 21 := trivial
  have h24 : Fence.wide.fn 24 := trivial
  have h25 : Fence.wide.fn 25 := trivial
  have hm := mkwords_in Fence.wide (6 - 1) h21 rfl s w
  have bx := Boxed.new w 9 (.string s)
  have hc := collect_in Fence.wide (6 - 1) h20 h24 h25 rfl (by omega) w.heap.size s hs (w.alloc (.cells #[.string s] 9)) (by simp) bx.cell
  refine callsIn_of_wp Tryd.func13 rfl trivial ?_ rfl
  simp only [Tryd.ntmps13, List.size_toArray, List.length_cons, List.length_nil, Nat.reduceAdd, Nat.reduceSub, Array.replicate_succ, Array.replicate_zero, List.push_toArray, List.append_toArray, List.nil_append, List.cons_append]
  gi_wp2_with (first | (gi_at_call 21; refine hm.mono ?_; rintro e w' ⟨rfl, rfl⟩) | (gi_at_call 20; refine hc.mono ?_; rintro e w2 ⟨v, rfl, hr, hb⟩))
  go_ret
  exact ⟨v, rfl, Kd.R_of_own (own_weaken hr (by simp)) (fun _ _ => trivial), (((Below.refl _ w).alloc (Nat.le_refl _) _).trans (hb.mono (by simp)))⟩
end Go.Proofs.YthngbpkknpmmlaaDoor.P

-- ==== PF13
namespace Go.Proofs.YthngbpkknpmmlaaDoor.P
open Go.RowKit Go.Proofs.YthngbpkknpmmlaaDoorW.PrintWords Go.Proofs.YthngbpkknpmmlaaDoorW.PrintLast Go.Proofs.YthngbpkknpmmlaaDoorW.PrintMore
attribute [local go_sem] max2_int min2_int max_two min_two max_three min_three max_four min_four   -- for this text's walks alone
set_option linter.unusedVariables false
set_option linter.unusedSimpArgs false

/-! ### name_Words: function 13 -/
def name_Words.f (a0 : ByteArray) : Option (List ByteArray) := if a0.size < 5864062014805 then some (wdsS a0) else none
theorem name_Words.calls (a0 : ByteArray) (r : List ByteArray) (w : World) (h : name_Words.f a0 = some r) :
    Calls Tryd.prog 13 #[.string a0] w fun e w' => ∃ v0_ : Value, e = .returned (v0_) ∧ Kd.R Kd.string 9 w' w.heap.size (fun _ => True) v0_ r ∧ Below w.heap.size w w' := by
  unfold name_Words.f at h
  by_cases hs : a0.size < 5864062014805
  · rw [if_pos hs] at h
    injection h with h
    subst h
    exact words_calls a0 hs w
  · rw [if_neg hs] at h
    cases h


end Go.Proofs.YthngbpkknpmmlaaDoor.P

-- ==== PF14
namespace Go.Proofs.YthngbpkknpmmlaaDoor.P
open Go.RowKit Go.Proofs.YthngbpkknpmmlaaDoorW.PrintWords Go.Proofs.YthngbpkknpmmlaaDoorW.PrintLast Go.Proofs.YthngbpkknpmmlaaDoorW.PrintMore
attribute [local go_sem] max2_int min2_int max_two min_two max_three min_three max_four min_four   -- for this text's walks alone
set_option linter.unusedVariables false
set_option linter.unusedSimpArgs false

/-! ### aumbryref03_Words: function 14 -/
def aumbryref03_Words.l0 : Nat → ByteArray → List ByteArray → ByteArray → Int → Option (List ByteArray)
  | 0, _, _, _, _ => none
  | k + 1, x0, x3, x4, x5 => if x5 < (x0.size : Int) then (if 0 ≤ x5 then (if (bt x0 x5) = 32 then (if x4.toList = ([] : List UInt8) then (aumbryref03_Words.l0 k x0 x3 (⟨#[]⟩ : ByteArray) (wrap64 (x5 + 1))) else (if x3.length < 8796093022208 then (aumbryref03_Words.l0 k x0 (x3 ++ [x4]) (⟨#[]⟩ : ByteArray) (wrap64 (x5 + 1))) else (none))) else (if x5 ≤ (wrap64 (x5 + 1)) then (if (wrap64 (x5 + 1)) ≤ (x0.size : Int) then (if x4.size + (x0.extract (x5 : Int).toNat ((wrap64 (x5 + 1)) : Int).toNat).size ≤ 9223372036854775807 then (aumbryref03_Words.l0 k x0 x3 (x4 ++ (x0.extract (x5 : Int).toNat ((wrap64 (x5 + 1)) : Int).toNat)) (wrap64 (x5 + 1))) else (none)) else (none)) else (none))) else (none)) else (if x4.toList = ([] : List UInt8) then (some x3) else (if x3.length < 8796093022208 then (some (x3 ++ [x4])) else (none)))
def aumbryref03_Words.f (k : Nat) (a0 : ByteArray) : Option (List ByteArray) := aumbryref03_Words.l0 k a0 ([] : List ByteArray) (⟨#[]⟩ : ByteArray) 0
set_option maxHeartbeats 8000000 in
set_option maxRecDepth 100000 in
theorem aumbryref03_Words.calls (k : Nat) (a0 : ByteArray) (r : List ByteArray) (w : World) (h : aumbryref03_Words.f k a0 = some r) :
    Calls Tryd.prog 14 #[.string a0] w fun e w' => ∃ v0_ : Value, e = .returned (v0_) ∧ Kd.R Kd.string 9 w' w.heap.size (fun _ => True) v0_ r ∧ Below w.heap.size w w' := by
  have HB := Aside0.mk (Below.refl w.heap.size w)
  have H : (aumbryref03_Words.l0 k a0 ([] : List ByteArray) (⟨#[]⟩ : ByteArray) 0) = some r := h
  clear h
  have H' := Aside0.mk H
  clear H
  go_enter Tryd.func14, Tryd.ntmps14
  go_wp2
  go_loopg [3, 4, 5] k (fun kq v3 v4 v5 w' => ∃ (x3_1 : List ByteArray) (x4_1 : ByteArray) (x5_1 : Int), v4 = .string x4_1 ∧ v5 = .int .i64 x5_1 ∧ Aside0 (aumbryref03_Words.l0 kq a0 x3_1 x4_1 x5_1 = some r) ∧ Aside0 (kq ≤ k) ∧ Aside0 (Kd.R Kd.string 9 w' w.heap.size (fun _ => True) v3 x3_1) ∧ Aside0 (Below w.heap.size w w'))
  case atStart => exact ⟨(([] : List ByteArray)), ((⟨#[]⟩ : ByteArray)), (0), (by first | rfl | (simp; done) | (simp [*]; done)), (by first | rfl | (simp; done) | (simp [*]; done)), H', ⟨Nat.le_refl _⟩, ⟨by first | exact Kd.R_nil _ _ _ _ _ | exact Kd.N_nil _ _ _ _ _ | exact Kd.V_nil _ _ _ _ _ | exact Kd.Q_nil _ _ _ _ _ | exact Kd.S_nil _ _ _ _ _⟩, ⟨by repeat (first | (with_reducible first | exact HB.out | apply below_alloc | apply pw_below_drewN | apply below_drew1) | exact HB.out)⟩⟩
  case round =>
    clear H'
    try clear c1
    obtain ⟨x3_1, x4_1, x5_1, rfl, rfl, HA, HK1, HO_3, HB⟩ := hrel
    cases gk with
    | zero => exact absurd HA.out (by simp [aumbryref03_Words.l0])
    | succ k1 =>
      have H := HA.out
      clear HA
      simp only [aumbryref03_Words.l0] at H
      by_cases c2 : x5_1 < (a0.size : Int)
      · rw [if_pos c2] at H
        have c2b0 : decide (x5_1 < (a0.size : Int)) = true := decide_eq_true c2
        clear c2
        by_cases c3 : 0 ≤ x5_1
        · rw [if_pos c3] at H
          have c3b0 : decide (0 ≤ x5_1) = true := decide_eq_true c3
          clear c3
          by_cases c5 : (bt a0 x5_1) = 32
          · rw [if_pos c5] at H
            have c5b0 : ((bt a0 x5_1) == 32) = true := beq_iff_eq.mpr c5
            have c5b1 : ((bt a0 x5_1) != 32) = false := bne_eq_false_iff_eq.mpr c5
            clear c5
            by_cases c6 : x4_1.toList = ([] : List UInt8)
            · rw [if_pos c6] at H
              have c6b0 : (x4_1.toList == ([] : List UInt8)) = true := beq_iff_eq.mpr c6
              have c6b1 : (x4_1.toList != ([] : List UInt8)) = false := bne_eq_false_iff_eq.mpr c6
              clear c6
              have H' := Aside0.mk H
              clear H
              have p4 : 0 ≤ (x5_1 : Int) := of_decide_eq_true (by first | (with_reducible assumption) | assumption)
              have q4 : x5_1 < (a0.size : Int) := of_decide_eq_true (by first | (with_reducible assumption) | assumption)
              have hx4 := bt_at a0 x5_1
              replace p4 := eq_true p4
              replace q4 := eq_true q4
              go_wp2
              go_roundg k1
              case measure => have := HK1.out; omega
              case rel => exact ⟨(x3_1), ((⟨#[]⟩ : ByteArray)), (wrap64 (x5_1 + 1)), (by first | rfl | (simp; done) | (simp [*]; done)), (by first | rfl | (simp; done) | (simp [*]; done)), H', ⟨by have := HK1.out; omega⟩, ⟨by (with_reducible repeat (first | apply Kd.R_alloc | apply Kd.R_drewN | apply Kd.R_drew)); exact HO_3.out⟩, ⟨by repeat (first | (with_reducible first | exact HB.out | apply below_alloc | apply pw_below_drewN | apply below_drew1) | exact HB.out)⟩⟩
            · rw [if_neg c6] at H
              have c6b0 : (x4_1.toList == ([] : List UInt8)) = false := beq_eq_false_iff_ne.mpr c6
              have c6b1 : (x4_1.toList != ([] : List UInt8)) = true := bne_iff_ne.mpr c6
              by_cases c7 : x3_1.length < 8796093022208
              · rw [if_pos c7] at H
                have LMc7 := Aside0.mk c7
                clear c7
                obtain ⟨y104, hy104⟩ : ∃ y_ : List ByteArray, y_ = (x3_1 ++ [x4_1]) := ⟨_, rfl⟩
                replace H : (aumbryref03_Words.l0 k1 a0 y104 (⟨#[]⟩ : ByteArray) (wrap64 (x5_1 + 1))) = some r := by first | (rw [hy104]; with_reducible exact H) | (have H2_ := (Option.bind_some _ _).symm.trans H; rw [hy104]; with_reducible exact H2_) | (have H2_ := (Option.bind_some _ _).symm.trans H; with_reducible exact H2_) | with_reducible exact H | (rw [hy104]; exact H) | exact H
                have Ny104 := Aside0.mk hy104
                clear hy104
                have H' := Aside0.mk H
                clear H
                have p4 : 0 ≤ (x5_1 : Int) := of_decide_eq_true (by first | (with_reducible assumption) | assumption)
                have q4 : x5_1 < (a0.size : Int) := of_decide_eq_true (by first | (with_reducible assumption) | assumption)
                have hx4 := bt_at a0 x5_1
                replace p4 := eq_true p4
                replace q4 := eq_true q4
                go_wp2_with (first | ((with_reducible refine gate_builtin (b := .append) (xs := #[.tmp 25, .tmp 27]) rfl ?_); at_builtin; refine Kd.R_append Kd.string (w0 := w) w.heap.size rfl (.tmp 25) (.tmp 27) 26 9 (.string ⟨#[]⟩) 16 rfl Tryd.underlying26 info9 rfl (by decide) (by omega) u3 x3_1 x4_1 [.string x4_1] (fun _ => True) (fun _ => False) rfl rfl ?aP (fun _ hk => hk.elim) ?aF ?aO ?aB ?aS ?aL ?_; (case aP => exact rfl); (case aB => exact (by repeat (first | (with_reducible first | exact HB.out | apply below_alloc | apply pw_below_drewN | apply below_drew1) | exact HB.out))); (case aF => exact (fun _ _ => trivial)); (case aO => exact (by (with_reducible repeat (first | apply Kd.R_alloc | apply Kd.R_drewN | apply Kd.R_drew)); exact HO_3.out)); (case aS => exact (below_size (by repeat (first | (with_reducible first | exact HB.out | apply below_alloc | apply pw_below_drewN | apply below_drew1) | exact HB.out)))); (case aL => have := LMc7.out; omega); intro v105 w8 ho hb hg hat; rw [← Ny104.out] at ho; have n0_ := Aside0.mk (hb); have n1_ := Aside0.mk (ho); clear HB; clear HO_3; have HB := n0_; have HO106 := n1_; clear n0_ n1_; clear ho hb hg hat))
                go_roundg k1
                case measure => have := HK1.out; omega
                case rel => exact ⟨(y104), ((⟨#[]⟩ : ByteArray)), (wrap64 (x5_1 + 1)), (by first | rfl | (simp; done) | (simp [*]; done)), (by first | rfl | (simp; done) | (simp [*]; done)), H', ⟨by have := HK1.out; omega⟩, ⟨by (with_reducible repeat (first | apply Kd.R_alloc | apply Kd.R_drewN | apply Kd.R_drew)); exact HO106.out⟩, ⟨by repeat (first | (with_reducible first | exact HB.out | apply below_alloc | apply pw_below_drewN | apply below_drew1) | exact HB.out)⟩⟩
              · rw [if_neg c7] at H
                exact absurd H (by simp)
          · rw [if_neg c5] at H
            have c5b0 : ((bt a0 x5_1) == 32) = false := beq_eq_false_iff_ne.mpr c5
            have c5b1 : ((bt a0 x5_1) != 32) = true := bne_iff_ne.mpr c5
            have c9b0 := eq_true (of_decide_eq_true (by first | (with_reducible assumption) | assumption) : 0 ≤ x5_1)
            by_cases c10 : x5_1 ≤ (wrap64 (x5_1 + 1))
            · rw [if_pos c10] at H
              have c10b0 := eq_true c10
              have c10b1 : decide (x5_1 ≤ (wrap64 (x5_1 + 1))) = true := decide_eq_true c10
              by_cases c11 : (wrap64 (x5_1 + 1)) ≤ (a0.size : Int)
              · rw [if_pos c11] at H
                have c11b0 := eq_true c11
                have c11b1 : decide ((wrap64 (x5_1 + 1)) ≤ (a0.size : Int)) = true := decide_eq_true c11
                by_cases c12 : x4_1.size + (a0.extract (x5_1 : Int).toNat ((wrap64 (x5_1 + 1)) : Int).toNat).size ≤ 9223372036854775807
                · rw [if_pos c12] at H
                  have c12b0 := eq_true c12
                  have c12b1 : decide (x4_1.size + (a0.extract (x5_1 : Int).toNat ((wrap64 (x5_1 + 1)) : Int).toNat).size ≤ 9223372036854775807) = true := decide_eq_true c12
                  try have c12b2 : (9223372036854775807 < x4_1.size + (a0.extract (x5_1 : Int).toNat ((wrap64 (x5_1 + 1)) : Int).toNat).size) = False := eq_false (Nat.not_lt.2 c12)
                  have H' := Aside0.mk H
                  clear H
                  have p4 : 0 ≤ (x5_1 : Int) := of_decide_eq_true (by first | (with_reducible assumption) | assumption)
                  have q4 : x5_1 < (a0.size : Int) := of_decide_eq_true (by first | (with_reducible assumption) | assumption)
                  have hx4 := bt_at a0 x5_1
                  replace p4 := eq_true p4
                  replace q4 := eq_true q4
                  go_wp2
                  go_roundg k1
                  case measure => have := HK1.out; omega
                  case rel => exact ⟨(x3_1), (x4_1 ++ (a0.extract (x5_1 : Int).toNat ((wrap64 (x5_1 + 1)) : Int).toNat)), (wrap64 (x5_1 + 1)), (by first | rfl | (simp; done) | (simp [*]; done)), (by first | rfl | (simp; done) | (simp [*]; done)), H', ⟨by have := HK1.out; omega⟩, ⟨by (with_reducible repeat (first | apply Kd.R_alloc | apply Kd.R_drewN | apply Kd.R_drew)); exact HO_3.out⟩, ⟨by repeat (first | (with_reducible first | exact HB.out | apply below_alloc | apply pw_below_drewN | apply below_drew1) | exact HB.out)⟩⟩
                · rw [if_neg c12] at H
                  exact absurd H (by simp)
              · rw [if_neg c11] at H
                exact absurd H (by simp)
            · rw [if_neg c10] at H
              exact absurd H (by simp)
        · rw [if_neg c3] at H
          exact absurd H (by simp)
      · rw [if_neg c2] at H
        have c2b0 : decide (x5_1 < (a0.size : Int)) = false := decide_eq_false c2
        clear c2
        by_cases c13 : x4_1.toList = ([] : List UInt8)
        · rw [if_pos c13] at H
          have c13b0 : (x4_1.toList == ([] : List UInt8)) = true := beq_iff_eq.mpr c13
          have c13b1 : (x4_1.toList != ([] : List UInt8)) = false := bne_eq_false_iff_eq.mpr c13
          clear c13
          obtain rfl := Option.some.inj H
          go_wp2
          go_ret
          exact ⟨_, by first | rfl | (simp [errW_none, errW_some] <;> rfl) | (simp [*, errW_none, errW_some] <;> rfl), by (with_reducible repeat (first | apply Kd.R_alloc | apply Kd.R_drewN | apply Kd.R_drew)); exact HO_3.out, by repeat (first | (with_reducible first | exact HB.out | apply below_alloc | apply pw_below_drewN | apply below_drew1) | exact HB.out)⟩
        · rw [if_neg c13] at H
          have c13b0 : (x4_1.toList == ([] : List UInt8)) = false := beq_eq_false_iff_ne.mpr c13
          have c13b1 : (x4_1.toList != ([] : List UInt8)) = true := bne_iff_ne.mpr c13
          by_cases c14 : x3_1.length < 8796093022208
          · rw [if_pos c14] at H
            have LMc14 := Aside0.mk c14
            clear c14
            obtain ⟨y101, hy101⟩ : ∃ y_ : List ByteArray, y_ = (x3_1 ++ [x4_1]) := ⟨_, rfl⟩
            replace H : (some y101) = some r := by first | (rw [hy101]; with_reducible exact H) | (have H2_ := (Option.bind_some _ _).symm.trans H; rw [hy101]; with_reducible exact H2_) | (have H2_ := (Option.bind_some _ _).symm.trans H; with_reducible exact H2_) | with_reducible exact H | (rw [hy101]; exact H) | exact H
            have Ny101 := Aside0.mk hy101
            clear hy101
            obtain rfl := Option.some.inj H
            go_wp2_with (first | ((with_reducible refine gate_builtin (b := .append) (xs := #[.tmp 31, .tmp 33]) rfl ?_); at_builtin; refine Kd.R_append Kd.string (w0 := w) w.heap.size rfl (.tmp 31) (.tmp 33) 26 9 (.string ⟨#[]⟩) 16 rfl Tryd.underlying26 info9 rfl (by decide) (by omega) u3 x3_1 x4_1 [.string x4_1] (fun _ => True) (fun _ => False) rfl rfl ?aP (fun _ hk => hk.elim) ?aF ?aO ?aB ?aS ?aL ?_; (case aP => exact rfl); (case aB => exact (by repeat (first | (with_reducible first | exact HB.out | apply below_alloc | apply pw_below_drewN | apply below_drew1) | exact HB.out))); (case aF => exact (fun _ _ => trivial)); (case aO => exact (by (with_reducible repeat (first | apply Kd.R_alloc | apply Kd.R_drewN | apply Kd.R_drew)); exact HO_3.out)); (case aS => exact (below_size (by repeat (first | (with_reducible first | exact HB.out | apply below_alloc | apply pw_below_drewN | apply below_drew1) | exact HB.out)))); (case aL => have := LMc14.out; omega); intro v102 w15 ho hb hg hat; rw [← Ny101.out] at ho; have n0_ := Aside0.mk (hb); have n1_ := Aside0.mk (ho); clear HB; clear HO_3; have HB := n0_; have HO103 := n1_; clear n0_ n1_; clear ho hb hg hat))
            go_ret
            exact ⟨_, by first | rfl | (simp [errW_none, errW_some] <;> rfl) | (simp [*, errW_none, errW_some] <;> rfl), by (with_reducible repeat (first | apply Kd.R_alloc | apply Kd.R_drewN | apply Kd.R_drew)); exact HO103.out, by repeat (first | (with_reducible first | exact HB.out | apply below_alloc | apply pw_below_drewN | apply below_drew1) | exact HB.out)⟩
          · rw [if_neg c14] at H
            exact absurd H (by simp)

end Go.Proofs.YthngbpkknpmmlaaDoor.P

-- ==== PF19
namespace Go.Proofs.YthngbpkknpmmlaaDoor.P
open Go.RowKit Go.Proofs.YthngbpkknpmmlaaDoorW.PrintWords Go.Proofs.YthngbpkknpmmlaaDoorW.PrintLast Go.Proofs.YthngbpkknpmmlaaDoorW.PrintMore
attribute [local go_sem] max2_int min2_int max_two min_two max_three min_three max_four min_four   -- for this text's walks alone
set_option linter.unusedVariables false
set_option linter.unusedSimpArgs false

/-! ### name_sign: function 19 -/
mutual
def name_sign.j0 : Nat → Int → Bool → Option (Int × Int)
  | 0, _, _ => none
  | k + 1, x0, x4 => if x4 = true then (some (1, 1)) else (if x0 ≥ 65 then (name_sign.j1 k x0 (decide (x0 ≤ 90))) else (name_sign.j1 k x0 false))
def name_sign.j1 : Nat → Int → Bool → Option (Int × Int)
  | 0, _, _ => none
  | k + 1, x0, x11 => if x11 = true then (some (2, 2)) else (if x0 ≥ 48 then (if x0 ≤ 57 then (some (0, 3)) else (some (0, 0))) else (some (0, 0)))
end
def name_sign.f (k : Nat) (a0 : Int) : Option (Int × Int) := if a0 ≥ 97 then (name_sign.j0 k a0 (decide (a0 ≤ 122))) else (name_sign.j0 k a0 false)
theorem name_sign.mono_l : ∀ k, (∀ y0 y1, LeO (name_sign.j0 k y0 y1) (name_sign.j0 (k + 1) y0 y1)) ∧ (∀ y0 y1, LeO (name_sign.j1 k y0 y1) (name_sign.j1 (k + 1) y0 y1))
  | 0 => ⟨fun _ _ r h => by simp [name_sign.j0] at h, fun _ _ r h => by simp [name_sign.j1] at h⟩
  | k + 1 => by
    obtain ⟨ih0, ih1⟩ := name_sign.mono_l k
    refine ⟨?_, ?_⟩
    · intro y0 y1
      unfold name_sign.j0
      repeat' first
      | (with_reducible exact ih0 _ _)
      | (with_reducible exact ih1 _ _)
      | (with_reducible exact LeO.refl _)
      | (with_reducible exact LeO.none _)
      | (with_reducible refine LeO.ite ?_ ?_)
      | (with_reducible refine LeO.bind ?_ (fun _ => ?_))
      | exact ih0 _ _
      | exact ih1 _ _
      | exact LeO.none _
      | refine LeO.ite ?_ ?_
      | refine LeO.bind ?_ (fun _ => ?_)
    · intro y0 y1
      unfold name_sign.j1
      repeat' first
      | (with_reducible exact ih0 _ _)
      | (with_reducible exact ih1 _ _)
      | (with_reducible exact LeO.refl _)
      | (with_reducible exact LeO.none _)
      | (with_reducible refine LeO.ite ?_ ?_)
      | (with_reducible refine LeO.bind ?_ (fun _ => ?_))
      | exact ih0 _ _
      | exact ih1 _ _
      | exact LeO.none _
      | refine LeO.ite ?_ ?_
      | refine LeO.bind ?_ (fun _ => ?_)
theorem name_sign.mono : ∀ a0 k, LeO (name_sign.f k a0) (name_sign.f (k + 1) a0) := by
  intro a0 k
  obtain ⟨ih0, ih1⟩ := name_sign.mono_l k
  unfold name_sign.f
  repeat' first
      | (with_reducible exact ih0 _ _)
      | (with_reducible exact ih1 _ _)
      | (with_reducible exact LeO.refl _)
      | (with_reducible exact LeO.none _)
      | (with_reducible refine LeO.ite ?_ ?_)
      | (with_reducible refine LeO.bind ?_ (fun _ => ?_))
      | exact ih0 _ _
      | exact ih1 _ _
      | exact LeO.none _
      | refine LeO.ite ?_ ?_
      | refine LeO.bind ?_ (fun _ => ?_)
set_option maxHeartbeats 8000000 in
set_option maxRecDepth 100000 in
theorem name_sign.calls (k : Nat) (a0 : Int) (r1 : Int) (r2 : Int) (w : World) (h : name_sign.f k a0 = some (r1, r2)) :
    Calls Tryd.prog 19 #[.int .u8 a0] w fun e w' => e = .returned (.tuple #[.int .i64 r1, .int .i64 r2]) ∧ Drawn0 w w' := by
  have H : (if a0 ≥ 97 then (name_sign.j0 k a0 (decide (a0 ≤ 122))) else (name_sign.j0 k a0 false)) = some (r1, r2) := h
  clear h
  have HC2 := Aside0.mk H
  clear H
  go_enter Tryd.func19, Tryd.ntmps19
  go_upto_region 1 with (fail)
  go_cut [4] (fun v4 wc => ∃ (kq : Nat) (x4_1 : Bool), v4 = .bool x4_1 ∧ Aside0 (name_sign.j0 kq a0 x4_1 = some (r1, r2)) ∧ Aside0 (kq ≤ k) ∧ Drawn0 w wc)
  case first =>
    have H := HC2.out
    clear HC2
    by_cases c3 : a0 ≥ 97
    · rw [if_pos c3] at H
      have c3b0 : decide (97 ≤ a0) = true := decide_eq_true c3
      clear c3
      (first | rw [c3b0] | (simp only [i64_w, i32_w]; rw [c3b0]) | skip)
      have H' := Aside0.mk H
      clear H
      go_wp2
      go_meet
      case rel => exact ⟨_, (decide (a0 ≤ 122)), (by first | rfl | (simp; done) | (simp [*]; done)), H', ⟨by first | omega | exact Nat.le_refl _⟩, by repeat (first | exact Drawn0.refl _ | apply Drawn0.step)⟩
    · rw [if_neg c3] at H
      have c3b0 : decide (97 ≤ a0) = false := decide_eq_false c3
      clear c3
      (first | rw [c3b0] | (simp only [i64_w, i32_w]; rw [c3b0]) | skip)
      have H' := Aside0.mk H
      clear H
      go_wp2
      go_meet
      case rel => exact ⟨_, (false), (by first | rfl | (simp; done) | (simp [*]; done)), H', ⟨by first | omega | exact Nat.le_refl _⟩, by repeat (first | exact Drawn0.refl _ | apply Drawn0.step)⟩
  case rest =>
    clear HC2
    try clear c1
    try clear p2
    try clear c3
    try clear c3b0
    obtain ⟨kq, x4_1, rfl, HA, HJ1, ⟨mc1, rfl⟩⟩ := hcut
    cases kq with
    | zero => exact absurd HA.out (by simp [name_sign.j0])
    | succ kj1 =>
      have H := HA.out
      clear HA
      simp only [name_sign.j0] at H
      by_cases c4 : x4_1 = true
      · subst c4
        have H1 : (some (1, 1)) = some (r1, r2) := by rw [if_pos rfl] at H; exact H
        clear H
        have H := H1
        clear H1
        simp only [Option.some.injEq, Prod.mk.injEq] at H
        obtain ⟨rfl, rfl⟩ := H
        go_wp2
        go_ret2
        exact ⟨by first | rfl | (simp; done) | (simp [*]; done), by repeat (first | exact Drawn0.refl _ | apply Drawn0.step)⟩
      · replace c4 := Bool.eq_false_iff.mpr c4
        subst c4
        have H1 : (if a0 ≥ 65 then (name_sign.j1 kj1 a0 (decide (a0 ≤ 90))) else (name_sign.j1 kj1 a0 false)) = some (r1, r2) := by rw [if_neg (show ¬ (false = true) by decide)] at H; exact H
        clear H
        have H := H1
        clear H1
        have HC5 := Aside0.mk H
        clear H
        go_upto_region 3 with (fail)
        go_cut [11] (fun v11 wc => ∃ (kq : Nat) (x11_4 : Bool), v11 = .bool x11_4 ∧ Aside0 (name_sign.j1 kq a0 x11_4 = some (r1, r2)) ∧ Aside0 (kq ≤ kj1) ∧ Drawn0 w wc)
        case first =>
          have H := HC5.out
          clear HC5
          by_cases c6 : a0 ≥ 65
          · rw [if_pos c6] at H
            have c6b0 : decide (65 ≤ a0) = true := decide_eq_true c6
            clear c6
            (first | rw [c6b0] | (simp only [i64_w, i32_w]; rw [c6b0]) | skip)
            have H' := Aside0.mk H
            clear H
            go_wp2
            go_meet
            case rel => exact ⟨_, (decide (a0 ≤ 90)), (by first | rfl | (simp; done) | (simp [*]; done)), H', ⟨by have := HJ1.out; first | omega | exact Nat.le_refl _⟩, by repeat (first | exact Drawn0.refl _ | apply Drawn0.step)⟩
          · rw [if_neg c6] at H
            have c6b0 : decide (65 ≤ a0) = false := decide_eq_false c6
            clear c6
            (first | rw [c6b0] | (simp only [i64_w, i32_w]; rw [c6b0]) | skip)
            have H' := Aside0.mk H
            clear H
            go_wp2
            go_meet
            case rel => exact ⟨_, (false), (by first | rfl | (simp; done) | (simp [*]; done)), H', ⟨by have := HJ1.out; first | omega | exact Nat.le_refl _⟩, by repeat (first | exact Drawn0.refl _ | apply Drawn0.step)⟩
        case rest =>
          clear HC5
          try clear c1
          try clear p2
          try clear c3
          try clear c3b0
          try clear c4
          try clear c6
          try clear c6b0
          try clear p2
          obtain ⟨kq, x11_4, rfl, HA, HJ4, ⟨mc4, rfl⟩⟩ := hcut
          cases kq with
          | zero => exact absurd HA.out (by simp [name_sign.j1])
          | succ kj4 =>
            have H := HA.out
            clear HA
            simp only [name_sign.j1] at H
            by_cases c7 : x11_4 = true
            · subst c7
              have H1 : (some (2, 2)) = some (r1, r2) := by rw [if_pos rfl] at H; exact H
              clear H
              have H := H1
              clear H1
              simp only [Option.some.injEq, Prod.mk.injEq] at H
              obtain ⟨rfl, rfl⟩ := H
              go_wp2
              go_ret2
              exact ⟨by first | rfl | (simp; done) | (simp [*]; done), by repeat (first | exact Drawn0.refl _ | apply Drawn0.step)⟩
            · replace c7 := Bool.eq_false_iff.mpr c7
              subst c7
              have H1 : (if a0 ≥ 48 then (if a0 ≤ 57 then (some (0, 3)) else (some (0, 0))) else (some (0, 0))) = some (r1, r2) := by rw [if_neg (show ¬ (false = true) by decide)] at H; exact H
              clear H
              have H := H1
              clear H1
              by_cases c8 : a0 ≥ 48
              · rw [if_pos c8] at H
                have c8b0 : decide (48 ≤ a0) = true := decide_eq_true c8
                clear c8
                by_cases c9 : a0 ≤ 57
                · rw [if_pos c9] at H
                  have c9b0 : decide (a0 ≤ 57) = true := decide_eq_true c9
                  clear c9
                  simp only [Option.some.injEq, Prod.mk.injEq] at H
                  obtain ⟨rfl, rfl⟩ := H
                  go_wp2
                  go_ret2
                  exact ⟨by first | rfl | (simp; done) | (simp [*]; done), by repeat (first | exact Drawn0.refl _ | apply Drawn0.step)⟩
                · rw [if_neg c9] at H
                  have c9b0 : decide (a0 ≤ 57) = false := decide_eq_false c9
                  clear c9
                  simp only [Option.some.injEq, Prod.mk.injEq] at H
                  obtain ⟨rfl, rfl⟩ := H
                  go_wp2
                  go_ret2
                  exact ⟨by first | rfl | (simp; done) | (simp [*]; done), by repeat (first | exact Drawn0.refl _ | apply Drawn0.step)⟩
              · rw [if_neg c8] at H
                have c8b0 : decide (48 ≤ a0) = false := decide_eq_false c8
                clear c8
                simp only [Option.some.injEq, Prod.mk.injEq] at H
                obtain ⟨rfl, rfl⟩ := H
                go_wp2
                go_ret2
                exact ⟨by first | rfl | (simp; done) | (simp [*]; done), by repeat (first | exact Drawn0.refl _ | apply Drawn0.step)⟩

end Go.Proofs.YthngbpkknpmmlaaDoor.P

-- ==== PF10
namespace Go.Proofs.YthngbpkknpmmlaaDoor.P
open Go.RowKit Go.Proofs.YthngbpkknpmmlaaDoorW.PrintWords Go.Proofs.YthngbpkknpmmlaaDoorW.PrintLast Go.Proofs.YthngbpkknpmmlaaDoorW.PrintMore
attribute [local go_sem] max2_int min2_int max_two min_two max_three min_three max_four min_four   -- for this text's walks alone
set_option linter.unusedVariables false
set_option linter.unusedSimpArgs false

/-! ### name_Kind: function 10 -/
mutual
def name_Kind.j0 : Nat → ByteArray → Bool → Option (Int)
  | 0, _, _ => none
  | k + 1, x0, x14 => if x14 = true then (some 0) else (if 0 < (x0.size : Int) then ((name_sign.f k (bt x0 0)).bind fun bt101 => (name_Kind.l0 k x0 bt101.1 (x0.size : Int) 0)) else (none))
def name_Kind.l0 : Nat → ByteArray → Int → Int → Int → Option (Int)
  | 0, _, _, _, _ => none
  | k + 1, x0, x3, x22, x23 => if x23 < x22 then (if 0 ≤ x23 then (if x23 < (x0.size : Int) then ((name_sign.f k (bt x0 x23)).bind fun bt103 => (if (Go.bits .and .i64 bt103.2 x3) = 0 then (some 0) else (name_Kind.l0 k x0 x3 x22 (wrap64 (x23 + 1))))) else (none)) else (none)) else (some x3)
end
def name_Kind.f (k : Nat) (a0 : ByteArray) : Option (Int) := if a0.toList = ([] : List UInt8) then (name_Kind.j0 k a0 true) else (name_Kind.j0 k a0 (decide ((a0.size : Int) > 8)))
theorem name_Kind.mono_l : ∀ k, (∀ y0 y1, LeO (name_Kind.j0 k y0 y1) (name_Kind.j0 (k + 1) y0 y1)) ∧ (∀ y0 y1 y2 y3, LeO (name_Kind.l0 k y0 y1 y2 y3) (name_Kind.l0 (k + 1) y0 y1 y2 y3))
  | 0 => ⟨fun _ _ r h => by simp [name_Kind.j0] at h, fun _ _ _ _ r h => by simp [name_Kind.l0] at h⟩
  | k + 1 => by
    obtain ⟨ih0, ih1⟩ := name_Kind.mono_l k
    refine ⟨?_, ?_⟩
    · intro y0 y1
      unfold name_Kind.j0
      repeat' first
      | (with_reducible exact ih0 _ _)
      | (with_reducible exact ih1 _ _ _ _)
      | (with_reducible exact name_sign.mono _ _)
      | (with_reducible exact LeO.refl _)
      | (with_reducible exact LeO.none _)
      | (with_reducible refine LeO.ite ?_ ?_)
      | (with_reducible refine LeO.bind ?_ (fun _ => ?_))
      | exact ih0 _ _
      | exact ih1 _ _ _ _
      | exact name_sign.mono _ _
      | exact LeO.none _
      | refine LeO.ite ?_ ?_
      | refine LeO.bind ?_ (fun _ => ?_)
    · intro y0 y1 y2 y3
      unfold name_Kind.l0
      repeat' first
      | (with_reducible exact ih0 _ _)
      | (with_reducible exact ih1 _ _ _ _)
      | (with_reducible exact name_sign.mono _ _)
      | (with_reducible exact LeO.refl _)
      | (with_reducible exact LeO.none _)
      | (with_reducible refine LeO.ite ?_ ?_)
      | (with_reducible refine LeO.bind ?_ (fun _ => ?_))
      | exact ih0 _ _
      | exact ih1 _ _ _ _
      | exact name_sign.mono _ _
      | exact LeO.none _
      | refine LeO.ite ?_ ?_
      | refine LeO.bind ?_ (fun _ => ?_)
theorem name_Kind.mono : ∀ a0 k, LeO (name_Kind.f k a0) (name_Kind.f (k + 1) a0) := by
  intro a0 k
  obtain ⟨ih0, ih1⟩ := name_Kind.mono_l k
  unfold name_Kind.f
  repeat' first
      | (with_reducible exact ih0 _ _)
      | (with_reducible exact ih1 _ _ _ _)
      | (with_reducible exact name_sign.mono _ _)
      | (with_reducible exact LeO.refl _)
      | (with_reducible exact LeO.none _)
      | (with_reducible refine LeO.ite ?_ ?_)
      | (with_reducible refine LeO.bind ?_ (fun _ => ?_))
      | exact ih0 _ _
      | exact ih1 _ _ _ _
      | exact name_sign.mono _ _
      | exact LeO.none _
      | refine LeO.ite ?_ ?_
      | refine LeO.bind ?_ (fun _ => ?_)
set_option maxHeartbeats 8000000 in
set_option maxRecDepth 100000 in
theorem name_Kind.calls (k : Nat) (a0 : ByteArray) (r : Int) (w : World) (h : name_Kind.f k a0 = some r) :
    Calls Tryd.prog 10 #[.string a0] w fun e w' => e = .returned (.int .i64 r) ∧ Drawn0 w w' := by
  have H : (if a0.toList = ([] : List UInt8) then (name_Kind.j0 k a0 true) else (name_Kind.j0 k a0 (decide ((a0.size : Int) > 8)))) = some r := h
  clear h
  have HC2 := Aside0.mk H
  clear H
  go_enter Tryd.func10, Tryd.ntmps10
  go_upto_region 1 with (fail)
  go_cut [14] (fun v14 wc => ∃ (kq : Nat) (x14_1 : Bool), v14 = .bool x14_1 ∧ Aside0 (name_Kind.j0 kq a0 x14_1 = some r) ∧ Aside0 (kq ≤ k) ∧ Drawn0 w wc)
  case first =>
    have H := HC2.out
    clear HC2
    by_cases c3 : a0.toList = ([] : List UInt8)
    · rw [if_pos c3] at H
      have c3b0 : (a0.toList == ([] : List UInt8)) = true := beq_iff_eq.mpr c3
      have c3b1 : (a0.toList != ([] : List UInt8)) = false := bne_eq_false_iff_eq.mpr c3
      clear c3
      (first | rw [c3b0] | (simp only [i64_w, i32_w]; rw [c3b0]) | skip)
      have H' := Aside0.mk H
      clear H
      go_wp2
      go_meet
      case rel => exact ⟨_, (true), (by first | rfl | (simp; done) | (simp [*]; done)), H', ⟨by first | omega | exact Nat.le_refl _⟩, by repeat (first | exact Drawn0.refl _ | apply Drawn0.step)⟩
    · rw [if_neg c3] at H
      have c3b0 : (a0.toList == ([] : List UInt8)) = false := beq_eq_false_iff_ne.mpr c3
      have c3b1 : (a0.toList != ([] : List UInt8)) = true := bne_iff_ne.mpr c3
      (first | rw [c3b0] | (simp only [i64_w, i32_w]; rw [c3b0]) | skip)
      have H' := Aside0.mk H
      clear H
      go_wp2
      go_meet
      case rel => exact ⟨_, (decide ((a0.size : Int) > 8)), (by first | rfl | (simp; done) | (simp [*]; done)), H', ⟨by first | omega | exact Nat.le_refl _⟩, by repeat (first | exact Drawn0.refl _ | apply Drawn0.step)⟩
  case rest =>
    clear HC2
    try clear c1
    try clear p2
    try clear c3
    try clear c3b0
    try clear c3b1
    obtain ⟨kq, x14_1, rfl, HA, HJ1, ⟨mc1, rfl⟩⟩ := hcut
    cases kq with
    | zero => exact absurd HA.out (by simp [name_Kind.j0])
    | succ kj1 =>
      have H := HA.out
      clear HA
      simp only [name_Kind.j0] at H
      by_cases c4 : x14_1 = true
      · subst c4
        have H1 : (some 0) = some r := by rw [if_pos rfl] at H; exact H
        clear H
        have H := H1
        clear H1
        obtain rfl := Option.some.inj H
        go_wp2
        go_ret
        exact ⟨by first | rfl | (simp; done) | (simp [*]; done), by repeat (first | exact Drawn0.refl _ | apply Drawn0.step)⟩
      · replace c4 := Bool.eq_false_iff.mpr c4
        subst c4
        have H1 : (if 0 < (a0.size : Int) then ((name_sign.f kj1 (bt a0 0)).bind fun bt101 => (name_Kind.l0 kj1 a0 bt101.1 (a0.size : Int) 0)) else (none)) = some r := by rw [if_neg (show ¬ (false = true) by decide)] at H; exact H
        clear H
        have H := H1
        clear H1
        by_cases c5 : 0 < (a0.size : Int)
        · rw [if_pos c5] at H
          have c5b0 : decide (0 < (a0.size : Int)) = true := decide_eq_true c5
          have c5b1 : decide (0 < a0.size) = true := decide_eq_true (by omega)
          clear c5
          replace H := Option.bind_eq_some_iff.mp H
          obtain ⟨⟨t101, t102⟩, A70, H⟩ := H
          replace H : (name_Kind.l0 kj1 a0 t101 (a0.size : Int) 0) = some r := H
          have A7 := Aside0.mk A70
          clear A70
          have H' := Aside0.mk H
          clear H
          have p6 : 0 ≤ (0 : Int) := (by omega)
          have q6 : 0 < a0.size := (by have : (0 : Int) < (a0.size : Int) := of_decide_eq_true (by first | (with_reducible assumption) | assumption); omega)
          have hx6 : ∀ h : 0 < a0.size, ((a0[0]'h).toNat : Int) = bt a0 0 := bt_at a0 0
          clear p6
          have qi6 : (0 < (a0.size : Int)) = True := eq_true (of_decide_eq_true (by first | (with_reducible assumption) | assumption))
          replace q6 := eq_true q6
          go_wp2_with (first | ((with_reducible refine gate_callee (f := 19) rfl ?_); refine goesL_ (some 18) rfl rfl Tryd.func19 (by kernel_rfl) rfl #[.int .u8 (bt a0 0)] rfl (by (try simp only [List.map_toArray, List.map_cons, List.map_nil]); first | done | rfl | (simp only [List.length_drop, List.length_take]; rfl)) ?_; (with_reducible refine (name_sign.calls kj1 (bt a0 0) t101 t102 _ A7.out).mono ?_); rintro e w' ⟨rfl, ⟨nd, rfl⟩⟩; refine ⟨_, rfl, ?_⟩))
          go_loopg [23] kj1 (fun kq v23 w' => ∃ (x23_2 : Int), v23 = .int .i64 x23_2 ∧ Aside0 (name_Kind.l0 kq a0 t101 (a0.size : Int) x23_2 = some r) ∧ Aside0 (kq ≤ kj1) ∧ Drawn0 w w')
          case atStart => exact ⟨(0), (by first | rfl | (simp; done) | (simp [*]; done)), H', ⟨Nat.le_refl _⟩, by repeat (first | exact Drawn0.refl _ | apply Drawn0.step)⟩
          case round =>
            clear H'
            try clear c1
            try clear p2
            try clear c3
            try clear c3b0
            try clear c3b1
            try clear c4
            try clear c5
            try clear c5b0
            try clear c5b1
            try clear p6
            try clear q6
            try clear hx6
            try clear qi6
            try clear p2
            try clear p6
            try clear q6
            obtain ⟨x23_2, rfl, HA, HK2, ⟨m2, rfl⟩⟩ := hrel
            cases gk with
            | zero => exact absurd HA.out (by simp [name_Kind.l0])
            | succ k2 =>
              have H := HA.out
              clear HA
              simp only [name_Kind.l0] at H
              by_cases c8 : x23_2 < (a0.size : Int)
              · rw [if_pos c8] at H
                have c8b0 : decide (x23_2 < (a0.size : Int)) = true := decide_eq_true c8
                clear c8
                by_cases c9 : 0 ≤ x23_2
                · rw [if_pos c9] at H
                  have c9b0 : decide (0 ≤ x23_2) = true := decide_eq_true c9
                  clear c9
                  by_cases c10 : x23_2 < (a0.size : Int)
                  · rw [if_pos c10] at H
                    have c10b0 : decide (x23_2 < (a0.size : Int)) = true := decide_eq_true c10
                    clear c10
                    replace H := Option.bind_eq_some_iff.mp H
                    obtain ⟨⟨t103, t104⟩, A120, H⟩ := H
                    replace H : (if (Go.bits .and .i64 t104 t101) = 0 then (some 0) else (name_Kind.l0 k2 a0 t101 (a0.size : Int) (wrap64 (x23_2 + 1)))) = some r := H
                    have A12 := Aside0.mk A120
                    clear A120
                    by_cases c13 : (Go.bits .and .i64 t104 t101) = 0
                    · rw [if_pos c13] at H
                      have c13b0 : ((Go.bits .and .i64 t104 t101) == 0) = true := beq_iff_eq.mpr c13
                      have c13b1 : ((Go.bits .and .i64 t104 t101) != 0) = false := bne_eq_false_iff_eq.mpr c13
                      clear c13
                      obtain rfl := Option.some.inj H
                      have p11 : 0 ≤ (x23_2 : Int) := of_decide_eq_true (by first | (with_reducible assumption) | assumption)
                      have q11 : x23_2 < (a0.size : Int) := of_decide_eq_true (by first | (with_reducible assumption) | assumption)
                      have hx11 := bt_at a0 x23_2
                      replace p11 := eq_true p11
                      replace q11 := eq_true q11
                      go_wp2_with (first | ((with_reducible refine gate_callee (f := 19) rfl ?_); refine goesL_ (some 30) rfl rfl Tryd.func19 (by kernel_rfl) rfl #[.int .u8 (bt a0 x23_2)] rfl (by (try simp only [List.map_toArray, List.map_cons, List.map_nil]); first | done | rfl | (simp only [List.length_drop, List.length_take]; rfl)) ?_; (with_reducible refine (name_sign.calls k2 (bt a0 x23_2) t103 t104 _ A12.out).mono ?_); rintro e w' ⟨rfl, ⟨nd, rfl⟩⟩; refine ⟨_, rfl, ?_⟩))
                      go_ret
                      exact ⟨by first | rfl | (simp; done) | (simp [*]; done), by repeat (first | exact Drawn0.refl _ | apply Drawn0.step)⟩
                    · rw [if_neg c13] at H
                      have c13b0 : ((Go.bits .and .i64 t104 t101) == 0) = false := beq_eq_false_iff_ne.mpr c13
                      have c13b1 : ((Go.bits .and .i64 t104 t101) != 0) = true := bne_iff_ne.mpr c13
                      have H' := Aside0.mk H
                      clear H
                      have p11 : 0 ≤ (x23_2 : Int) := of_decide_eq_true (by first | (with_reducible assumption) | assumption)
                      have q11 : x23_2 < (a0.size : Int) := of_decide_eq_true (by first | (with_reducible assumption) | assumption)
                      have hx11 := bt_at a0 x23_2
                      replace p11 := eq_true p11
                      replace q11 := eq_true q11
                      go_wp2_with (first | ((with_reducible refine gate_callee (f := 19) rfl ?_); refine goesL_ (some 30) rfl rfl Tryd.func19 (by kernel_rfl) rfl #[.int .u8 (bt a0 x23_2)] rfl (by (try simp only [List.map_toArray, List.map_cons, List.map_nil]); first | done | rfl | (simp only [List.length_drop, List.length_take]; rfl)) ?_; (with_reducible refine (name_sign.calls k2 (bt a0 x23_2) t103 t104 _ A12.out).mono ?_); rintro e w' ⟨rfl, ⟨nd, rfl⟩⟩; refine ⟨_, rfl, ?_⟩))
                      go_roundg k2
                      case measure => have := HJ1.out; have := HK2.out; omega
                      case rel => exact ⟨(wrap64 (x23_2 + 1)), (by first | rfl | (simp; done) | (simp [*]; done)), H', ⟨by have := HJ1.out; have := HK2.out; omega⟩, by repeat (first | exact Drawn0.refl _ | apply Drawn0.step)⟩
                  · rw [if_neg c10] at H
                    exact absurd H (by simp)
                · rw [if_neg c9] at H
                  exact absurd H (by simp)
              · rw [if_neg c8] at H
                have c8b0 : decide (x23_2 < (a0.size : Int)) = false := decide_eq_false c8
                clear c8
                obtain rfl := Option.some.inj H
                go_wp2
                go_ret
                exact ⟨by first | rfl | (simp; done) | (simp [*]; done), by repeat (first | exact Drawn0.refl _ | apply Drawn0.step)⟩
        · rw [if_neg c5] at H
          exact absurd H (by simp)

end Go.Proofs.YthngbpkknpmmlaaDoor.P

-- ==== Shelf
/-
  DERIVED: THE SHELF's CONTRACTS AT THIS DUMP, IN PLAIN WORDS (tools/lay-plain.mjs out of 'TrydShelf.lean', which tools/lay-shelf.mjs wrote): THE SAME DECLARATIONS UNDER THE SAME NAMES: 'import', 'namespace', 'open', 'def', 'theorem' AND NOTHING ELSE: no command of the shelf's: FOR A HAND-IN. Each laying: the table of numbers ('.._ren') and one theorem, a field a fact of the dump's own or the kernel's comparison; each contract: ONE APPLICATION.
-/
namespace Go.Proofs
open Go.Shelf
def Tryd.laysM173_ren : Go.Shelf.Ren := ⟨fun | 173 => 23 | 246 => 28 | 283 => 34 | 284 => 35 | 285 => 36 | 286 => 37 | 129 => 44 | 317 => 43 | 318 => 45 | 319 => 46 | 320 => 47 | 337 => 49 | 338 => 50 | n => n, fun | 2 => 2 | 3 => 3 | 9 => 9 | 4 => 4 | 171 => 60 | 0 => 0 | 53 => 48 | 37 => 35 | 5 => 5 | 173 => 63 | 212 => 72 | 51 => 73 | 20 => 20 | 213 => 74 | 46 => 55 | 232 => 82 | 233 => 83 | n => n, fun | 17 => 2 | 18 => 3 | 19 => 4 | n => n⟩
theorem Tryd.laysM173 : Go.Proofs.LaysM.n173 Tryd.prog Tryd.laysM173_ren := {
  mixed := by kernel_rfl
  f129 := Tryd.func44.trans (congrArg some (by kernel_rfl))
  f173 := Tryd.func23.trans (congrArg some (by kernel_rfl))
  f246 := Tryd.func28.trans (congrArg some (by kernel_rfl))
  f283 := Tryd.func34.trans (congrArg some (by kernel_rfl))
  f284 := Tryd.func35.trans (congrArg some (by kernel_rfl))
  f285 := Tryd.func36.trans (congrArg some (by kernel_rfl))
  f286 := Tryd.func37.trans (congrArg some (by kernel_rfl))
  f317 := Tryd.func43.trans (congrArg some (by kernel_rfl))
  f318 := Tryd.func45.trans (congrArg some (by kernel_rfl))
  f319 := Tryd.func46.trans (congrArg some (by kernel_rfl))
  f320 := Tryd.func47.trans (congrArg some (by kernel_rfl))
  f337 := Tryd.func49.trans (congrArg some (by kernel_rfl))
  f338 := Tryd.func50.trans (congrArg some (by kernel_rfl))
  t0 := Tryd.underlying0
  a0 := Tryd.isAgg0
  z0 := Tryd.sizeOf0
  v0 := Tryd.zeroValue0
  t2 := Tryd.underlying2
  a2 := Tryd.isAgg2
  z2 := Tryd.sizeOf2
  v2 := Tryd.zeroValue2
  t3 := Tryd.underlying3
  a3 := Tryd.isAgg3
  z3 := Tryd.sizeOf3
  v3 := Tryd.zeroValue3
  t4 := Tryd.underlying4
  a4 := Tryd.isAgg4
  z4 := Tryd.sizeOf4
  v4 := Tryd.zeroValue4
  t5 := Tryd.underlying5
  a5 := Tryd.isAgg5
  z5 := Tryd.sizeOf5
  v5 := Tryd.zeroValue5
  t9 := Tryd.underlying9
  a9 := Tryd.isAgg9
  z9 := Tryd.sizeOf9
  v9 := Tryd.zeroValue9
  t20 := Tryd.underlying20
  a20 := Tryd.isAgg20
  z20 := Tryd.sizeOf20
  v20 := Tryd.zeroValue20
  t37 := Tryd.underlying35
  a37 := Tryd.isAgg35
  z37 := Tryd.sizeOf35
  v37 := Tryd.zeroValue35
  t46 := Tryd.underlying55
  a46 := Tryd.isAgg55
  z46 := Tryd.sizeOf55
  v46 := Tryd.zeroValue55
  t51 := Tryd.underlying73
  a51 := Tryd.isAgg73
  z51 := Tryd.sizeOf73
  v51 := Tryd.zeroValue73
  t53 := Tryd.underlying48
  a53 := Tryd.isAgg48
  z53 := Tryd.sizeOf48
  v53 := Tryd.zeroValue48
  t171 := Tryd.underlying60
  a171 := Tryd.isAgg60
  z171 := Tryd.sizeOf60
  v171 := Tryd.zeroValue60
  t173 := Tryd.underlying63
  a173 := Tryd.isAgg63
  z173 := Tryd.sizeOf63
  v173 := Tryd.zeroValue63
  t212 := Tryd.underlying72
  a212 := Tryd.isAgg72
  z212 := Tryd.sizeOf72
  v212 := Tryd.zeroValue72
  t213 := Tryd.underlying74
  a213 := Tryd.isAgg74
  z213 := Tryd.sizeOf74
  t232 := Tryd.underlying82
  a232 := Tryd.isAgg82
  z232 := Tryd.sizeOf82
  v232 := Tryd.zeroValue82
  t233 := Tryd.underlying83
  a233 := Tryd.isAgg83
  z233 := Tryd.sizeOf83
  v233 := Tryd.zeroValue83
  g17 := by kernel_rfl
  g18 := by kernel_rfl
  g19 := by kernel_rfl
  i0 := by kernel_rfl
  i2 := by kernel_rfl
  i3 := by kernel_rfl
  i4 := by kernel_rfl
  i5 := by kernel_rfl
  i9 := by kernel_rfl
  i20 := by kernel_rfl
  i37 := by kernel_rfl
  i46 := by kernel_rfl
  i51 := by kernel_rfl
  i53 := by kernel_rfl
  i171 := by kernel_rfl
  i173 := by kernel_rfl
  i212 := by kernel_rfl
  i232 := by kernel_rfl
  i233 := by kernel_rfl
  m17 := by kernel_rfl
  m18 := by kernel_rfl
  m19 := by kernel_rfl }
open Go.RowKit Go.Sort Go.Lib in
/-- strconv.FormatInt: "FormatInt returns the string representation of i in the given base": AT BASE 10: i's decimal numeral, for every int64. (LAID: no walk: one application.) -/
theorem Tryd.strconv_FormatInt_10 (n : Int) (h0 : -9223372036854775808 ≤ n) (h1 : n ≤ 9223372036854775807) (w : World) (htab : Lib.TabIs Tryd.prog w "internal/strconv.uint64pow10" .u64 Lib.pow10Tab) :
    Calls Tryd.prog 23 #[.int .i64 n, .int .i64 10] w fun e w' => e = .returned (.string ⟨(Lib.itoa n).toArray⟩) ∧ ∃ k os, w' = grow (w.drewN k) os := Any.strconv_FormatInt_10 Tryd.laysM173 n h0 h1 w htab
def Tryd.laysC174_ren : Go.Shelf.Ren := ⟨fun | 174 => 22 | 247 => 26 | 245 => 27 | 287 => 29 | 279 => 30 | 280 => 31 | 281 => 32 | 282 => 33 | 321 => 38 | 322 => 39 | 316 => 40 | 171 => 42 | 205 => 41 | 243 => 48 | 246 => 28 | 283 => 34 | 284 => 35 | 285 => 36 | 286 => 37 | 129 => 44 | 317 => 43 | 318 => 45 | 319 => 46 | 320 => 47 | 337 => 49 | 338 => 50 | n => n, fun | 9 => 9 | 3 => 3 | 2 => 2 | 75 => 45 | 85 => 46 | 4 => 4 | 167 => 52 | 5 => 5 | 53 => 48 | 175 => 53 | 46 => 55 | 168 => 56 | 37 => 35 | 0 => 0 | 210 => 68 | 21 => 21 | 127 => 77 | 145 => 80 | 143 => 78 | 171 => 60 | 173 => 63 | 212 => 72 | 51 => 73 | 20 => 20 | 213 => 74 | 232 => 82 | 233 => 83 | 80 => 84 | n => n, fun | 15 => 0 | 16 => 1 | 17 => 2 | 18 => 3 | 19 => 4 | n => n⟩
theorem Tryd.laysC174 : Go.Proofs.LaysC.n174 Tryd.prog Tryd.laysC174_ren := {
  mixed := by kernel_rfl
  f129 := Tryd.func44.trans (congrArg some (by kernel_rfl))
  f171 := Tryd.func42.trans (congrArg some (by kernel_rfl))
  f174 := Tryd.func22.trans (congrArg some (by kernel_rfl))
  f205 := Tryd.func41.trans (congrArg some (by kernel_rfl))
  f243 := Tryd.func48.trans (congrArg some (by kernel_rfl))
  f245 := Tryd.func27.trans (congrArg some (by kernel_rfl))
  f246 := Tryd.func28.trans (congrArg some (by kernel_rfl))
  f247 := Tryd.func26.trans (congrArg some (by kernel_rfl))
  f279 := Tryd.func30.trans (congrArg some (by kernel_rfl))
  f280 := Tryd.func31.trans (congrArg some (by kernel_rfl))
  f281 := Tryd.func32.trans (congrArg some (by kernel_rfl))
  f282 := Tryd.func33.trans (congrArg some (by kernel_rfl))
  f283 := Tryd.func34.trans (congrArg some (by kernel_rfl))
  f284 := Tryd.func35.trans (congrArg some (by kernel_rfl))
  f285 := Tryd.func36.trans (congrArg some (by kernel_rfl))
  f286 := Tryd.func37.trans (congrArg some (by kernel_rfl))
  f287 := Tryd.func29.trans (congrArg some (by kernel_rfl))
  f316 := Tryd.func40.trans (congrArg some (by kernel_rfl))
  f317 := Tryd.func43.trans (congrArg some (by kernel_rfl))
  f318 := Tryd.func45.trans (congrArg some (by kernel_rfl))
  f319 := Tryd.func46.trans (congrArg some (by kernel_rfl))
  f320 := Tryd.func47.trans (congrArg some (by kernel_rfl))
  f321 := Tryd.func38.trans (congrArg some (by kernel_rfl))
  f322 := Tryd.func39.trans (congrArg some (by kernel_rfl))
  f337 := Tryd.func49.trans (congrArg some (by kernel_rfl))
  f338 := Tryd.func50.trans (congrArg some (by kernel_rfl))
  t0 := Tryd.underlying0
  a0 := Tryd.isAgg0
  z0 := Tryd.sizeOf0
  v0 := Tryd.zeroValue0
  t2 := Tryd.underlying2
  a2 := Tryd.isAgg2
  z2 := Tryd.sizeOf2
  v2 := Tryd.zeroValue2
  t3 := Tryd.underlying3
  a3 := Tryd.isAgg3
  z3 := Tryd.sizeOf3
  v3 := Tryd.zeroValue3
  t4 := Tryd.underlying4
  a4 := Tryd.isAgg4
  z4 := Tryd.sizeOf4
  v4 := Tryd.zeroValue4
  t5 := Tryd.underlying5
  a5 := Tryd.isAgg5
  z5 := Tryd.sizeOf5
  v5 := Tryd.zeroValue5
  t9 := Tryd.underlying9
  a9 := Tryd.isAgg9
  z9 := Tryd.sizeOf9
  v9 := Tryd.zeroValue9
  t20 := Tryd.underlying20
  a20 := Tryd.isAgg20
  z20 := Tryd.sizeOf20
  v20 := Tryd.zeroValue20
  t21 := Tryd.underlying21
  a21 := Tryd.isAgg21
  z21 := Tryd.sizeOf21
  v21 := Tryd.zeroValue21
  t37 := Tryd.underlying35
  a37 := Tryd.isAgg35
  z37 := Tryd.sizeOf35
  v37 := Tryd.zeroValue35
  t46 := Tryd.underlying55
  a46 := Tryd.isAgg55
  z46 := Tryd.sizeOf55
  v46 := Tryd.zeroValue55
  t51 := Tryd.underlying73
  a51 := Tryd.isAgg73
  z51 := Tryd.sizeOf73
  v51 := Tryd.zeroValue73
  t53 := Tryd.underlying48
  a53 := Tryd.isAgg48
  z53 := Tryd.sizeOf48
  v53 := Tryd.zeroValue48
  t75 := Tryd.underlying45
  a75 := Tryd.isAgg45
  z75 := Tryd.sizeOf45
  v75 := Tryd.zeroValue45
  t85 := Tryd.underlying46
  a85 := Tryd.isAgg46
  z85 := Tryd.sizeOf46
  v85 := Tryd.zeroValue46
  t127 := Tryd.underlying77
  a127 := Tryd.isAgg77
  z127 := Tryd.sizeOf77
  v127 := Tryd.zeroValue77
  t143 := Tryd.underlying78
  a143 := Tryd.isAgg78
  z143 := Tryd.sizeOf78
  v143 := Tryd.zeroValue78
  t145 := Tryd.underlying80
  a145 := Tryd.isAgg80
  z145 := Tryd.sizeOf80
  v145 := Tryd.zeroValue80
  t167 := Tryd.underlying52
  a167 := Tryd.isAgg52
  z167 := Tryd.sizeOf52
  v167 := Tryd.zeroValue52
  t168 := Tryd.underlying56
  a168 := Tryd.isAgg56
  z168 := Tryd.sizeOf56
  v168 := Tryd.zeroValue56
  t171 := Tryd.underlying60
  a171 := Tryd.isAgg60
  z171 := Tryd.sizeOf60
  v171 := Tryd.zeroValue60
  t173 := Tryd.underlying63
  a173 := Tryd.isAgg63
  z173 := Tryd.sizeOf63
  v173 := Tryd.zeroValue63
  t175 := Tryd.underlying53
  a175 := Tryd.isAgg53
  z175 := Tryd.sizeOf53
  v175 := Tryd.zeroValue53
  t210 := Tryd.underlying68
  a210 := Tryd.isAgg68
  z210 := Tryd.sizeOf68
  v210 := Tryd.zeroValue68
  t212 := Tryd.underlying72
  a212 := Tryd.isAgg72
  z212 := Tryd.sizeOf72
  v212 := Tryd.zeroValue72
  t213 := Tryd.underlying74
  a213 := Tryd.isAgg74
  z213 := Tryd.sizeOf74
  t232 := Tryd.underlying82
  a232 := Tryd.isAgg82
  z232 := Tryd.sizeOf82
  v232 := Tryd.zeroValue82
  t233 := Tryd.underlying83
  a233 := Tryd.isAgg83
  z233 := Tryd.sizeOf83
  v233 := Tryd.zeroValue83
  g15 := by kernel_rfl
  g16 := by kernel_rfl
  g17 := by kernel_rfl
  g18 := by kernel_rfl
  g19 := by kernel_rfl
  t80 := Tryd.underlying84
  a80 := Tryd.isAgg84
  z80 := Tryd.sizeOf84
  v80 := Tryd.zeroValue84
  i0 := by kernel_rfl
  i2 := by kernel_rfl
  i3 := by kernel_rfl
  i4 := by kernel_rfl
  i5 := by kernel_rfl
  i9 := by kernel_rfl
  i20 := by kernel_rfl
  i21 := by kernel_rfl
  i37 := by kernel_rfl
  i46 := by kernel_rfl
  i51 := by kernel_rfl
  i53 := by kernel_rfl
  i75 := by kernel_rfl
  i80 := by kernel_rfl
  i85 := by kernel_rfl
  i127 := by kernel_rfl
  i143 := by kernel_rfl
  i145 := by kernel_rfl
  i167 := by kernel_rfl
  i168 := by kernel_rfl
  i171 := by kernel_rfl
  i173 := by kernel_rfl
  i175 := by kernel_rfl
  i210 := by kernel_rfl
  i212 := by kernel_rfl
  i232 := by kernel_rfl
  i233 := by kernel_rfl
  m15 := by kernel_rfl
  m16 := by kernel_rfl
  m17 := by kernel_rfl
  m18 := by kernel_rfl
  m19 := by kernel_rfl
  c0 := by kernel_rfl
  c2 := by kernel_rfl
  c3 := by kernel_rfl
  c4 := by kernel_rfl
  c5 := by kernel_rfl
  c9 := by kernel_rfl
  c20 := by kernel_rfl
  c21 := by kernel_rfl
  c37 := by kernel_rfl
  c46 := by kernel_rfl
  c51 := by kernel_rfl
  c53 := by kernel_rfl
  c75 := by kernel_rfl
  c80 := by kernel_rfl
  c85 := by kernel_rfl
  c127 := by kernel_rfl
  c143 := by kernel_rfl
  c145 := by kernel_rfl
  c167 := by kernel_rfl
  c168 := by kernel_rfl
  c171 := by kernel_rfl
  c173 := by kernel_rfl
  c175 := by kernel_rfl
  c210 := by kernel_rfl
  c212 := by kernel_rfl
  c213 := by kernel_rfl
  c232 := by kernel_rfl
  c233 := by kernel_rfl }
open Go.RowKit in
/-- strconv.ParseInt(s, 10, 64), AT EVERY STRING THAT SPELLS AN int64 ('Lib.parseIntB 64 s.data.toList = .ok v'): v, AND NO ERROR. (LAID: no walk: one application.) -/
theorem Tryd.strconv_ParseInt_10_at64_ok (s : ByteArray) (hmax : s.size ≤ 9223372036854775806) (v : Int) (h : Lib.parseIntB 64 s.data.toList = .ok v) (w : World) :
    Calls Tryd.prog 22 #[.string s, .int .i64 10, .int .i64 64] w fun e w' => e = .returned (.tuple #[.int .i64 v, .nilIface]) ∧ (w' = w ∨ ∃ t, w' = Lib.bytesWorld w 5 t) := Any.strconv_ParseInt_10_at64_ok Tryd.laysC174 s hmax v h w
open Go.RowKit in
theorem Tryd.strconv_ParseInt_10_at64_syntax_var (s : ByteArray) (hlim : s.size ≤ 281474976710656) (h : Lib.parseIntB 64 s.data.toList = .«syntax») (tp : TypeId) (p : Value) (w : World) (hvar : w.var? Tryd.prog "strconv.ErrSyntax" = some #[.iface tp p]) :
    Calls Tryd.prog 22 #[.string s, .int .i64 10, .int .i64 64] w fun e w' => ∃ N, e = .returned (.tuple #[.int .i64 (0), .iface 56 (.pointer (some ⟨N, 0, none⟩))]) ∧ w.heap.size ≤ N ∧ w'.heap[N]? = some (.cells #[.string ⟨#[80, 97, 114, 115, 101, 73, 110, 116]⟩, .string s, .iface tp p] 68 (0, 0)) ∧ Below w.heap.size w w' := Any.strconv_ParseInt_10_at64_syntax_var Tryd.laysC174 s hlim h tp p w hvar
open Go.RowKit in
theorem Tryd.strconv_ParseInt_10_at64_range_var (s : ByteArray) (hlim : s.size ≤ 281474976710656) (h : Lib.parseIntB 64 s.data.toList = .range) (tp : TypeId) (p : Value) (w : World) (hvar : w.var? Tryd.prog "strconv.ErrRange" = some #[.iface tp p]) :
    Calls Tryd.prog 22 #[.string s, .int .i64 10, .int .i64 64] w fun e w' => ∃ N, e = .returned (.tuple #[.int .i64 (Lib.intSat 64 s.data.toList), .iface 56 (.pointer (some ⟨N, 0, none⟩))]) ∧ w.heap.size ≤ N ∧ w'.heap[N]? = some (.cells #[.string ⟨#[80, 97, 114, 115, 101, 73, 110, 116]⟩, .string s, .iface tp p] 68 (0, 0)) ∧ Below w.heap.size w w' := Any.strconv_ParseInt_10_at64_range_var Tryd.laysC174 s hlim h tp p w hvar
end Go.Proofs

-- ==== GlobH
/- What the listed package-level variables hold, as a fact on worlds: it stands in every later world. -/
namespace Go.Proofs.YthngbpkknpmmlaaDoor.P
open Go.RowKit Go.Proofs.YthngbpkknpmmlaaDoorW.PrintWords
set_option linter.unusedVariables false
structure Glob (w : World) : Prop where
  tab : Lib.TabIs Tryd.prog w "internal/strconv.uint64pow10" .u64 Lib.pow10Tab
  syn : ∃ tp p, w.var? Tryd.prog "strconv.ErrSyntax" = some #[.iface tp p]
  rng : ∃ tp p, w.var? Tryd.prog "strconv.ErrRange" = some #[.iface tp p]
theorem var_below {P : Program} {n : String} {cs : Array Value} {w w1 : World} (h : w.var? P n = some cs) (hb : Below w.heap.size w w1) : w1.var? P n = some cs := by
  unfold World.var? at h ⊢
  cases hg : P.globalNamed n with
  | none => rw [hg] at h; cases h
  | some g =>
    rw [hg] at h
    simp only [Option.bind_some] at h ⊢
    cases ho : w.heap[g]? with
    | none => rw [ho] at h; cases h
    | some o =>
      have hlt : g < w.heap.size := (Array.getElem?_eq_some_iff.1 ho).1
      rw [hb.block g hlt, ho]
      rw [ho] at h
      exact h
theorem Glob.below {w w1 : World} (h : Glob w) (hb : Below w.heap.size w w1) : Glob w1 := by
  obtain ⟨h1, ⟨a, b, h2⟩, ⟨c, d, h3⟩⟩ := h
  exact ⟨var_below h1 hb, ⟨a, b, var_below h2 hb⟩, ⟨c, d, var_below h3 hb⟩⟩
theorem gPow : Tryd.prog.globalNamed "internal/strconv.uint64pow10" = some 2 := by kernel_rfl
theorem gSyn : Tryd.prog.globalNamed "strconv.ErrSyntax" = some 0 := by kernel_rfl
theorem gRng : Tryd.prog.globalNamed "strconv.ErrRange" = some 1 := by kernel_rfl
theorem gPowT : (Tryd.prog.globals[2]?).map (·.type) = some 72 := by kernel_rfl
theorem gSynT : (Tryd.prog.globals[0]?).map (·.type) = some 45 := by kernel_rfl
theorem gRngT : (Tryd.prog.globals[1]?).map (·.type) = some 45 := by kernel_rfl
theorem cPow : Tryd.prog.cellsOf 72 = 20 := by kernel_rfl
theorem cU64 : Tryd.prog.cellsOf 48 = 1 := by kernel_rfl
theorem cErrS : Tryd.prog.cellsOf 80 = 1 := by kernel_rfl
theorem cStr : Tryd.prog.cellsOf 9 = 1 := by kernel_rfl
theorem starErr : "*" ++ "errors.errorString" = "*errors.errorString" := by decide
theorem rowErr (u : TypeId) (h : Tryd.prog.typeName? 3 u = some "*errors.errorString") : u = 78 :=
  typeName_ptr_named (nm := "errors.errorString") (by rw [starErr]; kernel_rfl) (by kernel_rfl) (by decide) u (by rw [starErr]; exact h)
theorem glob_of {W : World} {r1 r2 : List (String × DataW Unit)} {t1 t2 : List UInt8} (h0 : laidMet Tryd.prog (("internal/strconv.uint64pow10", Lib.tabData .u64 Lib.pow10Tab) :: ("strconv.ErrRange", .iface "*errors.errorString" (.ptr (.agg [.lit (.string t1)]))) :: ("strconv.ErrSyntax", .iface "*errors.errorString" (.ptr (.agg [.lit (.string t2)]))) :: r2) W) : Glob W := by
  obtain ⟨a1, s1, hv1, -, -, -⟩ := laid_sentinel h0.tail gRng gRngT Tryd.underlying45 rowErr Tryd.underlying78 Tryd.underlying80 rfl rfl Tryd.underlying9 cErrS cStr
  obtain ⟨a2, s2, hv2, -, -, -⟩ := laid_sentinel h0.tail.tail gSyn gSynT Tryd.underlying45 rowErr Tryd.underlying78 Tryd.underlying80 rfl rfl Tryd.underlying9 cErrS cStr
  exact ⟨Lib.tabIs_of_head gPow gPowT Tryd.underlying72 Tryd.underlying48 cU64 cPow h0, ⟨_, _, hv2⟩, ⟨_, _, hv1⟩⟩
theorem glob_row {W : World} (h : laidMet Tryd.prog Rows.nameKindsRow.laid W) : Glob W := glob_of (r1 := []) h.tail.tail
end Go.Proofs.YthngbpkknpmmlaaDoor.P

-- ==== Nu1
namespace Go.Proofs.YthngbpkknpmmlaaDoor.P
open Go.RowKit Go.Proofs.YthngbpkknpmmlaaDoorW.PrintWords Go.Proofs.YthngbpkknpmmlaaDoorW.PrintLast Go.Proofs.YthngbpkknpmmlaaDoorW.PrintMore
set_option linter.unusedVariables false
set_option linter.unusedSimpArgs false
def wrS (n : Int) : ByteArray := if n = -9223372036854775808 then ⟨#[45, 57, 50, 50, 51, 51, 55, 50, 48, 51, 54, 56, 53, 52, 55, 55, 53, 56, 48, 56]⟩ else ⟨(Lib.itoa n).toArray⟩
theorem below_grow {w w1 : World} (h : Below w.heap.size w w1) {k : Nat} {os : Array Obj} : Below w.heap.size w (Sort.grow (w1.drewN k) os) :=
  ⟨h.os, h.tape, h.output, by show w.heap.size ≤ (w1.heap ++ os).size; have := h.size; simp; omega, fun j hj => by
    show (w1.heap ++ os)[j]? = _
    have := h.size
    rw [Array.getElem?_append_left (by omega)]
    exact h.block j hj⟩
set_option maxHeartbeats 8000000 in
set_option maxRecDepth 100000 in
theorem wr_calls (n : Int) (h0 : -9223372036854775808 ≤ n) (h1 : n ≤ 9223372036854775807) (w : World) (hg : Glob w) :
    Calls Tryd.prog 17 #[.int .i64 n] w fun e w' => e = .returned (.string (wrS n)) ∧ Below w.heap.size w w' := by
  unfold wrS
  by_cases hn : n = -9223372036854775808
  · rw [if_pos hn]
    subst hn
    clear h0 h1
    go_enter Tryd.func17, Tryd.ntmps17
    go_wp2
    go_ret
    exact ⟨rfl, Below.refl _ _⟩
  · rw [if_neg hn]
    have hc := Tryd.strconv_FormatInt_10 n h0 h1 w hg.tab
    clear h0 h1
    have hn' := eq_false hn
    go_enter Tryd.func17, Tryd.ntmps17
    go_wp2_with (go_at_call 23; refine hc.mono ?_; rintro e w' ⟨rfl, k, os, rfl⟩)
    go_ret
    exact ⟨rfl, below_grow (Below.refl _ _)⟩
end Go.Proofs.YthngbpkknpmmlaaDoor.P

-- ==== Nu2
namespace Go.Proofs.YthngbpkknpmmlaaDoor.P
open Go.RowKit Go.Proofs.YthngbpkknpmmlaaDoorW.PrintWords Go.Proofs.YthngbpkknpmmlaaDoorW.PrintLast Go.Proofs.YthngbpkknpmmlaaDoorW.PrintMore
set_option linter.unusedVariables false
set_option linter.unusedSimpArgs false
def numS (s : ByteArray) : Int × Int := match Lib.parseIntB 64 s.data.toList with
  | .ok v => if wrS v = s then (v, 0) else (0, 13)
  | _ => (0, 13)
theorem bytes_eq0 (a b : ByteArray) : a.toList = b.toList ↔ a = b := by
  rw [ByteArray.toList_eq, ByteArray.toList_eq]
  constructor
  · intro h
    cases a; cases b
    simp only [ByteArray.mk.injEq]
    exact Array.toList_inj.1 h
  · intro h
    rw [h]
theorem bytes_below {w w1 : World} {e : TypeId} (h : w1 = w ∨ ∃ t, w1 = Lib.bytesWorld w e t) : Below w.heap.size w w1 := by
  rcases h with rfl | ⟨t, rfl⟩
  · exact Below.refl _ _
  · exact Joins.below_bytesWorld _ _ _ _ (Nat.le_refl _)
set_option maxHeartbeats 8000000 in
set_option maxRecDepth 100000 in
theorem num_calls (s : ByteArray) (hs : s.size ≤ 281474976710656) (w : World) (hg : Glob w) :
    Calls Tryd.prog 15 #[.string s] w fun e w' => e = .returned (.tuple #[.int .i64 (numS s).1, .int .i64 (numS s).2]) ∧ Below w.heap.size w w' := by
  unfold numS
  cases hp : Lib.parseIntB 64 s.data.toList with
  | ok v =>
    obtain ⟨b0, b1⟩ := Lib.parseIntB_bounds hp
    have hc := Tryd.strconv_ParseInt_10_at64_ok s (by omega) v hp w
    have b0' : -9223372036854775808 ≤ v := by simpa using b0
    have b1' : v ≤ 9223372036854775807 := by
      have : v < 9223372036854775808 := by simpa using b1
      omega
    have hcw := fun w1 hg1 => wr_calls v b0' b1' w1 hg1
    clear b0 b1 b0' b1' hs
    by_cases hv : wrS v = s
    · simp only [if_pos hv]
      subst hv
      go_enter Tryd.func15, Tryd.ntmps15
      go_wp2_with (first
        | (go_at_call 22; refine hc.mono ?_; rintro e w' ⟨rfl, hw⟩; have hb := bytes_below hw)
        | (go_at_call 17; refine (hcw _ (hg.below hb)).mono ?_; rintro e w2 ⟨rfl, hb2⟩))
      go_ret2
      exact ⟨rfl, hb.trans (hb2.mono hb.size)⟩
    · simp only [if_neg hv]
      have hv' : ((wrS v).toList == s.toList) = false := beq_eq_false_iff_ne.2 (fun e => hv ((bytes_eq0 _ _).1 e))
      go_enter Tryd.func15, Tryd.ntmps15
      go_wp2_with (first
        | (go_at_call 22; refine hc.mono ?_; rintro e w' ⟨rfl, hw⟩; have hb := bytes_below hw)
        | (go_at_call 17; refine (hcw _ (hg.below hb)).mono ?_; rintro e w2 ⟨rfl, hb2⟩))
      go_ret2
      exact ⟨rfl, hb.trans (hb2.mono hb.size)⟩
  | «syntax» =>
    obtain ⟨tp, p, hv⟩ := hg.syn
    have hc := Tryd.strconv_ParseInt_10_at64_syntax_var s hs hp tp p w hv
    go_enter Tryd.func15, Tryd.ntmps15
    go_wp2_with (go_at_call 22; refine hc.mono ?_; rintro e w' ⟨N, rfl, _, _, hb⟩)
    go_ret2
    exact ⟨rfl, hb⟩
  | range =>
    obtain ⟨tp, p, hv⟩ := hg.rng
    have hc := Tryd.strconv_ParseInt_10_at64_range_var s hs hp tp p w hv
    go_enter Tryd.func15, Tryd.ntmps15
    go_wp2_with (go_at_call 22; refine hc.mono ?_; rintro e w' ⟨N, rfl, _, _, hb⟩)
    go_ret2
    exact ⟨rfl, hb⟩
end Go.Proofs.YthngbpkknpmmlaaDoor.P

-- ==== PF15
namespace Go.Proofs.YthngbpkknpmmlaaDoor.P
open Go.RowKit Go.Proofs.YthngbpkknpmmlaaDoorW.PrintWords Go.Proofs.YthngbpkknpmmlaaDoorW.PrintLast Go.Proofs.YthngbpkknpmmlaaDoorW.PrintMore
attribute [local go_sem] max2_int min2_int max_two min_two max_three min_three max_four min_four   -- for this text's walks alone
set_option linter.unusedVariables false
set_option linter.unusedSimpArgs false

/-! ### name_Number: function 15 -/
def name_Number.f (a0 : ByteArray) : Option (Int × Int) := if a0.size ≤ 281474976710656 then some (numS a0) else none
theorem name_Number.calls (a0 : ByteArray) (r1 : Int) (r2 : Int) (w : World) (h : name_Number.f a0 = some (r1, r2)) (hgl : Glob w) :
    Calls Tryd.prog 15 #[.string a0] w fun e w' => e = .returned (.tuple #[.int .i64 r1, .int .i64 r2]) ∧ Below w.heap.size w w' := by
  unfold name_Number.f at h
  by_cases hs : a0.size ≤ 281474976710656
  · rw [if_pos hs] at h
    injection h with h
    have h1 := num_calls a0 hs w hgl
    rw [h] at h1
    exact h1
  · rw [if_neg hs] at h
    cases h


end Go.Proofs.YthngbpkknpmmlaaDoor.P

-- ==== PF9
namespace Go.Proofs.YthngbpkknpmmlaaDoor.P
open Go.RowKit Go.Proofs.YthngbpkknpmmlaaDoorW.PrintWords Go.Proofs.YthngbpkknpmmlaaDoorW.PrintLast Go.Proofs.YthngbpkknpmmlaaDoorW.PrintMore
attribute [local go_sem] max2_int min2_int max_two min_two max_three min_three max_four min_four   -- for this text's walks alone
set_option linter.unusedVariables false
set_option linter.unusedSimpArgs false

/-! ### aumbrylaw03_wakes: function 9 -/
def aumbrylaw03_wakes.f (k : Nat)  : Option (Bool) := (name_Number.f (⟨#[45, 49, 50]⟩ : ByteArray)).bind fun bt101 => ((name_Kind.f k (⟨#[112, 108, 117, 115, 50]⟩ : ByteArray)).bind fun t103 => (if t103 = 1 then ((name_Kind.f k (⟨#[88]⟩ : ByteArray)).bind fun t104 => (if t104 = 2 then (if bt101.2 = 0 then (if bt101.1 = (-12) then ((name_Words.f (⟨#[32, 97, 32, 32, 98, 32]⟩ : ByteArray)).bind fun t105 => (some ((t105.length : Int) == 2))) else (some false)) else (some false)) else (some false))) else (some false)))
theorem aumbrylaw03_wakes.mono : ∀ k, LeO (aumbrylaw03_wakes.f k ) (aumbrylaw03_wakes.f (k + 1) ) := by
  intro  k
  unfold aumbrylaw03_wakes.f
  repeat' first
      | (with_reducible exact name_Kind.mono _ _)
      | (with_reducible exact LeO.refl _)
      | (with_reducible exact LeO.none _)
      | (with_reducible refine LeO.ite ?_ ?_)
      | (with_reducible refine LeO.bind ?_ (fun _ => ?_))
      | exact name_Kind.mono _ _
      | exact LeO.none _
      | refine LeO.ite ?_ ?_
      | refine LeO.bind ?_ (fun _ => ?_)
set_option maxRecDepth 100000 in
theorem aumbrylaw03_wakes.ev_true : Ev (fun k => aumbrylaw03_wakes.f k) true := Ev.of (g := fun k => aumbrylaw03_wakes.f k) aumbrylaw03_wakes.mono (k := 40) (by kernel_rfl)
theorem aumbrylaw03_wakes.is_true (k : Nat) (r : Bool) (h : aumbrylaw03_wakes.f k = some r) : r = true := by
  obtain ⟨K1, h1⟩ := Ev.of (g := fun k => aumbrylaw03_wakes.f k) aumbrylaw03_wakes.mono h
  obtain ⟨K2, h2⟩ := aumbrylaw03_wakes.ev_true
  exact Option.some.inj ((h1 (max K1 K2) (Nat.le_max_left _ _)).symm.trans (h2 _ (Nat.le_max_right _ _)))
set_option maxHeartbeats 8000000 in
set_option maxRecDepth 100000 in
theorem aumbrylaw03_wakes.calls (k : Nat)  (r : Bool) (w : World) (h : aumbrylaw03_wakes.f k  = some r) (hgl : Glob w) :
    Calls Tryd.prog 9 #[] w fun e w' => e = .returned (.bool r) ∧ Below w.heap.size w w' := by
  have GL := Aside0.mk hgl
  clear hgl
  have HRT := Aside0.mk (aumbrylaw03_wakes.is_true k r h)
  have HB := Aside0.mk (Below.refl w.heap.size w)
  have H : ((name_Number.f (⟨#[45, 49, 50]⟩ : ByteArray)).bind fun bt101 => ((name_Kind.f k (⟨#[112, 108, 117, 115, 50]⟩ : ByteArray)).bind fun t103 => (if t103 = 1 then ((name_Kind.f k (⟨#[88]⟩ : ByteArray)).bind fun t104 => (if t104 = 2 then (if bt101.2 = 0 then (if bt101.1 = (-12) then ((name_Words.f (⟨#[32, 97, 32, 32, 98, 32]⟩ : ByteArray)).bind fun t105 => (some ((t105.length : Int) == 2))) else (some false)) else (some false)) else (some false))) else (some false)))) = some r := h
  clear h
  replace H := Option.bind_eq_some_iff.mp H
  obtain ⟨⟨t101, t102⟩, A10, H⟩ := H
  replace H : ((name_Kind.f k (⟨#[112, 108, 117, 115, 50]⟩ : ByteArray)).bind fun t103 => (if t103 = 1 then ((name_Kind.f k (⟨#[88]⟩ : ByteArray)).bind fun t104 => (if t104 = 2 then (if t102 = 0 then (if t101 = (-12) then ((name_Words.f (⟨#[32, 97, 32, 32, 98, 32]⟩ : ByteArray)).bind fun t105 => (some ((t105.length : Int) == 2))) else (some false)) else (some false)) else (some false))) else (some false))) = some r := H
  have A1 := Aside0.mk A10
  clear A10
  replace H := Option.bind_eq_some_iff.mp H
  obtain ⟨t103, A20, H⟩ := H
  replace H : (if t103 = 1 then ((name_Kind.f k (⟨#[88]⟩ : ByteArray)).bind fun t104 => (if t104 = 2 then (if t102 = 0 then (if t101 = (-12) then ((name_Words.f (⟨#[32, 97, 32, 32, 98, 32]⟩ : ByteArray)).bind fun t105 => (some ((t105.length : Int) == 2))) else (some false)) else (some false)) else (some false))) else (some false)) = some r := H
  have A2 := Aside0.mk A20
  clear A20
  by_cases c3 : t103 = 1
  · rw [if_pos c3] at H
    have c3b0 : (t103 == 1) = true := beq_iff_eq.mpr c3
    have c3b1 : (t103 != 1) = false := bne_eq_false_iff_eq.mpr c3
    clear c3
    replace H := Option.bind_eq_some_iff.mp H
    obtain ⟨t104, A40, H⟩ := H
    replace H : (if t104 = 2 then (if t102 = 0 then (if t101 = (-12) then ((name_Words.f (⟨#[32, 97, 32, 32, 98, 32]⟩ : ByteArray)).bind fun t105 => (some ((t105.length : Int) == 2))) else (some false)) else (some false)) else (some false)) = some r := H
    have A4 := Aside0.mk A40
    clear A40
    by_cases c5 : t104 = 2
    · rw [if_pos c5] at H
      have c5b0 : (t104 == 2) = true := beq_iff_eq.mpr c5
      have c5b1 : (t104 != 2) = false := bne_eq_false_iff_eq.mpr c5
      clear c5
      by_cases c6 : t102 = 0
      · rw [if_pos c6] at H
        have c6b0 : (t102 == 0) = true := beq_iff_eq.mpr c6
        have c6b1 : (t102 != 0) = false := bne_eq_false_iff_eq.mpr c6
        clear c6
        by_cases c7 : t101 = (-12)
        · rw [if_pos c7] at H
          have c7b0 : (t101 == (-12)) = true := beq_iff_eq.mpr c7
          have c7b1 : (t101 != (-12)) = false := bne_eq_false_iff_eq.mpr c7
          clear c7
          replace H := Option.bind_eq_some_iff.mp H
          obtain ⟨t105, A80, H⟩ := H
          replace H : (some ((t105.length : Int) == 2)) = some r := H
          have A8 := Aside0.mk A80
          clear A80
          obtain rfl := Option.some.inj H
          go_enter Tryd.func9, Tryd.ntmps9
          go_wp2_with (first | ((with_reducible refine gate_callee (f := 15) rfl ?_); refine goesL_ (some 4) rfl rfl Tryd.func15 (by kernel_rfl) rfl #[.string (⟨#[45, 49, 50]⟩ : ByteArray)] rfl (by (try simp only [List.map_toArray, List.map_cons, List.map_nil]); first | done | rfl | (simp only [List.length_drop, List.length_take]; rfl)) ?_; (with_reducible refine (name_Number.calls (⟨#[45, 49, 50]⟩ : ByteArray) t101 t102 _ A1.out ?glob).mono ?_); (case glob => repeat (first | exact GL.out.below HB.out | (with_reducible refine Glob.alloc ?_ _) | (with_reducible refine Glob.drewN ?_) | (with_reducible refine Glob.drew ?_))); rintro e w9 ⟨rfl, hb⟩; refine ⟨_, rfl, ?_⟩; have n0_ := Aside0.mk (below_step (by repeat (first | (with_reducible first | exact HB.out | apply below_alloc | apply pw_below_drewN | apply below_drew1) | exact HB.out)) hb); clear HB; have HB := n0_; clear n0_; (try clear hb); (try clear hb2); (try clear hk); (try clear hi)) | ((with_reducible refine gate_callee (f := 10) rfl ?_); refine goesL_ (some 7) rfl rfl Tryd.func10 (by kernel_rfl) rfl #[.string (⟨#[112, 108, 117, 115, 50]⟩ : ByteArray)] rfl (by (try simp only [List.map_toArray, List.map_cons, List.map_nil]); first | done | rfl | (simp only [List.length_drop, List.length_take]; rfl)) ?_; (with_reducible refine (name_Kind.calls k (⟨#[112, 108, 117, 115, 50]⟩ : ByteArray) t103 _ A2.out).mono ?_); rintro e w' ⟨rfl, ⟨nd, rfl⟩⟩; refine ⟨_, rfl, ?_⟩) | (go_at_call 10; (with_reducible refine (name_Kind.calls k (⟨#[88]⟩ : ByteArray) t104 _ A4.out).mono ?_); rintro e w' ⟨rfl, ⟨nd, rfl⟩⟩) | (go_at_call 13; (with_reducible refine (name_Words.calls (⟨#[32, 97, 32, 32, 98, 32]⟩ : ByteArray) t105 _ A8.out).mono ?_); rintro e w10 ⟨v106, rfl, ho0, hb⟩; have n0_ := Aside0.mk (Kd.R_lower ho0 (below_size (by repeat (first | (with_reducible first | exact HB.out | apply below_alloc | apply pw_below_drewN | apply below_drew1) | exact HB.out)))); have n1_ := Aside0.mk (below_step (by repeat (first | (with_reducible first | exact HB.out | apply below_alloc | apply pw_below_drewN | apply below_drew1) | exact HB.out)) hb); clear HB; have HO107 := n0_; have HB := n1_; clear n0_ n1_; (try clear hb); (try clear hb2); (try clear hk); (try clear hi); (try clear ho0); obtain ⟨Ao11, co11, eo11⟩ := Kd.R_slice HO107.out; subst eo11))
          go_ret
          exact ⟨by first | rfl | (simp [errW_none, errW_some] <;> rfl) | (simp [*, errW_none, errW_some] <;> rfl), by repeat (first | (with_reducible first | exact HB.out | apply below_alloc | apply pw_below_drewN | apply below_drew1) | exact HB.out)⟩
        · rw [if_neg c7] at H
          have c7b0 : (t101 == (-12)) = false := beq_eq_false_iff_ne.mpr c7
          have c7b1 : (t101 != (-12)) = true := bne_iff_ne.mpr c7
          exact absurd ((Option.some.inj H).trans HRT.out) (by decide)
      · rw [if_neg c6] at H
        have c6b0 : (t102 == 0) = false := beq_eq_false_iff_ne.mpr c6
        have c6b1 : (t102 != 0) = true := bne_iff_ne.mpr c6
        exact absurd ((Option.some.inj H).trans HRT.out) (by decide)
    · rw [if_neg c5] at H
      have c5b0 : (t104 == 2) = false := beq_eq_false_iff_ne.mpr c5
      have c5b1 : (t104 != 2) = true := bne_iff_ne.mpr c5
      exact absurd ((Option.some.inj H).trans HRT.out) (by decide)
  · rw [if_neg c3] at H
    have c3b0 : (t103 == 1) = false := beq_eq_false_iff_ne.mpr c3
    have c3b1 : (t103 != 1) = true := bne_iff_ne.mpr c3
    exact absurd ((Option.some.inj H).trans HRT.out) (by decide)

end Go.Proofs.YthngbpkknpmmlaaDoor.P

-- ==== PF7
namespace Go.Proofs.YthngbpkknpmmlaaDoor.P
open Go.RowKit Go.Proofs.YthngbpkknpmmlaaDoorW.PrintWords Go.Proofs.YthngbpkknpmmlaaDoorW.PrintLast Go.Proofs.YthngbpkknpmmlaaDoorW.PrintMore
attribute [local go_sem] max2_int min2_int max_two min_two max_three min_three max_four min_four   -- for this text's walks alone
set_option linter.unusedVariables false
set_option linter.unusedSimpArgs false

/-! ### aumbrylaw03_NameJoins: function 7 -/
mutual
def aumbrylaw03_NameJoins.l0 : Nat → List Int → List ByteArray → ByteArray → Int → Int → Option (Bool)
  | 0, _, _, _, _, _ => none
  | k + 1, x1, x5, x6, x17, x18 => if x18 < x17 then (if x18 < (x1.length : Int) then (if 0 ≤ x18 then (aumbrylaw03_NameJoins.j1 k x1 x5 x6 x18 (wrap64 (1 + (wrap64 (Int.tmod (rd x1 x18) 4)))) x17 x18) else (none)) else (aumbrylaw03_NameJoins.j1 k x1 x5 x6 x18 1 x17 x18)) else (if x6.size + 1 ≤ 9223372036854775807 then ((name_Words.f (x6 ++ (⟨#[32]⟩ : ByteArray))).bind fun t107 => ((aumbryref03_Same.f k t107 x5).bind fun t110 => (if t110 = true then ((name_Words.f x6).bind fun t111 => ((aumbryref03_Same.f k t111 x5).bind fun t114 => (some t114))) else (some false)))) else (none))
def aumbrylaw03_NameJoins.j1 : Nat → List Int → List ByteArray → ByteArray → Int → Int → Int → Int → Option (Bool)
  | 0, _, _, _, _, _, _, _ => none
  | k + 1, x1, x5, x6, x7, x8, x17, x18 => aumbrylaw03_NameJoins.l1 k x1 x5 x6 x7 x17 x18 x8 0
def aumbrylaw03_NameJoins.l1 : Nat → List Int → List ByteArray → ByteArray → Int → Int → Int → Int → Int → Option (Bool)
  | 0, _, _, _, _, _, _, _, _ => none
  | k + 1, x1, x5, x6, x7, x17, x18, x33, x34 => if x34 < x33 then (if x6.size + 1 ≤ 9223372036854775807 then (aumbrylaw03_NameJoins.l1 k x1 x5 (x6 ++ (⟨#[32]⟩ : ByteArray)) x7 x17 x18 x33 (wrap64 (x34 + 1))) else (none)) else (if 0 ≤ x7 then (if x7 < (x5.length : Int) then (if x6.size + (rdOf ByteArray.empty x5 x7).size ≤ 9223372036854775807 then (aumbrylaw03_NameJoins.l0 k x1 x5 (x6 ++ (rdOf ByteArray.empty x5 x7)) x17 (wrap64 (x18 + 1))) else (none)) else (none)) else (none))
end
def aumbrylaw03_NameJoins.f (k : Nat) (a0 : ByteArray) (l1 : List Int) : Option (Bool) := (aumbrylaw03_wakes.f k).bind fun t101 => (if t101 = true then (if (a0.size : Int) > 2000 then (some true) else ((aumbryref03_Words.f k a0).bind fun t102 => (aumbrylaw03_NameJoins.l0 k l1 t102 (⟨#[]⟩ : ByteArray) (t102.length : Int) 0))) else (some false))
set_option maxHeartbeats 8000000 in
set_option maxRecDepth 100000 in
theorem aumbrylaw03_NameJoins.calls (k : Nat) (a0 : ByteArray) (A1 : Option Addr) (c1 : Nat) (l1 : List Int) (r : Bool) (w : World) (hr1 : Kd.C (Kd.int .u8) w A1 l1.length l1) (hc1 : l1.length ≤ c1) (h : aumbrylaw03_NameJoins.f k a0 l1 = some r) (hr : r = true) (hgl : Glob w) :
    Calls Tryd.prog 7 #[.string a0, .slice A1 l1.length c1] w fun e w' => e = .returned (.bool r) ∧ Below w.heap.size w w' := by
  have GL := Aside0.mk hgl
  clear hgl
  have HRT := Aside0.mk hr
  clear hr
  have HR1 := Aside0.mk hr1
  have HC1 := Aside0.mk hc1
  clear hr1 hc1
  have HB := Aside0.mk (Below.refl w.heap.size w)
  have H : ((aumbrylaw03_wakes.f k).bind fun t101 => (if t101 = true then (if (a0.size : Int) > 2000 then (some true) else ((aumbryref03_Words.f k a0).bind fun t102 => (aumbrylaw03_NameJoins.l0 k l1 t102 (⟨#[]⟩ : ByteArray) (t102.length : Int) 0))) else (some false))) = some r := h
  clear h
  replace H := Option.bind_eq_some_iff.mp H
  obtain ⟨t101, A30, H⟩ := H
  replace H : (if t101 = true then (if (a0.size : Int) > 2000 then (some true) else ((aumbryref03_Words.f k a0).bind fun t102 => (aumbrylaw03_NameJoins.l0 k l1 t102 (⟨#[]⟩ : ByteArray) (t102.length : Int) 0))) else (some false)) = some r := H
  have A3 := Aside0.mk A30
  clear A30
  by_cases c4 : t101 = true
  · subst c4
    have H1 : (if (a0.size : Int) > 2000 then (some true) else ((aumbryref03_Words.f k a0).bind fun t102 => (aumbrylaw03_NameJoins.l0 k l1 t102 (⟨#[]⟩ : ByteArray) (t102.length : Int) 0))) = some r := by rw [if_pos rfl] at H; exact H
    clear H
    have H := H1
    clear H1
    by_cases c5 : (a0.size : Int) > 2000
    · rw [if_pos c5] at H
      have c5b0 : decide (2000 < (a0.size : Int)) = true := decide_eq_true c5
      have c5b1 : decide (2000 < a0.size) = true := decide_eq_true (by omega)
      clear c5
      obtain rfl := Option.some.inj H
      go_enter Tryd.func7, Tryd.ntmps7
      go_wp2_with (first | ((with_reducible refine gate_callee (f := 9) rfl ?_); refine goesL_ (some 9) rfl rfl Tryd.func9 (by kernel_rfl) rfl #[] rfl (by (try simp only [List.map_toArray, List.map_cons, List.map_nil]); first | done | rfl | (simp only [List.length_drop, List.length_take]; rfl)) ?_; (with_reducible refine (aumbrylaw03_wakes.calls k  true _ A3.out ?glob).mono ?_); (case glob => repeat (first | exact GL.out.below HB.out | (with_reducible refine Glob.alloc ?_ _) | (with_reducible refine Glob.drewN ?_) | (with_reducible refine Glob.drew ?_))); rintro e w6 ⟨rfl, hb⟩; refine ⟨_, rfl, ?_⟩; have n0_ := Aside0.mk (below_step (by repeat (first | (with_reducible first | exact HB.out | apply below_alloc | apply pw_below_drewN | apply below_drew1) | exact HB.out)) hb); clear HB; have HB := n0_; clear n0_; (try clear hb); (try clear hb2); (try clear hk); (try clear hi)))
      go_ret
      exact ⟨by first | rfl | (simp [errW_none, errW_some] <;> rfl) | (simp [*, errW_none, errW_some] <;> rfl), by repeat (first | (with_reducible first | exact HB.out | apply below_alloc | apply pw_below_drewN | apply below_drew1) | exact HB.out)⟩
    · rw [if_neg c5] at H
      have c5b0 : decide (2000 < (a0.size : Int)) = false := decide_eq_false c5
      have c5b1 : decide (2000 < a0.size) = false := decide_eq_false (by omega)
      clear c5
      replace H := Option.bind_eq_some_iff.mp H
      obtain ⟨t102, A70, H⟩ := H
      replace H : (aumbrylaw03_NameJoins.l0 k l1 t102 (⟨#[]⟩ : ByteArray) (t102.length : Int) 0) = some r := H
      have A7 := Aside0.mk A70
      clear A70
      have H' := Aside0.mk H
      clear H
      go_enter Tryd.func7, Tryd.ntmps7
      go_wp2_with (first | ((with_reducible refine gate_callee (f := 9) rfl ?_); refine goesL_ (some 9) rfl rfl Tryd.func9 (by kernel_rfl) rfl #[] rfl (by (try simp only [List.map_toArray, List.map_cons, List.map_nil]); first | done | rfl | (simp only [List.length_drop, List.length_take]; rfl)) ?_; (with_reducible refine (aumbrylaw03_wakes.calls k  true _ A3.out ?glob).mono ?_); (case glob => repeat (first | exact GL.out.below HB.out | (with_reducible refine Glob.alloc ?_ _) | (with_reducible refine Glob.drewN ?_) | (with_reducible refine Glob.drew ?_))); rintro e w8 ⟨rfl, hb⟩; refine ⟨_, rfl, ?_⟩; have n0_ := Aside0.mk (below_step (by repeat (first | (with_reducible first | exact HB.out | apply below_alloc | apply pw_below_drewN | apply below_drew1) | exact HB.out)) hb); clear HB; have HB := n0_; clear n0_; (try clear hb); (try clear hb2); (try clear hk); (try clear hi)) | ((with_reducible refine gate_callee (f := 14) rfl ?_); refine goesL_ (some 15) rfl rfl Tryd.func14 (by kernel_rfl) rfl #[.string a0] rfl (by (try simp only [List.map_toArray, List.map_cons, List.map_nil]); first | done | rfl | (simp only [List.length_drop, List.length_take]; rfl)) ?_; (with_reducible refine (aumbryref03_Words.calls k a0 t102 _ A7.out).mono ?_); rintro e w9 ⟨v103, rfl, ho0, hb⟩; refine ⟨_, rfl, ?_⟩; have n0_ := Aside0.mk (Kd.R_lower ho0 (below_size (by repeat (first | (with_reducible first | exact HB.out | apply below_alloc | apply pw_below_drewN | apply below_drew1) | exact HB.out)))); have n1_ := Aside0.mk (below_step (by repeat (first | (with_reducible first | exact HB.out | apply below_alloc | apply pw_below_drewN | apply below_drew1) | exact HB.out)) hb); clear HB; have HO104 := n0_; have HB := n1_; clear n0_ n1_; (try clear hb); (try clear hb2); (try clear hk); (try clear hi); (try clear ho0); obtain ⟨Ao10, co10, eo10⟩ := Kd.R_slice HO104.out; subst eo10))
      go_loopg [6, 18] k (fun kq v6 v18 w' => ∃ (x6_1 : ByteArray) (x18_1 : Int), v6 = .string x6_1 ∧ v18 = .int .i64 x18_1 ∧ Aside0 (aumbrylaw03_NameJoins.l0 kq l1 t102 x6_1 (t102.length : Int) x18_1 = some r) ∧ Aside0 (kq ≤ k) ∧ Aside0 (Kd.R Kd.string 9 w' w.heap.size (fun _ => True) (.slice Ao10 t102.length co10) t102) ∧ Aside0 (Below w.heap.size w w'))
      case atStart => exact ⟨((⟨#[]⟩ : ByteArray)), (0), (by first | rfl | (simp; done) | (simp [*]; done)), (by first | rfl | (simp; done) | (simp [*]; done)), H', ⟨Nat.le_refl _⟩, ⟨by (with_reducible repeat (first | apply Kd.R_alloc | apply Kd.R_drewN | apply Kd.R_drew)); exact HO104.out⟩, ⟨by repeat (first | (with_reducible first | exact HB.out | apply below_alloc | apply pw_below_drewN | apply below_drew1) | exact HB.out)⟩⟩
      case round =>
        clear H'
        try clear c1
        try clear p2
        try clear c4
        try clear c5
        try clear c5b0
        try clear c5b1
        try clear c7
        try clear c9
        obtain ⟨x6_1, x18_1, rfl, rfl, HA, HK1, HO_5, HB⟩ := hrel
        cases gk with
        | zero => exact absurd HA.out (by simp [aumbrylaw03_NameJoins.l0])
        | succ k1 =>
          have H := HA.out
          clear HA
          simp only [aumbrylaw03_NameJoins.l0] at H
          by_cases c11 : x18_1 < (t102.length : Int)
          · rw [if_pos c11] at H
            have c11b0 : decide (x18_1 < (t102.length : Int)) = true := decide_eq_true c11
            clear c11
            have HC12 := Aside0.mk H
            clear H
            go_upto_if 24 with (fail)
            go_cut [8] (fun v8 wc => ∃ (kq : Nat) (x8_11 : Int), v8 = .int .i64 x8_11 ∧ Aside0 (aumbrylaw03_NameJoins.j1 kq l1 t102 x6_1 x18_1 x8_11 (t102.length : Int) x18_1 = some r) ∧ Aside0 (kq ≤ k1) ∧ Aside0 (Kd.R Kd.string 9 wc w.heap.size (fun _ => True) (.slice Ao10 t102.length co10) t102) ∧ Aside0 (Below w.heap.size w wc))
            case first =>
              have H := HC12.out
              clear HC12
              by_cases c13 : x18_1 < (l1.length : Int)
              · rw [if_pos c13] at H
                have c13b0 : decide (x18_1 < (l1.length : Int)) = true := decide_eq_true c13
                clear c13
                (first | rw [c13b0] | (simp only [i64_w, i32_w]; rw [c13b0]) | skip)
                by_cases c14 : 0 ≤ x18_1
                · rw [if_pos c14] at H
                  have c14b0 : decide (0 ≤ x18_1) = true := decide_eq_true c14
                  clear c14
                  have H' := Aside0.mk H
                  clear H
                  have p105 : 0 ≤ (x18_1 : Int) := of_decide_eq_true (by first | (with_reducible assumption) | assumption)
                  have q105 : x18_1 < (l1.length : Int) := of_decide_eq_true (by first | (with_reducible assumption) | assumption)
                  obtain ⟨ad105, e105, hx105_0⟩ := Kd.at_int HR1.out x18_1 p105 q105
                  cases e105
                  replace hx105_0 := (HB.out.cell (World.block_lt_of_cell? w _ hx105_0)).trans hx105_0
                  replace p105 := eq_true p105
                  replace q105 := eq_true q105
                  go_wp2
                  go_meet
                  case rel => exact ⟨_, (wrap64 (1 + (wrap64 (Int.tmod (rd l1 x18_1) 4)))), (by first | rfl | (simp; done) | (simp [*]; done)), H', ⟨by have := HK1.out; first | omega | exact Nat.le_refl _⟩, ⟨by (with_reducible repeat (first | apply Kd.R_alloc | apply Kd.R_drewN | apply Kd.R_drew)); exact HO_5.out⟩, ⟨by repeat (first | (with_reducible first | exact HB.out | apply below_alloc | apply pw_below_drewN | apply below_drew1) | exact HB.out)⟩⟩
                · rw [if_neg c14] at H
                  exact absurd H (by simp)
              · rw [if_neg c13] at H
                have c13b0 : decide (x18_1 < (l1.length : Int)) = false := decide_eq_false c13
                clear c13
                (first | rw [c13b0] | (simp only [i64_w, i32_w]; rw [c13b0]) | skip)
                have H' := Aside0.mk H
                clear H
                go_wp2
                go_meet
                case rel => exact ⟨_, (1), (by first | rfl | (simp; done) | (simp [*]; done)), H', ⟨by have := HK1.out; first | omega | exact Nat.le_refl _⟩, ⟨by (with_reducible repeat (first | apply Kd.R_alloc | apply Kd.R_drewN | apply Kd.R_drew)); exact HO_5.out⟩, ⟨by repeat (first | (with_reducible first | exact HB.out | apply below_alloc | apply pw_below_drewN | apply below_drew1) | exact HB.out)⟩⟩
            case rest =>
              clear HC12
              try clear c1
              try clear p1
              try clear q1
              try clear hx1
              try clear p2
              try clear c4
              try clear c5
              try clear c5b0
              try clear c5b1
              try clear p6
              try clear c7
              try clear c9
              try clear p10
              try clear q10
              try clear hx10
              try clear c11
              try clear c11b0
              try clear c13
              try clear c13b0
              try clear c14
              try clear c14b0
              try clear hx105_0
              try clear p105
              try clear p2
              try clear q105
              obtain ⟨kq, x8_11, rfl, HA, HJ11, HO_5, HB⟩ := hcut
              cases kq with
              | zero => exact absurd HA.out (by simp [aumbrylaw03_NameJoins.j1])
              | succ kj11 =>
                have H := HA.out
                clear HA
                simp only [aumbrylaw03_NameJoins.j1] at H
                have H' := Aside0.mk H
                clear H
                go_wp2
                go_loopg [6, 34] kj11 (fun kq v6 v34 w' => ∃ (x6_3 : ByteArray) (x34_3 : Int), v6 = .string x6_3 ∧ v34 = .int .i64 x34_3 ∧ Aside0 (aumbrylaw03_NameJoins.l1 kq l1 t102 x6_3 x18_1 (t102.length : Int) x18_1 x8_11 x34_3 = some r) ∧ Aside0 (kq ≤ kj11) ∧ Aside0 (Kd.R Kd.string 9 w' w.heap.size (fun _ => True) (.slice Ao10 t102.length co10) t102) ∧ Aside0 (Below w.heap.size w w'))
                case atStart => exact ⟨(x6_1), (0), (by first | rfl | (simp; done) | (simp [*]; done)), (by first | rfl | (simp; done) | (simp [*]; done)), H', ⟨Nat.le_refl _⟩, ⟨by (with_reducible repeat (first | apply Kd.R_alloc | apply Kd.R_drewN | apply Kd.R_drew)); exact HO_5.out⟩, ⟨by repeat (first | (with_reducible first | exact HB.out | apply below_alloc | apply pw_below_drewN | apply below_drew1) | exact HB.out)⟩⟩
                case round =>
                  clear H'
                  try clear c1
                  try clear p1
                  try clear q1
                  try clear hx1
                  try clear p2
                  try clear c4
                  try clear c5
                  try clear c5b0
                  try clear c5b1
                  try clear p6
                  try clear c7
                  try clear c9
                  try clear p10
                  try clear q10
                  try clear hx10
                  try clear c11
                  try clear c11b0
                  try clear c13
                  try clear c13b0
                  try clear c14
                  try clear c14b0
                  try clear hx105_0
                  try clear p1
                  try clear p10
                  try clear p105
                  try clear p2
                  try clear p6
                  try clear q1
                  try clear q10
                  try clear q105
                  obtain ⟨x6_3, x34_3, rfl, rfl, HA, HK3, HO_5, HB⟩ := hrel
                  cases gk with
                  | zero => exact absurd HA.out (by simp [aumbrylaw03_NameJoins.l1])
                  | succ k3 =>
                    have H := HA.out
                    clear HA
                    simp only [aumbrylaw03_NameJoins.l1] at H
                    by_cases c15 : x34_3 < x8_11
                    · rw [if_pos c15] at H
                      have c15b0 : decide (x34_3 < x8_11) = true := decide_eq_true c15
                      clear c15
                      by_cases c16 : x6_3.size + 1 ≤ 9223372036854775807
                      · rw [if_pos c16] at H
                        have c16b0 := eq_true c16
                        have c16b1 : decide (x6_3.size + 1 ≤ 9223372036854775807) = true := decide_eq_true c16
                        try have c16b2 : (9223372036854775807 < x6_3.size + 1) = False := eq_false (Nat.not_lt.2 c16)
                        have H' := Aside0.mk H
                        clear H
                        go_wp2
                        go_roundg k3
                        case measure => have := HK1.out; have := HJ11.out; have := HK3.out; omega
                        case rel => exact ⟨(x6_3 ++ (⟨#[32]⟩ : ByteArray)), (wrap64 (x34_3 + 1)), (by first | rfl | (simp; done) | (simp [*]; done)), (by first | rfl | (simp; done) | (simp [*]; done)), H', ⟨by have := HK1.out; have := HJ11.out; have := HK3.out; omega⟩, ⟨by (with_reducible repeat (first | apply Kd.R_alloc | apply Kd.R_drewN | apply Kd.R_drew)); exact HO_5.out⟩, ⟨by repeat (first | (with_reducible first | exact HB.out | apply below_alloc | apply pw_below_drewN | apply below_drew1) | exact HB.out)⟩⟩
                      · rw [if_neg c16] at H
                        exact absurd H (by simp)
                    · rw [if_neg c15] at H
                      have c15b0 : decide (x34_3 < x8_11) = false := decide_eq_false c15
                      clear c15
                      by_cases c17 : 0 ≤ x18_1
                      · rw [if_pos c17] at H
                        have c17b0 : decide (0 ≤ x18_1) = true := decide_eq_true c17
                        clear c17
                        by_cases c18 : x18_1 < (t102.length : Int)
                        · rw [if_pos c18] at H
                          have c18b0 : decide (x18_1 < (t102.length : Int)) = true := decide_eq_true c18
                          clear c18
                          by_cases c19 : x6_3.size + (rdOf ByteArray.empty t102 x18_1).size ≤ 9223372036854775807
                          · rw [if_pos c19] at H
                            have c19b0 := eq_true c19
                            have c19b1 : decide (x6_3.size + (rdOf ByteArray.empty t102 x18_1).size ≤ 9223372036854775807) = true := decide_eq_true c19
                            try have c19b2 : (9223372036854775807 < x6_3.size + (rdOf ByteArray.empty t102 x18_1).size) = False := eq_false (Nat.not_lt.2 c19)
                            have H' := Aside0.mk H
                            clear H
                            have p106 : 0 ≤ (x18_1 : Int) := of_decide_eq_true (by first | (with_reducible assumption) | assumption)
                            have q106 : x18_1 < (t102.length : Int) := of_decide_eq_true (by first | (with_reducible assumption) | assumption)
                            obtain ⟨ad106, e106, hx106_0⟩ := Kd.at_string (Kd.R_reads' HO_5.out).2.2 x18_1 p106 q106
                            cases e106
                            replace p106 := eq_true p106
                            replace q106 := eq_true q106
                            go_wp2
                            go_roundg k3
                            case measure => have := HK1.out; have := HJ11.out; have := HK3.out; omega
                            case rel => exact ⟨(x6_3 ++ (rdOf ByteArray.empty t102 x18_1)), (wrap64 (x18_1 + 1)), (by first | rfl | (simp; done) | (simp [*]; done)), (by first | rfl | (simp; done) | (simp [*]; done)), H', ⟨by have := HK1.out; have := HJ11.out; have := HK3.out; omega⟩, ⟨by (with_reducible repeat (first | apply Kd.R_alloc | apply Kd.R_drewN | apply Kd.R_drew)); exact HO_5.out⟩, ⟨by repeat (first | (with_reducible first | exact HB.out | apply below_alloc | apply pw_below_drewN | apply below_drew1) | exact HB.out)⟩⟩
                          · rw [if_neg c19] at H
                            exact absurd H (by simp)
                        · rw [if_neg c18] at H
                          exact absurd H (by simp)
                      · rw [if_neg c17] at H
                        exact absurd H (by simp)
          · rw [if_neg c11] at H
            have c11b0 : decide (x18_1 < (t102.length : Int)) = false := decide_eq_false c11
            clear c11
            by_cases c20 : x6_1.size + 1 ≤ 9223372036854775807
            · rw [if_pos c20] at H
              have c20b0 := eq_true c20
              have c20b1 : decide (x6_1.size + 1 ≤ 9223372036854775807) = true := decide_eq_true c20
              try have c20b2 : (9223372036854775807 < x6_1.size + 1) = False := eq_false (Nat.not_lt.2 c20)
              replace H := Option.bind_eq_some_iff.mp H
              obtain ⟨t107, A210, H⟩ := H
              replace H : ((aumbryref03_Same.f k1 t107 t102).bind fun t110 => (if t110 = true then ((name_Words.f x6_1).bind fun t111 => ((aumbryref03_Same.f k1 t111 t102).bind fun t114 => (some t114))) else (some false))) = some r := H
              have A21 := Aside0.mk A210
              clear A210
              replace H := Option.bind_eq_some_iff.mp H
              obtain ⟨t110, A220, H⟩ := H
              replace H : (if t110 = true then ((name_Words.f x6_1).bind fun t111 => ((aumbryref03_Same.f k1 t111 t102).bind fun t114 => (some t114))) else (some false)) = some r := H
              have A22 := Aside0.mk A220
              clear A220
              by_cases c23 : t110 = true
              · subst c23
                have H1 : ((name_Words.f x6_1).bind fun t111 => ((aumbryref03_Same.f k1 t111 t102).bind fun t114 => (some t114))) = some r := by rw [if_pos rfl] at H; exact H
                clear H
                have H := H1
                clear H1
                replace H := Option.bind_eq_some_iff.mp H
                obtain ⟨t111, A240, H⟩ := H
                replace H : ((aumbryref03_Same.f k1 t111 t102).bind fun t114 => (some t114)) = some r := H
                have A24 := Aside0.mk A240
                clear A240
                replace H := Option.bind_eq_some_iff.mp H
                obtain ⟨t114, A250, H⟩ := H
                replace H : (some t114) = some r := H
                have A25 := Aside0.mk A250
                clear A250
                obtain rfl := Option.some.inj H
                go_wp2_with (first | ((with_reducible refine gate_callee (f := 13) rfl ?_); refine goesL_ (some 48) rfl rfl Tryd.func13 (by kernel_rfl) rfl #[.string (x6_1 ++ (⟨#[32]⟩ : ByteArray))] rfl (by (try simp only [List.map_toArray, List.map_cons, List.map_nil]); first | done | rfl | (simp only [List.length_drop, List.length_take]; rfl)) ?_; (with_reducible refine (name_Words.calls (x6_1 ++ (⟨#[32]⟩ : ByteArray)) t107 _ A21.out).mono ?_); rintro e w26 ⟨v108, rfl, ho0, hb⟩; refine ⟨_, rfl, ?_⟩; have n0_ := Aside0.mk (Kd.R_elder' (by (with_reducible repeat (first | apply Kd.R_alloc | apply Kd.R_drewN | apply Kd.R_drew)); exact HO_5.out) (Kd.R_base ho0) hb); have n1_ := Aside0.mk (Kd.R_lower (Kd.R_new' ho0 (Kd.R_lt (by (with_reducible repeat (first | apply Kd.R_alloc | apply Kd.R_drewN | apply Kd.R_drew)); exact HO_5.out))) (below_size (by repeat (first | (with_reducible first | exact HB.out | apply below_alloc | apply pw_below_drewN | apply below_drew1) | exact HB.out)))); have n2_ := Aside0.mk (below_step (by repeat (first | (with_reducible first | exact HB.out | apply below_alloc | apply pw_below_drewN | apply below_drew1) | exact HB.out)) hb); clear HO_5; clear HB; have HO_5 := n0_; have HO109 := n1_; have HB := n2_; clear n0_ n1_ n2_; (try clear hb); (try clear hb2); (try clear hk); (try clear hi); (try clear ho0); obtain ⟨Ao27, co27, eo27⟩ := Kd.R_slice HO109.out; subst eo27) | ((with_reducible refine gate_callee (f := 12) rfl ?_); refine goesL_ (some 50) rfl rfl Tryd.func12 (by kernel_rfl) rfl #[.slice Ao27 t107.length co27, .slice Ao10 t102.length co10] rfl (by (try simp only [List.map_toArray, List.map_cons, List.map_nil]); first | done | rfl | (simp only [List.length_drop, List.length_take]; rfl)) ?_; (with_reducible refine (aumbryref03_Same.calls k1 _ _ t107 _ _ t102 true _ ?side1 ?side2 ?side3 ?side4 A22.out).mono ?_); (case side1 => repeat (first | exact (Kd.R_reads' HO109.out).2.2 | (with_reducible refine Kd.C_alloc ?_ _) | (with_reducible refine Kd.C_drewN ?_ _) | (with_reducible refine Kd.C_drew ?_))); (case side2 => exact (Kd.R_reads' HO109.out).2.1); (case side3 => repeat (first | exact (Kd.R_reads' HO_5.out).2.2 | (with_reducible refine Kd.C_alloc ?_ _) | (with_reducible refine Kd.C_drewN ?_ _) | (with_reducible refine Kd.C_drew ?_))); (case side4 => exact (Kd.R_reads' HO_5.out).2.1); rintro e w' ⟨rfl, ⟨nd, rfl⟩⟩; refine ⟨_, rfl, ?_⟩) | (go_at_call 13; (with_reducible refine (name_Words.calls x6_1 t111 _ A24.out).mono ?_); rintro e w28 ⟨v112, rfl, ho0, hb⟩; have n0_ := Aside0.mk (Kd.R_elder' (by (with_reducible repeat (first | apply Kd.R_alloc | apply Kd.R_drewN | apply Kd.R_drew)); exact HO_5.out) (Kd.R_base ho0) hb); have n1_ := Aside0.mk (Kd.R_elder' (by (with_reducible repeat (first | apply Kd.R_alloc | apply Kd.R_drewN | apply Kd.R_drew)); exact HO109.out) (Kd.R_base ho0) hb); have n2_ := Aside0.mk (Kd.R_lower (Kd.R_new' (Kd.R_new' ho0 (Kd.R_lt (by (with_reducible repeat (first | apply Kd.R_alloc | apply Kd.R_drewN | apply Kd.R_drew)); exact HO_5.out))) (Kd.R_lt (by (with_reducible repeat (first | apply Kd.R_alloc | apply Kd.R_drewN | apply Kd.R_drew)); exact HO109.out))) (below_size (by repeat (first | (with_reducible first | exact HB.out | apply below_alloc | apply pw_below_drewN | apply below_drew1) | exact HB.out)))); have n3_ := Aside0.mk (below_step (by repeat (first | (with_reducible first | exact HB.out | apply below_alloc | apply pw_below_drewN | apply below_drew1) | exact HB.out)) hb); clear HO_5; clear HO109; clear HB; have HO_5 := n0_; have HO109 := n1_; have HO113 := n2_; have HB := n3_; clear n0_ n1_ n2_ n3_; (try clear hb); (try clear hb2); (try clear hk); (try clear hi); (try clear ho0); obtain ⟨Ao29, co29, eo29⟩ := Kd.R_slice HO113.out; subst eo29) | (go_at_call 12; (with_reducible refine (aumbryref03_Same.calls k1 _ _ t111 _ _ t102 t114 _ ?side1 ?side2 ?side3 ?side4 A25.out).mono ?_); (case side1 => repeat (first | exact (Kd.R_reads' HO113.out).2.2 | (with_reducible refine Kd.C_alloc ?_ _) | (with_reducible refine Kd.C_drewN ?_ _) | (with_reducible refine Kd.C_drew ?_))); (case side2 => exact (Kd.R_reads' HO113.out).2.1); (case side3 => repeat (first | exact (Kd.R_reads' HO_5.out).2.2 | (with_reducible refine Kd.C_alloc ?_ _) | (with_reducible refine Kd.C_drewN ?_ _) | (with_reducible refine Kd.C_drew ?_))); (case side4 => exact (Kd.R_reads' HO_5.out).2.1); rintro e w' ⟨rfl, ⟨nd, rfl⟩⟩))
                go_ret
                exact ⟨by first | rfl | (simp [errW_none, errW_some] <;> rfl) | (simp [*, errW_none, errW_some] <;> rfl), by repeat (first | (with_reducible first | exact HB.out | apply below_alloc | apply pw_below_drewN | apply below_drew1) | exact HB.out)⟩
              · replace c23 := Bool.eq_false_iff.mpr c23
                subst c23
                have H1 : (some false) = some r := by rw [if_neg (show ¬ (false = true) by decide)] at H; exact H
                exact absurd ((Option.some.inj H1).trans HRT.out) (by decide)
            · rw [if_neg c20] at H
              exact absurd H (by simp)
  · replace c4 := Bool.eq_false_iff.mpr c4
    subst c4
    have H1 : (some false) = some r := by rw [if_neg (show ¬ (false = true) by decide)] at H; exact H
    exact absurd ((Option.some.inj H1).trans HRT.out) (by decide)


end Go.Proofs.YthngbpkknpmmlaaDoor.P

-- ==== Open
/- What came in and can be read as data, read as the print's kinds: for each kind one fact, put together by the types' shapes. -/
set_option linter.unusedVariables false
namespace Go.Proofs.YthngbpkknpmmlaaDoor.Open
open Go.RowKit Go.Proofs.YthngbpkknpmmlaaDoorW.PrintWords Go.Proofs.YthngbpkknpmmlaaDoor.Rows

structure Opens {α : Type} (P : Program) (t : TypeId) (d : Kd α) (Sz : α → Prop) (Bk : α → Nat) : Prop where
  cells : P.cellsOf t = d.sz
  go : ∀ {H : Type} {enc : TypeId × Value → H} {w : World} {base : Nat} {spare : Nat → Bool} {held : Bool} {n : Nat} {cs : List Value} {x : DataW H × List MemPlace},
    DataW.trod enc P w base spare held n t cs = some x → (∀ m ∈ x.1.weights P t, m ≤ reachBytes) → ∃ v : α, d.K w v cs ∧ Sz v ∧ Bk v ≤ uptoBulk x.1

theorem opens_int {P : Program} {t : TypeId} {k : IntKind} (ht : P.underlying t = some (.int k)) (hc : P.cellsOf t = 1) : Opens P t (Kd.int k) (fun a => (Lit.int k a).wf = true) (fun _ => 1) := by
  refine ⟨hc, fun h _ => ?_⟩
  obtain ⟨a, rfl, rfl, hw⟩ := DataW.trod_int ht h
  exact ⟨a, rfl, hw, by simp [uptoBulk]⟩

theorem opens_string {P : Program} {t : TypeId} (ht : P.underlying t = some .string) (hc : P.cellsOf t = 1) : Opens P t Kd.string (fun s => s.size ≤ 140737488351232) (fun s => s.size + 1) := by
  refine ⟨hc, fun h hw => ?_⟩
  obtain ⟨a, rfl, rfl, hs⟩ := DataW.trod_string ht h
  have hl : a.data.toList.length = a.size := data_length a
  refine ⟨a, rfl, ?_, ?_⟩
  · have := hw a.data.toList.length (by simp [DataW.weights])
    rw [hl] at this
    exact this
  · simp only [uptoBulk]
    omega

theorem mem_weightsAll {H : Type} {P : Program} {e : TypeId} {d : DataW H} : ∀ {l : List (DataW H)}, d ∈ l → ∀ {m : Nat}, m ∈ d.weights P e → m ∈ DataW.weightsAll P e l
  | a :: l, h, m, hm => by
    simp only [DataW.weightsAll, List.mem_append]
    rcases List.mem_cons.1 h with rfl | h
    · exact .inl hm
    · exact .inr (mem_weightsAll h hm)
  | [], h, _, _ => by cases h

def bulkAll {α : Type} (Bk : α → Nat) (l : List α) : Nat := (l.map Bk).sum

theorem bulk_all_le {H α : Type} (Bk : α → Nat) : ∀ (xs : List α) (ds : List (DataW H)), xs.length = ds.length → (∀ (i : Nat) x d, xs[i]? = some x → ds[i]? = some d → Bk x ≤ uptoBulk d) → bulkAll Bk xs ≤ uptoBulkAll ds
  | [], [], _, _ => by simp [bulkAll, uptoBulkAll]
  | x :: xs, d :: ds, hl, h => by
    have h0 := h 0 x d rfl rfl
    have h1 := bulk_all_le Bk xs ds (by simpa using hl) (fun i x' d' hx hd => h (i + 1) x' d' (by simpa using hx) (by simpa using hd))
    simp only [bulkAll, uptoBulkAll, List.map_cons, List.sum_cons] at h1 ⊢
    omega
  | [], _ :: _, hl, _ => by simp at hl
  | _ :: _, [], hl, _ => by simp at hl

theorem opens_slice {α : Type} {P : Program} {t e : TypeId} {d : Kd α} {Sz : α → Prop} {Bk : α → Nat} {b : Nat} (ht : P.underlying t = some (.slice e)) (hc : P.cellsOf t = 1) (hb : P.bytesOf e = b) (ho : Opens P e d Sz Bk) :
    Opens P t (Kd.slice e d) (fun l => l.length * b ≤ 140737488351232 ∧ ∀ x ∈ l, Sz x) (fun l => bulkAll Bk l + 1) := by
  refine ⟨hc, ?_⟩
  intro H enc w base spare held n cs x h hw
  rcases Go.Deep.open_slice ht h with ⟨rfl, rfl⟩ | ⟨a, len, cap, m, n', D, Pl, rfl, _, hl, hm, hmm, rfl, hx⟩
  · exact ⟨[], ⟨none, 0, rfl, Nat.le_refl _, Kd.C_nil d w⟩, ⟨by simp, by simp⟩, by simp [bulkAll, uptoBulk]⟩
  · have hlm : len ≤ m := by rw [hmm]; split <;> omega
    have hel : ∀ i, i < len → ∃ v : α, (∃ cs', w.cells? base (a.add (i * P.cellsOf e)) (P.cellsOf e) = some cs' ∧ d.K w v cs') ∧ Sz v ∧ Bk v ≤ uptoBulk (D i) := by
      intro i hi
      obtain ⟨cs', h1, h2⟩ := hx i (by omega)
      obtain ⟨v, hv, hs, hbk⟩ := ho.go h2 (fun m' hm' => hw m' (by
        simp only [DataW.weights, ht, List.mem_cons, List.mem_append]
        exact .inr (.inl (mem_weightsAll (List.mem_map.2 ⟨i, List.mem_range.2 hi, rfl⟩) hm'))))
      exact ⟨v, ⟨cs', h1, hv⟩, hs, hbk⟩
    have hex : ∃ l : List α, l.length = len ∧ ∀ (i : Nat) v, l[i]? = some v → (∃ cs', w.cells? base (a.add (i * P.cellsOf e)) (P.cellsOf e) = some cs' ∧ d.K w v cs') ∧ Sz v ∧ Bk v ≤ uptoBulk (D i) := by
      clear hx hw h hmm hlm hl hm
      induction len with
      | zero => exact ⟨[], rfl, fun i v hv => by simp at hv⟩
      | succ k ih =>
        obtain ⟨l, h1, h2⟩ := ih (fun i hi => hel i (by omega))
        obtain ⟨v, hv⟩ := hel k (by omega)
        refine ⟨l ++ [v], by simp [h1], fun i u hu => ?_⟩
        by_cases hi : i < l.length
        · rw [List.getElem?_append_left hi] at hu
          exact h2 i u hu
        · have hik : i = l.length := by
            have := (List.getElem?_eq_some_iff.1 hu).1
            simp at this
            omega
          subst hik
          simp at hu
          subst hu
          rw [h1]
          exact hv
    obtain ⟨l, hll, hlv⟩ := hex
    subst hll
    refine ⟨l, ⟨some a, cap, rfl, hl, rfl, ?_, fun hp => ⟨a, rfl, fun j v hj => ?_⟩⟩, ⟨?_, ?_⟩, ?_⟩
    · have : maxLen ≤ 9223372036854775807 := by decide
      omega
    · obtain ⟨⟨cs', h1, h2⟩, _, _⟩ := hlv j v hj
      refine ⟨cs', d.K_len h2, h2, fun i u hu => ?_⟩
      obtain ⟨_, hlen, hcell⟩ := World.cells?_some h1
      have hi : i < cs'.length := (List.getElem?_eq_some_iff.1 hu).1
      have hsz := d.K_len h2
      rw [ho.cells] at hcell hlen
      have := hcell i (by omega)
      rw [hu] at this
      rw [← this, add_add]
    · have := hw ((((List.range l.length).map D).length + ((List.range (m - l.length)).map fun j => D (l.length + j)).length) * P.bytesOf e) (by simp [DataW.weights, ht])
      simp only [List.length_map, List.length_range] at this
      rw [hb] at this
      have h3 : reachBytes = 140737488351232 := by decide
      rw [h3] at this
      have h4 : l.length * b ≤ (l.length + (m - l.length)) * b := Nat.mul_le_mul_right _ (by omega)
      omega
    · intro v hv
      obtain ⟨i, hi, rfl⟩ := List.mem_iff_getElem.1 hv
      exact (hlv i _ (List.getElem?_eq_getElem hi)).2.1
    · have := bulk_all_le Bk l ((List.range l.length).map D) (by simp) (fun i v dd hv hd => by
        have hi : i < l.length := (List.getElem?_eq_some_iff.1 hv).1
        simp [hi] at hd
        rw [← hd]
        exact (hlv i v hv).2.2)
      simp only [uptoBulk]
      omega

/-! Structs: the fields, one behind the other. -/
def offs (P : Program) : List TypeId → Nat → Nat
  | [], _ => 0
  | _, 0 => 0
  | t :: ts, i + 1 => P.cellsOf t + offs P ts i

structure OpensF {α : Type} (P : Program) (ts : List TypeId) (d : Kd α) (Sz : α → Prop) (Bk : α → Nat) : Prop where
  cells : (ts.map P.cellsOf).sum = d.sz
  go : ∀ {H : Type} {enc : TypeId × Value → H} {w : World} {base : Nat} {spare : Nat → Bool} {held : Bool} {n : Nat} {cs : List Value} {xs : List (DataW H × List MemPlace)},
    cs.length = d.sz → xs.length = ts.length → (∀ (i : Nat) t, ts[i]? = some t → DataW.trod enc P w base spare held n t ((cs.drop (offs P ts i)).take (P.cellsOf t)) = xs[i]?) →
    (∀ m ∈ DataW.weightsEach P ts (xs.map (·.1)), m ≤ reachBytes) → ∃ v : α, d.K w v cs ∧ Sz v ∧ Bk v ≤ uptoBulkAll (xs.map (·.1))

end Go.Proofs.YthngbpkknpmmlaaDoor.Open

-- ==== PO
set_option linter.unusedVariables false
namespace Go.Proofs.YthngbpkknpmmlaaDoor.P
open Go.RowKit Go.Proofs.YthngbpkknpmmlaaDoorW.PrintWords Go.Proofs.YthngbpkknpmmlaaDoor.Open
def sz9 (s : ByteArray) : Prop := s.size ≤ 140737488351232
def bk9 (s : ByteArray) : Nat := s.size + 1
theorem op9 : Opens Tryd.prog 9 Kd.string sz9 bk9 := opens_string Tryd.underlying9 (by kernel_rfl)
def sz5 (a : Int) : Prop := (Lit.int .u8 a).wf = true
def bk5 (_ : Int) : Nat := 1
theorem op5 : Opens Tryd.prog 5 (Kd.int .u8) sz5 bk5 := opens_int Tryd.underlying5 (by kernel_rfl)
def sz35 (l : List Int) : Prop := l.length * 1 ≤ 140737488351232 ∧ ∀ x ∈ l, sz5 x
def bk35 (l : List Int) : Nat := bulkAll bk5 l + 1
theorem op35 : Opens Tryd.prog 35 (Kd.slice 5 (Kd.int .u8)) sz35 bk35 := opens_slice Tryd.underlying35 (by kernel_rfl) (by kernel_rfl) op5
end Go.Proofs.YthngbpkknpmmlaaDoor.P

-- ==== PS7
namespace Go.Proofs.YthngbpkknpmmlaaDoor.P
open Go.RowKit Go.Proofs.YthngbpkknpmmlaaDoorW.PrintWords
def aumbrylaw03_NameJoins.Pure : Prop := ∀ (a0 : ByteArray) (l1 : List Int), sz9 a0 → sz35 l1 → ∃ k, aumbrylaw03_NameJoins.f k a0 l1 = some true
end Go.Proofs.YthngbpkknpmmlaaDoor.P

-- ==== PF11
namespace Go.Proofs.YthngbpkknpmmlaaDoor.P
open Go.RowKit Go.Proofs.YthngbpkknpmmlaaDoorW.PrintWords Go.Proofs.YthngbpkknpmmlaaDoorW.PrintLast Go.Proofs.YthngbpkknpmmlaaDoorW.PrintMore
attribute [local go_sem] max2_int min2_int max_two min_two max_three min_three max_four min_four   -- for this text's walks alone
set_option linter.unusedVariables false
set_option linter.unusedSimpArgs false

/-! ### aumbryref03_Kind: function 11 -/
mutual
def aumbryref03_Kind.j0 : Nat → ByteArray → Bool → Option (Int)
  | 0, _, _ => none
  | k + 1, x0, x15 => if x15 = true then (some 0) else (aumbryref03_Kind.l0 k x0 true true 0)
def aumbryref03_Kind.l0 : Nat → ByteArray → Bool → Bool → Int → Option (Int)
  | 0, _, _, _, _ => none
  | k + 1, x0, x3, x4, x5 => if x5 < (x0.size : Int) then (if 0 ≤ x5 then (if (bt x0 x5) ≥ 48 then (if (bt x0 x5) ≤ 57 then (if x3 = true then (if (bt x0 x5) ≥ 97 then (if (bt x0 x5) ≤ 122 then (if x4 = true then (if (bt x0 x5) ≥ 65 then (if (bt x0 x5) ≤ 90 then (aumbryref03_Kind.l0 k x0 true true (wrap64 (x5 + 1))) else (aumbryref03_Kind.l0 k x0 true (decide (x5 > 0)) (wrap64 (x5 + 1)))) else (aumbryref03_Kind.l0 k x0 true (decide (x5 > 0)) (wrap64 (x5 + 1)))) else (aumbryref03_Kind.l0 k x0 true false (wrap64 (x5 + 1)))) else (if x4 = true then (if (bt x0 x5) ≥ 65 then (if (bt x0 x5) ≤ 90 then (aumbryref03_Kind.l0 k x0 (decide (x5 > 0)) true (wrap64 (x5 + 1))) else (aumbryref03_Kind.l0 k x0 (decide (x5 > 0)) (decide (x5 > 0)) (wrap64 (x5 + 1)))) else (aumbryref03_Kind.l0 k x0 (decide (x5 > 0)) (decide (x5 > 0)) (wrap64 (x5 + 1)))) else (aumbryref03_Kind.l0 k x0 (decide (x5 > 0)) false (wrap64 (x5 + 1))))) else (if x4 = true then (if (bt x0 x5) ≥ 65 then (if (bt x0 x5) ≤ 90 then (aumbryref03_Kind.l0 k x0 (decide (x5 > 0)) true (wrap64 (x5 + 1))) else (aumbryref03_Kind.l0 k x0 (decide (x5 > 0)) (decide (x5 > 0)) (wrap64 (x5 + 1)))) else (aumbryref03_Kind.l0 k x0 (decide (x5 > 0)) (decide (x5 > 0)) (wrap64 (x5 + 1)))) else (aumbryref03_Kind.l0 k x0 (decide (x5 > 0)) false (wrap64 (x5 + 1))))) else (if x4 = true then (if (bt x0 x5) ≥ 65 then (if (bt x0 x5) ≤ 90 then (aumbryref03_Kind.l0 k x0 false true (wrap64 (x5 + 1))) else (aumbryref03_Kind.l0 k x0 false (decide (x5 > 0)) (wrap64 (x5 + 1)))) else (aumbryref03_Kind.l0 k x0 false (decide (x5 > 0)) (wrap64 (x5 + 1)))) else (aumbryref03_Kind.l0 k x0 false false (wrap64 (x5 + 1))))) else (if x3 = true then (if (bt x0 x5) ≥ 97 then (if (bt x0 x5) ≤ 122 then (if x4 = true then (if (bt x0 x5) ≥ 65 then (if (bt x0 x5) ≤ 90 then (aumbryref03_Kind.l0 k x0 true true (wrap64 (x5 + 1))) else (aumbryref03_Kind.l0 k x0 true false (wrap64 (x5 + 1)))) else (aumbryref03_Kind.l0 k x0 true false (wrap64 (x5 + 1)))) else (aumbryref03_Kind.l0 k x0 true false (wrap64 (x5 + 1)))) else (if x4 = true then (if (bt x0 x5) ≥ 65 then (if (bt x0 x5) ≤ 90 then (aumbryref03_Kind.l0 k x0 false true (wrap64 (x5 + 1))) else (aumbryref03_Kind.l0 k x0 false false (wrap64 (x5 + 1)))) else (aumbryref03_Kind.l0 k x0 false false (wrap64 (x5 + 1)))) else (aumbryref03_Kind.l0 k x0 false false (wrap64 (x5 + 1))))) else (if x4 = true then (if (bt x0 x5) ≥ 65 then (if (bt x0 x5) ≤ 90 then (aumbryref03_Kind.l0 k x0 false true (wrap64 (x5 + 1))) else (aumbryref03_Kind.l0 k x0 false false (wrap64 (x5 + 1)))) else (aumbryref03_Kind.l0 k x0 false false (wrap64 (x5 + 1)))) else (aumbryref03_Kind.l0 k x0 false false (wrap64 (x5 + 1))))) else (if x4 = true then (if (bt x0 x5) ≥ 65 then (if (bt x0 x5) ≤ 90 then (aumbryref03_Kind.l0 k x0 false true (wrap64 (x5 + 1))) else (aumbryref03_Kind.l0 k x0 false false (wrap64 (x5 + 1)))) else (aumbryref03_Kind.l0 k x0 false false (wrap64 (x5 + 1)))) else (aumbryref03_Kind.l0 k x0 false false (wrap64 (x5 + 1)))))) else (if x3 = true then (if (bt x0 x5) ≥ 97 then (if (bt x0 x5) ≤ 122 then (if x4 = true then (if (bt x0 x5) ≥ 65 then (if (bt x0 x5) ≤ 90 then (aumbryref03_Kind.l0 k x0 true true (wrap64 (x5 + 1))) else (aumbryref03_Kind.l0 k x0 true false (wrap64 (x5 + 1)))) else (aumbryref03_Kind.l0 k x0 true false (wrap64 (x5 + 1)))) else (aumbryref03_Kind.l0 k x0 true false (wrap64 (x5 + 1)))) else (if x4 = true then (if (bt x0 x5) ≥ 65 then (if (bt x0 x5) ≤ 90 then (aumbryref03_Kind.l0 k x0 false true (wrap64 (x5 + 1))) else (aumbryref03_Kind.l0 k x0 false false (wrap64 (x5 + 1)))) else (aumbryref03_Kind.l0 k x0 false false (wrap64 (x5 + 1)))) else (aumbryref03_Kind.l0 k x0 false false (wrap64 (x5 + 1))))) else (if x4 = true then (if (bt x0 x5) ≥ 65 then (if (bt x0 x5) ≤ 90 then (aumbryref03_Kind.l0 k x0 false true (wrap64 (x5 + 1))) else (aumbryref03_Kind.l0 k x0 false false (wrap64 (x5 + 1)))) else (aumbryref03_Kind.l0 k x0 false false (wrap64 (x5 + 1)))) else (aumbryref03_Kind.l0 k x0 false false (wrap64 (x5 + 1))))) else (if x4 = true then (if (bt x0 x5) ≥ 65 then (if (bt x0 x5) ≤ 90 then (aumbryref03_Kind.l0 k x0 false true (wrap64 (x5 + 1))) else (aumbryref03_Kind.l0 k x0 false false (wrap64 (x5 + 1)))) else (aumbryref03_Kind.l0 k x0 false false (wrap64 (x5 + 1)))) else (aumbryref03_Kind.l0 k x0 false false (wrap64 (x5 + 1)))))) else (none)) else (if x3 = true then (some 1) else (if x4 = true then (some 2) else (some 0)))
end
def aumbryref03_Kind.f (k : Nat) (a0 : ByteArray) : Option (Int) := if (a0.size : Int) < 1 then (aumbryref03_Kind.j0 k a0 true) else (aumbryref03_Kind.j0 k a0 (decide ((a0.size : Int) > 8)))
end Go.Proofs.YthngbpkknpmmlaaDoor.P

-- ==== PLa
/- Plain laws, part a: what kind a text is: the program's way and the document's way come to one function. -/
namespace Go.Proofs.YthngbpkknpmmlaaDoor.P
open Go.RowKit Go.Proofs.YthngbpkknpmmlaaDoorW.PrintWords
set_option linter.unusedVariables false
set_option linter.unusedSimpArgs false

theorem wrap_up {i : Int} (h0 : 0 ≤ i) (h : i < 9223372036854775807) : wrap64 (i + 1) = i + 1 := by
  unfold wrap64
  omega
theorem wrap_id {i : Int} (h0 : -9223372036854775808 ≤ i) (h : i ≤ 9223372036854775807) : wrap64 i = i := by
  unfold wrap64
  omega

theorem evIfp {α : Type} {c : Prop} [Decidable c] {f g : Nat → Option α} {r : α} (h : c) (hf : Ev f r) : Ev (fun k => if c then f k else g k) r :=
  Ev.congr (fun _ => if_pos h) hf
theorem evIfn {α : Type} {c : Prop} [Decidable c] {f g : Nat → Option α} {r : α} (h : ¬ c) (hf : Ev g r) : Ev (fun k => if c then f k else g k) r :=
  Ev.congr (fun _ => if_neg h) hf
/-! ### the document's -/
/-! ### the program's -/
end Go.Proofs.YthngbpkknpmmlaaDoor.P

-- ==== PL3w
/- Plain laws of chapter 3: what the statements ask ahead (wakes). -/
namespace Go.Proofs.YthngbpkknpmmlaaDoor.P
open Go.RowKit Go.Proofs.YthngbpkknpmmlaaDoorW.PrintWords
set_option linter.unusedVariables false
set_option maxRecDepth 100000 in
theorem ev_wakes3 : Ev (fun k => aumbrylaw03_wakes.f k) true := Ev.of (g := fun k => aumbrylaw03_wakes.f k) aumbrylaw03_wakes.mono (k := 40) (by kernel_rfl)
end Go.Proofs.YthngbpkknpmmlaaDoor.P

-- ==== PL3g
/- Plain laws of chapter 3: texts as lists of bytes. -/
namespace Go.Proofs.YthngbpkknpmmlaaDoor.P
open Go.RowKit Go.Proofs.YthngbpkknpmmlaaDoorW.PrintWords
set_option linter.unusedVariables false
set_option linter.unusedSimpArgs false
theorem drop_cons {α : Type} {t : List α} {n : Nat} {c : α} {s : List α} (h : t.drop n = c :: s) : n < t.length ∧ (∀ d, t.getD n d = c) ∧ t.drop (n + 1) = s := by
  have h1 : n < t.length := by
    rcases Nat.lt_or_ge n t.length with h1 | h1
    · exact h1
    · rw [List.drop_eq_nil_of_le h1] at h
      cases h
  rw [List.drop_eq_getElem_cons h1] at h
  injection h with h2 h3
  exact ⟨h1, fun d => by rw [List.getD_eq_getElem?_getD, List.getElem?_eq_getElem h1]; exact h2, h3⟩
theorem drop_nil_len {α : Type} {t : List α} {n : Nat} (hn : n ≤ t.length) (h : t.drop n = []) : n = t.length := by
  have := congrArg List.length h
  simp at this
  omega
theorem up_cast (a : Nat) (h : a < 9223372036854775807) : wrap64 ((a : Int) + 1) = ((a + 1 : Nat) : Int) := by rw [wrap_up (by omega) (by omega)]; rfl
abbrev bl (s : ByteArray) : List UInt8 := s.data.toList
theorem bl_len (s : ByteArray) : (bl s).length = s.size := data_length s
theorem bl_inj {a b : ByteArray} (h : bl a = bl b) : a = b := by
  cases a; cases b
  simp only [ByteArray.mk.injEq]
  exact Array.toList_inj.1 h
theorem bt_drop {s : ByteArray} {j : Nat} {x : UInt8} {r : List UInt8} (h : (bl s).drop j = x :: r) : j < s.size ∧ bt s (j : Int) = (x.toNat : Int) ∧ (bl s).drop (j + 1) = r := by
  obtain ⟨h1, h2, h3⟩ := drop_cons h
  rw [bl_len] at h1
  refine ⟨h1, ?_, h3⟩
  unfold bt
  simp only [Int.toNat_natCast]
  rw [dif_pos h1]
  have := h2 0
  rw [List.getD_eq_getElem?_getD, List.getElem?_eq_getElem (by rw [bl_len]; exact h1)] at this
  simp only [Option.getD_some] at this
  rw [← this]
  simp [bl, ByteArray.getElem_eq_getElem_data]
theorem bl_drop_nil {s : ByteArray} {j : Nat} (h : j ≤ s.size) (h1 : (bl s).drop j = []) : j = s.size := by
  have := drop_nil_len (by rw [bl_len]; exact h) h1
  rw [bl_len] at this
  exact this
theorem bl_extract (s : ByteArray) (i j : Nat) : bl (s.extract i j) = ((bl s).drop i).take (j - i) := by
  unfold bl
  rw [ByteArray.data_extract, Array.toList_extract]
theorem bl_append (a b : ByteArray) : bl (a ++ b) = bl a ++ bl b := by
  unfold bl
  simp
theorem rd_txt {t : List ByteArray} {n : Nat} {c : ByteArray} {s : List ByteArray} (h : t.drop n = c :: s) : rdOf ByteArray.empty t (n : Int) = c := by
  unfold rdOf
  exact (drop_cons h).2.1 _
theorem evIs_ {α : Type} {a : α} {o : Option α} (h : o = some a) : Ev (fun _ => o) a := by rw [h]; exact Ev.now _
theorem ev_rsame3 (l : List ByteArray) (hl : l.length ≤ 9223372036854775806) : ∀ (u : List ByteArray) (i : Nat), i ≤ l.length → l.drop i = u → Ev (fun k => aumbryref03_Same.l0 k l l (l.length : Int) (i : Int)) true
  | [], i, hi, hu => by
    have h1 := drop_nil_len hi hu
    refine Ev.step (fun k => (show aumbryref03_Same.l0 (k + 1) l l (l.length : Int) (i : Int) = _ from by rw [aumbryref03_Same.l0])) ?_
    exact evIfn (by omega) (Ev.now _)
  | c :: u, i, hi, hu => by
    obtain ⟨h1, _, h3⟩ := drop_cons hu
    refine Ev.step (fun k => (show aumbryref03_Same.l0 (k + 1) l l (l.length : Int) (i : Int) = _ from by rw [aumbryref03_Same.l0])) ?_
    refine evIfp (by omega) (evIfp (by omega) (evIfp (by omega) (evIfp (by omega) (evIfp rfl ?_))))
    rw [up_cast i (by omega)]
    exact ev_rsame3 l hl u (i + 1) (by omega) h3
theorem ev_same3 (l : List ByteArray) (hl : l.length ≤ 9223372036854775806) : Ev (fun k => aumbryref03_Same.f k l l) true := by
  unfold aumbryref03_Same.f
  exact evIfp rfl (ev_rsame3 l hl l 0 (by omega) rfl)
end Go.Proofs.YthngbpkknpmmlaaDoor.P

-- ==== PL3s
/- Plain laws of chapter 3: the words of a line: the program's and the document's. -/
namespace Go.Proofs.YthngbpkknpmmlaaDoor.P
open Go.RowKit Go.Proofs.YthngbpkknpmmlaaDoorW.PrintWords
set_option linter.unusedVariables false
set_option linter.unusedSimpArgs false
/-- The words of a list of bytes, a part of one (w) having come. -/
def wsL : List UInt8 → List UInt8 → List (List UInt8)
  | [], w => if w = [] then [] else [w]
  | c :: l, w => if c = 32 then (if w = [] then wsL l [] else w :: wsL l []) else wsL l (w ++ [c])
def baL (l : List UInt8) : ByteArray := ⟨l.toArray⟩
theorem bl_ba (l : List UInt8) : bl (baL l) = l := rfl
theorem ba_bl (s : ByteArray) : baL (bl s) = s := bl_inj (bl_ba _)
theorem baL_nil (w : List UInt8) : (baL w).toList = [] ↔ w = [] := by
  rw [ByteArray.toList_eq]
  show bl (baL w) = [] ↔ _
  rw [bl_ba]
theorem c32 (c : UInt8) : ((c.toNat : Int) = 32) ↔ c = 32 := by
  constructor
  · intro h
    exact UInt8.toNat_inj.1 (show c.toNat = (32 : UInt8).toNat from by have : (32 : UInt8).toNat = 32 := rfl; omega)
  · rintro rfl
    rfl
theorem wdsF_eq (s : ByteArray) : ∀ (l : List UInt8) (m f i : Nat), (bl s).drop i = l → i ≤ s.size → m + i = s.size + 1 → f ≤ i → wdsF s m f i = (wsL l (((bl s).drop f).take (i - f))).map baL
  | [], m, f, i, hd, hi, hm, hf => by
    have hs := bl_drop_nil hi hd
    obtain rfl : m = 1 := by omega
    simp only [wdsF, wsL]
    rw [if_neg (by omega)]
    have hlen : (((bl s).drop f).take (i - f)).length = i - f := by
      rw [List.length_take, List.length_drop, bl_len]
      omega
    by_cases h : f < i
    · rw [if_pos h, if_neg (fun e => by rw [e] at hlen; simp at hlen; omega)]
      have e : s.extract f i = baL (((bl s).drop f).take (i - f)) := bl_inj (by rw [bl_extract, bl_ba])
      rw [e]
      rfl
    · rw [if_neg h, if_pos (List.length_eq_zero_iff.1 (by rw [hlen]; omega))]
      rfl
  | c :: l, m, f, i, hd, hi, hm, hf => by
    obtain ⟨g1, g2, g3⟩ := bt_drop hd
    obtain ⟨m, rfl⟩ : ∃ q, m = q + 1 := ⟨m - 1, by omega⟩
    have hlen : (((bl s).drop f).take (i - f)).length = i - f := by
      rw [List.length_take, List.length_drop, bl_len]
      omega
    simp only [wdsF, wsL]
    rw [g2]
    by_cases hc : c = 32
    · rw [if_pos hc, if_neg (fun h => h.2 ((c32 c).2 hc))]
      have ih := wdsF_eq s l m (i + 1) (i + 1) g3 (by omega) (by omega) (Nat.le_refl _)
      rw [Nat.sub_self, List.take_zero] at ih
      by_cases h : f < i
      · rw [if_pos h, if_neg (fun e => by rw [e] at hlen; simp at hlen; omega), ih]
        have e : s.extract f i = baL (((bl s).drop f).take (i - f)) := bl_inj (by rw [bl_extract, bl_ba])
        rw [e]
        rfl
      · rw [if_neg h, if_pos (List.length_eq_zero_iff.1 (by rw [hlen]; omega)), ih]
    · rw [if_neg hc, if_pos ⟨g1, fun h => hc ((c32 c).1 h)⟩]
      rw [wdsF_eq s l m f (i + 1) g3 (by omega) (by omega) (by omega)]
      congr 2
      have e1 : i + 1 - f = (i - f) + 1 := by omega
      rw [e1, List.take_add_one]
      congr 1
      rw [List.getElem?_drop]
      have e2 : f + (i - f) = i := by omega
      rw [e2]
      have := congrArg List.head? hd
      rw [List.head?_drop] at this
      rw [this]
      rfl
theorem wdsS_eq (s : ByteArray) : wdsS s = (wsL (bl s) []).map baL := by
  have := wdsF_eq s (bl s) (s.size + 1) 0 0 rfl (by omega) (by omega) (Nat.le_refl _)
  exact this
theorem wsL_len : ∀ (l w : List UInt8), (wsL l w).length ≤ l.length + 1
  | [], w => by simp only [wsL]; split <;> simp
  | c :: l, w => by
    simp only [wsL]
    have h1 := wsL_len l []
    have h2 := wsL_len l (w ++ [c])
    split
    · split
      · simp; omega
      · simp; omega
    · simp; omega
theorem ev_refWords_loop (s : ByteArray) (hs : s.size ≤ 5864062014805) : ∀ (l : List UInt8) (i : Nat) (out : List ByteArray) (w : List UInt8), (bl s).drop i = l → i ≤ s.size → out.length ≤ i → w.length ≤ i →
    Ev (fun k => aumbryref03_Words.l0 k s out (baL w) (i : Int)) (out ++ (wsL l w).map baL)
  | [], i, out, w, hd, hi, ho, hw => by
    have h1 := bl_drop_nil hi hd
    refine Ev.step (fun k => (show aumbryref03_Words.l0 (k + 1) s out (baL w) (i : Int) = _ from by rw [aumbryref03_Words.l0])) ?_
    refine evIfn (by omega) ?_
    simp only [wsL]
    by_cases h : w = []
    · rw [if_pos h]
      refine evIfp ((baL_nil w).2 h) ?_
      simp only [List.map_nil, List.append_nil]
      exact Ev.now _
    · rw [if_neg h]
      exact evIfn (fun e => h ((baL_nil w).1 e)) (evIfp (by omega) (Ev.now _))
  | c :: l, i, out, w, hd, hi, ho, hw => by
    obtain ⟨g1, g2, g3⟩ := bt_drop hd
    refine Ev.step (fun k => (show aumbryref03_Words.l0 (k + 1) s out (baL w) (i : Int) = _ from by rw [aumbryref03_Words.l0])) ?_
    refine evIfp (by omega) (evIfp (by omega) ?_)
    rw [g2, up_cast i (by omega)]
    simp only [wsL]
    by_cases hc : c = 32
    · rw [if_pos hc]
      refine evIfp ((c32 c).2 hc) ?_
      by_cases h : w = []
      · rw [if_pos h]
        refine evIfp ((baL_nil w).2 h) ?_
        exact ev_refWords_loop s hs l (i + 1) out [] g3 (by omega) (by omega) (by simp)
      · rw [if_neg h]
        refine evIfn (fun e => h ((baL_nil w).1 e)) (evIfp (by omega) ?_)
        have := ev_refWords_loop s hs l (i + 1) (out ++ [baL w]) [] g3 (by omega) (by simp; omega) (by simp)
        rw [List.append_assoc] at this
        exact this
    · rw [if_neg hc]
      refine evIfn (fun h => hc ((c32 c).1 h)) (evIfp (by omega) (evIfp (by omega) ?_))
      rw [Int.toNat_natCast, Int.toNat_natCast]
      have e : s.extract i (i + 1) = baL [c] := bl_inj (by
        rw [bl_extract, bl_ba, hd]
        have : i + 1 - i = 1 := by omega
        rw [this]
        rfl)
      have e2 : baL w ++ baL [c] = baL (w ++ [c]) := bl_inj (by rw [bl_append]; rfl)
      rw [e, e2]
      refine evIfp ?_ ?_
      · have h1 := bl_len (baL w)
        have h2 := bl_len (baL [c])
        rw [bl_ba] at h1 h2
        rw [← h1, ← h2]
        simp only [List.length_cons, List.length_nil]
        omega
      · exact ev_refWords_loop s hs l (i + 1) out (w ++ [c]) g3 (by omega) (by omega) (by simp; omega)
theorem ev_refWords (s : ByteArray) (hs : s.size ≤ 5864062014805) : Ev (fun k => aumbryref03_Words.f k s) (wdsS s) := by
  rw [wdsS_eq]
  unfold aumbryref03_Words.f
  exact ev_refWords_loop s hs (bl s) 0 [] [] rfl (by omega) (by simp) (by simp)
theorem words_at (s : ByteArray) (h : s.size < 5864062014805) : name_Words.f s = some (wdsS s) := by
  unfold name_Words.f
  rw [if_pos h]
theorem wdsS_len (s : ByteArray) : (wdsS s).length ≤ s.size + 1 := by
  rw [wdsS_eq, List.length_map, ← bl_len]
  exact wsL_len _ _
end Go.Proofs.YthngbpkknpmmlaaDoor.P

-- ==== PL3j
/- Plain laws of chapter 3: words with blanks between them are these words again. -/
namespace Go.Proofs.YthngbpkknpmmlaaDoor.P
open Go.RowKit Go.Proofs.YthngbpkknpmmlaaDoorW.PrintWords
set_option linter.unusedVariables false
set_option linter.unusedSimpArgs false
theorem wsL_cons (c : UInt8) (l w : List UInt8) : wsL (c :: l) w = if c = 32 then (if w = [] then wsL l [] else w :: wsL l []) else wsL l (w ++ [c]) := rfl
theorem not_in_snoc {w : List UInt8} {c : UInt8} (hw : (32 : UInt8) ∉ w) (hc : ¬ c = 32) : (32 : UInt8) ∉ w ++ [c] := by
  intro e
  rcases List.mem_append.1 e with e | e
  · exact hw e
  · exact hc (List.mem_singleton.1 e).symm
theorem wsL_good : ∀ (l w : List UInt8), (32 : UInt8) ∉ w → ∀ x ∈ wsL l w, x ≠ [] ∧ (32 : UInt8) ∉ x ∧ x.length ≤ l.length + w.length
  | [], w, hw, x, hx => by
    simp only [wsL] at hx
    split at hx
    · cases hx
    · rename_i h
      rw [List.mem_singleton.1 hx]
      exact ⟨h, hw, by simp⟩
  | c :: l, w, hw, x, hx => by
    rw [wsL_cons] at hx
    by_cases hc : c = 32
    · rw [if_pos hc] at hx
      by_cases h : w = []
      · rw [if_pos h] at hx
        obtain ⟨h1, h2, h3⟩ := wsL_good l [] (by simp) x hx
        exact ⟨h1, h2, by simp at h3 ⊢; omega⟩
      · rw [if_neg h] at hx
        rcases List.mem_cons.1 hx with rfl | hx
        · exact ⟨h, hw, by simp <;> omega⟩
        · obtain ⟨h1, h2, h3⟩ := wsL_good l [] (by simp) x hx
          exact ⟨h1, h2, by simp at h3 ⊢; omega⟩
    · rw [if_neg hc] at hx
      obtain ⟨h1, h2, h3⟩ := wsL_good l (w ++ [c]) (not_in_snoc hw hc) x hx
      exact ⟨h1, h2, by simp at h3 ⊢; omega⟩
/-- Blanks and words, one behind the other. -/
def jnL : List (Nat × List UInt8) → List UInt8
  | [] => []
  | p :: r => List.replicate p.1 32 ++ (p.2 ++ jnL r)
theorem jnL_snoc : ∀ (ps : List (Nat × List UInt8)) (p : Nat × List UInt8), jnL (ps ++ [p]) = jnL ps ++ (List.replicate p.1 32 ++ p.2)
  | [], p => by simp [jnL]
  | q :: r, p => by
    rw [List.cons_append]
    simp only [jnL]
    rw [jnL_snoc r p]
    simp [List.append_assoc]
theorem wsL_blanks : ∀ (n : Nat) (l w : List UInt8), 1 ≤ n → wsL (List.replicate n 32 ++ l) w = (if w = [] then [] else [w]) ++ wsL l []
  | 0, l, w, h => by omega
  | n + 1, l, w, h => by
    rw [List.replicate_succ, List.cons_append, wsL_cons, if_pos rfl]
    have ih : wsL (List.replicate n 32 ++ l) [] = wsL l [] := by
      cases n with
      | zero => rfl
      | succ n => rw [wsL_blanks (n + 1) l [] (by omega), if_pos rfl]; rfl
    rw [ih]
    by_cases hw : w = []
    · rw [if_pos hw, if_pos hw]
      rfl
    · rw [if_neg hw, if_neg hw]
      rfl
theorem wsL_word : ∀ (a l w : List UInt8), (32 : UInt8) ∉ a → wsL (a ++ l) w = wsL l (w ++ a)
  | [], l, w, h => by simp
  | c :: a, l, w, h => by
    rw [List.cons_append, wsL_cons, if_neg (fun e => h (by rw [e]; simp)), wsL_word a l (w ++ [c]) (fun e => h (List.mem_cons_of_mem _ e))]
    simp
theorem wsL_end (w t : List UInt8) (ht : t = [] ∨ t = [32]) : wsL t w = if w = [] then [] else [w] := by
  rcases ht with rfl | rfl
  · rfl
  · rw [wsL_cons, if_pos rfl]
    rfl
theorem wsL_join (t : List UInt8) (ht : t = [] ∨ t = [32]) : ∀ (ps : List (Nat × List UInt8)) (w : List UInt8), (∀ p ∈ ps, 1 ≤ p.1 ∧ p.2 ≠ [] ∧ (32 : UInt8) ∉ p.2) → wsL (jnL ps ++ t) w = (if w = [] then [] else [w]) ++ ps.map (·.2)
  | [], w, _ => by
    simp only [jnL, List.nil_append, List.map_nil, List.append_nil]
    exact wsL_end w t ht
  | p :: r, w, h => by
    obtain ⟨h1, h2, h3⟩ := h p (List.mem_cons_self ..)
    simp only [jnL]
    rw [List.append_assoc, wsL_blanks _ _ _ h1, List.append_assoc, wsL_word _ _ _ h3, List.nil_append, wsL_join t ht r p.2 (fun q hq => h q (List.mem_cons_of_mem _ hq)), if_neg h2]
    rfl
theorem wds_join {ps : List (Nat × List UInt8)} {s : ByteArray} {t : List UInt8} (ht : t = [] ∨ t = [32]) (h : ∀ p ∈ ps, 1 ≤ p.1 ∧ p.2 ≠ [] ∧ (32 : UInt8) ∉ p.2) (hs : bl s = jnL ps ++ t) : wdsS s = ps.map (fun p => baL p.2) := by
  rw [wdsS_eq, hs, wsL_join t ht ps [] h, if_pos rfl, List.nil_append, List.map_map]
  rfl
theorem words_good (s : ByteArray) : ∀ x ∈ wdsS s, bl x ≠ [] ∧ (32 : UInt8) ∉ bl x ∧ x.size ≤ s.size := by
  intro x hx
  rw [wdsS_eq] at hx
  obtain ⟨y, hy, rfl⟩ := List.mem_map.1 hx
  obtain ⟨h1, h2, h3⟩ := wsL_good (bl s) [] (by simp) y hy
  refine ⟨by rw [bl_ba]; exact h1, by rw [bl_ba]; exact h2, ?_⟩
  rw [← bl_len, ← bl_len s, bl_ba]
  simpa using h3
end Go.Proofs.YthngbpkknpmmlaaDoor.P

-- ==== PureNameJoins
/- Words that are put side by side with any number of blanks between are these words again: for every text and blanks, the law answers true. -/
namespace Go.Proofs.YthngbpkknpmmlaaDoor.Pure
open Go.RowKit Go.Proofs.YthngbpkknpmmlaaDoor.P Go.Proofs.YthngbpkknpmmlaaDoorW.PrintWords
set_option linter.unusedVariables false
theorem u8_wf {v : Int} (h : (Lit.int .u8 v).wf = true) : 0 ≤ v ∧ v ≤ 255 := by
  simp only [Lit.wf, Bool.and_eq_true, decide_eq_true_eq] at h
  have e1 : IntKind.u8.min = 0 := by decide
  have e2 : IntKind.u8.max = 255 := by decide
  rw [e1, e2] at h
  exact h
theorem bl_blank (s : ByteArray) : bl (s ++ (⟨#[32]⟩ : ByteArray)) = bl s ++ [32] := by rw [bl_append]
theorem ev_join_inner (bs : List Int) (ws : List ByteArray) (i : Nat) (c : ByteArray) (q : List ByteArray) (hq : ws.drop i = c :: q) (hc : c.size ≤ 2000) (hlen : (ws.length : Int) = (ws.length : Int)) (n : Nat) (hn : n ≤ 4) (line : ByteArray) (hl : line.size ≤ 100000000) (R : Bool)
    (hR : Ev (fun k => aumbrylaw03_NameJoins.l0 k bs ws ((⟨(bl line ++ List.replicate n 32).toArray⟩ : ByteArray) ++ c) (ws.length : Int) (wrap64 ((i : Int) + 1))) R) : ∀ (d j : Nat), j + d = n →
    Ev (fun k => aumbrylaw03_NameJoins.l1 k bs ws (⟨(bl line ++ List.replicate j 32).toArray⟩ : ByteArray) (i : Int) (ws.length : Int) (i : Int) (n : Int) (j : Int)) R
  | 0, j, hj => by
    obtain rfl : j = n := by omega
    obtain ⟨h1, _, _⟩ := drop_cons hq
    refine Ev.step (fun k => (show aumbrylaw03_NameJoins.l1 (k + 1) bs ws _ (i : Int) (ws.length : Int) (i : Int) (j : Int) (j : Int) = _ from by rw [aumbrylaw03_NameJoins.l1])) ?_
    refine evIfn (by omega) (evIfp (by omega) (evIfp (by omega) ?_))
    rw [rd_txt hq]
    refine evIfp ?_ hR
    have := bl_len (⟨(bl line ++ List.replicate j 32).toArray⟩ : ByteArray)
    rw [← this]
    show (bl line ++ List.replicate j 32).length + _ ≤ _
    rw [List.length_append, bl_len, List.length_replicate]
    omega
  | d + 1, j, hj => by
    refine Ev.step (fun k => (show aumbrylaw03_NameJoins.l1 (k + 1) bs ws _ (i : Int) (ws.length : Int) (i : Int) (n : Int) (j : Int) = _ from by rw [aumbrylaw03_NameJoins.l1])) ?_
    refine evIfp (by omega) (evIfp ?_ ?_)
    · have := bl_len (⟨(bl line ++ List.replicate j 32).toArray⟩ : ByteArray)
      rw [← this]
      show (bl line ++ List.replicate j 32).length + _ ≤ _
      rw [List.length_append, bl_len, List.length_replicate]
      omega
    · rw [up_cast j (by omega)]
      have e : (⟨(bl line ++ List.replicate j 32).toArray⟩ : ByteArray) ++ (⟨#[32]⟩ : ByteArray) = ⟨(bl line ++ List.replicate (j + 1) 32).toArray⟩ := bl_inj (by
        rw [bl_blank]
        show (bl line ++ List.replicate j 32) ++ [32] = bl line ++ List.replicate (j + 1) 32
        rw [List.append_assoc, List.replicate_succ'])
      rw [e]
      exact ev_join_inner bs ws i c q hq hc hlen n hn line hl R hR d (j + 1) (by omega)
theorem ev_join (bs : List Int) (hbs : ∀ x ∈ bs, 0 ≤ x ∧ x ≤ 255) (hbl : bs.length ≤ 140737488351232) (ws : List ByteArray) (hws : ws.length ≤ 2001) (hg : ∀ x ∈ ws, bl x ≠ [] ∧ (32 : UInt8) ∉ bl x ∧ x.size ≤ 2000) : ∀ (u : List ByteArray) (i : Nat) (line : ByteArray) (ps : List (Nat × List UInt8)), i ≤ ws.length → ws.drop i = u → line.size ≤ i * 2004 →
    (∀ p ∈ ps, 1 ≤ p.1 ∧ p.2 ≠ [] ∧ (32 : UInt8) ∉ p.2) → bl line = jnL ps → ps.map (fun p => baL p.2) = ws.take i → Ev (fun k => aumbrylaw03_NameJoins.l0 k bs ws line (ws.length : Int) (i : Int)) true
  | [], i, line, ps, hi, hu, hls, hps, hln, hmap => by
    have h1 := drop_nil_len hi hu
    subst h1
    rw [List.take_length] at hmap
    have hb : line.size ≤ 2001 * 2004 := Nat.le_trans hls (Nat.mul_le_mul_right _ hws)
    refine Ev.step (fun k => (show aumbrylaw03_NameJoins.l0 (k + 1) bs ws line (ws.length : Int) (ws.length : Int) = _ from by rw [aumbrylaw03_NameJoins.l0])) ?_
    refine evIfn (by omega) (evIfp (by omega) ?_)
    have e1 : wdsS (line ++ (⟨#[32]⟩ : ByteArray)) = ws := by rw [wds_join (.inr rfl) hps (by rw [bl_blank, hln]), hmap]
    have e2 : wdsS line = ws := by rw [wds_join (.inl rfl) hps (by rw [hln, List.append_nil]), hmap]
    have h3 := words_at (line ++ (⟨#[32]⟩ : ByteArray)) (by rw [ByteArray.size_append]; have : (⟨#[32]⟩ : ByteArray).size = 1 := rfl; omega)
    have h4 := words_at line (by omega)
    rw [e1] at h3
    rw [e2] at h4
    refine Ev.bind (evIs_ h3) (Ev.bind (ev_same3 ws (by omega)) (evIfp rfl (Ev.bind (evIs_ h4) (Ev.bind (ev_same3 ws (by omega)) (Ev.now _)))))
  | c :: u, i, line, ps, hi, hu, hls, hps, hln, hmap => by
    obtain ⟨h1, h2, h3⟩ := drop_cons hu
    obtain ⟨g1, g2, g3⟩ := hg c (List.mem_of_mem_drop (hu ▸ List.mem_cons_self ..))
    have hb : line.size ≤ 2001 * 2004 := Nat.le_trans hls (Nat.mul_le_mul_right _ (by omega))
    have fin : ∀ n : Nat, 1 ≤ n → n ≤ 4 → Ev (fun k => aumbrylaw03_NameJoins.j1 k bs ws line (i : Int) (n : Int) (ws.length : Int) (i : Int)) true := fun n hn1 hn4 => by
      refine Ev.step (fun k => (show aumbrylaw03_NameJoins.j1 (k + 1) bs ws line (i : Int) (n : Int) (ws.length : Int) (i : Int) = _ from by rw [aumbrylaw03_NameJoins.j1])) ?_
      have e0 : (⟨(bl line ++ List.replicate 0 32).toArray⟩ : ByteArray) = line := bl_inj (by simp)
      have := ev_join_inner bs ws i c u hu g3 rfl n hn4 line (by omega) true ?_ n 0 (by omega)
      · rw [e0] at this
        exact this
      · rw [up_cast i (by omega)]
        have el : bl ((⟨(bl line ++ List.replicate n 32).toArray⟩ : ByteArray) ++ c) = bl line ++ (List.replicate n 32 ++ bl c) := by
          rw [bl_append]
          show (bl line ++ List.replicate n 32) ++ bl c = _
          rw [List.append_assoc]
        refine ev_join bs hbs hbl ws hws hg u (i + 1) _ (ps ++ [(n, bl c)]) (by omega) h3 ?_ ?_ ?_ ?_
        · rw [← bl_len, el, List.length_append, List.length_append, List.length_replicate, bl_len, bl_len, Nat.add_mul]
          omega
        · intro p hp
          rcases List.mem_append.1 hp with h | h
          · exact hps p h
          · rw [List.mem_singleton.1 h]
            exact ⟨hn1, g1, g2⟩
        · rw [el, jnL_snoc, hln]
        · rw [List.map_append, hmap, List.take_add_one]
          congr 1
          have e5 : ws[i]? = some c := by
            have := congrArg List.head? hu
            rw [List.head?_drop] at this
            exact this
          rw [e5]
          show [baL (bl c)] = [c]
          rw [ba_bl]
    refine Ev.step (fun k => (show aumbrylaw03_NameJoins.l0 (k + 1) bs ws line (ws.length : Int) (i : Int) = _ from by rw [aumbrylaw03_NameJoins.l0])) ?_
    refine evIfp (by omega) ?_
    by_cases hi2 : (i : Int) < (bs.length : Int)
    · refine evIfp hi2 (evIfp (by omega) ?_)
      have hx : 0 ≤ rd bs (i : Int) ∧ rd bs (i : Int) ≤ 255 := by
        have hlt : i < bs.length := by omega
        have : rd bs (i : Int) = bs[i] := by
          unfold rd
          simp [hlt]
        rw [this]
        exact hbs _ (List.getElem_mem hlt)
      obtain ⟨m, hm⟩ : ∃ m : Nat, rd bs (i : Int) = (m : Int) := ⟨(rd bs (i : Int)).toNat, by omega⟩
      rw [hm]
      have e6 : Int.tmod (m : Int) 4 = ((m % 4 : Nat) : Int) := by rw [Int.tmod_eq_emod_of_nonneg (by omega)]; omega
      have hm4 : m % 4 < 4 := Nat.mod_lt _ (by omega)
      have e7 : wrap64 (1 + wrap64 ((m % 4 : Nat) : Int)) = ((1 + m % 4 : Nat) : Int) := by
        rw [wrap_id (i := ((m % 4 : Nat) : Int)) (by omega) (by omega), wrap_id (by omega) (by omega)]
        omega
      rw [e6, e7]
      exact fin (1 + m % 4) (by omega) (by omega)
    · refine evIfn hi2 ?_
      exact fin 1 (by omega) (by omega)
theorem NameJoins : aumbrylaw03_NameJoins.Pure := by
  intro s bs hs hb
  have hb1 : bs.length ≤ 140737488351232 := by
    have := hb.1
    omega
  refine Ev.rounds ?_
  unfold aumbrylaw03_NameJoins.f
  refine Ev.bind ev_wakes3 (evIfp rfl ?_)
  by_cases h2 : (s.size : Int) > 2000
  · exact evIfp h2 (Ev.now _)
  · refine evIfn h2 (Ev.bind (ev_refWords s (by omega)) ?_)
    have hl := wdsS_len s
    exact ev_join bs (fun x hx => u8_wf (hb.2 x hx)) hb1 (wdsS s) (by omega) (fun x hx => by
      obtain ⟨g1, g2, g3⟩ := words_good s x hx
      exact ⟨g1, g2, by omega⟩) (wdsS s) 0 ⟨#[]⟩ [] (by omega) rfl (by show 0 ≤ _; omega) (fun p hp => by cases hp) rfl rfl
end Go.Proofs.YthngbpkknpmmlaaDoor.Pure

-- ==== RowNameJoins
namespace Go.Proofs.YthngbpkknpmmlaaDoor.nameJoins
open Go.ChangeShapes Go.WideShapes Go.ChangeAt Go.RowKit Go.Proofs.YthngbpkknpmmlaaDoorW.PrintWords Go.Proofs.YthngbpkknpmmlaaDoor.P Go.Proofs.YthngbpkknpmmlaaDoor.Open
open Go.ChangeMaps (open_string shut_string)
set_option linter.unusedVariables false
theorem own : ownKnob Tryd.prog.godebug = none := by kernel_rfl
theorem laidOut : laidOutB Tryd.prog = true := by kernel_rfl
set_option maxRecDepth 100000 in
theorem core {H : Type} {enc : TypeId × Value → H} (W : World) (base : Nat) (args : Array Value) (ds gs : List (DataW H)) (before : List MemPlace)
    (hval : ∀ (j : Nat) t v, Tryd.f7.params[j]? = some t → args[j]? = some v → Value.okWide Tryd.prog W .any base t v)
    (hW : DataW.Whole enc Tryd.prog Tryd.f7.params.toList Rows.nameJoinsSpec.vars false W args.toList ds gs before)
    (hsz : (DataW.weightsEach Tryd.prog (Tryd.f7.params.toList ++ Rows.nameJoinsSpec.plain.varTypes Tryd.prog) (ds ++ gs)).all (· ≤ reachBytes) = true)
    (hL : laidMetH Tryd.prog Rows.nameJoinsRow.laid W)
    :
    Calls Tryd.prog 7 args W fun e W' => ∃ v, e = .returned v ∧ Rows.nameJoinsSpec.post enc Tryd.prog Tryd.f7 false true false false W args v W' := by
  have hW' := hW
  obtain ⟨p, q, hA, hV, rfl, hfz, hnd⟩ := hW
  rw [Tryd.params7] at hA hval hsz
  obtain ⟨v0, vs0, d0, ds0, p0, q0, hargs, rfl, rfl, h0, r0⟩ := trodAll_cons hA
  obtain ⟨v1, vs1, d1, ds1, p1, q1, rfl, rfl, rfl, h1, r1⟩ := trodAll_cons r0
  obtain ⟨rfl, rfl, rfl⟩ := trodAll_nil r1
  obtain rfl : args = #[v0, v1] := by cases args; simp_all
  obtain ⟨rfl, rfl⟩ := trodVars_none hV
  have k0 := h0
  obtain ⟨n0, hf0⟩ := h0
  obtain ⟨x0, hK0, hS0, hB0⟩ := op9.go hf0 (fun m hm => by have := List.all_eq_true.1 hsz m (DataW.weights_mem_each (j := 0) rfl rfl m hm); simpa using this)
  have lt0 : ∀ z ∈ p0, z.block < W.heap.size := by obtain ⟨m, hm⟩ := k0; exact DataW.trod_lt m _ _ _ hm
  obtain ⟨y0, rfl⟩ := okWide_string Tryd.underlying9 (hval 0 9 v0 rfl rfl)
  have hcs0' : [_] = [_] := hK0
  injection hcs0' with hcs0'
  injection hcs0' with hq0
  subst hq0
  have k1 := h1
  obtain ⟨n1, hf1⟩ := h1
  obtain ⟨x1, hK1, hS1, hB1⟩ := op35.go hf1 (fun m hm => by have := List.all_eq_true.1 hsz m (DataW.weights_mem_each (j := 1) rfl rfl m hm); simpa using this)
  have lt1 : ∀ z ∈ p1, z.block < W.heap.size := by obtain ⟨m, hm⟩ := k1; exact DataW.trod_lt m _ _ _ hm
  obtain ⟨a1, len1, cap1, rfl⟩ := okWide_slice Tryd.underlying35 (hval 1 35 v1 rfl rfl)
  obtain ⟨A1, c1, hcs1, hc1, hr1⟩ := hK1
  have hcs1' : [(Value.slice a1 len1 cap1)] = [.slice A1 x1.length c1] := hcs1
  injection hcs1' with hcs1'
  injection hcs1' with ha1 hl1 hk1
  subst ha1 hl1 hk1
  obtain ⟨k, h⟩ := Pure.NameJoins y0 x1 hS0 hS1
  refine (aumbrylaw03_NameJoins.calls k y0 _ _ x1 true W hr1 hc1 h rfl (glob_row hL)).mono ?_
  rintro e W' ⟨rfl, hd⟩
  have bel : Below W.heap.size W W' := hd
  exact ⟨_, rfl, _, _, _, [], _, [], hW', trodAll_mk1 (shut_bool Tryd.underlying4 _), (trodAll_cons_mk (Below.trod laidOut (by kernel_rfl) (of_decide_eq_true (by kernel_rfl)) k0 bel lt0) (trodAll_cons_mk (Below.trod laidOut (by kernel_rfl) (of_decide_eq_true (by kernel_rfl)) k1 bel lt1) trodAll_mk0)), rfl, bel.frame _, fun h => by cases h⟩
set_option maxRecDepth 100000 in
theorem laid_met (os : Os) : laidMet Tryd.prog Rows.nameJoinsRow.laid ((World.laidAll Tryd.prog os Rows.nameJoinsRow.laid).forCall (fun _ _ => 0) ⟨#[], #[.string ByteArray.empty, .slice none 0 0], []⟩).memory :=
  laidMet_laidAll _ (by kernel_rfl) (by kernel_rfl)
set_option maxRecDepth 100000 in
theorem reads (os : Os) {H : Type} (enc : TypeId × Value → H) : (DataW.whole enc Tryd.prog ((World.laidAll Tryd.prog os Rows.nameJoinsRow.laid).forCall (fun _ _ => 0) ⟨#[], #[.string ByteArray.empty, .slice none 0 0], []⟩).memory Tryd.f7.params.toList Rows.nameJoinsSpec.vars false (#[.string ByteArray.empty, .slice none 0 0] : Array Value).toList 8).isSome = true := by kernel_rfl
set_option maxRecDepth 100000 in
theorem lifted (os : Os) (started : os.Started) (H : Type) (enc : TypeId × Value → H) (F : Stop.Interp) :
    ReturnsInHanded {} Tryd.checked os 7 .any ((OpenSpec.ofChange Rows.nameJoinsSpec).preRow enc Tryd.prog Tryd.f7 Rows.nameJoinsRow.domain false Rows.nameJoinsRow.laid) (((OpenSpec.ofChange Rows.nameJoinsSpec).at F).post enc Tryd.prog Tryd.f7 false true false false) := by
  obtain ⟨x, hx⟩ := Option.isSome_iff_exists.1 (reads os enc)
  refine returnsInHanded_of_row (C := Tryd.checked) (s := (OpenSpec.ofChange Rows.nameJoinsSpec)) own started (by kernel_rfl) Tryd.func7
    (witness_row_at (enc := enc) (C := Tryd.checked) false (World.laidAll Tryd.prog os Rows.nameJoinsRow.laid) #[.string ByteArray.empty, .slice none 0 0] rfl (by kernel_rfl) (by kernel_rfl) (by kernel_rfl)
      (OpenSpec.preRow_of_cond 8 hx rfl (fun k hk => by cases hk) (by kernel_rfl) (laid_met os))) ?_
  intro W base args ds gs before hval0 hW _ hk hsz0 hL _ _
  exact core W base args ds gs before hval0 hW hsz0 hL
theorem said : Rows.NameJoinsSaid :=
  OpenClaim.holds_of_cond 7 Tryd.f7 rfl rfl rfl rfl rfl rfl rfl ⟨rfl, rfl, rfl, rfl, rfl⟩ rfl rfl rfl rfl rfl (by kernel_rfl) Tryd.func7 (by kernel_rfl)
    (of_decide_eq_true (by kernel_rfl)) (by unfold Func.isWrapper; first | (rw [if_pos (by decide +kernel)]; kernel_rfl) | (rw [if_neg (by decide +kernel)]; exact ⟨rfl, rfl⟩))
    (fun os started H enc _ F => by rw [OpenClaim.pre_eq_preRow]; exact lifted os started H enc F)
theorem plain (f : FuncId) (fn : Func) (hf : Tryd.pinned.checked.prog.funcNamed "aumbry/aumbrylaw03.NameJoins" = some f) (hfn : Tryd.pinned.checked.prog.funcs[f]? = some fn) :
    true = Tryd.pinned.checked.prog.looks [] ∧ ∀ (j : Nat) t, fn.params[j]? = some t → Tryd.pinned.checked.prog.wantsStandIn t = false := by
  obtain rfl : f = 7 := Option.some.inj ((show Tryd.prog.funcNamed "aumbry/aumbrylaw03.NameJoins" = some 7 by kernel_rfl).symm.trans hf) |>.symm
  obtain rfl : fn = Tryd.f7 := (Option.some.inj (Tryd.func7.symm.trans hfn)).symm
  refine ⟨by kernel_rfl, fun j t ht => ?_⟩
  rw [Tryd.params7] at ht
  have hm := Array.mem_of_getElem? ht
  have hm' : t = 9 ∨ t = 35 := by simpa using hm
  rcases hm' with rfl | rfl
  · exact (show Tryd.prog.wantsStandIn 9 = false by kernel_rfl)
  · exact (show Tryd.prog.wantsStandIn 35 = false by kernel_rfl)
theorem card : Rows.NameJoinsCardSaid :=
  Claim7.holds_tied_plain_at .later [] _ _ _ _ said (fun _ h => by cases h) (by kernel_rfl) (fun _ h => by cases h) nameJoins_row_tie rfl ⟨rfl, rfl⟩ (by kernel_rfl) rfl plain (by kernel_rfl)
end Go.Proofs.YthngbpkknpmmlaaDoor.nameJoins
namespace Go.Proofs.YthngbpkknpmmlaaDoor
/-- The card, under a short name, for the claim. -/
theorem nameJoins_holds : Rows.NameJoinsCardSaid := nameJoins.card
#print axioms nameJoins_holds
end Go.Proofs.YthngbpkknpmmlaaDoor
