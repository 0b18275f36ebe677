/- TermOwn: the law answers true at every input that the given row speaks of. Conditions: those of the given row, none besides. (Part 4 of 4; written by programs of this session, which drive the kit's print, and by hand.) -/
import Derived.Test.YtcmnpjgmpgjbdaaRows
import Derived.Test.YtcmnpjgmpgjbdaaZTermOwnWWords
import Derived.Deep.Slices
import Derived.SizedLaws
import Derived.ChangeSame
import Derived.ChangeArms
import Derived.KernelRfl
import Derived.WalkKit
import Derived.ProofKit
import Derived.OpenShut
import Derived.ShutString
import Derived.ChangeOld
import Derived.Below
import Derived.Carry
import Derived.Test.YtcmnpjgmpgjbdaaZTermOwn0
import Derived.Test.YtcmnpjgmpgjbdaaZTermOwn1
import Derived.Test.YtcmnpjgmpgjbdaaZTermOwn2
-- ==== PF8
namespace Go.Proofs.Ytcmnpjgmpgjbdaa.P
open Go.RowKit Go.Proofs.YtcmnpjgmpgjbdaaW.PrintWords Go.Proofs.YtcmnpjgmpgjbdaaW.PrintLast Go.Proofs.YtcmnpjgmpgjbdaaW.PrintMore
attribute [local go_sem] max2_int min2_int max_two min_two max_three min_three max_four min_four   -- for this text's walks alone
set_option linter.unusedVariables false
set_option linter.unusedSimpArgs false

/-! ### aumbrylaw04_TermOwn: function 8 -/
def aumbrylaw04_TermOwn.j0 : Nat → List (S50) → List (List (S50)) → List (S50) → List (List (S50)) → ByteArray → Bool → Option (Bool)
  | 0, _, _, _, _, _, _ => none
  | k + 1, x0, x1, x5, x6, x16, x95 => if x95 = true then (some false) else (if 0 ≤ (x0.length : Int) then (if (x0.length : Int) ≤ (x5.length : Int) then ((aumbryref04_Print.f k (x5.take ((x0.length : Int) : Int).toNat)).bind fun bt141 => (if bt141.1.toList = x16.toList then (if (x0.length : Int) < (x5.length : Int) then (if ((rd_T50 x5 (x0.length : Int)).f0).toList = ([107, 101, 101, 112] : List UInt8) then ((aumbryref04_Same.f k (x5.take ((x0.length : Int) : Int).toNat) x0).bind fun t148 => (if t148 = true then ((aumbryref04_SameAll.f k x6 x1).bind fun t149 => (some t149)) else (some false))) else (some false)) else (none)) else (some false))) else (none)) else (none))
def aumbrylaw04_TermOwn.f (k : Nat) (l0 : List (S50)) (l1 : List (List (S50))) : Option (Bool) := (aumbrylaw04_wakes.f k).bind fun t101 => (if t101 = true then ((aumbryref04_Copy.f l0).bind fun t102 => (if t102.length < 5864062014805 then ((some (t102 ++ [(⟨(⟨#[107, 101, 101, 112]⟩ : ByteArray), 0⟩ : S50)] : List (S50))).bind fun y105 => ((aumbryref04_CopyAll.f k l1).bind fun t108 => (if 0 ≤ (l0.length : Int) then (if (l0.length : Int) ≤ (y105.length : Int) then ((term_Kids.f k (y105.take ((l0.length : Int) : Int).toNat)).bind fun bt115 => ((term_Kids.f k (y105.take ((l0.length : Int) : Int).toNat)).bind fun bt123 => ((term_Make.f k (⟨#[102]⟩ : ByteArray) t108).bind fun bt127 => ((aumbryref04_Print.f k l0).bind fun bt131 => (if bt131.2 = 0 then ((aumbryref04_Kids.f k l0).bind fun t133 => ((aumbryref04_SameAll.f k bt123.1 t133).bind fun t136 => (aumbrylaw04_TermOwn.j0 k l0 l1 y105 t108 bt131.1 (!t136)))) else (aumbrylaw04_TermOwn.j0 k l0 l1 y105 t108 bt131.1 false)))))) else (none)) else (none)))) else (none))) else (some false))
set_option maxHeartbeats 8000000 in
set_option maxRecDepth 100000 in
theorem aumbrylaw04_TermOwn.calls (k : Nat) (A0 : Option Addr) (c0 : Nat) (l0 : List (S50)) (A1 : Option Addr) (c1 : Nat) (l1 : List (List (S50))) (r : Bool) (w : World) (hr0 : Kd.C k50 w A0 l0.length l0) (hc0 : l0.length ≤ c0) (hr1 : Kd.C (Kd.slice 50 k50) w A1 l1.length l1) (hc1 : l1.length ≤ c1) (h : aumbrylaw04_TermOwn.f k l0 l1 = some r) :
    Calls Try.prog 8 #[.slice A0 l0.length c0, .slice A1 l1.length c1] w fun e w' => e = .returned (.bool r) ∧ Below w.heap.size w w' := by
  have hu50 := Try.underlying50
  have HR0 := Aside0.mk hr0
  have HC0 := Aside0.mk hc0
  clear hr0 hc0
  have HR1 := Aside0.mk hr1
  have HC1 := Aside0.mk hc1
  clear hr1 hc1
  have HB := Aside0.mk (Below.refl w.heap.size w)
  have H : ((aumbrylaw04_wakes.f k).bind fun t101 => (if t101 = true then ((aumbryref04_Copy.f l0).bind fun t102 => (if t102.length < 5864062014805 then ((some (t102 ++ [(⟨(⟨#[107, 101, 101, 112]⟩ : ByteArray), 0⟩ : S50)] : List (S50))).bind fun y105 => ((aumbryref04_CopyAll.f k l1).bind fun t108 => (if 0 ≤ (l0.length : Int) then (if (l0.length : Int) ≤ (y105.length : Int) then ((term_Kids.f k (y105.take ((l0.length : Int) : Int).toNat)).bind fun bt115 => ((term_Kids.f k (y105.take ((l0.length : Int) : Int).toNat)).bind fun bt123 => ((term_Make.f k (⟨#[102]⟩ : ByteArray) t108).bind fun bt127 => ((aumbryref04_Print.f k l0).bind fun bt131 => (if bt131.2 = 0 then ((aumbryref04_Kids.f k l0).bind fun t133 => ((aumbryref04_SameAll.f k bt123.1 t133).bind fun t136 => (aumbrylaw04_TermOwn.j0 k l0 l1 y105 t108 bt131.1 (!t136)))) else (aumbrylaw04_TermOwn.j0 k l0 l1 y105 t108 bt131.1 false)))))) else (none)) else (none)))) else (none))) else (some false))) = some r := h
  clear h
  replace H := Option.bind_eq_some_iff.mp H
  obtain ⟨t101, A30, H⟩ := H
  replace H : (if t101 = true then ((aumbryref04_Copy.f l0).bind fun t102 => (if t102.length < 5864062014805 then ((some (t102 ++ [(⟨(⟨#[107, 101, 101, 112]⟩ : ByteArray), 0⟩ : S50)] : List (S50))).bind fun y105 => ((aumbryref04_CopyAll.f k l1).bind fun t108 => (if 0 ≤ (l0.length : Int) then (if (l0.length : Int) ≤ (y105.length : Int) then ((term_Kids.f k (y105.take ((l0.length : Int) : Int).toNat)).bind fun bt115 => ((term_Kids.f k (y105.take ((l0.length : Int) : Int).toNat)).bind fun bt123 => ((term_Make.f k (⟨#[102]⟩ : ByteArray) t108).bind fun bt127 => ((aumbryref04_Print.f k l0).bind fun bt131 => (if bt131.2 = 0 then ((aumbryref04_Kids.f k l0).bind fun t133 => ((aumbryref04_SameAll.f k bt123.1 t133).bind fun t136 => (aumbrylaw04_TermOwn.j0 k l0 l1 y105 t108 bt131.1 (!t136)))) else (aumbrylaw04_TermOwn.j0 k l0 l1 y105 t108 bt131.1 false)))))) else (none)) else (none)))) else (none))) else (some false)) = some r := H
  have A3 := Aside0.mk A30
  clear A30
  by_cases c4 : t101 = true
  · subst c4
    have H1 : ((aumbryref04_Copy.f l0).bind fun t102 => (if t102.length < 5864062014805 then ((some (t102 ++ [(⟨(⟨#[107, 101, 101, 112]⟩ : ByteArray), 0⟩ : S50)] : List (S50))).bind fun y105 => ((aumbryref04_CopyAll.f k l1).bind fun t108 => (if 0 ≤ (l0.length : Int) then (if (l0.length : Int) ≤ (y105.length : Int) then ((term_Kids.f k (y105.take ((l0.length : Int) : Int).toNat)).bind fun bt115 => ((term_Kids.f k (y105.take ((l0.length : Int) : Int).toNat)).bind fun bt123 => ((term_Make.f k (⟨#[102]⟩ : ByteArray) t108).bind fun bt127 => ((aumbryref04_Print.f k l0).bind fun bt131 => (if bt131.2 = 0 then ((aumbryref04_Kids.f k l0).bind fun t133 => ((aumbryref04_SameAll.f k bt123.1 t133).bind fun t136 => (aumbrylaw04_TermOwn.j0 k l0 l1 y105 t108 bt131.1 (!t136)))) else (aumbrylaw04_TermOwn.j0 k l0 l1 y105 t108 bt131.1 false)))))) else (none)) else (none)))) else (none))) = some r := by rw [if_pos rfl] at H; exact H
    clear H
    have H := H1
    clear H1
    replace H := Option.bind_eq_some_iff.mp H
    obtain ⟨t102, A50, H⟩ := H
    replace H : (if t102.length < 5864062014805 then ((some (t102 ++ [(⟨(⟨#[107, 101, 101, 112]⟩ : ByteArray), 0⟩ : S50)] : List (S50))).bind fun y105 => ((aumbryref04_CopyAll.f k l1).bind fun t108 => (if 0 ≤ (l0.length : Int) then (if (l0.length : Int) ≤ (y105.length : Int) then ((term_Kids.f k (y105.take ((l0.length : Int) : Int).toNat)).bind fun bt115 => ((term_Kids.f k (y105.take ((l0.length : Int) : Int).toNat)).bind fun bt123 => ((term_Make.f k (⟨#[102]⟩ : ByteArray) t108).bind fun bt127 => ((aumbryref04_Print.f k l0).bind fun bt131 => (if bt131.2 = 0 then ((aumbryref04_Kids.f k l0).bind fun t133 => ((aumbryref04_SameAll.f k bt123.1 t133).bind fun t136 => (aumbrylaw04_TermOwn.j0 k l0 l1 y105 t108 bt131.1 (!t136)))) else (aumbrylaw04_TermOwn.j0 k l0 l1 y105 t108 bt131.1 false)))))) else (none)) else (none)))) else (none)) = some r := H
    have A5 := Aside0.mk A50
    clear A50
    by_cases c6 : t102.length < 5864062014805
    · rw [if_pos c6] at H
      have LMc6 := Aside0.mk c6
      clear c6
      obtain ⟨y105, hy105⟩ : ∃ y_ : List (S50), y_ = (t102 ++ [(⟨(⟨#[107, 101, 101, 112]⟩ : ByteArray), 0⟩ : S50)]) := ⟨_, rfl⟩
      replace H : ((aumbryref04_CopyAll.f k l1).bind fun t108 => (if 0 ≤ (l0.length : Int) then (if (l0.length : Int) ≤ (y105.length : Int) then ((term_Kids.f k (y105.take ((l0.length : Int) : Int).toNat)).bind fun bt115 => ((term_Kids.f k (y105.take ((l0.length : Int) : Int).toNat)).bind fun bt123 => ((term_Make.f k (⟨#[102]⟩ : ByteArray) t108).bind fun bt127 => ((aumbryref04_Print.f k l0).bind fun bt131 => (if bt131.2 = 0 then ((aumbryref04_Kids.f k l0).bind fun t133 => ((aumbryref04_SameAll.f k bt123.1 t133).bind fun t136 => (aumbrylaw04_TermOwn.j0 k l0 l1 y105 t108 bt131.1 (!t136)))) else (aumbrylaw04_TermOwn.j0 k l0 l1 y105 t108 bt131.1 false)))))) else (none)) else (none))) = some r := by first | (rw [hy105]; with_reducible exact H) | (have H2_ := (Option.bind_some _ _).symm.trans H; rw [hy105]; with_reducible exact H2_) | (have H2_ := (Option.bind_some _ _).symm.trans H; with_reducible exact H2_) | with_reducible exact H | (rw [hy105]; exact H) | exact H
      have Ny105 := Aside0.mk hy105
      clear hy105
      replace H := Option.bind_eq_some_iff.mp H
      obtain ⟨t108, A70, H⟩ := H
      replace H : (if 0 ≤ (l0.length : Int) then (if (l0.length : Int) ≤ (y105.length : Int) then ((term_Kids.f k (y105.take ((l0.length : Int) : Int).toNat)).bind fun bt115 => ((term_Kids.f k (y105.take ((l0.length : Int) : Int).toNat)).bind fun bt123 => ((term_Make.f k (⟨#[102]⟩ : ByteArray) t108).bind fun bt127 => ((aumbryref04_Print.f k l0).bind fun bt131 => (if bt131.2 = 0 then ((aumbryref04_Kids.f k l0).bind fun t133 => ((aumbryref04_SameAll.f k bt123.1 t133).bind fun t136 => (aumbrylaw04_TermOwn.j0 k l0 l1 y105 t108 bt131.1 (!t136)))) else (aumbrylaw04_TermOwn.j0 k l0 l1 y105 t108 bt131.1 false)))))) else (none)) else (none)) = some r := H
      have A7 := Aside0.mk A70
      clear A70
      by_cases c8 : 0 ≤ (l0.length : Int)
      · rw [if_pos c8] at H
        have c8b0 := eq_true c8
        have c8b1 : decide (0 ≤ (l0.length : Int)) = true := decide_eq_true c8
        clear c8
        by_cases c9 : (l0.length : Int) ≤ (y105.length : Int)
        · rw [if_pos c9] at H
          have c9b0 := eq_true c9
          have c9b1 : decide ((l0.length : Int) ≤ (y105.length : Int)) = true := decide_eq_true c9
          clear c9
          obtain ⟨y111, hy111⟩ : ∃ y_ : List (S50), y_ = (y105.take ((l0.length : Int) : Int).toNat) := ⟨_, rfl⟩
          replace H : ((term_Kids.f k y111).bind fun bt115 => ((term_Kids.f k (y105.take ((l0.length : Int) : Int).toNat)).bind fun bt123 => ((term_Make.f k (⟨#[102]⟩ : ByteArray) t108).bind fun bt127 => ((aumbryref04_Print.f k l0).bind fun bt131 => (if bt131.2 = 0 then ((aumbryref04_Kids.f k l0).bind fun t133 => ((aumbryref04_SameAll.f k bt123.1 t133).bind fun t136 => (aumbrylaw04_TermOwn.j0 k l0 l1 y105 t108 bt131.1 (!t136)))) else (aumbrylaw04_TermOwn.j0 k l0 l1 y105 t108 bt131.1 false)))))) = some r := by first | (rw [hy111]; with_reducible exact H) | (have H2_ := (Option.bind_some _ _).symm.trans H; rw [hy111]; with_reducible exact H2_) | (have H2_ := (Option.bind_some _ _).symm.trans H; with_reducible exact H2_) | with_reducible exact H | (rw [hy111]; exact H) | exact H
          have Ny111 := Aside0.mk hy111
          clear hy111
          replace H := Option.bind_eq_some_iff.mp H
          obtain ⟨⟨t115, t116⟩, A100, H⟩ := H
          replace H : ((term_Kids.f k (y105.take ((l0.length : Int) : Int).toNat)).bind fun bt123 => ((term_Make.f k (⟨#[102]⟩ : ByteArray) t108).bind fun bt127 => ((aumbryref04_Print.f k l0).bind fun bt131 => (if bt131.2 = 0 then ((aumbryref04_Kids.f k l0).bind fun t133 => ((aumbryref04_SameAll.f k bt123.1 t133).bind fun t136 => (aumbrylaw04_TermOwn.j0 k l0 l1 y105 t108 bt131.1 (!t136)))) else (aumbrylaw04_TermOwn.j0 k l0 l1 y105 t108 bt131.1 false))))) = some r := H
          have A10 := Aside0.mk A100
          clear A100
          have c11b0 := eq_true (of_decide_eq_true (by first | (with_reducible assumption) | assumption) : 0 ≤ (l0.length : Int))
          have c12b0 := eq_true (of_decide_eq_true (by first | (with_reducible assumption) | assumption) : (l0.length : Int) ≤ (y105.length : Int))
          obtain ⟨y119, hy119⟩ : ∃ y_ : List (S50), y_ = (y105.take ((l0.length : Int) : Int).toNat) := ⟨_, rfl⟩
          replace H : ((term_Kids.f k y119).bind fun bt123 => ((term_Make.f k (⟨#[102]⟩ : ByteArray) t108).bind fun bt127 => ((aumbryref04_Print.f k l0).bind fun bt131 => (if bt131.2 = 0 then ((aumbryref04_Kids.f k l0).bind fun t133 => ((aumbryref04_SameAll.f k bt123.1 t133).bind fun t136 => (aumbrylaw04_TermOwn.j0 k l0 l1 y105 t108 bt131.1 (!t136)))) else (aumbrylaw04_TermOwn.j0 k l0 l1 y105 t108 bt131.1 false))))) = some r := by first | (rw [hy119]; with_reducible exact H) | (have H2_ := (Option.bind_some _ _).symm.trans H; rw [hy119]; with_reducible exact H2_) | (have H2_ := (Option.bind_some _ _).symm.trans H; with_reducible exact H2_) | with_reducible exact H | (rw [hy119]; exact H) | exact H
          have Ny119 := Aside0.mk hy119
          clear hy119
          replace H := Option.bind_eq_some_iff.mp H
          obtain ⟨⟨t123, t124⟩, A130, H⟩ := H
          replace H : ((term_Make.f k (⟨#[102]⟩ : ByteArray) t108).bind fun bt127 => ((aumbryref04_Print.f k l0).bind fun bt131 => (if bt131.2 = 0 then ((aumbryref04_Kids.f k l0).bind fun t133 => ((aumbryref04_SameAll.f k t123 t133).bind fun t136 => (aumbrylaw04_TermOwn.j0 k l0 l1 y105 t108 bt131.1 (!t136)))) else (aumbrylaw04_TermOwn.j0 k l0 l1 y105 t108 bt131.1 false)))) = some r := H
          have A13 := Aside0.mk A130
          clear A130
          replace H := Option.bind_eq_some_iff.mp H
          obtain ⟨⟨t127, t128⟩, A140, H⟩ := H
          replace H : ((aumbryref04_Print.f k l0).bind fun bt131 => (if bt131.2 = 0 then ((aumbryref04_Kids.f k l0).bind fun t133 => ((aumbryref04_SameAll.f k t123 t133).bind fun t136 => (aumbrylaw04_TermOwn.j0 k l0 l1 y105 t108 bt131.1 (!t136)))) else (aumbrylaw04_TermOwn.j0 k l0 l1 y105 t108 bt131.1 false))) = some r := H
          have A14 := Aside0.mk A140
          clear A140
          replace H := Option.bind_eq_some_iff.mp H
          obtain ⟨⟨t131, t132⟩, A150, H⟩ := H
          replace H : (if t132 = 0 then ((aumbryref04_Kids.f k l0).bind fun t133 => ((aumbryref04_SameAll.f k t123 t133).bind fun t136 => (aumbrylaw04_TermOwn.j0 k l0 l1 y105 t108 t131 (!t136)))) else (aumbrylaw04_TermOwn.j0 k l0 l1 y105 t108 t131 false)) = some r := H
          have A15 := Aside0.mk A150
          clear A150
          have HC16 := Aside0.mk H
          clear H
          go_enter Try.func8, Try.ntmps8
          go_upto_region 8 with (first | ((with_reducible refine gate_callee (f := 10) rfl ?_); refine goesL_ (some 20) rfl rfl Try.func10 (by kernel_rfl) rfl #[] rfl (by (try simp only [List.map_toArray, List.map_cons, List.map_nil]); first | done | rfl | (simp only [List.length_drop, List.length_take]; rfl)) ?_; (with_reducible refine (aumbrylaw04_wakes.calls k  true _ A3.out).mono ?_); rintro e w17 ⟨rfl, hb⟩; refine ⟨_, rfl, ?_⟩; have n0_ := Aside0.mk (below_step (by repeat (first | (with_reducible first | exact HB.out | apply below_alloc | apply pw_below_drewN | apply below_drew1) | exact HB.out)) hb); clear HB; have HB := n0_; clear n0_; (try clear hb); (try clear hb2); (try clear hk); (try clear hi)) | ((with_reducible refine gate_callee (f := 12) rfl ?_); refine goesL_ (some 23) rfl rfl Try.func12 (by kernel_rfl) rfl #[.slice A0 l0.length c0] rfl (by (try simp only [List.map_toArray, List.map_cons, List.map_nil]); first | done | rfl | (simp only [List.length_drop, List.length_take]; rfl)) ?_; (with_reducible refine (aumbryref04_Copy.calls _ _ l0 t102 _ ?side1 ?side2 A5.out).mono ?_); (case side1 => repeat (first | exact (Kd.C_below HR0.out HB.out) | (with_reducible refine Kd.C_alloc ?_ _) | (with_reducible refine Kd.C_drewN ?_ _) | (with_reducible refine Kd.C_drew ?_))); (case side2 => exact HC0.out); rintro e w18 ⟨v103, rfl, ho0, hb⟩; refine ⟨_, rfl, ?_⟩; have n0_ := Aside0.mk (Kd.R_lower ho0 (below_size (by repeat (first | (with_reducible first | exact HB.out | apply below_alloc | apply pw_below_drewN | apply below_drew1) | exact HB.out)))); have n1_ := Aside0.mk (below_step (by repeat (first | (with_reducible first | exact HB.out | apply below_alloc | apply pw_below_drewN | apply below_drew1) | exact HB.out)) hb); clear HB; have HO104 := n0_; have HB := n1_; clear n0_ n1_; (try clear hb); (try clear hb2); (try clear hk); (try clear hi); (try clear ho0)) | ((with_reducible refine gate_builtin (b := .append) (xs := #[.tmp 23, .tmp 25]) rfl ?_); (try (refine gate_guard (by rfl) ?_; dsimp only)); at_builtin; refine Kd.R_append k50 (w0 := w) w.heap.size rfl (.tmp 23) (.tmp 25) 23 50 (.agg #[(.string ⟨#[]⟩), (.int .i64 0)]) 24 rfl Try.underlying23 info50 rfl (by decide) (by omega) v103 t102 (⟨(⟨#[107, 101, 101, 112]⟩ : ByteArray), 0⟩ : S50) [.string (⟨#[107, 101, 101, 112]⟩ : ByteArray), .int .i64 0] (fun _ => True) (fun _ => False) rfl rfl ?aP (fun _ hk => hk.elim) ?aF ?aO ?aB ?aS ?aL ?_; (case aP => exact k50_mkM _ _ _ (⟨(⟨#[107, 101, 101, 112]⟩ : ByteArray), 0⟩ : S50)); (case aB => exact (by repeat (first | (with_reducible first | exact HB.out | apply below_alloc | apply pw_below_drewN | apply below_drew1) | exact HB.out))); (case aF => exact (fun _ _ => trivial)); (case aO => exact (by (with_reducible repeat (first | apply Kd.R_alloc | apply Kd.R_drewN | apply Kd.R_drew)); exact HO104.out)); (case aS => exact (below_size (by repeat (first | (with_reducible first | exact HB.out | apply below_alloc | apply pw_below_drewN | apply below_drew1) | exact HB.out)))); (case aL => have := LMc6.out; omega); intro v106 w19 ho hb hg hat; rw [← Ny105.out] at ho; have n0_ := Aside0.mk (hb); have n1_ := Aside0.mk (ho); clear HB; clear HO104; have HB := n0_; have HO107 := n1_; clear n0_ n1_; clear ho hb hg hat) | ((with_reducible refine gate_callee (f := 22) rfl ?_); refine goesL_ (some 28) rfl rfl Try.func22 (by kernel_rfl) rfl #[.slice A1 l1.length c1] rfl (by (try simp only [List.map_toArray, List.map_cons, List.map_nil]); first | done | rfl | (simp only [List.length_drop, List.length_take]; rfl)) ?_; (with_reducible refine (aumbryref04_CopyAll.calls k _ _ l1 t108 _ ?side1 ?side2 A7.out).mono ?_); (case side1 => repeat (first | exact (Kd.C_below HR1.out HB.out) | (with_reducible refine Kd.C_alloc ?_ _) | (with_reducible refine Kd.C_drewN ?_ _) | (with_reducible refine Kd.C_drew ?_))); (case side2 => exact HC1.out); rintro e w20 ⟨v109, rfl, ho0, hb⟩; refine ⟨_, rfl, ?_⟩; have n0_ := Aside0.mk (Kd.R_below (by (with_reducible repeat (first | apply Kd.R_alloc | apply Kd.R_drewN | apply Kd.R_drew)); exact HO107.out) hb); have n1_ := Aside0.mk (Kd.S_lower (Kd.S_new' ho0 (Kd.R_lt (by (with_reducible repeat (first | apply Kd.R_alloc | apply Kd.R_drewN | apply Kd.R_drew)); exact HO107.out))) (below_size (by repeat (first | (with_reducible first | exact HB.out | apply below_alloc | apply pw_below_drewN | apply below_drew1) | exact HB.out)))); have n2_ := Aside0.mk (below_step (by repeat (first | (with_reducible first | exact HB.out | apply below_alloc | apply pw_below_drewN | apply below_drew1) | exact HB.out)) hb); clear HO107; clear HB; have HO107 := n0_; have HO110 := n1_; have HB := n2_; clear n0_ n1_ n2_; (try clear hb); (try clear hb2); (try clear hk); (try clear hi); (try clear ho0); obtain ⟨Ao22, co22, eo22⟩ := Kd.R_slice HO107.out; subst eo22; have q21 : ((l0.length : Int) : Int) ≤ ((y105.length : Int) : Int) := of_decide_eq_true (by first | (with_reducible assumption) | assumption); obtain ⟨i021, hi021, _, hsz21, _⟩ := info_parts info50; have hroom21 : y105.length ≤ co22 := (Kd.R_reads' HO107.out).2.1; have hC21 : Kd.C k50 _ Ao22 y105.length y105 := (Kd.R_reads' HO107.out).2.2; have hcut21 := cut_to (P := Try.prog) 23 50 .i64 Try.underlying23 hi021 Ao22 y105.length co22 (l0.length : Int) (of_decide_eq_true (by first | (with_reducible assumption) | assumption)) q21 hroom21; have hr21 := Kd.C_take (m := ((l0.length : Int) : Int).toNat) hC21 (by omega); have hy21 : y111.length = ((l0.length : Int) : Int).toNat := (by rw [Ny111.out, List.length_take]; omega); rw [← Ny111.out] at hr21; rw [← hy21] at hcut21; have HR114 := Aside0.mk hr21; have HC114 := Aside0.mk (show y111.length ≤ co22 from by omega); clear hr21 hC21 hroom21 hi021 hsz21; have KY21 := Aside0.mk hy21; clear hy21; have KL21 := Aside0.mk (show ((l0.length : Int) : Int).toNat ≤ y105.length from by omega); replace q21 := eq_true q21) | ((fail_if_success (have q_ := XA)); (with_reducible refine gate_callee (f := 20) rfl ?_); refine goesL_ (some 34) rfl rfl Try.func20 (by kernel_rfl) rfl #[.slice Ao22 y111.length co22] rfl (by (try simp only [List.map_toArray, List.map_cons, List.map_nil]); first | done | rfl | (simp only [List.length_drop, List.length_take]; rfl)) ?_; (with_reducible refine (term_Kids.calls k _ _ y111 t115 t116 _ ?side1 ?side2 A10.out).mono ?_); (case side1 => repeat (first | exact (by repeat (first | (with_reducible exact HR114.out) | (with_reducible refine Kd.C_alloc ?_ _) | (with_reducible refine Kd.C_drewN ?_ _) | (with_reducible refine Kd.C_drew ?_) | exact HR114.out)) | (with_reducible refine Kd.C_alloc ?_ _) | (with_reducible refine Kd.C_drewN ?_ _) | (with_reducible refine Kd.C_drew ?_))); (case side2 => exact HC114.out); rintro e w23 ⟨v117, rfl, ho0, hb⟩; refine ⟨_, rfl, ?_⟩; have XA := Aside0.mk (Kd.S_bound ho0); have XE := Aside0.mk (show w.heap.size ≤ w20.heap.size from HB.out.size); have XF := Aside0.mk (show w20.heap.size ≤ w23.heap.size from hb.size); have XI := Aside0.mk (Kd.R_below (Kd.R_bound (by (with_reducible repeat (first | apply Kd.R_alloc | apply Kd.R_drewN | apply Kd.R_drew)); exact HO107.out)) hb); have XL := Aside0.mk (Kd.S_below (Kd.S_bound (by (with_reducible repeat (first | apply Kd.S_alloc | apply Kd.S_drewN | apply Kd.S_drew)); exact HO110.out)) hb); have n0_ := Aside0.mk (Kd.R_below (by (with_reducible repeat (first | apply Kd.R_alloc | apply Kd.R_drewN | apply Kd.R_drew)); exact HO107.out) hb); have n1_ := Aside0.mk (Kd.S_elder' (by (with_reducible repeat (first | apply Kd.S_alloc | apply Kd.S_drewN | apply Kd.S_drew)); exact HO110.out) (Kd.S_base ho0) hb); have n2_ := Aside0.mk (Kd.S_lower (Kd.S_new' (Kd.S_new' ho0 (Kd.R_lt (by (with_reducible repeat (first | apply Kd.R_alloc | apply Kd.R_drewN | apply Kd.R_drew)); exact HO107.out))) (Kd.S_lt (by (with_reducible repeat (first | apply Kd.S_alloc | apply Kd.S_drewN | apply Kd.S_drew)); exact HO110.out))) (below_size (by repeat (first | (with_reducible first | exact HB.out | apply below_alloc | apply pw_below_drewN | apply below_drew1) | exact HB.out)))); have n3_ := Aside0.mk (Kd.C_below (by repeat (first | (with_reducible exact HR114.out) | (with_reducible refine Kd.C_alloc ?_ _) | (with_reducible refine Kd.C_drewN ?_ _) | (with_reducible refine Kd.C_drew ?_) | exact HR114.out)) hb); have n4_ := Aside0.mk (below_step (by repeat (first | (with_reducible first | exact HB.out | apply below_alloc | apply pw_below_drewN | apply below_drew1) | exact HB.out)) hb); clear HO107; clear HO110; clear HR114; clear HB; have HO107 := n0_; have HO110 := n1_; have HO118 := n2_; have HR114 := n3_; have HB := n4_; clear n0_ n1_ n2_ n3_ n4_; (try clear hb); (try clear hb2); (try clear hk); (try clear hi); (try clear ho0); have q24 : ((l0.length : Int) : Int) ≤ ((y105.length : Int) : Int) := of_decide_eq_true (by first | (with_reducible assumption) | assumption); obtain ⟨i024, hi024, _, hsz24, _⟩ := info_parts info50; have hroom24 : y105.length ≤ co22 := (Kd.R_reads' HO107.out).2.1; have hC24 : Kd.C k50 _ Ao22 y105.length y105 := (Kd.R_reads' HO107.out).2.2; (try clear hcut21); have hcut24 := cut_to (P := Try.prog) 23 50 .i64 Try.underlying23 hi024 Ao22 y105.length co22 (l0.length : Int) (of_decide_eq_true (by first | (with_reducible assumption) | assumption)) q24 hroom24; have hr24 := Kd.C_take (m := ((l0.length : Int) : Int).toNat) hC24 (by omega); have hy24 : y119.length = ((l0.length : Int) : Int).toNat := (by rw [Ny119.out, List.length_take]; omega); rw [← Ny119.out] at hr24; rw [← hy24] at hcut24; have HR122 := Aside0.mk hr24; have HC122 := Aside0.mk (show y119.length ≤ co22 from by omega); clear hr24 hC24 hroom24 hi024 hsz24; have KY24 := Aside0.mk hy24; clear hy24; have KL24 := Aside0.mk (show ((l0.length : Int) : Int).toNat ≤ y105.length from by omega); replace q24 := eq_true q24) | ((fail_if_success (have q_ := XB)); (with_reducible refine gate_callee (f := 20) rfl ?_); refine goesL_ (some 42) rfl rfl Try.func20 (by kernel_rfl) rfl #[.slice Ao22 y119.length co22] rfl (by (try simp only [List.map_toArray, List.map_cons, List.map_nil]); first | done | rfl | (simp only [List.length_drop, List.length_take]; rfl)) ?_; (with_reducible refine (term_Kids.calls k _ _ y119 t123 t124 _ ?side1 ?side2 A13.out).mono ?_); (case side1 => repeat (first | exact (by repeat (first | (with_reducible exact HR122.out) | (with_reducible refine Kd.C_alloc ?_ _) | (with_reducible refine Kd.C_drewN ?_ _) | (with_reducible refine Kd.C_drew ?_) | exact HR122.out)) | (with_reducible refine Kd.C_alloc ?_ _) | (with_reducible refine Kd.C_drewN ?_ _) | (with_reducible refine Kd.C_drew ?_))); (case side2 => exact HC122.out); rintro e w25 ⟨v125, rfl, ho0, hb⟩; refine ⟨_, rfl, ?_⟩; have XB := Aside0.mk (Kd.S_bound ho0); (try clear hcut21); (try clear hcut24); have XD := Aside0.mk (below_step (by repeat (first | exact Below.refl _ _ | apply below_alloc | apply pw_below_drewN | apply below_drew1) : Below w23.heap.size w23 _) hb); have n0_ := Aside0.mk (Kd.R_below (by (with_reducible repeat (first | apply Kd.R_alloc | apply Kd.R_drewN | apply Kd.R_drew)); exact HO107.out) hb); have n1_ := Aside0.mk (Kd.S_elder' (by (with_reducible repeat (first | apply Kd.S_alloc | apply Kd.S_drewN | apply Kd.S_drew)); exact HO110.out) (Kd.S_base ho0) hb); have n2_ := Aside0.mk (Kd.S_elder' (by (with_reducible repeat (first | apply Kd.S_alloc | apply Kd.S_drewN | apply Kd.S_drew)); exact HO118.out) (Kd.S_base ho0) hb); have n3_ := Aside0.mk (Kd.S_lower (Kd.S_new' (Kd.S_new' (Kd.S_new' ho0 (Kd.R_lt (by (with_reducible repeat (first | apply Kd.R_alloc | apply Kd.R_drewN | apply Kd.R_drew)); exact HO107.out))) (Kd.S_lt (by (with_reducible repeat (first | apply Kd.S_alloc | apply Kd.S_drewN | apply Kd.S_drew)); exact HO110.out))) (Kd.S_lt (by (with_reducible repeat (first | apply Kd.S_alloc | apply Kd.S_drewN | apply Kd.S_drew)); exact HO118.out))) (below_size (by repeat (first | (with_reducible first | exact HB.out | apply below_alloc | apply pw_below_drewN | apply below_drew1) | exact HB.out)))); have n4_ := Aside0.mk (Kd.C_below (by repeat (first | (with_reducible exact HR114.out) | (with_reducible refine Kd.C_alloc ?_ _) | (with_reducible refine Kd.C_drewN ?_ _) | (with_reducible refine Kd.C_drew ?_) | exact HR114.out)) hb); have n5_ := Aside0.mk (Kd.C_below (by repeat (first | (with_reducible exact HR122.out) | (with_reducible refine Kd.C_alloc ?_ _) | (with_reducible refine Kd.C_drewN ?_ _) | (with_reducible refine Kd.C_drew ?_) | exact HR122.out)) hb); have n6_ := Aside0.mk (below_step (by repeat (first | (with_reducible first | exact HB.out | apply below_alloc | apply pw_below_drewN | apply below_drew1) | exact HB.out)) hb); clear HO107; clear HO110; clear HO118; clear HR114; clear HR122; clear HB; have HO107 := n0_; have HO110 := n1_; have HO118 := n2_; have HO126 := n3_; have HR114 := n4_; have HR122 := n5_; have HB := n6_; clear n0_ n1_ n2_ n3_ n4_ n5_ n6_; (try clear hb); (try clear hb2); (try clear hk); (try clear hi); (try clear ho0); obtain ⟨Ao26, co26, eo26⟩ := Kd.S_slice HO110.out; subst eo26) | ((fail_if_success (have q_ := XM)); (with_reducible refine gate_callee (f := 21) rfl ?_); refine goesL_ (some 47) rfl rfl Try.func21 (by kernel_rfl) rfl #[.string (⟨#[102]⟩ : ByteArray), .slice Ao26 t108.length co26] rfl (by (try simp only [List.map_toArray, List.map_cons, List.map_nil]); first | done | rfl | (simp only [List.length_drop, List.length_take]; rfl)) ?_; (with_reducible refine (term_Make.calls k (⟨#[102]⟩ : ByteArray) _ _ t108 t127 t128 _ ?side1 ?side2 A14.out).mono ?_); (case side1 => repeat (first | exact (Kd.S_reads' HO110.out).2.2 | (with_reducible refine Kd.C_alloc ?_ _) | (with_reducible refine Kd.C_drewN ?_ _) | (with_reducible refine Kd.C_drew ?_))); (case side2 => exact (Kd.S_reads' HO110.out).2.1); rintro e w27 ⟨v129, rfl, ho0, hb⟩; refine ⟨_, rfl, ?_⟩; have XM := Aside0.mk (Kd.R_bound ho0); have XB2 := Aside0.mk (Kd.S_below XB.out hb); have XD2 := Aside0.mk (below_step (by repeat (first | exact XD.out | apply below_alloc | apply pw_below_drewN | apply below_drew1) : Below w23.heap.size w23 _) hb); have n0_ := Aside0.mk (Kd.R_elder' (by (with_reducible repeat (first | apply Kd.R_alloc | apply Kd.R_drewN | apply Kd.R_drew)); exact HO107.out) (Kd.R_base ho0) hb); have n1_ := Aside0.mk (Kd.S_elder' (by (with_reducible repeat (first | apply Kd.S_alloc | apply Kd.S_drewN | apply Kd.S_drew)); exact HO110.out) (Kd.R_base ho0) hb); have n2_ := Aside0.mk (Kd.S_elder' (by (with_reducible repeat (first | apply Kd.S_alloc | apply Kd.S_drewN | apply Kd.S_drew)); exact HO118.out) (Kd.R_base ho0) hb); have n3_ := Aside0.mk (Kd.S_elder' (by (with_reducible repeat (first | apply Kd.S_alloc | apply Kd.S_drewN | apply Kd.S_drew)); exact HO126.out) (Kd.R_base ho0) hb); have n4_ := Aside0.mk (Kd.R_lower (Kd.R_new' ho0 (Kd.R_lt (by (with_reducible repeat (first | apply Kd.R_alloc | apply Kd.R_drewN | apply Kd.R_drew)); exact HO107.out))) (below_size (by repeat (first | (with_reducible first | exact HB.out | apply below_alloc | apply pw_below_drewN | apply below_drew1) | exact HB.out)))); have n5_ := Aside0.mk (Kd.C_below (by repeat (first | (with_reducible exact HR114.out) | (with_reducible refine Kd.C_alloc ?_ _) | (with_reducible refine Kd.C_drewN ?_ _) | (with_reducible refine Kd.C_drew ?_) | exact HR114.out)) hb); have n6_ := Aside0.mk (Kd.C_below (by repeat (first | (with_reducible exact HR122.out) | (with_reducible refine Kd.C_alloc ?_ _) | (with_reducible refine Kd.C_drewN ?_ _) | (with_reducible refine Kd.C_drew ?_) | exact HR122.out)) hb); have n7_ := Aside0.mk (below_step (by repeat (first | (with_reducible first | exact HB.out | apply below_alloc | apply pw_below_drewN | apply below_drew1) | exact HB.out)) hb); clear HO107; clear HO110; clear HO118; clear HO126; clear HR114; clear HR122; clear HB; have HO107 := n0_; have HO110 := n1_; have HO118 := n2_; have HO126 := n3_; have HO130 := n4_; have HR114 := n5_; have HR122 := n6_; have HB := n7_; clear n0_ n1_ n2_ n3_ n4_ n5_ n6_ n7_; (try clear hb); (try clear hb2); (try clear hk); (try clear hi); (try clear ho0)) | ((with_reducible refine gate_callee (f := 24) rfl ?_); refine goesL_ (some 84) rfl rfl Try.func24 (by kernel_rfl) rfl #[.slice A0 l0.length c0] rfl (by (try simp only [List.map_toArray, List.map_cons, List.map_nil]); first | done | rfl | (simp only [List.length_drop, List.length_take]; rfl)) ?_; (with_reducible refine (aumbryref04_Print.calls k _ _ l0 t131 t132 _ ?side1 ?side2 A15.out).mono ?_); (case side1 => repeat (first | exact (Kd.C_below HR0.out HB.out) | (with_reducible refine Kd.C_alloc ?_ _) | (with_reducible refine Kd.C_drewN ?_ _) | (with_reducible refine Kd.C_drew ?_))); (case side2 => exact HC0.out); rintro e w28 ⟨rfl, hb⟩; refine ⟨_, rfl, ?_⟩; have n0_ := Aside0.mk (Kd.R_below (by (with_reducible repeat (first | apply Kd.R_alloc | apply Kd.R_drewN | apply Kd.R_drew)); exact HO107.out) hb); have n1_ := Aside0.mk (Kd.S_below (by (with_reducible repeat (first | apply Kd.S_alloc | apply Kd.S_drewN | apply Kd.S_drew)); exact HO110.out) hb); have n2_ := Aside0.mk (Kd.S_below (by (with_reducible repeat (first | apply Kd.S_alloc | apply Kd.S_drewN | apply Kd.S_drew)); exact HO118.out) hb); have n3_ := Aside0.mk (Kd.S_below (by (with_reducible repeat (first | apply Kd.S_alloc | apply Kd.S_drewN | apply Kd.S_drew)); exact HO126.out) hb); have n4_ := Aside0.mk (Kd.R_below (by (with_reducible repeat (first | apply Kd.R_alloc | apply Kd.R_drewN | apply Kd.R_drew)); exact HO130.out) hb); have n5_ := Aside0.mk (Kd.C_below (by repeat (first | (with_reducible exact HR114.out) | (with_reducible refine Kd.C_alloc ?_ _) | (with_reducible refine Kd.C_drewN ?_ _) | (with_reducible refine Kd.C_drew ?_) | exact HR114.out)) hb); have n6_ := Aside0.mk (Kd.C_below (by repeat (first | (with_reducible exact HR122.out) | (with_reducible refine Kd.C_alloc ?_ _) | (with_reducible refine Kd.C_drewN ?_ _) | (with_reducible refine Kd.C_drew ?_) | exact HR122.out)) hb); have n7_ := Aside0.mk (below_step (by repeat (first | (with_reducible first | exact HB.out | apply below_alloc | apply pw_below_drewN | apply below_drew1) | exact HB.out)) hb); clear HO107; clear HO110; clear HO118; clear HO126; clear HO130; clear HR114; clear HR122; clear HB; have HO107 := n0_; have HO110 := n1_; have HO118 := n2_; have HO126 := n3_; have HO130 := n4_; have HR114 := n5_; have HR122 := n6_; have HB := n7_; clear n0_ n1_ n2_ n3_ n4_ n5_ n6_ n7_; (try clear hb); (try clear hb2); (try clear hk); (try clear hi)))
          obtain ⟨Aa, ca, ea⟩ := Kd.S_slice XA.out
          subst ea
          obtain ⟨Am, cm, em⟩ := Kd.R_slice XM.out
          subst em
          have YA := Aside0.mk (Kd.S_below XA.out XD2.out)
          obtain ⟨SA, hSA⟩ : ∃ SA : Nat → Prop, SA = fun k => (w20.heap.size ≤ k ∧ k < w23.heap.size) ∧ ∃ cells, w27.heap[k]? = some (.cells cells 50 (0, 0)) := ⟨_, rfl⟩
          obtain ⟨ST, hST⟩ : ∃ ST : Nat → Prop, ST = fun k => (w20.heap.size ≤ k ∧ k < w23.heap.size) ∨ w25.heap.size ≤ k := ⟨_, rfl⟩
          have HOA := Aside0.mk (ownA_of (S := SA) YA.out (fun k hk => by rw [hSA] at hk; exact hk.2) (fun k hk hc => by rw [hSA]; exact ⟨⟨hk.2.1, hk.2.2.1⟩, hc⟩))
          have HOM := Aside0.mk (ownM_of (lo := w25.heap.size) XM.out (Nat.le_refl _))
          have HKT := Aside0.mk (Kept.refl w27 ST)
          have hmaxA : (t115.length : Int) ≤ 9223372036854775807 := by have := (Kd.S_reads' XA.out).2.2.2.1; omega
          have hmaxM : (t127.length : Int) ≤ 9223372036854775807 := by have := (Kd.R_reads' XM.out).2.2.2.1; omega
          have HMA := Aside0.mk hmaxA
          have HMM := Aside0.mk hmaxM
          clear hmaxA hmaxM
          have HST := Aside0.mk hST
          have HSA := Aside0.mk hSA
          have SZ := Aside0.mk (show w.heap.size ≤ w20.heap.size ∧ w20.heap.size ≤ w23.heap.size ∧ w23.heap.size ≤ w25.heap.size from ⟨XE.out, XF.out, XD.out.size⟩)
          clear hST hSA
          go_wp2
          go_loopg [52] t115.length (fun kq v52 w' => ∃ x : Int, v52 = .int .i64 x ∧ Aside0 (0 ≤ x ∧ x + kq = (t115.length : Int)) ∧ Aside0 (OwnA w' SA Aa (t115.map List.length)) ∧ Aside0 (OwnM w' w25.heap.size Am t127.length) ∧ Aside0 (Kept w27 w' ST) ∧ Aside0 (Below w.heap.size w w'))
          case atStart => exact ⟨0, rfl, ⟨by omega⟩, HOA, HOM, HKT, ⟨by repeat (first | (with_reducible first | exact HB.out | apply below_alloc | apply pw_below_drewN | apply below_drew1) | exact HB.out)⟩⟩
          case round =>
            clear HOA HOM HKT HB
            obtain ⟨x, rfl, HI, HOA, HOM, HKT, HB⟩ := hrel
            cases gk with
            | succ k1 =>
              have hi : 0 ≤ x ∧ x < (t115.length : Int) := by have := HI.out; omega
              have hb0 : decide (x < (t115.length : Int)) = true := decide_eq_true hi.2
              have hb2 : decide (0 ≤ x) = true := decide_eq_true hi.1
              have hbA := HOA.out
              rcases hbA with hbA | ⟨G, rfl, hbA⟩
              · rw [List.length_map] at hbA; omega
              obtain ⟨B, cB, hcB, hnB, hgB⟩ := hbA.at_ (i := x.toNat) (by rw [List.length_map]; omega)
              generalize (t115.map List.length).getD x.toNat 0 = nB at hcB hnB hgB
              have HGB := Aside0.mk hgB
              have HMB := Aside0.mk (show (nB : Int) ≤ 9223372036854775807 by omega)
              have HCB := Aside0.mk hcB
              have HX := Aside0.mk hi
              clear hgB hbA hnB
              have hp := eq_true hi.1
              have hq := eq_true hi.2
              clear hi
              go_wp2
              go_loopg [60] nB (fun kq v60 w' => ∃ y : Int, v60 = .int .i64 y ∧ Aside0 (0 ≤ y ∧ y + kq = (nB : Int)) ∧ Aside0 (OwnA w' SA (some ⟨G, 0, none⟩) (t115.map List.length)) ∧ Aside0 (OwnM w' w25.heap.size Am t127.length) ∧ Aside0 (Kept w27 w' ST) ∧ Aside0 (Below w.heap.size w w') ∧ Aside0 (w'.cell? ⟨G, x.toNat, none⟩ = some (.slice B nB cB)) ∧ Aside0 (0 < nB → ∃ g, B = some ⟨g, 0, none⟩ ∧ SA g ∧ WrRow w' g nB))
              case atStart => exact ⟨0, rfl, ⟨by omega⟩, HOA, HOM, HKT, HB, HCB, HGB⟩
              case round =>
                clear HOA HOM HKT HB HCB HGB hcB
                obtain ⟨y, rfl, HJ, HOA, HOM, HKT, HB, HCB, HGB⟩ := hrel
                cases gk with
                | succ k2 =>
                  have hj : 0 ≤ y ∧ y < (nB : Int) := by have := HJ.out; omega
                  have hd0 : decide (y < (nB : Int)) = true := decide_eq_true hj.2
                  have hd2 : decide (0 ≤ y) = true := decide_eq_true hj.1
                  have hcB := HCB.out
                  obtain ⟨g, rfl, hSg, hrow⟩ := HGB.out (by omega)
                  obtain ⟨s0, hcs, hfs⟩ := hrow.cell (j := y.toNat) (by omega)
                  have HROW := Aside0.mk hrow
                  have HSG := Aside0.mk hSg
                  have HY := Aside0.mk hj
                  have hp2 := eq_true hj.1
                  have hq2 := eq_true hj.2
                  clear hrow hSg hj
                  go_wp2
                  have hne : G ≠ g := fun he => by
                    rcases HOA.out with h_ | ⟨G', e_, h_⟩
                    · rw [List.length_map] at h_; have := HX.out; omega
                    · injection e_ with e_; injection e_ with e_; exact h_.1 (by rw [← e_, he]; exact HSG.out)
                  have hgB : ST g ∧ w.heap.size ≤ g := by
                    have h_ := HSG.out
                    rw [HSA.out] at h_
                    have z_ := SZ.out
                    rw [HST.out]
                    exact ⟨.inl h_.1, by have := h_.1.1; omega⟩
                  have HG2 := Aside0.mk hgB
                  clear hgB
                  go_roundg k2
                  case measure => have := HJ.out; omega
                  case rel => exact ⟨y + 1, by have e_ : wrap64 (y + 1) = y + 1 := (by have := HY.out; have := HMB.out; unfold wrap64; omega); first | rfl | rw [e_] | (simp [e_]; done), ⟨by have := HJ.out; omega⟩, ⟨HOA.out.set HSG.out _ _⟩, ⟨HOM.out.set _ _ _⟩, ⟨HKT.out.setCell (.inl HG2.out.1) _⟩, ⟨below_set HB.out HG2.out.2⟩, ⟨cell_kept (S := fun k => k = g) HCB.out (Kept.setCell (S := fun k => k = g) (Kept.refl _ _) (p := ⟨g, y.toNat * 2, none⟩) (.inl rfl) _) hne⟩, ⟨fun hn => ⟨g, rfl, HSG.out, HROW.out.set _ _ _⟩⟩⟩
                | zero =>
                  have hd0 : decide (y < (nB : Int)) = false := decide_eq_false (by have := HJ.out; omega)
                  go_wp2
                  go_roundg k1
                  case measure => have := HI.out; omega
                  case rel => exact ⟨x + 1, by have e_ : wrap64 (x + 1) = x + 1 := (by have := HX.out; have := HMA.out; unfold wrap64; omega); first | rfl | rw [e_] | (simp [e_]; done), ⟨by have := HI.out; omega⟩, HOA, HOM, HKT, HB⟩
            | zero =>
              have hb0 : decide (x < (t115.length : Int)) = false := decide_eq_false (by have := HI.out; omega)
              clear HOA
              go_wp2
              go_loopg [74] t127.length (fun kq v74 w' => ∃ x : Int, v74 = .int .i64 x ∧ Aside0 (0 ≤ x ∧ x + kq = (t127.length : Int)) ∧ Aside0 (OwnM w' w25.heap.size Am t127.length) ∧ Aside0 (Kept w27 w' ST) ∧ Aside0 (Below w.heap.size w w'))
              case atStart => exact ⟨0, rfl, ⟨by omega⟩, HOM, HKT, HB⟩
              case round =>
                clear HOM HKT HB HI hb0
                obtain ⟨x, rfl, HI, HOM, HKT, HB⟩ := hrel
                cases gk with
                | succ k1 =>
                  have hi : 0 ≤ x ∧ x < (t127.length : Int) := by have := HI.out; omega
                  have hb0 : decide (x < (t127.length : Int)) = true := decide_eq_true hi.2
                  have hb2 : decide (0 ≤ x) = true := decide_eq_true hi.1
                  have hbA := HOM.out
                  rcases hbA with hbA | ⟨g, rfl, hlo, hrow⟩
                  · omega
                  obtain ⟨s0, hcs, hfs⟩ := hrow.cell (j := x.toNat) (by omega)
                  have HROW := Aside0.mk hrow
                  have HLO := Aside0.mk (show ST g ∧ w.heap.size ≤ g by
                    rw [HST.out]
                    have z_ := SZ.out
                    exact ⟨.inr hlo, by omega⟩)
                  have HX := Aside0.mk hi
                  have hp2 := eq_true hi.1
                  have hq2 := eq_true hi.2
                  clear hrow hlo hi
                  go_wp2
                  go_roundg k1
                  case measure => have := HI.out; omega
                  case rel => exact ⟨x + 1, by have e_ : wrap64 (x + 1) = x + 1 := (by have := HX.out; have := HMM.out; unfold wrap64; omega); first | rfl | rw [e_] | (simp [e_]; done), ⟨by have := HI.out; omega⟩, ⟨HOM.out.set _ _ _⟩, ⟨HKT.out.setCell (.inl HLO.out.1) _⟩, ⟨below_set HB.out HLO.out.2⟩⟩
                | zero =>
                  have hb0 : decide (x < (t127.length : Int)) = false := decide_eq_false (by have := HI.out; omega)
                  clear HOM
                  have z1_ : ∀ k_ : Nat, k_ < w20.heap.size → ¬ ST k_ := fun k_ h1_ h_ => by
                    rw [HST.out] at h_
                    have z_ := SZ.out
                    omega
                  have z2_ : ∀ k_ : Nat, w23.heap.size ≤ k_ ∧ k_ < w25.heap.size → ¬ ST k_ := fun k_ h1_ h_ => by
                    rw [HST.out] at h_
                    omega
                  have z3_ : ∀ k_ : Nat, k_ < w25.heap.size → some k_ ≠ (Value.slice Am t127.length cm).ownBlock := fun k_ h1_ h_ => by
                    have := Kd.R_base XM.out k_ h_.symm
                    omega
                  have z4_ : ∀ k_ : Nat, k_ < w20.heap.size → some k_ ≠ (Value.slice Aa t115.length ca).ownBlock := fun k_ h1_ h_ => by
                    have := Kd.S_base XA.out k_ h_.symm
                    omega
                  have z5_ : ∀ k_ : Nat, k_ < w23.heap.size → some k_ ≠ v125.ownBlock := fun k_ h1_ h_ => by
                    have := Kd.S_base XB.out k_ h_.symm
                    omega
                  have n0_ := Aside0.mk (show Kd.R k50 50 wr w.heap.size (fun k => True ∧ some k ≠ (Value.slice Am t127.length cm).ownBlock) (Value.slice Ao22 y105.length co22) y105 from Kd.R_mono (Kd.R_kept (Kd.R_below XI.out XD2.out) HKT.out (fun k_ hk_ => z1_ k_ hk_.2.2.1)) (fun k_ hk_ => ⟨trivial, z3_ k_ (by have := hk_.2.2.1; have := SZ.out; omega)⟩))
                  have n1_ := Aside0.mk (show Kd.S (Kd.slice 50 k50) 23 wr w.heap.size (fun k => (((True ∧ some k ≠ (Value.slice Ao22 y105.length co22).ownBlock) ∧ some k ≠ (Value.slice Aa t115.length ca).ownBlock) ∧ some k ≠ v125.ownBlock) ∧ some k ≠ (Value.slice Am t127.length cm).ownBlock) (Value.slice Ao26 t108.length co26) t108 from Kd.S_mono (Kd.S_kept (Kd.S_below XL.out XD2.out) HKT.out (fun k_ hk_ => z1_ k_ hk_.2.2.1)) (fun k_ hk_ => ⟨⟨⟨hk_.1, z4_ k_ hk_.2.2.1⟩, z5_ k_ (by have := hk_.2.2.1; have := SZ.out; omega)⟩, z3_ k_ (by have := hk_.2.2.1; have := SZ.out; omega)⟩))
                  have n2_ := Aside0.mk (show Kd.S (Kd.slice 50 k50) 23 wr w.heap.size (fun _ => True) v125 t123 from Kd.S_lower (Kd.S_mono (Kd.S_kept XB2.out HKT.out (fun k_ hk_ => z2_ k_ ⟨hk_.2.1, hk_.2.2.1⟩)) (fun _ _ => trivial)) (by have := SZ.out; omega))
                  clear HO107 HO110 HO118 HO126 HO130 HR114 HR122
                  have HO107 := n0_
                  have HO110 := n1_
                  have HO126 := n2_
                  have HO118 := Aside0.mk (Kd.S_nil (Kd.slice 50 k50) 23 wr w.heap.size (fun _ => True))
                  have HO130 := Aside0.mk (Kd.R_nil k50 50 wr w.heap.size (fun _ => True))
                  have hr_ := Kd.C_take (m := ((l0.length : Int) : Int).toNat) (Kd.R_reads' HO107.out).2.2 KL21.out
                  have hr2_ := hr_
                  rw [← Ny111.out] at hr_
                  rw [← Ny119.out] at hr2_
                  have HR114 := Aside0.mk hr_
                  have HR122 := Aside0.mk hr2_
                  clear n0_ n1_ n2_ hr_ hr2_ z1_ z2_ z3_ z4_ z5_ XA XB XI XL XM XB2 XD XD2 XE XF YA HKT HI HST HSA
                  go_upto_region 23 with (first | ((with_reducible refine gate_callee (f := 10) rfl ?_); refine goesL_ (some 20) rfl rfl Try.func10 (by kernel_rfl) rfl #[] rfl (by (try simp only [List.map_toArray, List.map_cons, List.map_nil]); first | done | rfl | (simp only [List.length_drop, List.length_take]; rfl)) ?_; (with_reducible refine (aumbrylaw04_wakes.calls k  true _ A3.out).mono ?_); rintro e w17 ⟨rfl, hb⟩; refine ⟨_, rfl, ?_⟩; have n0_ := Aside0.mk (below_step (by repeat (first | (with_reducible first | exact HB.out | apply below_alloc | apply pw_below_drewN | apply below_drew1) | exact HB.out)) hb); clear HB; have HB := n0_; clear n0_; (try clear hb); (try clear hb2); (try clear hk); (try clear hi)) | ((with_reducible refine gate_callee (f := 12) rfl ?_); refine goesL_ (some 23) rfl rfl Try.func12 (by kernel_rfl) rfl #[.slice A0 l0.length c0] rfl (by (try simp only [List.map_toArray, List.map_cons, List.map_nil]); first | done | rfl | (simp only [List.length_drop, List.length_take]; rfl)) ?_; (with_reducible refine (aumbryref04_Copy.calls _ _ l0 t102 _ ?side1 ?side2 A5.out).mono ?_); (case side1 => repeat (first | exact (Kd.C_below HR0.out HB.out) | (with_reducible refine Kd.C_alloc ?_ _) | (with_reducible refine Kd.C_drewN ?_ _) | (with_reducible refine Kd.C_drew ?_))); (case side2 => exact HC0.out); rintro e w18 ⟨v103, rfl, ho0, hb⟩; refine ⟨_, rfl, ?_⟩; have n0_ := Aside0.mk (Kd.R_lower ho0 (below_size (by repeat (first | (with_reducible first | exact HB.out | apply below_alloc | apply pw_below_drewN | apply below_drew1) | exact HB.out)))); have n1_ := Aside0.mk (below_step (by repeat (first | (with_reducible first | exact HB.out | apply below_alloc | apply pw_below_drewN | apply below_drew1) | exact HB.out)) hb); clear HB; have HO104 := n0_; have HB := n1_; clear n0_ n1_; (try clear hb); (try clear hb2); (try clear hk); (try clear hi); (try clear ho0)) | ((with_reducible refine gate_builtin (b := .append) (xs := #[.tmp 23, .tmp 25]) rfl ?_); (try (refine gate_guard (by rfl) ?_; dsimp only)); at_builtin; refine Kd.R_append k50 (w0 := w) w.heap.size rfl (.tmp 23) (.tmp 25) 23 50 (.agg #[(.string ⟨#[]⟩), (.int .i64 0)]) 24 rfl Try.underlying23 info50 rfl (by decide) (by omega) v103 t102 (⟨(⟨#[107, 101, 101, 112]⟩ : ByteArray), 0⟩ : S50) [.string (⟨#[107, 101, 101, 112]⟩ : ByteArray), .int .i64 0] (fun _ => True) (fun _ => False) rfl rfl ?aP (fun _ hk => hk.elim) ?aF ?aO ?aB ?aS ?aL ?_; (case aP => exact k50_mkM _ _ _ (⟨(⟨#[107, 101, 101, 112]⟩ : ByteArray), 0⟩ : S50)); (case aB => exact (by repeat (first | (with_reducible first | exact HB.out | apply below_alloc | apply pw_below_drewN | apply below_drew1) | exact HB.out))); (case aF => exact (fun _ _ => trivial)); (case aO => exact (by (with_reducible repeat (first | apply Kd.R_alloc | apply Kd.R_drewN | apply Kd.R_drew)); exact HO104.out)); (case aS => exact (below_size (by repeat (first | (with_reducible first | exact HB.out | apply below_alloc | apply pw_below_drewN | apply below_drew1) | exact HB.out)))); (case aL => have := LMc6.out; omega); intro v106 w19 ho hb hg hat; rw [← Ny105.out] at ho; have n0_ := Aside0.mk (hb); have n1_ := Aside0.mk (ho); clear HB; clear HO104; have HB := n0_; have HO107 := n1_; clear n0_ n1_; clear ho hb hg hat) | ((with_reducible refine gate_callee (f := 22) rfl ?_); refine goesL_ (some 28) rfl rfl Try.func22 (by kernel_rfl) rfl #[.slice A1 l1.length c1] rfl (by (try simp only [List.map_toArray, List.map_cons, List.map_nil]); first | done | rfl | (simp only [List.length_drop, List.length_take]; rfl)) ?_; (with_reducible refine (aumbryref04_CopyAll.calls k _ _ l1 t108 _ ?side1 ?side2 A7.out).mono ?_); (case side1 => repeat (first | exact (Kd.C_below HR1.out HB.out) | (with_reducible refine Kd.C_alloc ?_ _) | (with_reducible refine Kd.C_drewN ?_ _) | (with_reducible refine Kd.C_drew ?_))); (case side2 => exact HC1.out); rintro e w20 ⟨v109, rfl, ho0, hb⟩; refine ⟨_, rfl, ?_⟩; have n0_ := Aside0.mk (Kd.R_below (by (with_reducible repeat (first | apply Kd.R_alloc | apply Kd.R_drewN | apply Kd.R_drew)); exact HO107.out) hb); have n1_ := Aside0.mk (Kd.S_lower (Kd.S_new' ho0 (Kd.R_lt (by (with_reducible repeat (first | apply Kd.R_alloc | apply Kd.R_drewN | apply Kd.R_drew)); exact HO107.out))) (below_size (by repeat (first | (with_reducible first | exact HB.out | apply below_alloc | apply pw_below_drewN | apply below_drew1) | exact HB.out)))); have n2_ := Aside0.mk (below_step (by repeat (first | (with_reducible first | exact HB.out | apply below_alloc | apply pw_below_drewN | apply below_drew1) | exact HB.out)) hb); clear HO107; clear HB; have HO107 := n0_; have HO110 := n1_; have HB := n2_; clear n0_ n1_ n2_; (try clear hb); (try clear hb2); (try clear hk); (try clear hi); (try clear ho0); obtain ⟨Ao22, co22, eo22⟩ := Kd.R_slice HO107.out; subst eo22; have q21 : ((l0.length : Int) : Int) ≤ ((y105.length : Int) : Int) := of_decide_eq_true (by first | (with_reducible assumption) | assumption); obtain ⟨i021, hi021, _, hsz21, _⟩ := info_parts info50; have hroom21 : y105.length ≤ co22 := (Kd.R_reads' HO107.out).2.1; have hC21 : Kd.C k50 _ Ao22 y105.length y105 := (Kd.R_reads' HO107.out).2.2; have hcut21 := cut_to (P := Try.prog) 23 50 .i64 Try.underlying23 hi021 Ao22 y105.length co22 (l0.length : Int) (of_decide_eq_true (by first | (with_reducible assumption) | assumption)) q21 hroom21; have hr21 := Kd.C_take (m := ((l0.length : Int) : Int).toNat) hC21 (by omega); have hy21 : y111.length = ((l0.length : Int) : Int).toNat := (by rw [Ny111.out, List.length_take]; omega); rw [← Ny111.out] at hr21; rw [← hy21] at hcut21; have HR114 := Aside0.mk hr21; have HC114 := Aside0.mk (show y111.length ≤ co22 from by omega); clear hr21 hC21 hroom21 hi021 hsz21; have KY21 := Aside0.mk hy21; clear hy21; have KL21 := Aside0.mk (show ((l0.length : Int) : Int).toNat ≤ y105.length from by omega); replace q21 := eq_true q21) | ((with_reducible refine gate_callee (f := 20) rfl ?_); refine goesL_ (some 34) rfl rfl Try.func20 (by kernel_rfl) rfl #[.slice Ao22 y111.length co22] rfl (by (try simp only [List.map_toArray, List.map_cons, List.map_nil]); first | done | rfl | (simp only [List.length_drop, List.length_take]; rfl)) ?_; (with_reducible refine (term_Kids.calls k _ _ y111 t115 t116 _ ?side1 ?side2 A10.out).mono ?_); (case side1 => repeat (first | exact (by repeat (first | (with_reducible exact HR114.out) | (with_reducible refine Kd.C_alloc ?_ _) | (with_reducible refine Kd.C_drewN ?_ _) | (with_reducible refine Kd.C_drew ?_) | exact HR114.out)) | (with_reducible refine Kd.C_alloc ?_ _) | (with_reducible refine Kd.C_drewN ?_ _) | (with_reducible refine Kd.C_drew ?_))); (case side2 => exact HC114.out); rintro e w23 ⟨v117, rfl, ho0, hb⟩; refine ⟨_, rfl, ?_⟩; have n0_ := Aside0.mk (Kd.R_below (by (with_reducible repeat (first | apply Kd.R_alloc | apply Kd.R_drewN | apply Kd.R_drew)); exact HO107.out) hb); have n1_ := Aside0.mk (Kd.S_elder' (by (with_reducible repeat (first | apply Kd.S_alloc | apply Kd.S_drewN | apply Kd.S_drew)); exact HO110.out) (Kd.S_base ho0) hb); have n2_ := Aside0.mk (Kd.S_lower (Kd.S_new' (Kd.S_new' ho0 (Kd.R_lt (by (with_reducible repeat (first | apply Kd.R_alloc | apply Kd.R_drewN | apply Kd.R_drew)); exact HO107.out))) (Kd.S_lt (by (with_reducible repeat (first | apply Kd.S_alloc | apply Kd.S_drewN | apply Kd.S_drew)); exact HO110.out))) (below_size (by repeat (first | (with_reducible first | exact HB.out | apply below_alloc | apply pw_below_drewN | apply below_drew1) | exact HB.out)))); have n3_ := Aside0.mk (Kd.C_below (by repeat (first | (with_reducible exact HR114.out) | (with_reducible refine Kd.C_alloc ?_ _) | (with_reducible refine Kd.C_drewN ?_ _) | (with_reducible refine Kd.C_drew ?_) | exact HR114.out)) hb); have n4_ := Aside0.mk (below_step (by repeat (first | (with_reducible first | exact HB.out | apply below_alloc | apply pw_below_drewN | apply below_drew1) | exact HB.out)) hb); clear HO107; clear HO110; clear HR114; clear HB; have HO107 := n0_; have HO110 := n1_; have HO118 := n2_; have HR114 := n3_; have HB := n4_; clear n0_ n1_ n2_ n3_ n4_; (try clear hb); (try clear hb2); (try clear hk); (try clear hi); (try clear ho0); have q24 : ((l0.length : Int) : Int) ≤ ((y105.length : Int) : Int) := of_decide_eq_true (by first | (with_reducible assumption) | assumption); obtain ⟨i024, hi024, _, hsz24, _⟩ := info_parts info50; have hroom24 : y105.length ≤ co22 := (Kd.R_reads' HO107.out).2.1; have hC24 : Kd.C k50 _ Ao22 y105.length y105 := (Kd.R_reads' HO107.out).2.2; (try clear hcut21); have hcut24 := cut_to (P := Try.prog) 23 50 .i64 Try.underlying23 hi024 Ao22 y105.length co22 (l0.length : Int) (of_decide_eq_true (by first | (with_reducible assumption) | assumption)) q24 hroom24; have hr24 := Kd.C_take (m := ((l0.length : Int) : Int).toNat) hC24 (by omega); have hy24 : y119.length = ((l0.length : Int) : Int).toNat := (by rw [Ny119.out, List.length_take]; omega); rw [← Ny119.out] at hr24; rw [← hy24] at hcut24; have HR122 := Aside0.mk hr24; have HC122 := Aside0.mk (show y119.length ≤ co22 from by omega); clear hr24 hC24 hroom24 hi024 hsz24; have KY24 := Aside0.mk hy24; clear hy24; have KL24 := Aside0.mk (show ((l0.length : Int) : Int).toNat ≤ y105.length from by omega); replace q24 := eq_true q24) | ((with_reducible refine gate_callee (f := 20) rfl ?_); refine goesL_ (some 42) rfl rfl Try.func20 (by kernel_rfl) rfl #[.slice Ao22 y119.length co22] rfl (by (try simp only [List.map_toArray, List.map_cons, List.map_nil]); first | done | rfl | (simp only [List.length_drop, List.length_take]; rfl)) ?_; (with_reducible refine (term_Kids.calls k _ _ y119 t123 t124 _ ?side1 ?side2 A13.out).mono ?_); (case side1 => repeat (first | exact (by repeat (first | (with_reducible exact HR122.out) | (with_reducible refine Kd.C_alloc ?_ _) | (with_reducible refine Kd.C_drewN ?_ _) | (with_reducible refine Kd.C_drew ?_) | exact HR122.out)) | (with_reducible refine Kd.C_alloc ?_ _) | (with_reducible refine Kd.C_drewN ?_ _) | (with_reducible refine Kd.C_drew ?_))); (case side2 => exact HC122.out); rintro e w25 ⟨v125, rfl, ho0, hb⟩; refine ⟨_, rfl, ?_⟩; have n0_ := Aside0.mk (Kd.R_below (by (with_reducible repeat (first | apply Kd.R_alloc | apply Kd.R_drewN | apply Kd.R_drew)); exact HO107.out) hb); have n1_ := Aside0.mk (Kd.S_elder' (by (with_reducible repeat (first | apply Kd.S_alloc | apply Kd.S_drewN | apply Kd.S_drew)); exact HO110.out) (Kd.S_base ho0) hb); have n2_ := Aside0.mk (Kd.S_elder' (by (with_reducible repeat (first | apply Kd.S_alloc | apply Kd.S_drewN | apply Kd.S_drew)); exact HO118.out) (Kd.S_base ho0) hb); have n3_ := Aside0.mk (Kd.S_lower (Kd.S_new' (Kd.S_new' (Kd.S_new' ho0 (Kd.R_lt (by (with_reducible repeat (first | apply Kd.R_alloc | apply Kd.R_drewN | apply Kd.R_drew)); exact HO107.out))) (Kd.S_lt (by (with_reducible repeat (first | apply Kd.S_alloc | apply Kd.S_drewN | apply Kd.S_drew)); exact HO110.out))) (Kd.S_lt (by (with_reducible repeat (first | apply Kd.S_alloc | apply Kd.S_drewN | apply Kd.S_drew)); exact HO118.out))) (below_size (by repeat (first | (with_reducible first | exact HB.out | apply below_alloc | apply pw_below_drewN | apply below_drew1) | exact HB.out)))); have n4_ := Aside0.mk (Kd.C_below (by repeat (first | (with_reducible exact HR114.out) | (with_reducible refine Kd.C_alloc ?_ _) | (with_reducible refine Kd.C_drewN ?_ _) | (with_reducible refine Kd.C_drew ?_) | exact HR114.out)) hb); have n5_ := Aside0.mk (Kd.C_below (by repeat (first | (with_reducible exact HR122.out) | (with_reducible refine Kd.C_alloc ?_ _) | (with_reducible refine Kd.C_drewN ?_ _) | (with_reducible refine Kd.C_drew ?_) | exact HR122.out)) hb); have n6_ := Aside0.mk (below_step (by repeat (first | (with_reducible first | exact HB.out | apply below_alloc | apply pw_below_drewN | apply below_drew1) | exact HB.out)) hb); clear HO107; clear HO110; clear HO118; clear HR114; clear HR122; clear HB; have HO107 := n0_; have HO110 := n1_; have HO118 := n2_; have HO126 := n3_; have HR114 := n4_; have HR122 := n5_; have HB := n6_; clear n0_ n1_ n2_ n3_ n4_ n5_ n6_; (try clear hb); (try clear hb2); (try clear hk); (try clear hi); (try clear ho0); obtain ⟨Ao26, co26, eo26⟩ := Kd.S_slice HO110.out; subst eo26) | ((with_reducible refine gate_callee (f := 21) rfl ?_); refine goesL_ (some 47) rfl rfl Try.func21 (by kernel_rfl) rfl #[.string (⟨#[102]⟩ : ByteArray), .slice Ao26 t108.length co26] rfl (by (try simp only [List.map_toArray, List.map_cons, List.map_nil]); first | done | rfl | (simp only [List.length_drop, List.length_take]; rfl)) ?_; (with_reducible refine (term_Make.calls k (⟨#[102]⟩ : ByteArray) _ _ t108 t127 t128 _ ?side1 ?side2 A14.out).mono ?_); (case side1 => repeat (first | exact (Kd.S_reads' HO110.out).2.2 | (with_reducible refine Kd.C_alloc ?_ _) | (with_reducible refine Kd.C_drewN ?_ _) | (with_reducible refine Kd.C_drew ?_))); (case side2 => exact (Kd.S_reads' HO110.out).2.1); rintro e w27 ⟨v129, rfl, ho0, hb⟩; refine ⟨_, rfl, ?_⟩; have n0_ := Aside0.mk (Kd.R_elder' (by (with_reducible repeat (first | apply Kd.R_alloc | apply Kd.R_drewN | apply Kd.R_drew)); exact HO107.out) (Kd.R_base ho0) hb); have n1_ := Aside0.mk (Kd.S_elder' (by (with_reducible repeat (first | apply Kd.S_alloc | apply Kd.S_drewN | apply Kd.S_drew)); exact HO110.out) (Kd.R_base ho0) hb); have n2_ := Aside0.mk (Kd.S_elder' (by (with_reducible repeat (first | apply Kd.S_alloc | apply Kd.S_drewN | apply Kd.S_drew)); exact HO118.out) (Kd.R_base ho0) hb); have n3_ := Aside0.mk (Kd.S_elder' (by (with_reducible repeat (first | apply Kd.S_alloc | apply Kd.S_drewN | apply Kd.S_drew)); exact HO126.out) (Kd.R_base ho0) hb); have n4_ := Aside0.mk (Kd.R_lower (Kd.R_new' ho0 (Kd.R_lt (by (with_reducible repeat (first | apply Kd.R_alloc | apply Kd.R_drewN | apply Kd.R_drew)); exact HO107.out))) (below_size (by repeat (first | (with_reducible first | exact HB.out | apply below_alloc | apply pw_below_drewN | apply below_drew1) | exact HB.out)))); have n5_ := Aside0.mk (Kd.C_below (by repeat (first | (with_reducible exact HR114.out) | (with_reducible refine Kd.C_alloc ?_ _) | (with_reducible refine Kd.C_drewN ?_ _) | (with_reducible refine Kd.C_drew ?_) | exact HR114.out)) hb); have n6_ := Aside0.mk (Kd.C_below (by repeat (first | (with_reducible exact HR122.out) | (with_reducible refine Kd.C_alloc ?_ _) | (with_reducible refine Kd.C_drewN ?_ _) | (with_reducible refine Kd.C_drew ?_) | exact HR122.out)) hb); have n7_ := Aside0.mk (below_step (by repeat (first | (with_reducible first | exact HB.out | apply below_alloc | apply pw_below_drewN | apply below_drew1) | exact HB.out)) hb); clear HO107; clear HO110; clear HO118; clear HO126; clear HR114; clear HR122; clear HB; have HO107 := n0_; have HO110 := n1_; have HO118 := n2_; have HO126 := n3_; have HO130 := n4_; have HR114 := n5_; have HR122 := n6_; have HB := n7_; clear n0_ n1_ n2_ n3_ n4_ n5_ n6_ n7_; (try clear hb); (try clear hb2); (try clear hk); (try clear hi); (try clear ho0)) | ((with_reducible refine gate_callee (f := 24) rfl ?_); refine goesL_ (some 84) rfl rfl Try.func24 (by kernel_rfl) rfl #[.slice A0 l0.length c0] rfl (by (try simp only [List.map_toArray, List.map_cons, List.map_nil]); first | done | rfl | (simp only [List.length_drop, List.length_take]; rfl)) ?_; (with_reducible refine (aumbryref04_Print.calls k _ _ l0 t131 t132 _ ?side1 ?side2 A15.out).mono ?_); (case side1 => repeat (first | exact (Kd.C_below HR0.out HB.out) | (with_reducible refine Kd.C_alloc ?_ _) | (with_reducible refine Kd.C_drewN ?_ _) | (with_reducible refine Kd.C_drew ?_))); (case side2 => exact HC0.out); rintro e w28 ⟨rfl, hb⟩; refine ⟨_, rfl, ?_⟩; have n0_ := Aside0.mk (Kd.R_below (by (with_reducible repeat (first | apply Kd.R_alloc | apply Kd.R_drewN | apply Kd.R_drew)); exact HO107.out) hb); have n1_ := Aside0.mk (Kd.S_below (by (with_reducible repeat (first | apply Kd.S_alloc | apply Kd.S_drewN | apply Kd.S_drew)); exact HO110.out) hb); have n2_ := Aside0.mk (Kd.S_below (by (with_reducible repeat (first | apply Kd.S_alloc | apply Kd.S_drewN | apply Kd.S_drew)); exact HO118.out) hb); have n3_ := Aside0.mk (Kd.S_below (by (with_reducible repeat (first | apply Kd.S_alloc | apply Kd.S_drewN | apply Kd.S_drew)); exact HO126.out) hb); have n4_ := Aside0.mk (Kd.R_below (by (with_reducible repeat (first | apply Kd.R_alloc | apply Kd.R_drewN | apply Kd.R_drew)); exact HO130.out) hb); have n5_ := Aside0.mk (Kd.C_below (by repeat (first | (with_reducible exact HR114.out) | (with_reducible refine Kd.C_alloc ?_ _) | (with_reducible refine Kd.C_drewN ?_ _) | (with_reducible refine Kd.C_drew ?_) | exact HR114.out)) hb); have n6_ := Aside0.mk (Kd.C_below (by repeat (first | (with_reducible exact HR122.out) | (with_reducible refine Kd.C_alloc ?_ _) | (with_reducible refine Kd.C_drewN ?_ _) | (with_reducible refine Kd.C_drew ?_) | exact HR122.out)) hb); have n7_ := Aside0.mk (below_step (by repeat (first | (with_reducible first | exact HB.out | apply below_alloc | apply pw_below_drewN | apply below_drew1) | exact HB.out)) hb); clear HO107; clear HO110; clear HO118; clear HO126; clear HO130; clear HR114; clear HR122; clear HB; have HO107 := n0_; have HO110 := n1_; have HO118 := n2_; have HO126 := n3_; have HO130 := n4_; have HR114 := n5_; have HR122 := n6_; have HB := n7_; clear n0_ n1_ n2_ n3_ n4_ n5_ n6_ n7_; (try clear hb); (try clear hb2); (try clear hk); (try clear hi)))
                  (try simp only [Act.put, List.setIfInBounds_toArray, List.set_cons_zero, List.set_cons_succ])
                  go_cut [95] (fun v95 wc => ∃ (kq : Nat) (x95_15 : Bool), v95 = .bool x95_15 ∧ Aside0 (aumbrylaw04_TermOwn.j0 kq l0 l1 y105 t108 t131 x95_15 = some r) ∧ Aside0 (kq ≤ k) ∧ Aside0 (Kd.R k50 50 wc w.heap.size (fun _ => True) (.slice Ao22 y105.length co22) y105) ∧ Aside0 (Kd.S (Kd.slice 50 k50) 23 wc w.heap.size (fun k_ => some k_ ≠ ((.slice Ao22 y105.length co22) : Value).ownBlock) (.slice Ao26 t108.length co26) t108) ∧ Aside0 (Kd.C k50 wc Ao22 y111.length y111) ∧ Aside0 (Kd.C k50 wc Ao22 y119.length y119) ∧ Aside0 (Below w.heap.size w wc))
                  case first =>
                    have H := HC16.out
                    clear HC16
                    by_cases c29 : t132 = 0
                    · rw [if_pos c29] at H
                      have c29b0 : (t132 == 0) = true := beq_iff_eq.mpr c29
                      have c29b1 : (t132 != 0) = false := bne_eq_false_iff_eq.mpr c29
                      clear c29
                      (first | rw [c29b0] | (simp only [i64_w, i32_w]; rw [c29b0]) | skip)
                      replace H := Option.bind_eq_some_iff.mp H
                      obtain ⟨t133, A300, H⟩ := H
                      replace H : ((aumbryref04_SameAll.f k t123 t133).bind fun t136 => (aumbrylaw04_TermOwn.j0 k l0 l1 y105 t108 t131 (!t136))) = some r := H
                      have A30 := Aside0.mk A300
                      clear A300
                      replace H := Option.bind_eq_some_iff.mp H
                      obtain ⟨t136, A310, H⟩ := H
                      replace H : (aumbrylaw04_TermOwn.j0 k l0 l1 y105 t108 t131 (!t136)) = some r := H
                      have A31 := Aside0.mk A310
                      clear A310
                      have H' := Aside0.mk H
                      clear H
                      go_wp2_with (first | (go_at_call 26; (with_reducible refine (aumbryref04_Kids.calls k _ _ l0 t133 _ ?side1 ?side2 A30.out).mono ?_); (case side1 => repeat (first | exact (Kd.C_below HR0.out HB.out) | (with_reducible refine Kd.C_alloc ?_ _) | (with_reducible refine Kd.C_drewN ?_ _) | (with_reducible refine Kd.C_drew ?_))); (case side2 => exact HC0.out); rintro e w32 ⟨v134, rfl, ho0, hb⟩; have n0_ := Aside0.mk (Kd.R_below (by (with_reducible repeat (first | apply Kd.R_alloc | apply Kd.R_drewN | apply Kd.R_drew)); exact HO107.out) hb); have n1_ := Aside0.mk (Kd.S_elder' (by (with_reducible repeat (first | apply Kd.S_alloc | apply Kd.S_drewN | apply Kd.S_drew)); exact HO110.out) (Kd.S_base ho0) hb); have n2_ := Aside0.mk (Kd.S_elder' (by (with_reducible repeat (first | apply Kd.S_alloc | apply Kd.S_drewN | apply Kd.S_drew)); exact HO118.out) (Kd.S_base ho0) hb); have n3_ := Aside0.mk (Kd.S_elder' (by (with_reducible repeat (first | apply Kd.S_alloc | apply Kd.S_drewN | apply Kd.S_drew)); exact HO126.out) (Kd.S_base ho0) hb); have n4_ := Aside0.mk (Kd.R_below (by (with_reducible repeat (first | apply Kd.R_alloc | apply Kd.R_drewN | apply Kd.R_drew)); exact HO130.out) hb); have n5_ := Aside0.mk (Kd.S_lower (Kd.S_new' (Kd.S_new' (Kd.S_new' (Kd.S_new' (Kd.S_new' ho0 (Kd.R_lt (by (with_reducible repeat (first | apply Kd.R_alloc | apply Kd.R_drewN | apply Kd.R_drew)); exact HO107.out))) (Kd.S_lt (by (with_reducible repeat (first | apply Kd.S_alloc | apply Kd.S_drewN | apply Kd.S_drew)); exact HO110.out))) (Kd.S_lt (by (with_reducible repeat (first | apply Kd.S_alloc | apply Kd.S_drewN | apply Kd.S_drew)); exact HO118.out))) (Kd.S_lt (by (with_reducible repeat (first | apply Kd.S_alloc | apply Kd.S_drewN | apply Kd.S_drew)); exact HO126.out))) (Kd.R_lt (by (with_reducible repeat (first | apply Kd.R_alloc | apply Kd.R_drewN | apply Kd.R_drew)); exact HO130.out))) (below_size (by repeat (first | (with_reducible first | exact HB.out | apply below_alloc | apply pw_below_drewN | apply below_drew1) | exact HB.out)))); have n6_ := Aside0.mk (Kd.C_below (by repeat (first | (with_reducible exact HR114.out) | (with_reducible refine Kd.C_alloc ?_ _) | (with_reducible refine Kd.C_drewN ?_ _) | (with_reducible refine Kd.C_drew ?_) | exact HR114.out)) hb); have n7_ := Aside0.mk (Kd.C_below (by repeat (first | (with_reducible exact HR122.out) | (with_reducible refine Kd.C_alloc ?_ _) | (with_reducible refine Kd.C_drewN ?_ _) | (with_reducible refine Kd.C_drew ?_) | exact HR122.out)) hb); have n8_ := Aside0.mk (below_step (by repeat (first | (with_reducible first | exact HB.out | apply below_alloc | apply pw_below_drewN | apply below_drew1) | exact HB.out)) hb); clear HO107; clear HO110; clear HO118; clear HO126; clear HO130; clear HR114; clear HR122; clear HB; have HO107 := n0_; have HO110 := n1_; have HO118 := n2_; have HO126 := n3_; have HO130 := n4_; have HO135 := n5_; have HR114 := n6_; have HR122 := n7_; have HB := n8_; clear n0_ n1_ n2_ n3_ n4_ n5_ n6_ n7_ n8_; (try clear hb); (try clear hb2); (try clear hk); (try clear hi); (try clear ho0); obtain ⟨Ao33, co33, eo33⟩ := Kd.S_slice HO126.out; subst eo33; obtain ⟨Ao34, co34, eo34⟩ := Kd.S_slice HO135.out; subst eo34) | (go_at_call 25; (with_reducible refine (aumbryref04_SameAll.calls k _ _ t123 _ _ t133 t136 _ ?side1 ?side2 ?side3 ?side4 A31.out).mono ?_); (case side1 => repeat (first | exact (Kd.S_reads' HO126.out).2.2 | (with_reducible refine Kd.C_alloc ?_ _) | (with_reducible refine Kd.C_drewN ?_ _) | (with_reducible refine Kd.C_drew ?_))); (case side2 => exact (Kd.S_reads' HO126.out).2.1); (case side3 => repeat (first | exact (Kd.S_reads' HO135.out).2.2 | (with_reducible refine Kd.C_alloc ?_ _) | (with_reducible refine Kd.C_drewN ?_ _) | (with_reducible refine Kd.C_drew ?_))); (case side4 => exact (Kd.S_reads' HO135.out).2.1); rintro e w' ⟨rfl, ⟨nd, rfl⟩⟩))
                      go_meet
                      case rel => exact ⟨_, (!t136), (by first | rfl | (simp; done) | (simp [*]; done)), H', ⟨by first | omega | exact Nat.le_refl _⟩, ⟨by (with_reducible repeat (first | apply Kd.R_alloc | apply Kd.R_drewN | apply Kd.R_drew)); exact Kd.R_mono HO107.out (fun _ hk => trivial)⟩, ⟨by (with_reducible repeat (first | apply Kd.S_alloc | apply Kd.S_drewN | apply Kd.S_drew)); exact Kd.S_mono HO110.out (fun _ hk => hk.1.1.1.1.2)⟩, ⟨by repeat (first | (with_reducible exact HR114.out) | (with_reducible refine Kd.C_alloc ?_ _) | (with_reducible refine Kd.C_drewN ?_ _) | (with_reducible refine Kd.C_drew ?_) | exact HR114.out)⟩, ⟨by repeat (first | (with_reducible exact HR122.out) | (with_reducible refine Kd.C_alloc ?_ _) | (with_reducible refine Kd.C_drewN ?_ _) | (with_reducible refine Kd.C_drew ?_) | exact HR122.out)⟩, ⟨by repeat (first | (with_reducible first | exact HB.out | apply below_alloc | apply pw_below_drewN | apply below_drew1) | exact HB.out)⟩⟩
                    · rw [if_neg c29] at H
                      have c29b0 : (t132 == 0) = false := beq_eq_false_iff_ne.mpr c29
                      have c29b1 : (t132 != 0) = true := bne_iff_ne.mpr c29
                      (first | rw [c29b0] | (simp only [i64_w, i32_w]; rw [c29b0]) | skip)
                      have H' := Aside0.mk H
                      clear H
                      go_wp2
                      go_meet
                      case rel => exact ⟨_, (false), (by first | rfl | (simp; done) | (simp [*]; done)), H', ⟨by first | omega | exact Nat.le_refl _⟩, ⟨by (with_reducible repeat (first | apply Kd.R_alloc | apply Kd.R_drewN | apply Kd.R_drew)); exact Kd.R_mono HO107.out (fun _ hk => trivial)⟩, ⟨by (with_reducible repeat (first | apply Kd.S_alloc | apply Kd.S_drewN | apply Kd.S_drew)); exact Kd.S_mono HO110.out (fun _ hk => hk.1.1.1.2)⟩, ⟨by repeat (first | (with_reducible exact HR114.out) | (with_reducible refine Kd.C_alloc ?_ _) | (with_reducible refine Kd.C_drewN ?_ _) | (with_reducible refine Kd.C_drew ?_) | exact HR114.out)⟩, ⟨by repeat (first | (with_reducible exact HR122.out) | (with_reducible refine Kd.C_alloc ?_ _) | (with_reducible refine Kd.C_drewN ?_ _) | (with_reducible refine Kd.C_drew ?_) | exact HR122.out)⟩, ⟨by repeat (first | (with_reducible first | exact HB.out | apply below_alloc | apply pw_below_drewN | apply below_drew1) | exact HB.out)⟩⟩
                  case rest =>
                    clear HC16
                    try clear c1
                    try clear c2
                    try clear p2
                    try clear q2
                    try clear c4
                    try clear c6
                    try clear c8
                    try clear c8b0
                    try clear c8b1
                    try clear c9
                    try clear c9b0
                    try clear c9b1
                    try clear c10
                    try clear c11
                    try clear c11b0
                    try clear c12
                    try clear c12b0
                    try clear c20
                    try clear c21
                    try clear q21
                    try clear c22
                    try clear c24
                    try clear q24
                    try clear c29
                    try clear c29b0
                    try clear c29b1
                    try clear q21
                    try clear q24
                    obtain ⟨kq, x95_15, rfl, HA, HJ15, HO_5, HO_6, HR114, HR122, HB⟩ := hcut
                    cases kq with
                    | zero => exact absurd HA.out (by simp [aumbrylaw04_TermOwn.j0])
                    | succ kj15 =>
                      have H := HA.out
                      clear HA
                      simp only [aumbrylaw04_TermOwn.j0] at H
                      by_cases c35 : x95_15 = true
                      · subst c35
                        have H1 : (some false) = some r := by rw [if_pos rfl] at H; exact H
                        clear H
                        have H := H1
                        clear H1
                        obtain rfl := Option.some.inj H
                        go_wp2
                        go_ret
                        exact ⟨by first | rfl | (simp [errW_none, errW_some] <;> rfl) | (simp [*, errW_none, errW_some] <;> rfl), by repeat (first | (with_reducible first | exact HB.out | apply below_alloc | apply pw_below_drewN | apply below_drew1) | exact HB.out)⟩
                      · replace c35 := Bool.eq_false_iff.mpr c35
                        subst c35
                        have H1 : (if 0 ≤ (l0.length : Int) then (if (l0.length : Int) ≤ (y105.length : Int) then ((aumbryref04_Print.f kj15 (y105.take ((l0.length : Int) : Int).toNat)).bind fun bt141 => (if bt141.1.toList = t131.toList then (if (l0.length : Int) < (y105.length : Int) then (if ((rd_T50 y105 (l0.length : Int)).f0).toList = ([107, 101, 101, 112] : List UInt8) then ((aumbryref04_Same.f kj15 (y105.take ((l0.length : Int) : Int).toNat) l0).bind fun t148 => (if t148 = true then ((aumbryref04_SameAll.f kj15 t108 l1).bind fun t149 => (some t149)) else (some false))) else (some false)) else (none)) else (some false))) else (none)) else (none)) = some r := by rw [if_neg (show ¬ (false = true) by decide)] at H; exact H
                        clear H
                        have H := H1
                        clear H1
                        by_cases c36 : 0 ≤ (l0.length : Int)
                        · rw [if_pos c36] at H
                          have c36b0 := eq_true c36
                          have c36b1 : decide (0 ≤ (l0.length : Int)) = true := decide_eq_true c36
                          clear c36
                          by_cases c37 : (l0.length : Int) ≤ (y105.length : Int)
                          · rw [if_pos c37] at H
                            have c37b0 := eq_true c37
                            have c37b1 : decide ((l0.length : Int) ≤ (y105.length : Int)) = true := decide_eq_true c37
                            clear c37
                            obtain ⟨y137, hy137⟩ : ∃ y_ : List (S50), y_ = (y105.take ((l0.length : Int) : Int).toNat) := ⟨_, rfl⟩
                            replace H : ((aumbryref04_Print.f kj15 y137).bind fun bt141 => (if bt141.1.toList = t131.toList then (if (l0.length : Int) < (y105.length : Int) then (if ((rd_T50 y105 (l0.length : Int)).f0).toList = ([107, 101, 101, 112] : List UInt8) then ((aumbryref04_Same.f kj15 (y105.take ((l0.length : Int) : Int).toNat) l0).bind fun t148 => (if t148 = true then ((aumbryref04_SameAll.f kj15 t108 l1).bind fun t149 => (some t149)) else (some false))) else (some false)) else (none)) else (some false))) = some r := by first | (rw [hy137]; with_reducible exact H) | (have H2_ := (Option.bind_some _ _).symm.trans H; rw [hy137]; with_reducible exact H2_) | (have H2_ := (Option.bind_some _ _).symm.trans H; with_reducible exact H2_) | with_reducible exact H | (rw [hy137]; exact H) | exact H
                            have Ny137 := Aside0.mk hy137
                            clear hy137
                            replace H := Option.bind_eq_some_iff.mp H
                            obtain ⟨⟨t141, t142⟩, A380, H⟩ := H
                            replace H : (if t141.toList = t131.toList then (if (l0.length : Int) < (y105.length : Int) then (if ((rd_T50 y105 (l0.length : Int)).f0).toList = ([107, 101, 101, 112] : List UInt8) then ((aumbryref04_Same.f kj15 (y105.take ((l0.length : Int) : Int).toNat) l0).bind fun t148 => (if t148 = true then ((aumbryref04_SameAll.f kj15 t108 l1).bind fun t149 => (some t149)) else (some false))) else (some false)) else (none)) else (some false)) = some r := H
                            have A38 := Aside0.mk A380
                            clear A380
                            by_cases c39 : t141.toList = t131.toList
                            · rw [if_pos c39] at H
                              have c39b0 : (t141.toList == t131.toList) = true := beq_iff_eq.mpr c39
                              have c39b1 : (t141.toList != t131.toList) = false := bne_eq_false_iff_eq.mpr c39
                              clear c39
                              by_cases c40 : (l0.length : Int) < (y105.length : Int)
                              · rw [if_pos c40] at H
                                have c40b0 : decide ((l0.length : Int) < (y105.length : Int)) = true := decide_eq_true c40
                                have c40b1 : decide (l0.length < y105.length) = true := decide_eq_true (Int.ofNat_lt.mp c40)
                                clear c40
                                by_cases c41 : ((rd_T50 y105 (l0.length : Int)).f0).toList = ([107, 101, 101, 112] : List UInt8)
                                · rw [if_pos c41] at H
                                  have c41b0 : (((rd_T50 y105 (l0.length : Int)).f0).toList == ([107, 101, 101, 112] : List UInt8)) = true := beq_iff_eq.mpr c41
                                  have c41b1 : (((rd_T50 y105 (l0.length : Int)).f0).toList != ([107, 101, 101, 112] : List UInt8)) = false := bne_eq_false_iff_eq.mpr c41
                                  clear c41
                                  have c42b0 := eq_true (of_decide_eq_true (by first | (with_reducible assumption) | assumption) : 0 ≤ (l0.length : Int))
                                  have c43b0 := eq_true (of_decide_eq_true (by first | (with_reducible assumption) | assumption) : (l0.length : Int) ≤ (y105.length : Int))
                                  obtain ⟨y144, hy144⟩ : ∃ y_ : List (S50), y_ = (y105.take ((l0.length : Int) : Int).toNat) := ⟨_, rfl⟩
                                  replace H : ((aumbryref04_Same.f kj15 y144 l0).bind fun t148 => (if t148 = true then ((aumbryref04_SameAll.f kj15 t108 l1).bind fun t149 => (some t149)) else (some false))) = some r := by first | (rw [hy144]; with_reducible exact H) | (have H2_ := (Option.bind_some _ _).symm.trans H; rw [hy144]; with_reducible exact H2_) | (have H2_ := (Option.bind_some _ _).symm.trans H; with_reducible exact H2_) | with_reducible exact H | (rw [hy144]; exact H) | exact H
                                  have Ny144 := Aside0.mk hy144
                                  clear hy144
                                  replace H := Option.bind_eq_some_iff.mp H
                                  obtain ⟨t148, A440, H⟩ := H
                                  replace H : (if t148 = true then ((aumbryref04_SameAll.f kj15 t108 l1).bind fun t149 => (some t149)) else (some false)) = some r := H
                                  have A44 := Aside0.mk A440
                                  clear A440
                                  by_cases c45 : t148 = true
                                  · subst c45
                                    have H1 : ((aumbryref04_SameAll.f kj15 t108 l1).bind fun t149 => (some t149)) = some r := by rw [if_pos rfl] at H; exact H
                                    clear H
                                    have H := H1
                                    clear H1
                                    replace H := Option.bind_eq_some_iff.mp H
                                    obtain ⟨t149, A460, H⟩ := H
                                    replace H : (some t149) = some r := H
                                    have A46 := Aside0.mk A460
                                    clear A460
                                    obtain rfl := Option.some.inj H
                                    have q47 : ((l0.length : Int) : Int) ≤ ((y105.length : Int) : Int) := of_decide_eq_true (by first | (with_reducible assumption) | assumption)
                                    obtain ⟨i047, hi047, _, hsz47, _⟩ := info_parts info50
                                    have hroom47 : y105.length ≤ co22 := (Kd.R_reads' HO_5.out).2.1
                                    have hC47 : Kd.C k50 _ Ao22 y105.length y105 := (Kd.R_reads' HO_5.out).2.2
                                    have hcut47 := cut_to (P := Try.prog) 23 50 .i64 Try.underlying23 hi047 Ao22 y105.length co22 (l0.length : Int) (of_decide_eq_true (by first | (with_reducible assumption) | assumption)) q47 hroom47
                                    have hr47 := Kd.C_take (m := ((l0.length : Int) : Int).toNat) hC47 (by omega)
                                    have hy47 : y137.length = ((l0.length : Int) : Int).toNat := (by rw [Ny137.out, List.length_take]; omega)
                                    rw [← Ny137.out] at hr47
                                    rw [← hy47] at hcut47
                                    have HR140 := Aside0.mk hr47
                                    have HC140 := Aside0.mk (show y137.length ≤ co22 from by omega)
                                    clear hr47 hC47 hroom47 hi047 hsz47
                                    have KY47 := Aside0.mk hy47
                                    clear hy47
                                    have KL47 := Aside0.mk (show ((l0.length : Int) : Int).toNat ≤ y105.length from by omega)
                                    replace q47 := eq_true q47
                                    go_wp2_with (first | ((with_reducible refine gate_callee (f := 24) rfl ?_); refine goesL_ (some 101) rfl rfl Try.func24 (by kernel_rfl) rfl #[.slice Ao22 y137.length co22] rfl (by (try simp only [List.map_toArray, List.map_cons, List.map_nil]); first | done | rfl | (simp only [List.length_drop, List.length_take]; rfl)) ?_; (with_reducible refine (aumbryref04_Print.calls kj15 _ _ y137 t141 t142 _ ?side1 ?side2 A38.out).mono ?_); (case side1 => repeat (first | exact (by repeat (first | (with_reducible exact HR140.out) | (with_reducible refine Kd.C_alloc ?_ _) | (with_reducible refine Kd.C_drewN ?_ _) | (with_reducible refine Kd.C_drew ?_) | exact HR140.out)) | (with_reducible refine Kd.C_alloc ?_ _) | (with_reducible refine Kd.C_drewN ?_ _) | (with_reducible refine Kd.C_drew ?_))); (case side2 => exact HC140.out); rintro e w48 ⟨rfl, hb⟩; refine ⟨_, rfl, ?_⟩; have n0_ := Aside0.mk (Kd.R_below (by (with_reducible repeat (first | apply Kd.R_alloc | apply Kd.R_drewN | apply Kd.R_drew)); exact HO_5.out) hb); have n1_ := Aside0.mk (Kd.S_below (by (with_reducible repeat (first | apply Kd.S_alloc | apply Kd.S_drewN | apply Kd.S_drew)); exact HO_6.out) hb); have n2_ := Aside0.mk (Kd.C_below (by repeat (first | (with_reducible exact HR114.out) | (with_reducible refine Kd.C_alloc ?_ _) | (with_reducible refine Kd.C_drewN ?_ _) | (with_reducible refine Kd.C_drew ?_) | exact HR114.out)) hb); have n3_ := Aside0.mk (Kd.C_below (by repeat (first | (with_reducible exact HR122.out) | (with_reducible refine Kd.C_alloc ?_ _) | (with_reducible refine Kd.C_drewN ?_ _) | (with_reducible refine Kd.C_drew ?_) | exact HR122.out)) hb); have n4_ := Aside0.mk (Kd.C_below (by repeat (first | (with_reducible exact HR140.out) | (with_reducible refine Kd.C_alloc ?_ _) | (with_reducible refine Kd.C_drewN ?_ _) | (with_reducible refine Kd.C_drew ?_) | exact HR140.out)) hb); have n5_ := Aside0.mk (below_step (by repeat (first | (with_reducible first | exact HB.out | apply below_alloc | apply pw_below_drewN | apply below_drew1) | exact HB.out)) hb); clear HO_5; clear HO_6; clear HR114; clear HR122; clear HR140; clear HB; have HO_5 := n0_; have HO_6 := n1_; have HR114 := n2_; have HR122 := n3_; have HR140 := n4_; have HB := n5_; clear n0_ n1_ n2_ n3_ n4_ n5_; (try clear hb); (try clear hb2); (try clear hk); (try clear hi); have p143 : 0 ≤ ((l0.length : Int) : Int) := of_decide_eq_true (by first | (with_reducible assumption) | assumption); have q143 : (l0.length : Int) < (y105.length : Int) := of_decide_eq_true (by first | (with_reducible assumption) | assumption); obtain ⟨ad143, e143, hx143_0, hx143_1⟩ := at_T50 (Kd.R_reads' HO_5.out).2.2 (l0.length : Int) p143 q143; cases e143; (try simp only [Go.IntWalk.toNatUp] at hx143_0); (try simp only [Go.IntWalk.toNatUp] at hx143_1); replace p143 := eq_true p143; replace q143 := eq_true q143; have q49 : ((l0.length : Int) : Int) ≤ ((y105.length : Int) : Int) := of_decide_eq_true (by first | (with_reducible assumption) | assumption); obtain ⟨i049, hi049, _, hsz49, _⟩ := info_parts info50; have hroom49 : y105.length ≤ co22 := (Kd.R_reads' HO_5.out).2.1; have hC49 : Kd.C k50 _ (some ad143) y105.length y105 := (Kd.R_reads' HO_5.out).2.2; (try clear hcut21); (try clear hcut24); (try clear hcut47); have hcut49 := cut_to (P := Try.prog) 23 50 .i64 Try.underlying23 hi049 (some ad143) y105.length co22 (l0.length : Int) (of_decide_eq_true (by first | (with_reducible assumption) | assumption)) q49 hroom49; have hr49 := Kd.C_take (m := ((l0.length : Int) : Int).toNat) hC49 (by omega); have hy49 : y144.length = ((l0.length : Int) : Int).toNat := (by rw [Ny144.out, List.length_take]; omega); rw [← Ny144.out] at hr49; rw [← hy49] at hcut49; have HR147 := Aside0.mk hr49; have HC147 := Aside0.mk (show y144.length ≤ co22 from by omega); clear hr49 hC49 hroom49 hi049 hsz49; have KY49 := Aside0.mk hy49; clear hy49; have KL49 := Aside0.mk (show ((l0.length : Int) : Int).toNat ≤ y105.length from by omega); replace q49 := eq_true q49) | (go_at_call 16; (with_reducible refine (aumbryref04_Same.calls kj15 _ _ y144 _ _ l0 true _ ?side1 ?side2 ?side3 ?side4 A44.out).mono ?_); (case side1 => repeat (first | exact (by repeat (first | (with_reducible exact HR147.out) | (with_reducible refine Kd.C_alloc ?_ _) | (with_reducible refine Kd.C_drewN ?_ _) | (with_reducible refine Kd.C_drew ?_) | exact HR147.out)) | (with_reducible refine Kd.C_alloc ?_ _) | (with_reducible refine Kd.C_drewN ?_ _) | (with_reducible refine Kd.C_drew ?_))); (case side2 => exact HC147.out); (case side3 => repeat (first | exact (Kd.C_below HR0.out HB.out) | (with_reducible refine Kd.C_alloc ?_ _) | (with_reducible refine Kd.C_drewN ?_ _) | (with_reducible refine Kd.C_drew ?_))); (case side4 => exact HC0.out); rintro e w' ⟨rfl, ⟨nd, rfl⟩⟩) | (go_at_call 25; (with_reducible refine (aumbryref04_SameAll.calls kj15 _ _ t108 _ _ l1 t149 _ ?side1 ?side2 ?side3 ?side4 A46.out).mono ?_); (case side1 => repeat (first | exact (Kd.S_reads' HO_6.out).2.2 | (with_reducible refine Kd.C_alloc ?_ _) | (with_reducible refine Kd.C_drewN ?_ _) | (with_reducible refine Kd.C_drew ?_))); (case side2 => exact (Kd.S_reads' HO_6.out).2.1); (case side3 => repeat (first | exact (Kd.C_below HR1.out (by repeat (first | (with_reducible first | exact HB.out | apply below_alloc | apply pw_below_drewN | apply below_drew1) | exact HB.out))) | (with_reducible refine Kd.C_alloc ?_ _) | (with_reducible refine Kd.C_drewN ?_ _) | (with_reducible refine Kd.C_drew ?_))); (case side4 => exact HC1.out); rintro e w' ⟨rfl, ⟨nd, rfl⟩⟩))
                                    go_ret
                                    exact ⟨by first | rfl | (simp [errW_none, errW_some] <;> rfl) | (simp [*, errW_none, errW_some] <;> rfl), by repeat (first | (with_reducible first | exact HB.out | apply below_alloc | apply pw_below_drewN | apply below_drew1) | exact HB.out)⟩
                                  · replace c45 := Bool.eq_false_iff.mpr c45
                                    subst c45
                                    have H1 : (some false) = some r := by rw [if_neg (show ¬ (false = true) by decide)] at H; exact H
                                    clear H
                                    have H := H1
                                    clear H1
                                    obtain rfl := Option.some.inj H
                                    have q50 : ((l0.length : Int) : Int) ≤ ((y105.length : Int) : Int) := of_decide_eq_true (by first | (with_reducible assumption) | assumption)
                                    obtain ⟨i050, hi050, _, hsz50, _⟩ := info_parts info50
                                    have hroom50 : y105.length ≤ co22 := (Kd.R_reads' HO_5.out).2.1
                                    have hC50 : Kd.C k50 _ Ao22 y105.length y105 := (Kd.R_reads' HO_5.out).2.2
                                    have hcut50 := cut_to (P := Try.prog) 23 50 .i64 Try.underlying23 hi050 Ao22 y105.length co22 (l0.length : Int) (of_decide_eq_true (by first | (with_reducible assumption) | assumption)) q50 hroom50
                                    have hr50 := Kd.C_take (m := ((l0.length : Int) : Int).toNat) hC50 (by omega)
                                    have hy50 : y137.length = ((l0.length : Int) : Int).toNat := (by rw [Ny137.out, List.length_take]; omega)
                                    rw [← Ny137.out] at hr50
                                    rw [← hy50] at hcut50
                                    have HR140 := Aside0.mk hr50
                                    have HC140 := Aside0.mk (show y137.length ≤ co22 from by omega)
                                    clear hr50 hC50 hroom50 hi050 hsz50
                                    have KY50 := Aside0.mk hy50
                                    clear hy50
                                    have KL50 := Aside0.mk (show ((l0.length : Int) : Int).toNat ≤ y105.length from by omega)
                                    replace q50 := eq_true q50
                                    go_wp2_with (first | ((with_reducible refine gate_callee (f := 24) rfl ?_); refine goesL_ (some 101) rfl rfl Try.func24 (by kernel_rfl) rfl #[.slice Ao22 y137.length co22] rfl (by (try simp only [List.map_toArray, List.map_cons, List.map_nil]); first | done | rfl | (simp only [List.length_drop, List.length_take]; rfl)) ?_; (with_reducible refine (aumbryref04_Print.calls kj15 _ _ y137 t141 t142 _ ?side1 ?side2 A38.out).mono ?_); (case side1 => repeat (first | exact (by repeat (first | (with_reducible exact HR140.out) | (with_reducible refine Kd.C_alloc ?_ _) | (with_reducible refine Kd.C_drewN ?_ _) | (with_reducible refine Kd.C_drew ?_) | exact HR140.out)) | (with_reducible refine Kd.C_alloc ?_ _) | (with_reducible refine Kd.C_drewN ?_ _) | (with_reducible refine Kd.C_drew ?_))); (case side2 => exact HC140.out); rintro e w51 ⟨rfl, hb⟩; refine ⟨_, rfl, ?_⟩; have n0_ := Aside0.mk (Kd.R_below (by (with_reducible repeat (first | apply Kd.R_alloc | apply Kd.R_drewN | apply Kd.R_drew)); exact HO_5.out) hb); have n1_ := Aside0.mk (Kd.S_below (by (with_reducible repeat (first | apply Kd.S_alloc | apply Kd.S_drewN | apply Kd.S_drew)); exact HO_6.out) hb); have n2_ := Aside0.mk (Kd.C_below (by repeat (first | (with_reducible exact HR114.out) | (with_reducible refine Kd.C_alloc ?_ _) | (with_reducible refine Kd.C_drewN ?_ _) | (with_reducible refine Kd.C_drew ?_) | exact HR114.out)) hb); have n3_ := Aside0.mk (Kd.C_below (by repeat (first | (with_reducible exact HR122.out) | (with_reducible refine Kd.C_alloc ?_ _) | (with_reducible refine Kd.C_drewN ?_ _) | (with_reducible refine Kd.C_drew ?_) | exact HR122.out)) hb); have n4_ := Aside0.mk (Kd.C_below (by repeat (first | (with_reducible exact HR140.out) | (with_reducible refine Kd.C_alloc ?_ _) | (with_reducible refine Kd.C_drewN ?_ _) | (with_reducible refine Kd.C_drew ?_) | exact HR140.out)) hb); have n5_ := Aside0.mk (below_step (by repeat (first | (with_reducible first | exact HB.out | apply below_alloc | apply pw_below_drewN | apply below_drew1) | exact HB.out)) hb); clear HO_5; clear HO_6; clear HR114; clear HR122; clear HR140; clear HB; have HO_5 := n0_; have HO_6 := n1_; have HR114 := n2_; have HR122 := n3_; have HR140 := n4_; have HB := n5_; clear n0_ n1_ n2_ n3_ n4_ n5_; (try clear hb); (try clear hb2); (try clear hk); (try clear hi); have p143 : 0 ≤ ((l0.length : Int) : Int) := of_decide_eq_true (by first | (with_reducible assumption) | assumption); have q143 : (l0.length : Int) < (y105.length : Int) := of_decide_eq_true (by first | (with_reducible assumption) | assumption); obtain ⟨ad143, e143, hx143_0, hx143_1⟩ := at_T50 (Kd.R_reads' HO_5.out).2.2 (l0.length : Int) p143 q143; cases e143; (try simp only [Go.IntWalk.toNatUp] at hx143_0); (try simp only [Go.IntWalk.toNatUp] at hx143_1); replace p143 := eq_true p143; replace q143 := eq_true q143; have q52 : ((l0.length : Int) : Int) ≤ ((y105.length : Int) : Int) := of_decide_eq_true (by first | (with_reducible assumption) | assumption); obtain ⟨i052, hi052, _, hsz52, _⟩ := info_parts info50; have hroom52 : y105.length ≤ co22 := (Kd.R_reads' HO_5.out).2.1; have hC52 : Kd.C k50 _ (some ad143) y105.length y105 := (Kd.R_reads' HO_5.out).2.2; (try clear hcut21); (try clear hcut24); (try clear hcut47); (try clear hcut49); (try clear hcut50); have hcut52 := cut_to (P := Try.prog) 23 50 .i64 Try.underlying23 hi052 (some ad143) y105.length co22 (l0.length : Int) (of_decide_eq_true (by first | (with_reducible assumption) | assumption)) q52 hroom52; have hr52 := Kd.C_take (m := ((l0.length : Int) : Int).toNat) hC52 (by omega); have hy52 : y144.length = ((l0.length : Int) : Int).toNat := (by rw [Ny144.out, List.length_take]; omega); rw [← Ny144.out] at hr52; rw [← hy52] at hcut52; have HR147 := Aside0.mk hr52; have HC147 := Aside0.mk (show y144.length ≤ co22 from by omega); clear hr52 hC52 hroom52 hi052 hsz52; have KY52 := Aside0.mk hy52; clear hy52; have KL52 := Aside0.mk (show ((l0.length : Int) : Int).toNat ≤ y105.length from by omega); replace q52 := eq_true q52) | (go_at_call 16; (with_reducible refine (aumbryref04_Same.calls kj15 _ _ y144 _ _ l0 false _ ?side1 ?side2 ?side3 ?side4 A44.out).mono ?_); (case side1 => repeat (first | exact (by repeat (first | (with_reducible exact HR147.out) | (with_reducible refine Kd.C_alloc ?_ _) | (with_reducible refine Kd.C_drewN ?_ _) | (with_reducible refine Kd.C_drew ?_) | exact HR147.out)) | (with_reducible refine Kd.C_alloc ?_ _) | (with_reducible refine Kd.C_drewN ?_ _) | (with_reducible refine Kd.C_drew ?_))); (case side2 => exact HC147.out); (case side3 => repeat (first | exact (Kd.C_below HR0.out HB.out) | (with_reducible refine Kd.C_alloc ?_ _) | (with_reducible refine Kd.C_drewN ?_ _) | (with_reducible refine Kd.C_drew ?_))); (case side4 => exact HC0.out); rintro e w' ⟨rfl, ⟨nd, rfl⟩⟩))
                                    go_ret
                                    exact ⟨by first | rfl | (simp [errW_none, errW_some] <;> rfl) | (simp [*, errW_none, errW_some] <;> rfl), by repeat (first | (with_reducible first | exact HB.out | apply below_alloc | apply pw_below_drewN | apply below_drew1) | exact HB.out)⟩
                                · rw [if_neg c41] at H
                                  have c41b0 : (((rd_T50 y105 (l0.length : Int)).f0).toList == ([107, 101, 101, 112] : List UInt8)) = false := beq_eq_false_iff_ne.mpr c41
                                  have c41b1 : (((rd_T50 y105 (l0.length : Int)).f0).toList != ([107, 101, 101, 112] : List UInt8)) = true := bne_iff_ne.mpr c41
                                  obtain rfl := Option.some.inj H
                                  have q53 : ((l0.length : Int) : Int) ≤ ((y105.length : Int) : Int) := of_decide_eq_true (by first | (with_reducible assumption) | assumption)
                                  obtain ⟨i053, hi053, _, hsz53, _⟩ := info_parts info50
                                  have hroom53 : y105.length ≤ co22 := (Kd.R_reads' HO_5.out).2.1
                                  have hC53 : Kd.C k50 _ Ao22 y105.length y105 := (Kd.R_reads' HO_5.out).2.2
                                  have hcut53 := cut_to (P := Try.prog) 23 50 .i64 Try.underlying23 hi053 Ao22 y105.length co22 (l0.length : Int) (of_decide_eq_true (by first | (with_reducible assumption) | assumption)) q53 hroom53
                                  have hr53 := Kd.C_take (m := ((l0.length : Int) : Int).toNat) hC53 (by omega)
                                  have hy53 : y137.length = ((l0.length : Int) : Int).toNat := (by rw [Ny137.out, List.length_take]; omega)
                                  rw [← Ny137.out] at hr53
                                  rw [← hy53] at hcut53
                                  have HR140 := Aside0.mk hr53
                                  have HC140 := Aside0.mk (show y137.length ≤ co22 from by omega)
                                  clear hr53 hC53 hroom53 hi053 hsz53
                                  have KY53 := Aside0.mk hy53
                                  clear hy53
                                  have KL53 := Aside0.mk (show ((l0.length : Int) : Int).toNat ≤ y105.length from by omega)
                                  replace q53 := eq_true q53
                                  go_wp2_with (first | ((with_reducible refine gate_callee (f := 24) rfl ?_); refine goesL_ (some 101) rfl rfl Try.func24 (by kernel_rfl) rfl #[.slice Ao22 y137.length co22] rfl (by (try simp only [List.map_toArray, List.map_cons, List.map_nil]); first | done | rfl | (simp only [List.length_drop, List.length_take]; rfl)) ?_; (with_reducible refine (aumbryref04_Print.calls kj15 _ _ y137 t141 t142 _ ?side1 ?side2 A38.out).mono ?_); (case side1 => repeat (first | exact (by repeat (first | (with_reducible exact HR140.out) | (with_reducible refine Kd.C_alloc ?_ _) | (with_reducible refine Kd.C_drewN ?_ _) | (with_reducible refine Kd.C_drew ?_) | exact HR140.out)) | (with_reducible refine Kd.C_alloc ?_ _) | (with_reducible refine Kd.C_drewN ?_ _) | (with_reducible refine Kd.C_drew ?_))); (case side2 => exact HC140.out); rintro e w54 ⟨rfl, hb⟩; refine ⟨_, rfl, ?_⟩; have n0_ := Aside0.mk (Kd.R_below (by (with_reducible repeat (first | apply Kd.R_alloc | apply Kd.R_drewN | apply Kd.R_drew)); exact HO_5.out) hb); have n1_ := Aside0.mk (Kd.S_below (by (with_reducible repeat (first | apply Kd.S_alloc | apply Kd.S_drewN | apply Kd.S_drew)); exact HO_6.out) hb); have n2_ := Aside0.mk (Kd.C_below (by repeat (first | (with_reducible exact HR114.out) | (with_reducible refine Kd.C_alloc ?_ _) | (with_reducible refine Kd.C_drewN ?_ _) | (with_reducible refine Kd.C_drew ?_) | exact HR114.out)) hb); have n3_ := Aside0.mk (Kd.C_below (by repeat (first | (with_reducible exact HR122.out) | (with_reducible refine Kd.C_alloc ?_ _) | (with_reducible refine Kd.C_drewN ?_ _) | (with_reducible refine Kd.C_drew ?_) | exact HR122.out)) hb); have n4_ := Aside0.mk (Kd.C_below (by repeat (first | (with_reducible exact HR140.out) | (with_reducible refine Kd.C_alloc ?_ _) | (with_reducible refine Kd.C_drewN ?_ _) | (with_reducible refine Kd.C_drew ?_) | exact HR140.out)) hb); have n5_ := Aside0.mk (below_step (by repeat (first | (with_reducible first | exact HB.out | apply below_alloc | apply pw_below_drewN | apply below_drew1) | exact HB.out)) hb); clear HO_5; clear HO_6; clear HR114; clear HR122; clear HR140; clear HB; have HO_5 := n0_; have HO_6 := n1_; have HR114 := n2_; have HR122 := n3_; have HR140 := n4_; have HB := n5_; clear n0_ n1_ n2_ n3_ n4_ n5_; (try clear hb); (try clear hb2); (try clear hk); (try clear hi); have p143 : 0 ≤ ((l0.length : Int) : Int) := of_decide_eq_true (by first | (with_reducible assumption) | assumption); have q143 : (l0.length : Int) < (y105.length : Int) := of_decide_eq_true (by first | (with_reducible assumption) | assumption); obtain ⟨ad143, e143, hx143_0, hx143_1⟩ := at_T50 (Kd.R_reads' HO_5.out).2.2 (l0.length : Int) p143 q143; cases e143; (try simp only [Go.IntWalk.toNatUp] at hx143_0); (try simp only [Go.IntWalk.toNatUp] at hx143_1); replace p143 := eq_true p143; replace q143 := eq_true q143))
                                  go_ret
                                  exact ⟨by first | rfl | (simp [errW_none, errW_some] <;> rfl) | (simp [*, errW_none, errW_some] <;> rfl), by repeat (first | (with_reducible first | exact HB.out | apply below_alloc | apply pw_below_drewN | apply below_drew1) | exact HB.out)⟩
                              · rw [if_neg c40] at H
                                exact absurd H (by simp)
                            · rw [if_neg c39] at H
                              have c39b0 : (t141.toList == t131.toList) = false := beq_eq_false_iff_ne.mpr c39
                              have c39b1 : (t141.toList != t131.toList) = true := bne_iff_ne.mpr c39
                              obtain rfl := Option.some.inj H
                              have q55 : ((l0.length : Int) : Int) ≤ ((y105.length : Int) : Int) := of_decide_eq_true (by first | (with_reducible assumption) | assumption)
                              obtain ⟨i055, hi055, _, hsz55, _⟩ := info_parts info50
                              have hroom55 : y105.length ≤ co22 := (Kd.R_reads' HO_5.out).2.1
                              have hC55 : Kd.C k50 _ Ao22 y105.length y105 := (Kd.R_reads' HO_5.out).2.2
                              have hcut55 := cut_to (P := Try.prog) 23 50 .i64 Try.underlying23 hi055 Ao22 y105.length co22 (l0.length : Int) (of_decide_eq_true (by first | (with_reducible assumption) | assumption)) q55 hroom55
                              have hr55 := Kd.C_take (m := ((l0.length : Int) : Int).toNat) hC55 (by omega)
                              have hy55 : y137.length = ((l0.length : Int) : Int).toNat := (by rw [Ny137.out, List.length_take]; omega)
                              rw [← Ny137.out] at hr55
                              rw [← hy55] at hcut55
                              have HR140 := Aside0.mk hr55
                              have HC140 := Aside0.mk (show y137.length ≤ co22 from by omega)
                              clear hr55 hC55 hroom55 hi055 hsz55
                              have KY55 := Aside0.mk hy55
                              clear hy55
                              have KL55 := Aside0.mk (show ((l0.length : Int) : Int).toNat ≤ y105.length from by omega)
                              replace q55 := eq_true q55
                              go_wp2_with (first | ((with_reducible refine gate_callee (f := 24) rfl ?_); refine goesL_ (some 101) rfl rfl Try.func24 (by kernel_rfl) rfl #[.slice Ao22 y137.length co22] rfl (by (try simp only [List.map_toArray, List.map_cons, List.map_nil]); first | done | rfl | (simp only [List.length_drop, List.length_take]; rfl)) ?_; (with_reducible refine (aumbryref04_Print.calls kj15 _ _ y137 t141 t142 _ ?side1 ?side2 A38.out).mono ?_); (case side1 => repeat (first | exact (by repeat (first | (with_reducible exact HR140.out) | (with_reducible refine Kd.C_alloc ?_ _) | (with_reducible refine Kd.C_drewN ?_ _) | (with_reducible refine Kd.C_drew ?_) | exact HR140.out)) | (with_reducible refine Kd.C_alloc ?_ _) | (with_reducible refine Kd.C_drewN ?_ _) | (with_reducible refine Kd.C_drew ?_))); (case side2 => exact HC140.out); rintro e w56 ⟨rfl, hb⟩; refine ⟨_, rfl, ?_⟩; have n0_ := Aside0.mk (Kd.R_below (by (with_reducible repeat (first | apply Kd.R_alloc | apply Kd.R_drewN | apply Kd.R_drew)); exact HO_5.out) hb); have n1_ := Aside0.mk (Kd.S_below (by (with_reducible repeat (first | apply Kd.S_alloc | apply Kd.S_drewN | apply Kd.S_drew)); exact HO_6.out) hb); have n2_ := Aside0.mk (Kd.C_below (by repeat (first | (with_reducible exact HR114.out) | (with_reducible refine Kd.C_alloc ?_ _) | (with_reducible refine Kd.C_drewN ?_ _) | (with_reducible refine Kd.C_drew ?_) | exact HR114.out)) hb); have n3_ := Aside0.mk (Kd.C_below (by repeat (first | (with_reducible exact HR122.out) | (with_reducible refine Kd.C_alloc ?_ _) | (with_reducible refine Kd.C_drewN ?_ _) | (with_reducible refine Kd.C_drew ?_) | exact HR122.out)) hb); have n4_ := Aside0.mk (Kd.C_below (by repeat (first | (with_reducible exact HR140.out) | (with_reducible refine Kd.C_alloc ?_ _) | (with_reducible refine Kd.C_drewN ?_ _) | (with_reducible refine Kd.C_drew ?_) | exact HR140.out)) hb); have n5_ := Aside0.mk (below_step (by repeat (first | (with_reducible first | exact HB.out | apply below_alloc | apply pw_below_drewN | apply below_drew1) | exact HB.out)) hb); clear HO_5; clear HO_6; clear HR114; clear HR122; clear HR140; clear HB; have HO_5 := n0_; have HO_6 := n1_; have HR114 := n2_; have HR122 := n3_; have HR140 := n4_; have HB := n5_; clear n0_ n1_ n2_ n3_ n4_ n5_; (try clear hb); (try clear hb2); (try clear hk); (try clear hi)))
                              go_ret
                              exact ⟨by first | rfl | (simp [errW_none, errW_some] <;> rfl) | (simp [*, errW_none, errW_some] <;> rfl), by repeat (first | (with_reducible first | exact HB.out | apply below_alloc | apply pw_below_drewN | apply below_drew1) | exact HB.out)⟩
                          · rw [if_neg c37] at H
                            exact absurd H (by simp)
                        · rw [if_neg c36] at H
                          exact absurd H (by simp)
        · rw [if_neg c9] at H
          exact absurd H (by simp)
      · rw [if_neg c8] at H
        exact absurd H (by simp)
    · rw [if_neg c6] at H
      exact absurd H (by simp)
  · replace c4 := Bool.eq_false_iff.mpr c4
    subst c4
    have H1 : (some false) = some r := by rw [if_neg (show ¬ (false = true) by decide)] at H; exact H
    clear H
    have H := H1
    clear H1
    obtain rfl := Option.some.inj H
    go_enter Try.func8, Try.ntmps8
    go_wp2_with (first | ((with_reducible refine gate_callee (f := 10) rfl ?_); refine goesL_ (some 20) rfl rfl Try.func10 (by kernel_rfl) rfl #[] rfl (by (try simp only [List.map_toArray, List.map_cons, List.map_nil]); first | done | rfl | (simp only [List.length_drop, List.length_take]; rfl)) ?_; (with_reducible refine (aumbrylaw04_wakes.calls k  false _ A3.out).mono ?_); rintro e w57 ⟨rfl, hb⟩; refine ⟨_, rfl, ?_⟩; have n0_ := Aside0.mk (below_step (by repeat (first | (with_reducible first | exact HB.out | apply below_alloc | apply pw_below_drewN | apply below_drew1) | exact HB.out)) hb); clear HB; have HB := n0_; clear n0_; (try clear hb); (try clear hb2); (try clear hk); (try clear hi)))
    go_ret
    exact ⟨by first | rfl | (simp [errW_none, errW_some] <;> rfl) | (simp [*, errW_none, errW_some] <;> rfl), by repeat (first | (with_reducible first | exact HB.out | apply below_alloc | apply pw_below_drewN | apply below_drew1) | exact HB.out)⟩

end Go.Proofs.Ytcmnpjgmpgjbdaa.P

-- ==== Open
/- What came in and can be read as data, read as the print's kinds: for each kind one fact, put together by the types' shapes. -/
set_option linter.unusedVariables false
namespace Go.Proofs.Ytcmnpjgmpgjbdaa.Open
open Go.RowKit Go.Proofs.YtcmnpjgmpgjbdaaW.PrintWords Go.Proofs.Ytcmnpjgmpgjbdaa.Rows

structure Opens {α : Type} (P : Program) (t : TypeId) (d : Kd α) (Sz : α → Prop) (Bk : α → Nat) : Prop where
  cells : P.cellsOf t = d.sz
  go : ∀ {H : Type} {enc : TypeId × Value → H} {w : World} {base : Nat} {spare : Nat → Bool} {held : Bool} {n : Nat} {cs : List Value} {x : DataW H × List MemPlace},
    DataW.trod enc P w base spare held n t cs = some x → (∀ m ∈ x.1.weights P t, m ≤ reachBytes) → ∃ v : α, d.K w v cs ∧ Sz v ∧ Bk v ≤ uptoBulk x.1

theorem opens_int {P : Program} {t : TypeId} {k : IntKind} (ht : P.underlying t = some (.int k)) (hc : P.cellsOf t = 1) : Opens P t (Kd.int k) (fun a => (Lit.int k a).wf = true) (fun _ => 1) := by
  refine ⟨hc, fun h _ => ?_⟩
  obtain ⟨a, rfl, rfl, hw⟩ := DataW.trod_int ht h
  exact ⟨a, rfl, hw, by simp [uptoBulk]⟩

theorem opens_string {P : Program} {t : TypeId} (ht : P.underlying t = some .string) (hc : P.cellsOf t = 1) : Opens P t Kd.string (fun s => s.size ≤ 140737488351232) (fun s => s.size + 1) := by
  refine ⟨hc, fun h hw => ?_⟩
  obtain ⟨a, rfl, rfl, hs⟩ := DataW.trod_string ht h
  have hl : a.data.toList.length = a.size := data_length a
  refine ⟨a, rfl, ?_, ?_⟩
  · have := hw a.data.toList.length (by simp [DataW.weights])
    rw [hl] at this
    exact this
  · simp only [uptoBulk]
    omega

theorem mem_weightsAll {H : Type} {P : Program} {e : TypeId} {d : DataW H} : ∀ {l : List (DataW H)}, d ∈ l → ∀ {m : Nat}, m ∈ d.weights P e → m ∈ DataW.weightsAll P e l
  | a :: l, h, m, hm => by
    simp only [DataW.weightsAll, List.mem_append]
    rcases List.mem_cons.1 h with rfl | h
    · exact .inl hm
    · exact .inr (mem_weightsAll h hm)
  | [], h, _, _ => by cases h

def bulkAll {α : Type} (Bk : α → Nat) (l : List α) : Nat := (l.map Bk).sum

theorem bulk_all_le {H α : Type} (Bk : α → Nat) : ∀ (xs : List α) (ds : List (DataW H)), xs.length = ds.length → (∀ (i : Nat) x d, xs[i]? = some x → ds[i]? = some d → Bk x ≤ uptoBulk d) → bulkAll Bk xs ≤ uptoBulkAll ds
  | [], [], _, _ => by simp [bulkAll, uptoBulkAll]
  | x :: xs, d :: ds, hl, h => by
    have h0 := h 0 x d rfl rfl
    have h1 := bulk_all_le Bk xs ds (by simpa using hl) (fun i x' d' hx hd => h (i + 1) x' d' (by simpa using hx) (by simpa using hd))
    simp only [bulkAll, uptoBulkAll, List.map_cons, List.sum_cons] at h1 ⊢
    omega
  | [], _ :: _, hl, _ => by simp at hl
  | _ :: _, [], hl, _ => by simp at hl

theorem opens_slice {α : Type} {P : Program} {t e : TypeId} {d : Kd α} {Sz : α → Prop} {Bk : α → Nat} {b : Nat} (ht : P.underlying t = some (.slice e)) (hc : P.cellsOf t = 1) (hb : P.bytesOf e = b) (ho : Opens P e d Sz Bk) :
    Opens P t (Kd.slice e d) (fun l => l.length * b ≤ 140737488351232 ∧ ∀ x ∈ l, Sz x) (fun l => bulkAll Bk l + 1) := by
  refine ⟨hc, ?_⟩
  intro H enc w base spare held n cs x h hw
  rcases Go.Deep.open_slice ht h with ⟨rfl, rfl⟩ | ⟨a, len, cap, m, n', D, Pl, rfl, _, hl, hm, hmm, rfl, hx⟩
  · exact ⟨[], ⟨none, 0, rfl, Nat.le_refl _, Kd.C_nil d w⟩, ⟨by simp, by simp⟩, by simp [bulkAll, uptoBulk]⟩
  · have hlm : len ≤ m := by rw [hmm]; split <;> omega
    have hel : ∀ i, i < len → ∃ v : α, (∃ cs', w.cells? base (a.add (i * P.cellsOf e)) (P.cellsOf e) = some cs' ∧ d.K w v cs') ∧ Sz v ∧ Bk v ≤ uptoBulk (D i) := by
      intro i hi
      obtain ⟨cs', h1, h2⟩ := hx i (by omega)
      obtain ⟨v, hv, hs, hbk⟩ := ho.go h2 (fun m' hm' => hw m' (by
        simp only [DataW.weights, ht, List.mem_cons, List.mem_append]
        exact .inr (.inl (mem_weightsAll (List.mem_map.2 ⟨i, List.mem_range.2 hi, rfl⟩) hm'))))
      exact ⟨v, ⟨cs', h1, hv⟩, hs, hbk⟩
    have hex : ∃ l : List α, l.length = len ∧ ∀ (i : Nat) v, l[i]? = some v → (∃ cs', w.cells? base (a.add (i * P.cellsOf e)) (P.cellsOf e) = some cs' ∧ d.K w v cs') ∧ Sz v ∧ Bk v ≤ uptoBulk (D i) := by
      clear hx hw h hmm hlm hl hm
      induction len with
      | zero => exact ⟨[], rfl, fun i v hv => by simp at hv⟩
      | succ k ih =>
        obtain ⟨l, h1, h2⟩ := ih (fun i hi => hel i (by omega))
        obtain ⟨v, hv⟩ := hel k (by omega)
        refine ⟨l ++ [v], by simp [h1], fun i u hu => ?_⟩
        by_cases hi : i < l.length
        · rw [List.getElem?_append_left hi] at hu
          exact h2 i u hu
        · have hik : i = l.length := by
            have := (List.getElem?_eq_some_iff.1 hu).1
            simp at this
            omega
          subst hik
          simp at hu
          subst hu
          rw [h1]
          exact hv
    obtain ⟨l, hll, hlv⟩ := hex
    subst hll
    refine ⟨l, ⟨some a, cap, rfl, hl, rfl, ?_, fun hp => ⟨a, rfl, fun j v hj => ?_⟩⟩, ⟨?_, ?_⟩, ?_⟩
    · have : maxLen ≤ 9223372036854775807 := by decide
      omega
    · obtain ⟨⟨cs', h1, h2⟩, _, _⟩ := hlv j v hj
      refine ⟨cs', d.K_len h2, h2, fun i u hu => ?_⟩
      obtain ⟨_, hlen, hcell⟩ := World.cells?_some h1
      have hi : i < cs'.length := (List.getElem?_eq_some_iff.1 hu).1
      have hsz := d.K_len h2
      rw [ho.cells] at hcell hlen
      have := hcell i (by omega)
      rw [hu] at this
      rw [← this, add_add]
    · have := hw ((((List.range l.length).map D).length + ((List.range (m - l.length)).map fun j => D (l.length + j)).length) * P.bytesOf e) (by simp [DataW.weights, ht])
      simp only [List.length_map, List.length_range] at this
      rw [hb] at this
      have h3 : reachBytes = 140737488351232 := by decide
      rw [h3] at this
      have h4 : l.length * b ≤ (l.length + (m - l.length)) * b := Nat.mul_le_mul_right _ (by omega)
      omega
    · intro v hv
      obtain ⟨i, hi, rfl⟩ := List.mem_iff_getElem.1 hv
      exact (hlv i _ (List.getElem?_eq_getElem hi)).2.1
    · have := bulk_all_le Bk l ((List.range l.length).map D) (by simp) (fun i v dd hv hd => by
        have hi : i < l.length := (List.getElem?_eq_some_iff.1 hv).1
        simp [hi] at hd
        rw [← hd]
        exact (hlv i v hv).2.2)
      simp only [uptoBulk]
      omega

/-! Structs: the fields, one behind the other. -/
def offs (P : Program) : List TypeId → Nat → Nat
  | [], _ => 0
  | _, 0 => 0
  | t :: ts, i + 1 => P.cellsOf t + offs P ts i

structure OpensF {α : Type} (P : Program) (ts : List TypeId) (d : Kd α) (Sz : α → Prop) (Bk : α → Nat) : Prop where
  cells : (ts.map P.cellsOf).sum = d.sz
  go : ∀ {H : Type} {enc : TypeId × Value → H} {w : World} {base : Nat} {spare : Nat → Bool} {held : Bool} {n : Nat} {cs : List Value} {xs : List (DataW H × List MemPlace)},
    cs.length = d.sz → xs.length = ts.length → (∀ (i : Nat) t, ts[i]? = some t → DataW.trod enc P w base spare held n t ((cs.drop (offs P ts i)).take (P.cellsOf t)) = xs[i]?) →
    (∀ m ∈ DataW.weightsEach P ts (xs.map (·.1)), m ≤ reachBytes) → ∃ v : α, d.K w v cs ∧ Sz v ∧ Bk v ≤ uptoBulkAll (xs.map (·.1))

theorem opensF_one {α : Type} {P : Program} {t : TypeId} {d : Kd α} {Sz : α → Prop} {Bk : α → Nat} (ho : Opens P t d Sz Bk) : OpensF P [t] d Sz Bk := by
  refine ⟨by simp [ho.cells], fun {H enc w base spare held n cs xs} hl hx h hw => ?_⟩
  match xs, hx with
  | [y], _ =>
    have h0 := h 0 t rfl
    rw [show offs P [t] 0 = 0 from rfl, List.drop_zero, List.take_of_length_le (by rw [ho.cells]; omega)] at h0
    obtain ⟨v, h1, h2, h3⟩ := ho.go h0 (fun m hm => hw m (by simp [DataW.weightsEach, hm]))
    exact ⟨v, h1, h2, by simpa [uptoBulkAll] using h3⟩

theorem opensF_cons {α β : Type} {P : Program} {t : TypeId} {ts : List TypeId} {d : Kd α} {ds : Kd β} {Sz : α → Prop} {Bk : α → Nat} {Szs : β → Prop} {Bks : β → Nat} (ho : Opens P t d Sz Bk) (hs : OpensF P ts ds Szs Bks) :
    OpensF P (t :: ts) (Kd.pair d ds) (fun x => Sz x.1 ∧ Szs x.2) (fun x => Bk x.1 + Bks x.2) := by
  refine ⟨by simp [ho.cells, hs.cells, Kd.pair], fun {H enc w base spare held n cs xs} hl hx h hw => ?_⟩
  match xs, hx with
  | y :: ys, hx =>
    have hl' : cs.length = d.sz + ds.sz := hl
    have h0 := h 0 t rfl
    rw [show offs P (t :: ts) 0 = 0 from rfl, List.drop_zero, ho.cells] at h0
    obtain ⟨v, h1, h2, h3⟩ := ho.go h0 (fun m hm => hw m (by simp [DataW.weightsEach, hm]))
    obtain ⟨u, g1, g2, g3⟩ := hs.go (cs := cs.drop d.sz) (xs := ys) (enc := enc) (w := w) (base := base) (spare := spare) (held := held) (n := n) (by rw [List.length_drop]; omega) (by simpa using hx) (fun i t' ht' => by
      have := h (i + 1) t' (by simpa using ht')
      rw [show offs P (t :: ts) (i + 1) = P.cellsOf t + offs P ts i from rfl, ho.cells] at this
      rw [List.drop_drop]
      simpa using this) (fun m hm => hw m (by simp only [List.map_cons, DataW.weightsEach, List.mem_append]; exact .inr hm))
    refine ⟨(v, u), ⟨cs.take d.sz, cs.drop d.sz, (List.take_append_drop _ _).symm, h1, g1⟩, ⟨h2, g2⟩, ?_⟩
    simp only [List.map_cons, uptoBulkAll]
    omega

theorem opens_struct {α β : Type} {P : Program} {t : TypeId} {fs : Array Field} {ts : List TypeId} {d : Kd α} {f : β → α} {Sz : α → Prop} {Bk : α → Nat} (ht : P.underlying t = some (.struct fs)) (hts : fs.toList.map (·.type) = ts)
    (hoff : ∀ (i : Nat) fl, fs[i]? = some fl → fl.offset = offs P ts i) (hc : P.cellsOf t = d.sz) (ho : OpensF P ts d Sz Bk) (g : α → β) (hg : ∀ v, f (g v) = v) :
    Opens P t (Kd.iso d f) (fun x => Sz (f x)) (fun x => Bk (f x) + 1) := by
  refine ⟨hc, fun {H enc w base spare held n cs x} h hw => ?_⟩
  obtain ⟨xs, n', _, rfl, hl, hlen, hf⟩ := DataW.trod_struct ht h
  have hlt : ts.length = fs.size := by rw [← hts]; simp
  obtain ⟨v, h1, h2, h3⟩ := ho.go (cs := cs) (xs := xs) (enc := enc) (w := w) (base := base) (spare := spare) (held := held) (n := n') (by rw [hl, hc]) (by omega) (fun i t' ht' => by
    have hi : i < fs.size := by rw [← hlt]; exact (List.getElem?_eq_some_iff.1 ht').1
    have hfi : fs[i]? = some fs[i] := Array.getElem?_eq_getElem hi
    have := hf i fs[i] hfi
    rw [hoff i _ hfi] at this
    have he : fs[i].type = t' := by
      rw [← hts, List.getElem?_map, Array.getElem?_toList, hfi] at ht'
      simpa using ht'
    rw [he] at this
    exact this) (fun m hm => hw m (by simp only [DataW.weights, ht, hts]; exact hm))
  exact ⟨g v, by show d.K w (f (g v)) cs; rw [hg]; exact h1, by rw [hg]; exact h2, by rw [hg]; simp only [uptoBulk]; omega⟩

end Go.Proofs.Ytcmnpjgmpgjbdaa.Open

-- ==== PO
set_option linter.unusedVariables false
namespace Go.Proofs.Ytcmnpjgmpgjbdaa.P
open Go.RowKit Go.Proofs.YtcmnpjgmpgjbdaaW.PrintWords Go.Proofs.Ytcmnpjgmpgjbdaa.Open
def sz9 (s : ByteArray) : Prop := s.size ≤ 140737488351232
def bk9 (s : ByteArray) : Nat := s.size + 1
theorem op9 : Opens Try.prog 9 Kd.string sz9 bk9 := opens_string Try.underlying9 (by kernel_rfl)
def sz3 (a : Int) : Prop := (Lit.int .i64 a).wf = true
def bk3 (_ : Int) : Nat := 1
theorem op3 : Opens Try.prog 3 (Kd.int .i64) sz3 bk3 := opens_int Try.underlying3 (by kernel_rfl)
def sz50 (x : S50) : Prop := sz9 x.f0 ∧ sz3 x.f1
def bk50 (x : S50) : Nat := (bk9 x.f0 + bk3 x.f1) + 1
theorem op50 : Opens Try.prog 50 k50 sz50 bk50 := opens_struct (P := Try.prog) (ts := [9, 3]) (f := fun x : S50 => (x.f0, x.f1)) Try.underlying50 (by kernel_rfl) (fun i fl h => by
    match i, h with
    | 0, h => obtain rfl := Option.some.inj h; show (0 : Nat) = offs Try.prog [9, 3] 0; kernel_rfl
    | 1, h => obtain rfl := Option.some.inj h; show (1 : Nat) = offs Try.prog [9, 3] 1; kernel_rfl
    | i + 2, h => simp at h) (by kernel_rfl) (opensF_cons op9 (opensF_one op3)) (fun x => ⟨x.1, x.2⟩) (fun _ => rfl)
def sz23 (l : List (S50)) : Prop := l.length * 24 ≤ 140737488351232 ∧ ∀ x ∈ l, sz50 x
def bk23 (l : List (S50)) : Nat := bulkAll bk50 l + 1
theorem op23 : Opens Try.prog 23 (Kd.slice 50 k50) sz23 bk23 := opens_slice Try.underlying23 (by kernel_rfl) (by kernel_rfl) op50
def sz40 (l : List (List (S50))) : Prop := l.length * 24 ≤ 140737488351232 ∧ ∀ x ∈ l, sz23 x
def bk40 (l : List (List (S50))) : Nat := bulkAll bk23 l + 1
theorem op40 : Opens Try.prog 40 (Kd.slice 23 (Kd.slice 50 k50)) sz40 bk40 := opens_slice Try.underlying40 (by kernel_rfl) (by kernel_rfl) op23
end Go.Proofs.Ytcmnpjgmpgjbdaa.P

-- ==== PS8
namespace Go.Proofs.Ytcmnpjgmpgjbdaa.P
open Go.RowKit Go.Proofs.YtcmnpjgmpgjbdaaW.PrintWords
def aumbrylaw04_TermOwn.Pure : Prop := ∀ (l0 : List (S50)) (l1 : List (List (S50))), sz23 l0 → sz40 l1 → ∃ k, aumbrylaw04_TermOwn.f k l0 l1 = some true
end Go.Proofs.Ytcmnpjgmpgjbdaa.P

-- ==== PLa
/- Plain laws, part a: what kind a text is: the program's way and the document's way come to one function. -/
namespace Go.Proofs.Ytcmnpjgmpgjbdaa.P
open Go.RowKit Go.Proofs.YtcmnpjgmpgjbdaaW.PrintWords
set_option linter.unusedVariables false
set_option linter.unusedSimpArgs false

theorem wrap_up {i : Int} (h0 : 0 ≤ i) (h : i < 9223372036854775807) : wrap64 (i + 1) = i + 1 := by
  unfold wrap64
  omega
theorem wrap_id {i : Int} (h0 : -9223372036854775808 ≤ i) (h : i ≤ 9223372036854775807) : wrap64 i = i := by
  unfold wrap64
  omega

theorem evIfp {α : Type} {c : Prop} [Decidable c] {f g : Nat → Option α} {r : α} (h : c) (hf : Ev f r) : Ev (fun k => if c then f k else g k) r :=
  Ev.congr (fun _ => if_pos h) hf
theorem evIfn {α : Type} {c : Prop} [Decidable c] {f g : Nat → Option α} {r : α} (h : ¬ c) (hf : Ev g r) : Ev (fun k => if c then f k else g k) r :=
  Ev.congr (fun _ => if_neg h) hf
theorem evIs {α : Type} {x : Option α} {a : α} (h : x = some a) : Ev (fun _ => x) a := ⟨0, fun _ _ => h⟩

def lowB (s : ByteArray) (i : Int) : Bool := (decide (97 ≤ bt s i) && decide (bt s i ≤ 122)) || (decide (48 ≤ bt s i) && decide (bt s i ≤ 57) && decide (0 < i))
def upB (s : ByteArray) (i : Int) : Bool := (decide (65 ≤ bt s i) && decide (bt s i ≤ 90)) || (decide (48 ≤ bt s i) && decide (bt s i ≤ 57) && decide (0 < i))
/-- p holds at i, i + 1, .. (d places). -/
def allN (p : Int → Bool) : Nat → Int → Bool
  | 0, _ => true
  | d + 1, i => p i && allN p d (i + 1)
theorem allN_congr {p q : Int → Bool} : ∀ (d : Nat) (i : Int), (∀ j, i ≤ j → j < i + d → p j = q j) → allN p d i = allN q d i
  | 0, _, _ => rfl
  | d + 1, i, h => by
    simp only [allN]
    rw [h i (Int.le_refl _) (by omega), allN_congr d (i + 1) (fun j h1 h2 => h j (by omega) (by omega))]
def kindS (s : ByteArray) : Int :=
  if s.size < 1 ∨ 8 < s.size then 0 else if allN (lowB s) s.size 0 = true then 1 else if allN (upB s) s.size 0 = true then 2 else 0

theorem kindS_bad {s : ByteArray} (h : s.size < 1 ∨ 8 < s.size) : kindS s = 0 := by
  unfold kindS
  exact if_pos h
theorem kindS_good {s : ByteArray} (h1 : 1 ≤ s.size) (h8 : s.size ≤ 8) : kindS s = (if allN (lowB s) s.size 0 = true then 1 else if allN (upB s) s.size 0 = true then 2 else 0) := by
  unfold kindS
  exact if_neg (by omega)
theorem kindS_size {s : ByteArray} (h : kindS s ≠ 0) : 1 ≤ s.size ∧ s.size ≤ 8 := by
  unfold kindS at h
  split at h
  · exact absurd rfl h
  · omega

/-! ### the document's -/
theorem refKind_step (k : Nat) (s : ByteArray) (a b : Bool) (i : Int) (h0 : 0 ≤ i) (h1 : i < (s.size : Int)) :
    aumbryref03_Kind.l0 (k + 1) s a b i = aumbryref03_Kind.l0 k s (a && lowB s i) (b && upB s i) (wrap64 (i + 1)) := by
  simp only [aumbryref03_Kind.l0]
  rw [if_pos h1, if_pos h0]
  unfold lowB upB
  generalize bt s i = c
  by_cases c1 : c ≥ 48 <;> by_cases c2 : c ≤ 57 <;> by_cases c3 : c ≥ 97 <;> by_cases c4 : c ≤ 122 <;> by_cases c5 : c ≥ 65 <;> by_cases c6 : c ≤ 90 <;> first | (exfalso; omega) | (cases a <;> cases b <;> simp [c1, c2, c3, c4, c5, c6])
theorem refKind_end (k : Nat) (s : ByteArray) (a b : Bool) (i : Int) (h1 : ¬ i < (s.size : Int)) :
    aumbryref03_Kind.l0 (k + 1) s a b i = some (if a = true then 1 else if b = true then 2 else 0) := by
  simp only [aumbryref03_Kind.l0]
  rw [if_neg h1]
  cases a <;> cases b <;> rfl
theorem refKind_loop (s : ByteArray) (hs : s.size ≤ 8) : ∀ (d : Nat) (k : Nat) (a b : Bool) (i : Int), 0 ≤ i → (s.size : Int) - i = d → d < k →
    aumbryref03_Kind.l0 k s a b i = some (if (a && allN (lowB s) d i) = true then 1 else if (b && allN (upB s) d i) = true then 2 else 0)
  | 0, k, a, b, i, h0, hd, hk => by
    obtain ⟨k, rfl⟩ : ∃ m, k = m + 1 := ⟨k - 1, by omega⟩
    rw [refKind_end k s a b i (by omega)]
    simp [allN]
  | d + 1, k, a, b, i, h0, hd, hk => by
    obtain ⟨k, rfl⟩ : ∃ m, k = m + 1 := ⟨k - 1, by omega⟩
    rw [refKind_step k s a b i h0 (by omega), wrap_up h0 (by omega), refKind_loop s hs d k _ _ (i + 1) (by omega) (by omega) (by omega)]
    simp [allN, Bool.and_assoc]
theorem ev_refKind (s : ByteArray) : Ev (fun k => aumbryref03_Kind.f k s) (kindS s) := by
  refine ⟨12, fun k hk => ?_⟩
  show aumbryref03_Kind.f k s = _
  unfold aumbryref03_Kind.f
  obtain ⟨k, rfl⟩ : ∃ m, k = m + 1 := ⟨k - 1, by omega⟩
  by_cases h1 : (s.size : Int) < 1
  · rw [if_pos h1]
    simp [aumbryref03_Kind.j0, kindS_bad (s := s) (.inl (by omega))]
  · rw [if_neg h1]
    simp only [aumbryref03_Kind.j0]
    by_cases h2 : (s.size : Int) > 8
    · rw [if_pos (by simpa using h2), kindS_bad (s := s) (.inr (by omega))]
    · rw [kindS_good (s := s) (by omega) (by omega), if_neg (by simpa using h2), refKind_loop s (by omega) s.size k true true 0 (by omega) (by omega) (by omega)]
      simp

/-! ### the program's -/
def signS (c : Int) : Int × Int := if 97 ≤ c ∧ c ≤ 122 then (1, 1) else if 65 ≤ c ∧ c ≤ 90 then (2, 2) else if 48 ≤ c ∧ c ≤ 57 then (0, 3) else (0, 0)
theorem sign_at (c : Int) (k : Nat) (hk : 2 ≤ k) : name_sign.f k c = some (signS c) := by
  obtain ⟨k, rfl⟩ : ∃ m, k = m + 2 := ⟨k - 2, by omega⟩
  unfold name_sign.f signS
  by_cases c1 : c ≥ 48 <;> by_cases c2 : c ≤ 57 <;> by_cases c3 : c ≥ 97 <;> by_cases c4 : c ≤ 122 <;> by_cases c5 : c ≥ 65 <;> by_cases c6 : c ≤ 90 <;> first | (exfalso; omega) | (simp [name_sign.j0, name_sign.j1, c1, c2, c3, c4, c5, c6])
theorem bits_and_ (a b : Int) (ha : a = 0 ∨ a = 1 ∨ a = 2 ∨ a = 3) (hb : b = 0 ∨ b = 1 ∨ b = 2) : (Go.bits .and .i64 a b = 0) ↔ (b = 0 ∨ (b = 1 ∧ (a = 0 ∨ a = 2)) ∨ (b = 2 ∧ (a = 0 ∨ a = 1))) := by
  rcases ha with rfl | rfl | rfl | rfl <;> rcases hb with rfl | rfl | rfl <;> decide
def goesB (s : ByteArray) (b : Int) (i : Int) : Bool := decide (¬ (Go.bits .and .i64 (signS (bt s i)).2 b = 0))
theorem kind_loop (s : ByteArray) (b : Int) (hs : s.size ≤ 8) : ∀ (d : Nat) (k : Nat) (i : Int), 0 ≤ i → (s.size : Int) - i = d → d + 2 < k →
    name_Kind.l0 k s b (s.size : Int) i = some (if allN (goesB s b) d i = true then b else 0)
  | 0, k, i, h0, hd, hk => by
    obtain ⟨k, rfl⟩ : ∃ m, k = m + 1 := ⟨k - 1, by omega⟩
    simp only [name_Kind.l0]
    rw [if_neg (by omega)]
    simp [allN]
  | d + 1, k, i, h0, hd, hk => by
    obtain ⟨k, rfl⟩ : ∃ m, k = m + 1 := ⟨k - 1, by omega⟩
    simp only [name_Kind.l0]
    rw [if_pos (by omega), if_pos h0, if_pos (by omega), sign_at _ _ (by omega)]
    simp only [Option.bind_some]
    by_cases hg : Go.bits .and .i64 (signS (bt s i)).2 b = 0
    · rw [if_pos hg]
      simp [allN, goesB, hg]
    · rw [if_neg hg, wrap_up h0 (by omega), kind_loop s b hs d k (i + 1) (by omega) (by omega) (by omega)]
      simp [allN, goesB, hg]
theorem signS_two (c : Int) : (signS c).2 = 0 ∨ (signS c).2 = 1 ∨ (signS c).2 = 2 ∨ (signS c).2 = 3 := by
  unfold signS
  repeat' split
  all_goals simp
theorem goes_one (s : ByteArray) (i : Int) (hi : 0 < i) : goesB s 1 i = lowB s i := by
  have h := bits_and_ (signS (bt s i)).2 1 (signS_two _) (by simp)
  unfold goesB lowB
  rw [Bool.eq_iff_iff]
  simp only [decide_eq_true_eq, h, Bool.or_eq_true, Bool.and_eq_true]
  unfold signS
  repeat' split
  all_goals simp
  all_goals omega
theorem goes_two (s : ByteArray) (i : Int) (hi : 0 < i) : goesB s 2 i = upB s i := by
  have h := bits_and_ (signS (bt s i)).2 2 (signS_two _) (by simp)
  unfold goesB upB
  rw [Bool.eq_iff_iff]
  simp only [decide_eq_true_eq, h, Bool.or_eq_true, Bool.and_eq_true]
  unfold signS
  repeat' split
  all_goals simp
  all_goals omega
theorem kind_eq (s : ByteArray) (h1 : 1 ≤ s.size) (h8 : s.size ≤ 8) : (if allN (goesB s (signS (bt s 0)).1) s.size 0 = true then (signS (bt s 0)).1 else 0) = kindS s := by
  rw [kindS_good h1 h8]
  obtain ⟨n, hn⟩ : ∃ n, s.size = n + 1 := ⟨s.size - 1, by omega⟩
  have e1 : allN (goesB s 1) n (0 + 1) = allN (lowB s) n (0 + 1) := allN_congr _ _ (fun j h1 _ => goes_one s j (by omega))
  have e2 : allN (goesB s 2) n (0 + 1) = allN (upB s) n (0 + 1) := allN_congr _ _ (fun j h1 _ => goes_two s j (by omega))
  by_cases hl : 97 ≤ bt s 0 ∧ bt s 0 ≤ 122
  · have hs : signS (bt s 0) = (1, 1) := by unfold signS; rw [if_pos hl]
    have g0 : goesB s 1 0 = true := by unfold goesB; rw [hs]; decide
    have l0 : lowB s 0 = true := by unfold lowB; simp [hl]
    have u0 : upB s 0 = false := by unfold upB; simp; omega
    simp only [hn, hs, allN, e1, g0, l0, u0, Bool.true_and, Bool.false_and]
    split <;> simp
  · by_cases hu : 65 ≤ bt s 0 ∧ bt s 0 ≤ 90
    · have hs : signS (bt s 0) = (2, 2) := by unfold signS; rw [if_neg hl, if_pos hu]
      have g0 : goesB s 2 0 = true := by unfold goesB; rw [hs]; decide
      have l0 : lowB s 0 = false := by unfold lowB; simp; omega
      have u0 : upB s 0 = true := by unfold upB; simp [hu]
      simp only [hn, hs, allN, e2, g0, l0, u0, Bool.true_and, Bool.false_and]
      simp
    · have hs : (signS (bt s 0)).1 = 0 := by unfold signS; rw [if_neg hl, if_neg hu]; split <;> rfl
      have l0 : lowB s 0 = false := by unfold lowB; simp; omega
      have u0 : upB s 0 = false := by unfold upB; simp; omega
      simp only [hn, hs, allN, l0, u0, Bool.true_and, Bool.false_and]
      simp
theorem toList_nil (s : ByteArray) : s.toList = ([] : List UInt8) ↔ s.size = 0 := by
  rw [ByteArray.toList_eq]
  constructor
  · intro h
    have := congrArg List.length h
    simpa [data_length] using this
  · intro h
    apply List.eq_nil_of_length_eq_zero
    rw [data_length]
    exact h
theorem ev_kind (s : ByteArray) : Ev (fun k => name_Kind.f k s) (kindS s) := by
  refine ⟨16, fun k hk => ?_⟩
  show name_Kind.f k s = _
  unfold name_Kind.f
  obtain ⟨k, rfl⟩ : ∃ m, k = m + 1 := ⟨k - 1, by omega⟩
  by_cases h1 : s.toList = ([] : List UInt8)
  · rw [if_pos h1]
    have := (toList_nil s).1 h1
    simp [name_Kind.j0, kindS_bad (s := s) (.inl (by omega))]
  · have h1' : s.size ≠ 0 := fun h => h1 ((toList_nil s).2 h)
    rw [if_neg h1]
    simp only [name_Kind.j0]
    by_cases h2 : (s.size : Int) > 8
    · rw [if_pos (by simpa using h2), kindS_bad (s := s) (.inr (by omega))]
    · rw [if_neg (by simpa using h2), if_pos (by omega), sign_at _ _ (by omega)]
      simp only [Option.bind_some]
      rw [kind_loop s _ (by omega) s.size k 0 (by omega) (by omega) (by omega), kind_eq s (by omega) (by omega)]
end Go.Proofs.Ytcmnpjgmpgjbdaa.P

-- ==== PLb
/- Plain laws, part b: a list of cells as terms one behind the other; whether it is a term (both ways come to one function). -/
namespace Go.Proofs.Ytcmnpjgmpgjbdaa.P
open Go.RowKit Go.Proofs.YtcmnpjgmpgjbdaaW.PrintWords
set_option linter.unusedVariables false
set_option linter.unusedSimpArgs false

abbrev Cel := S50
instance celEq : DecidableEq Cel := fun a b =>
  if h : a.f0 = b.f0 ∧ a.f1 = b.f1 then isTrue (by cases a; cases b; simp only at h; rw [h.1, h.2]) else isFalse (fun e => h (by rw [e]; exact ⟨rfl, rfl⟩))
theorem drop_cons {α : Type} {t : List α} {n : Nat} {c : α} {s : List α} (h : t.drop n = c :: s) : n < t.length ∧ (∀ d, t.getD n d = c) ∧ t.drop (n + 1) = s := by
  have h1 : n < t.length := by
    rcases Nat.lt_or_ge n t.length with h1 | h1
    · exact h1
    · rw [List.drop_eq_nil_of_le h1] at h
      cases h
  rw [List.drop_eq_getElem_cons h1] at h
  injection h with h2 h3
  exact ⟨h1, fun d => by rw [List.getD_eq_getElem?_getD, List.getElem?_eq_getElem h1]; exact h2, h3⟩
theorem drop_nil_len {α : Type} {t : List α} {n : Nat} (hn : n ≤ t.length) (h : t.drop n = []) : n = t.length := by
  have := congrArg List.length h
  simp at this
  omega
theorem rd_cel {t : List Cel} {n : Nat} {c : Cel} {s : List Cel} (h : t.drop n = c :: s) : rd_T50 t (n : Int) = c := by
  unfold rd_T50
  exact (drop_cons h).2.1 _

def ar (c : Cel) : Nat := c.f1.toNat
def cellErr (c : Cel) : Int := if kindS c.f0 = 0 then 4 else if c.f1 < 0 then 5 else if c.f1 > 4 then 5 else if kindS c.f0 = 2 then (if c.f1 > 0 then 5 else 0) else 0
def errs : List Cel → Int
  | [] => 0
  | c :: l => if cellErr c = 0 then errs l else cellErr c
/-- What is left behind the first n terms. -/
def segN : List Cel → Nat → Option (List Cel)
  | l, 0 => some l
  | [], _ + 1 => none
  | c :: l, n + 1 => segN l (n + ar c)
def checkS (t : List Cel) : Int := if t.length > 64 then 6 else if errs t = 0 then (if segN t 1 = some [] then 0 else 3) else errs t

theorem segN_zero (l : List Cel) : segN l 0 = some l := by cases l <;> rfl
theorem segN_add : ∀ (l : List Cel) (a b : Nat), segN l (a + b) = (segN l a).bind fun r => segN r b
  | l, 0, b => by rw [segN_zero]; simp
  | [], a + 1, b => by rw [show a + 1 + b = (a + b) + 1 by omega]; rfl
  | c :: l, a + 1, b => by
    rw [show a + 1 + b = (a + b) + 1 by omega]
    show segN l (a + b + ar c) = (segN l (a + ar c)).bind _
    rw [show a + b + ar c = (a + ar c) + b by omega]
    exact segN_add l (a + ar c) b
theorem segN_len : ∀ {l r : List Cel} {n : Nat}, segN l n = some r → r.length ≤ l.length ∧ (0 < n → r.length < l.length)
  | l, r, 0, h => by
    rw [segN_zero] at h
    injection h with h
    subst h
    exact ⟨Nat.le_refl _, fun h => absurd h (by omega)⟩
  | [], r, n + 1, h => by cases h
  | c :: l, r, n + 1, h => by
    have := (segN_len (l := l) (r := r) (n := n + ar c) h).1
    simp only [List.length_cons]
    exact ⟨by omega, fun _ => by omega⟩
theorem segN_suffix : ∀ {l r : List Cel} {n : Nat}, segN l n = some r → ∃ m, m ≤ l.length ∧ l.drop m = r
  | l, r, 0, h => by
    rw [segN_zero] at h
    injection h with h
    exact ⟨0, by omega, h⟩
  | [], r, n + 1, h => by cases h
  | c :: l, r, n + 1, h => by
    obtain ⟨m, h1, h2⟩ := segN_suffix (l := l) (r := r) (n := n + ar c) h
    exact ⟨m + 1, by simp; omega, h2⟩

/-- What the cells of a term that is right are. -/
structure Okc (c : Cel) : Prop where
  kind : kindS c.f0 ≠ 0
  lo : 0 ≤ c.f1
  hi : c.f1 ≤ 4
  var : kindS c.f0 = 2 → c.f1 = 0
theorem okc_of {c : Cel} (h : cellErr c = 0) : Okc c := by
  unfold cellErr at h
  by_cases h1 : kindS c.f0 = 0
  · rw [if_pos h1] at h; cases h
  · rw [if_neg h1] at h
    by_cases h2 : c.f1 < 0
    · rw [if_pos h2] at h; cases h
    · rw [if_neg h2] at h
      by_cases h3 : c.f1 > 4
      · rw [if_pos h3] at h; cases h
      · rw [if_neg h3] at h
        refine ⟨h1, by omega, by omega, fun hk => ?_⟩
        rw [if_pos hk] at h
        by_cases h4 : c.f1 > 0
        · rw [if_pos h4] at h; cases h
        · omega
theorem errs_ok : ∀ {l : List Cel}, errs l = 0 → ∀ c ∈ l, Okc c
  | [], _, _, h => by cases h
  | a :: l, h, c, hc => by
    unfold errs at h
    by_cases h1 : cellErr a = 0
    · rw [if_pos h1] at h
      rcases List.mem_cons.1 hc with rfl | hc
      · exact okc_of h1
      · exact errs_ok h c hc
    · rw [if_neg h1] at h
      exact absurd h h1
/-! ### the program's: behind, Check -/
theorem ev_cell (c : Cel) : Ev (fun k => term_cell.f k c.f0 c.f1) (cellErr c) := by
  unfold term_cell.f
  refine Ev.bind (ev_kind c.f0) ?_
  refine Ev.congr (f := fun _ => some (cellErr c)) (fun k => ?_) (Ev.now _)
  unfold cellErr
  simp only [apply_ite some]
/-- The place behind n terms that begin at 'at'; -1: they have no end. -/
def behS (t : List Cel) (a n : Nat) : Int := match segN (t.drop a) n with
  | none => -1
  | some r => ((t.length - r.length : Nat) : Int)
theorem ev_behind_loop (t : List Cel) (ht : t.length ≤ 64) (hok : ∀ c ∈ t, Okc c) : ∀ (s : List Cel) (a n : Nat), a ≤ t.length → t.drop a = s → n ≤ 1 + 4 * a →
    Ev (fun k => term_behind.l0 k t (a : Int) (n : Int)) (behS t a n)
  | s, a, 0, ha, hs, hn => by
    refine Ev.step (f := fun _ => some (a : Int)) (fun k => by simp only [term_behind.l0]; rw [if_neg (by omega)]) ?_
    have : behS t a 0 = (a : Int) := by
      unfold behS
      rw [segN_zero]
      simp only [List.length_drop]
      omega
    rw [this]
    exact Ev.now _
  | [], a, n + 1, ha, hs, hn => by
    have hl := drop_nil_len ha hs
    refine Ev.step (f := fun _ => some (-1 : Int)) (fun k => by simp only [term_behind.l0]; rw [if_pos (by omega), if_pos (by omega)]) ?_
    have : behS t a (n + 1) = -1 := by
      unfold behS
      rw [hs]
      rfl
    rw [this]
    exact Ev.now _
  | c :: s, a, n + 1, ha, hs, hn => by
    obtain ⟨h1, h2, h3⟩ := drop_cons hs
    have hc : Okc c := hok c (List.mem_of_mem_drop (hs ▸ List.mem_cons_self ..))
    have har : (ar c : Int) = c.f1 := by unfold ar; have := hc.lo; omega
    have hh := hc.hi
    have hl0 := hc.lo
    refine Ev.step (f := fun k => term_behind.l0 k t ((a + 1 : Nat) : Int) ((n + ar c : Nat) : Int)) (fun k => ?_) ?_
    · simp only [term_behind.l0]
      rw [if_pos (by omega), if_neg (by omega), if_pos (by omega), if_pos (by omega), rd_cel hs, wrap_up (by omega) (by omega)]
      have e : wrap64 (((n + 1 : Nat) : Int) + wrap64 (c.f1 - 1)) = ((n + ar c : Nat) : Int) := by
        rw [wrap_id (i := c.f1 - 1) (by omega) (by omega), wrap_id (by omega) (by omega)]
        omega
      rw [e]
      rfl
    · have : behS t a (n + 1) = behS t (a + 1) (n + ar c) := by
        unfold behS
        rw [hs, h3]
        rfl
      rw [this]
      exact ev_behind_loop t ht hok s (a + 1) (n + ar c) (by omega) h3 (by omega)
theorem ev_behind (t : List Cel) (ht : t.length ≤ 64) (hok : ∀ c ∈ t, Okc c) (a : Nat) (ha : a ≤ t.length) : Ev (fun k => term_behind.f k t (a : Int)) (behS t a 1) := by
  unfold term_behind.f
  exact ev_behind_loop t ht hok _ a 1 ha rfl (by omega)
theorem behS_whole (t : List Cel) : (behS t 0 1 = (t.length : Int)) ↔ segN t 1 = some [] := by
  unfold behS
  rw [List.drop_zero]
  cases h : segN t 1 with
  | none => simp
  | some r =>
    have := segN_len h
    simp only [Option.some.injEq]
    constructor
    · intro h1
      apply List.eq_nil_of_length_eq_zero
      omega
    · rintro rfl
      simp
theorem ev_check_loop (t : List Cel) (ht : t.length ≤ 64) : ∀ (s : List Cel) (a : Nat), a ≤ t.length → t.drop a = s → (∀ c ∈ t.take a, Okc c) →
    Ev (fun k => term_Check.l0 k t t (t.length : Int) (a : Int)) (if errs s = 0 then (if segN t 1 = some [] then 0 else 3) else errs s)
  | [], a, ha, hs, hok => by
    have hl := drop_nil_len ha hs
    rw [hl, List.take_length] at hok
    refine Ev.step (f := fun k => (term_behind.f k t 0).bind fun r => (if r = (t.length : Int) then (some 0) else (some 3))) (fun k => by simp only [term_Check.l0]; rw [if_neg (by omega)]) ?_
    refine Ev.bind (ev_behind t ht hok 0 (by omega)) ?_
    refine Ev.congr (f := fun _ => some (if segN t 1 = some [] then 0 else 3)) (fun k => ?_) (Ev.now _)
    by_cases h : segN t 1 = some []
    · rw [if_pos ((behS_whole t).2 h), if_pos h]
    · rw [if_neg (fun h' => h ((behS_whole t).1 h')), if_neg h]
  | c :: s, a, ha, hs, hok => by
    obtain ⟨h1, h2, h3⟩ := drop_cons hs
    refine Ev.step (f := fun k => (term_cell.f k c.f0 c.f1).bind fun e => (if e = 0 then (term_Check.l0 k t t (t.length : Int) ((a + 1 : Nat) : Int)) else (some e))) (fun k => ?_) ?_
    · simp only [term_Check.l0]
      rw [if_pos (by omega), if_pos (by omega), if_pos (by omega), rd_cel hs, wrap_up (by omega) (by omega)]
      rfl
    · refine Ev.bind (ev_cell c) ?_
      by_cases he : cellErr c = 0
      · refine Ev.congr (f := fun k => term_Check.l0 k t t (t.length : Int) ((a + 1 : Nat) : Int)) (fun k => by rw [if_pos he]) ?_
        have : errs (c :: s) = errs s := by simp only [errs]; rw [if_pos he]
        rw [this]
        refine ev_check_loop t ht s (a + 1) (by omega) h3 (fun x hx => ?_)
        rw [List.take_succ_eq_append_getElem h1] at hx
        rcases List.mem_append.1 hx with hx | hx
        · exact hok x hx
        · have hce : t[a] = c := by have := h2 c; rw [List.getD_eq_getElem?_getD, List.getElem?_eq_getElem h1] at this; exact this
          rw [List.mem_singleton.1 hx, hce]
          exact okc_of he
      · refine Ev.congr (f := fun _ => some (cellErr c)) (fun k => by rw [if_neg he]) ?_
        have : errs (c :: s) = cellErr c := by simp only [errs]; rw [if_neg he]
        rw [this, if_neg he]
        exact Ev.now _
theorem ev_check (t : List Cel) : Ev (fun k => term_Check.f k t) (checkS t) := by
  unfold term_Check.f checkS
  by_cases h : t.length > 64
  · rw [if_pos h]
    exact Ev.congr (f := fun _ => some 6) (fun k => if_pos (by omega)) (Ev.now _)
  · rw [if_neg h]
    exact Ev.congr (f := fun k => term_Check.l0 k t t (t.length : Int) ((0 : Nat) : Int)) (fun k => if_neg (by omega)) (ev_check_loop t (by omega) t 0 (by omega) rfl (by simp))

/-! ### the document's: Behind, Check -/
theorem ev_refBehind_at : ∀ (d : Nat) (t : List Cel) (ht : t.length ≤ 64) (hok : ∀ c ∈ t, Okc c) (a : Nat), t.length - a = d → a ≤ t.length → Ev (fun k => aumbryref04_Behind.f k t (a : Int)) (behS t a 1) := by
  intro d
  induction d using Nat.strongRecOn with
  | _ d ih =>
  intro t ht hok a hd ha
  rcases hs : t.drop a with _ | ⟨c, s⟩
  · have hl := drop_nil_len ha hs
    refine Ev.step (f := fun k => aumbryref04_Behind.j0 k t (a : Int) true) (fun k => by simp only [aumbryref04_Behind.f]; rw [if_neg (by omega)]; congr 1; simp; omega) ?_
    refine Ev.step (f := fun k => some (-1)) (fun k => by simp only [aumbryref04_Behind.j0]; rfl) ?_
    have : behS t a 1 = -1 := by
      unfold behS
      rw [hs]
      rfl
    rw [this]
    exact Ev.now _
  · obtain ⟨h1, h2, h3⟩ := drop_cons hs
    have hc : Okc c := hok c (List.mem_of_mem_drop (hs ▸ List.mem_cons_self ..))
    have har : (ar c : Int) = c.f1 := by unfold ar; have := hc.lo; omega
    have hh := hc.hi
    have hl0 := hc.lo
    refine Ev.step (f := fun k => aumbryref04_Behind.j0 k t (a : Int) false) (fun k => by simp only [aumbryref04_Behind.f]; rw [if_neg (by omega)]; congr 1; simp; omega) ?_
    refine Ev.step (f := fun k => aumbryref04_Behind.l0 k t ((a + 1 : Nat) : Int) (ar c : Int) 0) (fun k => by
      simp only [aumbryref04_Behind.j0]
      rw [if_neg (by simp), if_pos (by omega), if_pos (by omega), rd_cel hs, wrap_up (by omega) (by omega), har]
      rfl) ?_
    have loop : ∀ (m : Nat) (b i : Nat), t.length - b < d → b ≤ t.length → i + m = ar c → Ev (fun k => aumbryref04_Behind.l0 k t (b : Int) (ar c : Int) (i : Int)) (behS t b m) := by
      intro m
      induction m with
      | zero =>
        intro b i hb hbl hi
        refine Ev.step (f := fun _ => some (b : Int)) (fun k => by simp only [aumbryref04_Behind.l0]; rw [if_neg (by omega)]) ?_
        have : behS t b 0 = (b : Int) := by
          unfold behS
          rw [segN_zero]
          simp only [List.length_drop]
          omega
        rw [this]
        exact Ev.now _
      | succ m ihm =>
        intro b i hb hbl hi
        refine Ev.step (f := fun k => (aumbryref04_Behind.f k t (b : Int)).bind fun r => aumbryref04_Behind.l0 k t r (ar c : Int) ((i + 1 : Nat) : Int)) (fun k => by
          simp only [aumbryref04_Behind.l0]
          rw [if_pos (by omega), if_pos (by omega), wrap_up (by omega) (by omega)]
          rfl) ?_
        refine Ev.bind (ih _ hb t ht hok b rfl hbl) ?_
        have hadd : segN (t.drop b) (m + 1) = (segN (t.drop b) 1).bind fun r => segN r m := by rw [show m + 1 = 1 + m by omega]; exact segN_add _ _ _
        cases hr : segN (t.drop b) 1 with
        | none =>
          have e1 : behS t b 1 = -1 := by unfold behS; rw [hr]
          have e2 : behS t b (m + 1) = -1 := by unfold behS; rw [hadd, hr]; rfl
          rw [e1, e2]
          refine Ev.step (f := fun _ => some (-1 : Int)) (fun k => ?_) (Ev.now _)
          simp only [aumbryref04_Behind.l0]
          split <;> simp
        | some r =>
          obtain ⟨q, hq1, hq2⟩ := segN_suffix hr
          rw [List.drop_drop] at hq2
          have hlen := segN_len hr
          simp only [List.length_drop] at hlen hq1
          have hrl : r.length = t.length - (b + q) := by rw [← hq2, List.length_drop]
          have e1 : behS t b 1 = ((b + q : Nat) : Int) := by unfold behS; rw [hr]; simp only; omega
          have e2 : behS t b (m + 1) = behS t (b + q) m := by unfold behS; rw [hadd, hr, hq2]; rfl
          rw [e1, e2]
          exact ihm (b + q) (i + 1) (by omega) (by omega) (by omega)
    have : behS t a 1 = behS t (a + 1) (ar c) := by
      unfold behS
      rw [hs, h3]
      show (match segN s (0 + ar c) with | none => (-1 : Int) | some r => _) = _
      rw [Nat.zero_add]
    rw [this]
    exact loop (ar c) (a + 1) 0 (by omega) (by omega) (by omega)
theorem ev_refBehind (t : List Cel) (ht : t.length ≤ 64) (hok : ∀ c ∈ t, Okc c) (a : Nat) (ha : a ≤ t.length) : Ev (fun k => aumbryref04_Behind.f k t (a : Int)) (behS t a 1) := ev_refBehind_at _ t ht hok a rfl ha
theorem ev_refCheck_loop (t : List Cel) (ht : t.length ≤ 64) : ∀ (s : List Cel) (a : Nat), a ≤ t.length → t.drop a = s → (∀ c ∈ t.take a, Okc c) →
    Ev (fun k => aumbryref04_Check.l0 k t (t.length : Int) (a : Int)) (if errs s = 0 then (if segN t 1 = some [] then 0 else 3) else errs s)
  | [], a, ha, hs, hok => by
    have hl := drop_nil_len ha hs
    rw [hl, List.take_length] at hok
    refine Ev.step (f := fun k => (aumbryref04_Behind.f k t 0).bind fun r => (if r = (t.length : Int) then (some 0) else (some 3))) (fun k => by simp only [aumbryref04_Check.l0]; rw [if_neg (by omega)]) ?_
    refine Ev.bind (ev_refBehind t ht hok 0 (by omega)) ?_
    refine Ev.congr (f := fun _ => some (if segN t 1 = some [] then 0 else 3)) (fun k => ?_) (Ev.now _)
    by_cases h : segN t 1 = some []
    · rw [if_pos ((behS_whole t).2 h), if_pos h]
    · rw [if_neg (fun h' => h ((behS_whole t).1 h')), if_neg h]
  | c :: s, a, ha, hs, hok => by
    obtain ⟨h1, h2, h3⟩ := drop_cons hs
    refine Ev.step (f := fun k => (aumbryref03_Kind.f k c.f0).bind fun e => (if e = 0 then (some 4) else (if c.f1 < 0 then (some 5) else (if c.f1 > 4 then (some 5) else (if e = 2 then (if c.f1 = 0 then (aumbryref04_Check.l0 k t (t.length : Int) ((a + 1 : Nat) : Int)) else (some 5)) else (aumbryref04_Check.l0 k t (t.length : Int) ((a + 1 : Nat) : Int))))))) (fun k => ?_) ?_
    · simp only [aumbryref04_Check.l0]
      rw [if_pos (by omega), if_pos (by omega), if_pos (by omega), rd_cel hs, wrap_up (by omega) (by omega)]
      rfl
    · refine Ev.bind (ev_refKind c.f0) ?_
      by_cases he : cellErr c = 0
      · have ho := okc_of he
        have h4 := ho.hi
        have h0 := ho.lo
        refine Ev.congr (f := fun k => aumbryref04_Check.l0 k t (t.length : Int) ((a + 1 : Nat) : Int)) (fun k => ?_) ?_
        · rw [if_neg ho.kind, if_neg (by omega), if_neg (by omega)]
          by_cases hv : kindS c.f0 = 2
          · rw [if_pos hv, if_pos (ho.var hv)]
          · rw [if_neg hv]
        have : errs (c :: s) = errs s := by simp only [errs]; rw [if_pos he]
        rw [this]
        refine ev_refCheck_loop t ht s (a + 1) (by omega) h3 (fun x hx => ?_)
        rw [List.take_succ_eq_append_getElem h1] at hx
        rcases List.mem_append.1 hx with hx | hx
        · exact hok x hx
        · have hce : t[a] = c := by have := h2 c; rw [List.getD_eq_getElem?_getD, List.getElem?_eq_getElem h1] at this; exact this
          rw [List.mem_singleton.1 hx, hce]
          exact ho
      · refine Ev.congr (f := fun _ => some (cellErr c)) (fun k => ?_) ?_
        · unfold cellErr at he ⊢
          by_cases e1 : kindS c.f0 = 0
          · rw [if_pos e1, if_pos e1]
          · rw [if_neg e1] at he
            rw [if_neg e1, if_neg e1]
            by_cases e2 : c.f1 < 0
            · rw [if_pos e2, if_pos e2]
            · rw [if_neg e2] at he
              rw [if_neg e2, if_neg e2]
              by_cases e3 : c.f1 > 4
              · rw [if_pos e3, if_pos e3]
              · rw [if_neg e3] at he
                rw [if_neg e3, if_neg e3]
                by_cases e4 : kindS c.f0 = 2
                · rw [if_pos e4] at he
                  rw [if_pos e4, if_pos e4]
                  by_cases e5 : c.f1 > 0
                  · rw [if_pos e5, if_neg (by omega)]
                  · rw [if_neg e5] at he
                    exact absurd rfl he
                · rw [if_neg e4] at he
                  exact absurd rfl he
        · have : errs (c :: s) = cellErr c := by simp only [errs]; rw [if_neg he]
          rw [this, if_neg he]
          exact Ev.now _
theorem ev_refCheck (t : List Cel) : Ev (fun k => aumbryref04_Check.f k t) (checkS t) := by
  unfold aumbryref04_Check.f checkS
  by_cases h : t.length > 64
  · rw [if_pos h]
    exact Ev.congr (f := fun _ => some 6) (fun k => if_pos (by omega)) (Ev.now _)
  · rw [if_neg h]
    exact Ev.congr (f := fun k => aumbryref04_Check.l0 k t (t.length : Int) ((0 : Nat) : Int)) (fun k => if_neg (by omega)) (ev_refCheck_loop t (by omega) t 0 (by omega) rfl (by simp))
end Go.Proofs.Ytcmnpjgmpgjbdaa.P

-- ==== PLs
/- Plain laws: lists of cells as terms, taken apart (for chapters without match). -/
namespace Go.Proofs.Ytcmnpjgmpgjbdaa.P
open Go.RowKit Go.Proofs.YtcmnpjgmpgjbdaaW.PrintWords
set_option linter.unusedVariables false
set_option linter.unusedSimpArgs false

/-- The first term of a list. -/
def fstT (t r : List Cel) : List Cel := t.take (t.length - r.length)
theorem segN_append : ∀ {l r : List Cel} {n : Nat} (q : List Cel), segN l n = some r → segN (l ++ q) n = some (r ++ q)
  | l, r, 0, q, h => by
    rw [segN_zero] at h ⊢
    injection h with h
    rw [h]
  | [], r, n + 1, q, h => by cases h
  | c :: l, r, n + 1, q, h => segN_append (l := l) (r := r) (n := n + ar c) q h
theorem segN_split {t : List Cel} {n : Nat} (h : segN t (n + 1) = some []) : ∃ r, segN t 1 = some r ∧ segN r n = some [] := by
  rw [show n + 1 = 1 + n by omega, segN_add] at h
  cases hr : segN t 1 with
  | none => rw [hr] at h; cases h
  | some r => rw [hr] at h; exact ⟨r, rfl, h⟩
theorem segN_nil_pos {n : Nat} (h : segN [] n = some []) : n = 0 := by
  cases n with
  | zero => rfl
  | succ n => cases h
theorem segN_fst {t r : List Cel} {n : Nat} (h : segN t n = some r) : t = fstT t r ++ r ∧ segN (fstT t r) n = some [] := by
  obtain ⟨m, hm, hd⟩ := segN_suffix h
  have hl : r.length = t.length - m := by rw [← hd, List.length_drop]
  have he : fstT t r = t.take m := by unfold fstT; rw [show t.length - r.length = m by omega]
  rw [he]
  refine ⟨by rw [← hd]; exact (List.take_append_drop m t).symm, ?_⟩
  have : ∀ (l : List Cel) (n m : Nat), m ≤ l.length → segN l n = some (l.drop m) → segN (l.take m) n = some [] := by
    intro l
    induction l with
    | nil =>
      intro n m hm h
      have hm0 : m = 0 := by simpa using hm
      subst hm0
      simpa using h
    | cons c l ih =>
      intro n m hm h
      cases n with
      | zero =>
        rw [segN_zero] at h ⊢
        injection h with h
        have := congrArg List.length h
        simp only [List.length_cons, List.length_drop] at this
        have hm0 : m = 0 := by simp at hm; omega
        rw [hm0]
        rfl
      | succ n =>
        cases m with
        | zero =>
          have := segN_len h
          simp at this
        | succ m =>
          simp only [List.drop_succ_cons] at h
          exact ih (n + ar c) m (by simpa using hm) h
  rw [← hd] at h
  exact this t n m hm h

theorem bytes_eq (a b : ByteArray) : a.toList = b.toList ↔ a = b := by
  rw [ByteArray.toList_eq, ByteArray.toList_eq]
  constructor
  · intro h
    cases a; cases b
    simp only [ByteArray.mk.injEq]
    exact Array.toList_inj.1 h
  · intro h
    rw [h]
theorem cel_ne (c d : Cel) : ((!((c.f0.toList) == (d.f0.toList)) || (!(c.f1 == d.f1))) = true) ↔ c ≠ d := by
  cases c with | mk a b => cases d with | mk a' b' =>
  simp only [Bool.or_eq_true, Bool.not_eq_true', beq_eq_false_iff_ne, ne_eq, bytes_eq, S50.mk.injEq]
  by_cases h : a = a' <;> simp [h]
theorem ev_cels_loop (F : Nat → List Cel → List Cel → Int → Int → Option Bool)
    (hF : ∀ k x y n i, F (k + 1) x y n i = if i < n then (if 0 ≤ i then (if i < (x.length : Int) then (if i < (y.length : Int) then (if (!((((rd_T50 x i).f0).toList) == (((rd_T50 y i).f0).toList)) || (!(((rd_T50 x i).f1) == ((rd_T50 y i).f1)))) = true then (some false) else (F k x y n (wrap64 (i + 1)))) else (none)) else (none)) else (none)) else (some true))
    (x y : List Cel) (hl : x.length = y.length) (hb : x.length ≤ 9223372036854775806) : ∀ (s u : List Cel) (a : Nat), a ≤ x.length → x.drop a = s → y.drop a = u → Ev (fun k => F k x y (x.length : Int) (a : Int)) (decide (s = u))
  | [], u, a, ha, hs, hu => by
    have h1 := drop_nil_len ha hs
    have h2 : u = [] := by rw [← hu]; exact List.drop_eq_nil_of_le (by omega)
    refine Ev.step (f := fun _ => some true) (fun k => by rw [hF, if_neg (by omega)]) ?_
    rw [h2]
    exact Ev.now _
  | c :: s, u, a, ha, hs, hu => by
    obtain ⟨h1, _, h3⟩ := drop_cons hs
    rcases u with _ | ⟨d, u⟩
    · have := drop_nil_len (by omega) hu
      omega
    obtain ⟨_, _, h4⟩ := drop_cons hu
    by_cases hcd : c = d
    · refine Ev.step (f := fun k => F k x y (x.length : Int) ((a + 1 : Nat) : Int)) (fun k => by
        rw [hF, if_pos (by omega), if_pos (by omega), if_pos (by omega), if_pos (by omega), rd_cel hs, rd_cel hu, if_neg (fun h => (cel_ne c d).1 h hcd), wrap_up (by omega) (by omega)]
        rfl) ?_
      have : decide (c :: s = d :: u) = decide (s = u) := by subst hcd; simp
      rw [this]
      exact ev_cels_loop F hF x y hl hb s u (a + 1) (by omega) h3 h4
    · refine Ev.step (f := fun _ => some false) (fun k => by
        rw [hF, if_pos (by omega), if_pos (by omega), if_pos (by omega), if_pos (by omega), rd_cel hs, rd_cel hu, if_pos ((cel_ne c d).2 hcd)]) ?_
      have : decide (c :: s = d :: u) = false := by simp [hcd]
      rw [this]
      exact Ev.now _
theorem ev_refSame4 (x y : List Cel) (hb : x.length ≤ 9223372036854775806 ∨ y.length ≤ 9223372036854775806) : Ev (fun k => aumbryref04_Same.f k x y) (decide (x = y)) := by
  unfold aumbryref04_Same.f
  by_cases h : (x.length : Int) = (y.length : Int)
  · exact Ev.congr (f := fun k => aumbryref04_Same.l0 k x y (x.length : Int) ((0 : Nat) : Int)) (fun k => by rw [if_pos h]; rfl) (ev_cels_loop _ (fun k x y n i => rfl) x y (by omega) (by omega) x y 0 (by omega) rfl rfl)
  · refine Ev.congr (f := fun _ => some (decide (x = y))) (fun k => ?_) (Ev.now _)
    rw [if_neg h]
    congr 1
    rw [Eq.comm, decide_eq_false_iff_not]
    rintro rfl
    exact h rfl
theorem clone_at (x : List Cel) (h : x.length < 5864062014805) : api_Cell.f x = some x := by
  unfold api_Cell.f
  rw [if_pos (by simpa using h)]
  rfl
theorem copy_at (x : List Cel) (h : x.length < 5864062014805) : aumbryref04_Copy.f x = some x := by
  unfold aumbryref04_Copy.f
  rw [if_pos (by simpa using h)]
  rfl

theorem checkS_ok {t : List Cel} (h : checkS t = 0) : t.length ≤ 64 ∧ (∀ c ∈ t, Okc c) ∧ segN t 1 = some [] := by
  unfold checkS at h
  by_cases h1 : t.length > 64
  · rw [if_pos h1] at h
    cases h
  · rw [if_neg h1] at h
    by_cases h2 : errs t = 0
    · rw [if_pos h2] at h
      by_cases h3 : segN t 1 = some []
      · exact ⟨by omega, errs_ok h2, h3⟩
      · rw [if_neg h3] at h
        cases h
    · rw [if_neg h2] at h
      exact absurd h h2
/-- n terms, each for itself. -/
def splitT : Nat → List Cel → List (List Cel)
  | 0, _ => []
  | n + 1, l => match segN l 1 with
    | none => []
    | some r => fstT l r :: splitT n r
def kidsS : List Cel → List (List Cel)
  | [] => []
  | c :: l => splitT (ar c) l
theorem splitT_spec : ∀ (n : Nat) (l : List Cel), segN l n = some [] → (splitT n l).flatten = l ∧ (splitT n l).length = n ∧ ∀ a ∈ splitT n l, segN a 1 = some []
  | 0, l, h => by
    rw [segN_zero] at h
    injection h with h
    subst h
    exact ⟨rfl, rfl, fun a ha => by cases ha⟩
  | n + 1, l, h => by
    obtain ⟨r, h1, h2⟩ := segN_split h
    obtain ⟨g1, g2, g3⟩ := splitT_spec n r h2
    have hf := segN_fst h1
    simp only [splitT, h1, List.flatten_cons, List.length_cons, List.mem_cons]
    refine ⟨by rw [g1]; exact hf.1.symm, by omega, fun a ha => ?_⟩
    rcases ha with rfl | ha
    · exact hf.2
    · exact g3 a ha
theorem cellErr_okc {c : Cel} (h : Okc c) : cellErr c = 0 := by
  unfold cellErr
  have h1 := h.lo
  have h2 := h.hi
  rw [if_neg h.kind, if_neg (by omega), if_neg (by omega)]
  by_cases hk : kindS c.f0 = 2
  · rw [if_pos hk, if_neg (by have := h.var hk; omega)]
  · rw [if_neg hk]
theorem ok_errs : ∀ {l : List Cel}, (∀ c ∈ l, Okc c) → errs l = 0
  | [], _ => rfl
  | a :: l, h => by
    unfold errs
    rw [if_pos (cellErr_okc (h a (List.mem_cons_self ..)))]
    exact ok_errs fun c hc => h c (List.mem_cons_of_mem _ hc)
theorem checkS_of {t : List Cel} (h1 : t.length ≤ 64) (h2 : ∀ c ∈ t, Okc c) (h3 : segN t 1 = some []) : checkS t = 0 := by
  unfold checkS
  rw [if_neg (by omega), if_pos (ok_errs h2), if_pos h3]
end Go.Proofs.Ytcmnpjgmpgjbdaa.P

-- ==== PL4
/- Plain laws of chapter 4: what the statements ask ahead (wakes), and copies. -/
namespace Go.Proofs.Ytcmnpjgmpgjbdaa.P
open Go.RowKit Go.Proofs.YtcmnpjgmpgjbdaaW.PrintWords
set_option linter.unusedVariables false
set_option linter.unusedSimpArgs false

set_option maxRecDepth 100000 in
theorem ev_wakes4 : Ev (fun k => aumbrylaw04_wakes.f k) true := Ev.of (g := fun k => aumbrylaw04_wakes.f k) aumbrylaw04_wakes.mono (k := 40) (by kernel_rfl)
theorem sz_len {l : List Cel} (h : sz23 l) : l.length < 5864062014805 := by
  have := h.1
  omega
end Go.Proofs.Ytcmnpjgmpgjbdaa.P

-- ==== PL4k
/- Plain laws of chapter 4: a term's arguments. -/
namespace Go.Proofs.Ytcmnpjgmpgjbdaa.P
open Go.RowKit Go.Proofs.YtcmnpjgmpgjbdaaW.PrintWords
set_option linter.unusedVariables false
set_option linter.unusedSimpArgs false
theorem rd_trm {t : List (List Cel)} {n : Nat} {c : List Cel} {s : List (List Cel)} (h : t.drop n = c :: s) : rd_L3 t (n : Int) = c := by
  unfold rd_L3
  exact (drop_cons h).2.1 _
theorem up_cast (a : Nat) (h : a < 9223372036854775807) : wrap64 ((a : Int) + 1) = ((a + 1 : Nat) : Int) := by rw [wrap_up (by omega) (by omega)]; rfl
theorem ev_tkids_loop (t : List Cel) (ht : t.length ≤ 64) (hok : ∀ c ∈ t, Okc c) : ∀ (n a : Nat) (out : List (List Cel)), a ≤ t.length → segN (t.drop a) n = some [] → out.length ≤ a →
    Ev (fun k => term_Kids.l0 k t out (a : Int)) (out ++ splitT n (t.drop a), 0)
  | 0, a, out, ha, hn, ho => by
    rw [segN_zero] at hn
    injection hn with hn
    have := drop_nil_len ha hn
    refine Ev.step (fun k => (show term_Kids.l0 (k + 1) t out (a : Int) = _ from by rw [term_Kids.l0])) ?_
    refine evIfn (by omega) ?_
    simp only [splitT, List.append_nil]
    exact Ev.now _
  | n + 1, a, out, ha, hn, ho => by
    obtain ⟨r, hr1, hr2⟩ := segN_split hn
    have hlt := (segN_len hr1).2 (by omega)
    rw [List.length_drop] at hlt
    obtain ⟨q, hq, hqr⟩ := segN_suffix hr1
    rw [List.drop_drop] at hqr
    rw [List.length_drop] at hq
    have hrl : r.length = t.length - (a + q) := by rw [← hqr, List.length_drop]
    have hb : behS t a 1 = ((a + q : Nat) : Int) := by
      unfold behS
      rw [hr1]
      simp only
      omega
    have hq0 : 0 < q := by omega
    have hpart : ((t.take (((a + q : Nat) : Int)).toNat).drop ((a : Int)).toNat : List Cel) = fstT (t.drop a) r := by
      unfold fstT
      rw [List.length_drop]
      simp only [Int.toNat_natCast]
      rw [List.drop_take]
      congr 1
      omega
    refine Ev.step (fun k => (show term_Kids.l0 (k + 1) t out (a : Int) = _ from by rw [term_Kids.l0])) ?_
    refine evIfp (by omega) ?_
    refine Ev.bind (ev_behind t ht hok a ha) ?_
    rw [hb]
    refine evIfp (by omega) (evIfp (by omega) (evIfp (by omega) ?_))
    have hfl : (fstT (t.drop a) r).length = q := by unfold fstT; rw [List.length_take, List.length_drop]; omega
    simp only [hpart]
    refine Ev.bind (evIs (clone_at _ (by omega))) ?_
    refine evIfp (by omega) ?_
    have := ev_tkids_loop t ht hok n (a + q) (out ++ [fstT (t.drop a) r]) (by omega) (by rw [hqr]; exact hr2) (by simp; omega)
    have e : out ++ splitT (n + 1) (t.drop a) = out ++ [fstT (t.drop a) r] ++ splitT n (t.drop (a + q)) := by
      simp only [splitT, hr1, hqr, List.append_assoc, List.singleton_append]
    rw [e]
    exact this
/-- The arguments of a term that is right. -/
theorem ev_tkids {t : List Cel} (h : checkS t = 0) : Ev (fun k => term_Kids.f k t) (kidsS t, 0) := by
  obtain ⟨h1, h2, h3⟩ := checkS_ok h
  unfold term_Kids.f
  refine Ev.bind (ev_check t) ?_
  refine evIfp h ?_
  rcases t with _ | ⟨c, l⟩
  · cases h3
  have h4 : segN l (0 + ar c) = some [] := h3
  rw [Nat.zero_add] at h4
  exact ev_tkids_loop (c :: l) h1 h2 (ar c) 1 [] (by simp) h4 (by simp)
theorem ev_tkids_no {t : List Cel} (h : ¬ checkS t = 0) : Ev (fun k => term_Kids.f k t) ([], checkS t) := by
  unfold term_Kids.f
  refine Ev.bind (ev_check t) ?_
  exact evIfn h (Ev.now _)
end Go.Proofs.Ytcmnpjgmpgjbdaa.P

-- ==== PF50
namespace Go.Proofs.Ytcmnpjgmpgjbdaa.P
open Go.RowKit Go.Proofs.YtcmnpjgmpgjbdaaW.PrintWords Go.Proofs.YtcmnpjgmpgjbdaaW.PrintLast Go.Proofs.YtcmnpjgmpgjbdaaW.PrintMore
attribute [local go_sem] max2_int min2_int max_two min_two max_three min_three max_four min_four   -- for this text's walks alone
set_option linter.unusedVariables false
set_option linter.unusedSimpArgs false

/-! ### aumbryref04_sign: function 50 -/
def aumbryref04_sign.f (a0 : Int) : Option (Bool) := if a0 ≥ 97 then (if a0 ≤ 122 then (some true) else (if a0 ≥ 65 then (if a0 ≤ 90 then (some true) else (if a0 ≥ 48 then (some (decide (a0 ≤ 57))) else (some false))) else (if a0 ≥ 48 then (some (decide (a0 ≤ 57))) else (some false)))) else (if a0 ≥ 65 then (if a0 ≤ 90 then (some true) else (if a0 ≥ 48 then (some (decide (a0 ≤ 57))) else (some false))) else (if a0 ≥ 48 then (some (decide (a0 ≤ 57))) else (some false)))
end Go.Proofs.Ytcmnpjgmpgjbdaa.P

-- ==== PL4x
/- Plain laws of chapter 4: a text's signs, its words. -/
namespace Go.Proofs.Ytcmnpjgmpgjbdaa.P
open Go.RowKit Go.Proofs.YtcmnpjgmpgjbdaaW.PrintWords
set_option linter.unusedVariables false
set_option linter.unusedSimpArgs false
abbrev bl (s : ByteArray) : List UInt8 := s.data.toList
theorem bl_len (s : ByteArray) : (bl s).length = s.size := data_length s
theorem bl_inj {a b : ByteArray} (h : bl a = bl b) : a = b := by
  cases a; cases b
  simp only [ByteArray.mk.injEq]
  exact Array.toList_inj.1 h
end Go.Proofs.Ytcmnpjgmpgjbdaa.P

-- ==== PL4t
/- Plain laws of chapter 4: a term's text. -/
namespace Go.Proofs.Ytcmnpjgmpgjbdaa.P
open Go.RowKit Go.Proofs.YtcmnpjgmpgjbdaaW.PrintWords
set_option linter.unusedVariables false
set_option linter.unusedSimpArgs false
def closeB (n : Nat) : List UInt8 := if n = 0 then [] else [41]
def sepB (i : Nat) : UInt8 := if i = 0 then 40 else 44
/-- The arguments i, .., n - 1 of a cell with n, their text, their depth. -/
inductive Tx : Nat → Nat → List Cel → List UInt8 → Nat → Prop
  | done (n : Nat) : Tx n n [] [] 0
  | arg {i n : Nat} {c : Cel} {l1 l2 : List Cel} {b1 b2 : List UInt8} {d1 d2 : Nat} (h : i < n) (h1 : Tx 0 (ar c) l1 b1 d1) (h2 : Tx (i + 1) n l2 b2 d2) :
      Tx i n (c :: (l1 ++ l2)) (sepB i :: (bl c.f0 ++ b1 ++ closeB (ar c) ++ b2)) (max (d1 + 1) d2)
theorem tx_seg {i n : Nat} {l : List Cel} {b : List UInt8} {d : Nat} (h : Tx i n l b d) : segN l (n - i) = some [] := by
  induction h with
  | done n => rw [Nat.sub_self]; rfl
  | @arg i n c l1 l2 b1 b2 d1 d2 h h1 h2 ih1 ih2 =>
    rw [show n - i = (n - (i + 1)) + 1 by omega]
    show segN (l1 ++ l2) (n - (i + 1) + ar c) = some []
    rw [Nat.add_comm, segN_add]
    have := segN_append l2 ih1
    rw [Nat.sub_zero] at this
    rw [this]
    exact ih2
theorem tx_of : ∀ (m : Nat) (l : List Cel) (i n : Nat), l.length ≤ m → i ≤ n → segN l (n - i) = some [] → ∃ b d, Tx i n l b d := by
  intro m
  induction m with
  | zero =>
    intro l i n hl hi h
    have : l = [] := List.eq_nil_of_length_eq_zero (by omega)
    subst this
    have := segN_nil_pos h
    have : i = n := by omega
    subst this
    exact ⟨[], 0, .done i⟩
  | succ m ih =>
    intro l i n hl hi h
    cases l with
    | nil =>
      have := segN_nil_pos h
      have : i = n := by omega
      subst this
      exact ⟨[], 0, .done i⟩
    | cons c l =>
      have hin : i < n := by
        rcases Nat.lt_or_ge i n with h1 | h1
        · exact h1
        · rw [show n - i = 0 by omega] at h
          cases h
      rw [show n - i = (n - (i + 1)) + 1 by omega] at h
      have h' : segN l (n - (i + 1) + ar c) = some [] := h
      rw [Nat.add_comm, segN_add] at h'
      cases hr : segN l (ar c) with
      | none => rw [hr] at h'; cases h'
      | some r =>
        rw [hr] at h'
        obtain ⟨e, hs⟩ := segN_fst hr
        have hrl := (segN_len hr).1
        simp at hl
        obtain ⟨b1, d1, t1⟩ := ih (fstT l r) 0 (ar c) (by unfold fstT; rw [List.length_take]; omega) (Nat.zero_le _) (by rw [Nat.sub_zero]; exact hs)
        obtain ⟨b2, d2, t2⟩ := ih r (i + 1) n (by omega) (by omega) h'
        have ht := Tx.arg (c := c) hin t1 t2
        rw [← e] at ht
        exact ⟨_, _, ht⟩
theorem tx_len {i n : Nat} {l : List Cel} {b : List UInt8} {d : Nat} (h : Tx i n l b d) (hc : ∀ c ∈ l, Okc c) : b.length ≤ 10 * l.length ∧ d ≤ l.length := by
  induction h with
  | done n => simp
  | @arg i n c l1 l2 b1 b2 d1 d2 h h1 h2 ih1 ih2 =>
    have i1 := ih1 fun x hx => hc x (List.mem_cons_of_mem _ (List.mem_append_left _ hx))
    have i2 := ih2 fun x hx => hc x (List.mem_cons_of_mem _ (List.mem_append_right _ hx))
    have hk := kindS_size (hc c (List.mem_cons_self ..)).kind
    have hb : (bl c.f0).length ≤ 8 := by rw [bl_len]; exact hk.2
    have hcl : (closeB (ar c)).length ≤ 1 := by unfold closeB; split <;> simp
    simp only [List.length_cons, List.length_append]
    omega
theorem ar_le {c : Cel} (h : Okc c) : ar c ≤ 4 := by
  have := h.hi
  unfold ar
  omega
/-! ### writing -/
/-- A term that is right, taken apart. -/
theorem tx_term {t : List Cel} (h : checkS t = 0) : ∃ c l b d, t = c :: l ∧ Tx 0 (ar c) l b d ∧ (∀ x ∈ c :: l, Okc x) ∧ (c :: l).length ≤ 64 := by
  obtain ⟨h1, h2, h3⟩ := checkS_ok h
  rcases t with _ | ⟨c, l⟩
  · cases h3
  have h4 : segN l (0 + ar c) = some [] := h3
  rw [Nat.zero_add] at h4
  obtain ⟨b, d, ht⟩ := tx_of l.length l 0 (ar c) (Nat.le_refl _) (Nat.zero_le _) h4
  exact ⟨c, l, b, d, rfl, ht, h2, h1⟩
def txtL (c : Cel) (b : List UInt8) : List UInt8 := bl c.f0 ++ b ++ closeB (ar c)
def txtB (c : Cel) (b : List UInt8) : ByteArray := ⟨(txtL c b).toArray⟩
theorem txt_bl (c : Cel) (b : List UInt8) : bl (txtB c b) = txtL c b := rfl
end Go.Proofs.Ytcmnpjgmpgjbdaa.P

-- ==== PF23
namespace Go.Proofs.Ytcmnpjgmpgjbdaa.P
open Go.RowKit Go.Proofs.YtcmnpjgmpgjbdaaW.PrintWords Go.Proofs.YtcmnpjgmpgjbdaaW.PrintLast Go.Proofs.YtcmnpjgmpgjbdaaW.PrintMore
attribute [local go_sem] max2_int min2_int max_two min_two max_three min_three max_four min_four   -- for this text's walks alone
set_option linter.unusedVariables false
set_option linter.unusedSimpArgs false

/-! ### aumbryref04_Make: function 23 -/
mutual
def aumbryref04_Make.l0 : Nat → ByteArray → List (List (S50)) → Int → Int → Option ((List (S50)) × Int)
  | 0, _, _, _, _ => none
  | k + 1, x0, x1, x12, x13 => if x13 < x12 then (if 0 ≤ x13 then (if x13 < (x1.length : Int) then ((aumbryref04_Check.f k (rd_L3 x1 x13)).bind fun t102 => (if t102 = 0 then (aumbryref04_Make.l0 k x0 x1 x12 (wrap64 (x13 + 1))) else (some (([] : List (S50)), t102)))) else (none)) else (none)) else (aumbryref04_Make.l1 k x1 (([(⟨x0, (x1.length : Int)⟩ : S50)] : List (S50))) (x1.length : Int) 0)
def aumbryref04_Make.l1 : Nat → List (List (S50)) → List (S50) → Int → Int → Option ((List (S50)) × Int)
  | 0, _, _, _, _ => none
  | k + 1, x1, x8, x31, x32 => if x32 < x31 then (if (x8.length : Int) > 64 then (some (([] : List (S50)), 6)) else (if 0 ≤ x32 then (if x32 < (x1.length : Int) then (if x8.length + (rd_L3 x1 x32).length < 5864062014805 then (aumbryref04_Make.l1 k x1 (x8 ++ (rd_L3 x1 x32)) x31 (wrap64 (x32 + 1))) else (none)) else (none)) else (none))) else ((aumbryref04_Check.f k x8).bind fun t110 => (if t110 = 0 then (some (x8, 0)) else (some (([] : List (S50)), t110))))
end
def aumbryref04_Make.f (k : Nat) (a0 : ByteArray) (l1 : List (List (S50))) : Option ((List (S50)) × Int) := aumbryref04_Make.l0 k a0 l1 (l1.length : Int) 0
end Go.Proofs.Ytcmnpjgmpgjbdaa.P

-- ==== PL4m
/- Plain laws of chapter 4: a name above terms. -/
namespace Go.Proofs.Ytcmnpjgmpgjbdaa.P
open Go.RowKit Go.Proofs.YtcmnpjgmpgjbdaaW.PrintWords
set_option linter.unusedVariables false
set_option linter.unusedSimpArgs false
/-- The first error of a list of terms; 0: none. -/
def errAll : List (List Cel) → Int
  | [] => 0
  | a :: u => if checkS a = 0 then errAll u else checkS a
def finS (x : List Cel) (u : List (List Cel)) : List Cel × Int :=
  if errAll u = 0 then (if checkS (x ++ u.flatten) = 0 then (x ++ u.flatten, 0) else ([], checkS (x ++ u.flatten))) else ([], errAll u)
theorem checkS_big {t : List Cel} (h : 64 < t.length) : checkS t = 6 := by
  unfold checkS
  exact if_pos h
theorem checkS_len {t : List Cel} (h : checkS t = 0) : t.length ≤ 64 := (checkS_ok h).1
theorem errAll_cons {a : List Cel} {u : List (List Cel)} (h : checkS a = 0) : errAll (a :: u) = errAll u := by
  show (if checkS a = 0 then errAll u else checkS a) = errAll u
  exact if_pos h
theorem errAll_no {a : List Cel} {u : List (List Cel)} (h : ¬ checkS a = 0) : errAll (a :: u) = checkS a := by
  show (if checkS a = 0 then errAll u else checkS a) = checkS a
  exact if_neg h
theorem finS_big {x a : List Cel} {u : List (List Cel)} (hx : 64 < x.length) (ha : checkS a = 0) : finS x (a :: u) = finS x u := by
  unfold finS
  rw [errAll_cons ha, checkS_big (t := x ++ (a :: u).flatten) (by simp; omega), checkS_big (t := x ++ u.flatten) (by simp; omega)]
  rfl
theorem finS_app {x a : List Cel} {u : List (List Cel)} (ha : checkS a = 0) : finS x (a :: u) = finS (x ++ a) u := by
  unfold finS
  rw [errAll_cons ha]
  simp only [List.flatten_cons, List.append_assoc]
theorem ev_make_loop (kids : List (List Cel)) (hk : kids.length ≤ 9223372036854775806) : ∀ (u : List (List Cel)) (i : Nat) (x : List Cel), i ≤ kids.length → kids.drop i = u → x.length ≤ 200 →
    Ev (fun k => term_Make.l0 k x kids (kids.length : Int) (i : Int)) (finS x u)
  | [], i, x, hi, hu, hx => by
    have h1 := drop_nil_len hi hu
    refine Ev.step (fun k => (show term_Make.l0 (k + 1) x kids (kids.length : Int) (i : Int) = _ from by rw [term_Make.l0])) ?_
    refine evIfn (by omega) ?_
    refine Ev.bind (ev_check x) ?_
    unfold finS
    simp only [errAll, List.flatten_nil, List.append_nil, if_true]
    by_cases h : checkS x = 0
    · refine evIfp h ?_
      rw [if_pos h]
      exact Ev.now _
    · refine evIfn h ?_
      rw [if_neg h]
      exact Ev.now _
  | a :: u, i, x, hi, hu, hx => by
    obtain ⟨h1, _, h3⟩ := drop_cons hu
    refine Ev.step (fun k => (show term_Make.l0 (k + 1) x kids (kids.length : Int) (i : Int) = _ from by rw [term_Make.l0])) ?_
    refine evIfp (by omega) (evIfp (by omega) (evIfp (by omega) ?_))
    simp only [rd_trm hu, up_cast i (by omega)]
    refine Ev.bind (ev_check a) ?_
    by_cases ha : checkS a = 0
    · refine evIfp ha ?_
      have hal := checkS_len ha
      by_cases hxl : (x.length : Int) ≤ 64
      · refine evIfp hxl (evIfp (by omega) ?_)
        rw [finS_app ha]
        exact ev_make_loop kids hk u (i + 1) (x ++ a) (by omega) h3 (by simp; omega)
      · refine evIfn hxl ?_
        rw [finS_big (by omega) ha]
        exact ev_make_loop kids hk u (i + 1) x (by omega) h3 hx
    · refine evIfn ha ?_
      have : finS x (a :: u) = ([], checkS a) := by
        unfold finS
        rw [errAll_no ha, if_neg ha]
      rw [this]
      exact Ev.now _
theorem ev_tmake (w : ByteArray) (kids : List (List Cel)) (hk : kids.length ≤ 9223372036854775806) : Ev (fun k => term_Make.f k w kids) (finS [⟨w, (kids.length : Int)⟩] kids) := by
  unfold term_Make.f
  exact ev_make_loop kids hk kids 0 _ (by omega) rfl (by simp)
theorem ev_copyAll_loop (l : List (List Cel)) (hl : l.length ≤ 5864062014804) (hs : ∀ a ∈ l, a.length < 5864062014805) : ∀ (u : List (List Cel)) (i : Nat) (x : List (List Cel)), i ≤ l.length → l.drop i = u → x = l.take i →
    Ev (fun k => aumbryref04_CopyAll.l0 k l x (l.length : Int) (i : Int)) l
  | [], i, x, hi, hu, hx => by
    have h1 := drop_nil_len hi hu
    refine Ev.step (fun k => (show aumbryref04_CopyAll.l0 (k + 1) l x (l.length : Int) (i : Int) = _ from by rw [aumbryref04_CopyAll.l0])) ?_
    refine evIfn (by omega) ?_
    have : x = l := by rw [hx, h1, List.take_length]
    rw [this]
    exact Ev.now _
  | a :: u, i, x, hi, hu, hx => by
    obtain ⟨h1, h2, h3⟩ := drop_cons hu
    refine Ev.step (fun k => (show aumbryref04_CopyAll.l0 (k + 1) l x (l.length : Int) (i : Int) = _ from by rw [aumbryref04_CopyAll.l0])) ?_
    refine evIfp (by omega) (evIfp (by omega) (evIfp (by omega) ?_))
    simp only [rd_trm hu, up_cast i (by omega)]
    have hm : a ∈ l := List.mem_of_mem_drop (hu ▸ List.mem_cons_self ..)
    refine Ev.bind (evIs (copy_at a (hs a hm))) ?_
    have hxl : x.length = i := by rw [hx, List.length_take]; omega
    refine evIfp (by omega) ?_
    refine ev_copyAll_loop l hl hs u (i + 1) (x ++ [a]) (by omega) h3 ?_
    rw [hx, List.take_succ_eq_append_getElem h1]
    have := h2 a
    rw [List.getD_eq_getElem?_getD, List.getElem?_eq_getElem h1] at this
    rw [show l[i] = a from this]
theorem ev_copyAll (l : List (List Cel)) (hl : l.length ≤ 5864062014804) (hs : ∀ a ∈ l, a.length < 5864062014805) : Ev (fun k => aumbryref04_CopyAll.f k l) l := by
  unfold aumbryref04_CopyAll.f
  exact ev_copyAll_loop l hl hs l 0 [] (by omega) rfl rfl
theorem kidsS_flat {t : List Cel} (h : checkS t = 0) : ∃ c, t = c :: (kidsS t).flatten ∧ ((kidsS t).length : Int) = c.f1 ∧ (∀ a ∈ kidsS t, checkS a = 0) ∧ (kidsS t).length ≤ 64 := by
  obtain ⟨h1, h2, h3⟩ := checkS_ok h
  rcases t with _ | ⟨c, l⟩
  · cases h3
  have h4 : segN l (0 + ar c) = some [] := h3
  rw [Nat.zero_add] at h4
  obtain ⟨a1, a2, a3⟩ := splitT_spec _ _ h4
  have hc := h2 c (List.mem_cons_self ..)
  have hlo := hc.lo
  have hhi := hc.hi
  have har : (ar c : Int) = c.f1 := by unfold ar; omega
  refine ⟨c, ?_, ?_, ?_, ?_⟩
  · simp only [kidsS, a1]
  · simp only [kidsS, a2]
    exact har
  · intro a ha
    simp only [kidsS] at ha
    have hsub : ∀ x ∈ a, x ∈ l := fun x hx => by rw [← a1]; exact List.mem_flatten.2 ⟨a, ha, hx⟩
    have hlen : a.length ≤ l.length := by
      rw [← a1]
      exact (List.sublist_flatten_of_mem ha).length_le
    exact checkS_of (by simp at h1; omega) (fun x hx => h2 x (List.mem_cons_of_mem _ (hsub x hx))) (a3 a ha)
  · simp only [kidsS, a2]
    omega
end Go.Proofs.Ytcmnpjgmpgjbdaa.P

-- ==== PF54
namespace Go.Proofs.Ytcmnpjgmpgjbdaa.P
open Go.RowKit Go.Proofs.YtcmnpjgmpgjbdaaW.PrintWords Go.Proofs.YtcmnpjgmpgjbdaaW.PrintLast Go.Proofs.YtcmnpjgmpgjbdaaW.PrintMore
attribute [local go_sem] max2_int min2_int max_two min_two max_three min_three max_four min_four   -- for this text's walks alone
set_option linter.unusedVariables false
set_option linter.unusedSimpArgs false

/-! ### slices_Index_string_string: function 54 -/
def slices_Index_string_string.l0 : Nat → List ByteArray → ByteArray → Int → Int → Option (Int)
  | 0, _, _, _, _ => none
  | k + 1, x0, x1, x7, x8 => if x8 < x7 then (if 0 ≤ x8 then (if x8 < (x0.length : Int) then (if x1.toList = (rdOf ByteArray.empty x0 x8).toList then (some x8) else (slices_Index_string_string.l0 k x0 x1 x7 (wrap64 (x8 + 1)))) else (none)) else (none)) else (some (-1))
def slices_Index_string_string.f (k : Nat) (l0 : List ByteArray) (a1 : ByteArray) : Option (Int) := slices_Index_string_string.l0 k l0 a1 (l0.length : Int) 0
end Go.Proofs.Ytcmnpjgmpgjbdaa.P

-- ==== PF44
namespace Go.Proofs.Ytcmnpjgmpgjbdaa.P
open Go.RowKit Go.Proofs.YtcmnpjgmpgjbdaaW.PrintWords Go.Proofs.YtcmnpjgmpgjbdaaW.PrintLast Go.Proofs.YtcmnpjgmpgjbdaaW.PrintMore
attribute [local go_sem] max2_int min2_int max_two min_two max_three min_three max_four min_four   -- for this text's walks alone
set_option linter.unusedVariables false
set_option linter.unusedSimpArgs false

/-! ### slices_Contains_string_string: function 44 -/
def slices_Contains_string_string.f (k : Nat) (l0 : List ByteArray) (a1 : ByteArray) : Option (Bool) := (slices_Index_string_string.f k l0 a1).bind fun t101 => (some (decide (t101 ≥ 0)))
end Go.Proofs.Ytcmnpjgmpgjbdaa.P

-- ==== PF27
namespace Go.Proofs.Ytcmnpjgmpgjbdaa.P
open Go.RowKit Go.Proofs.YtcmnpjgmpgjbdaaW.PrintWords Go.Proofs.YtcmnpjgmpgjbdaaW.PrintLast Go.Proofs.YtcmnpjgmpgjbdaaW.PrintMore
attribute [local go_sem] max2_int min2_int max_two min_two max_three min_three max_four min_four   -- for this text's walks alone
set_option linter.unusedVariables false
set_option linter.unusedSimpArgs false

/-! ### term_Vars: function 27 -/
def term_Vars.l0 : Nat → List ByteArray → List (S50) → Int → Int → Option (List ByteArray × Int)
  | 0, _, _, _, _ => none
  | k + 1, x5, x13, x14, x15 => if x15 < x14 then (if 0 ≤ x15 then (if x15 < (x13.length : Int) then ((name_Kind.f k ((rd_T50 x13 x15).f0)).bind fun t104 => (if t104 = 2 then ((slices_Contains_string_string.f k x5 ((rd_T50 x13 x15).f0)).bind fun t105 => (if t105 = true then (term_Vars.l0 k x5 x13 x14 (wrap64 (x15 + 1))) else (if x5.length < 8796093022208 then (term_Vars.l0 k (x5 ++ [(rd_T50 x13 x15).f0]) x13 x14 (wrap64 (x15 + 1))) else (none)))) else (term_Vars.l0 k x5 x13 x14 (wrap64 (x15 + 1))))) else (none)) else (none)) else (some (x5, 0))
def term_Vars.f (k : Nat) (l0 : List (S50)) : Option (List ByteArray × Int) := (term_Check.f k l0).bind fun t101 => (if t101 = 0 then (term_Vars.l0 k ([] : List ByteArray) l0 (l0.length : Int) 0) else (some (([] : List ByteArray), t101)))
end Go.Proofs.Ytcmnpjgmpgjbdaa.P

-- ==== PF45
namespace Go.Proofs.Ytcmnpjgmpgjbdaa.P
open Go.RowKit Go.Proofs.YtcmnpjgmpgjbdaaW.PrintWords Go.Proofs.YtcmnpjgmpgjbdaaW.PrintLast Go.Proofs.YtcmnpjgmpgjbdaaW.PrintMore
attribute [local go_sem] max2_int min2_int max_two min_two max_three min_three max_four min_four   -- for this text's walks alone
set_option linter.unusedVariables false
set_option linter.unusedSimpArgs false

/-! ### term_deep: function 45 -/
mutual
def term_deep.l0 : Nat → List (S50) → Int → Int → Int → Int → Option (Int × Int)
  | 0, _, _, _, _, _ => none
  | k + 1, x0, x6, x7, x16, x17 => if x17 < x16 then ((term_deep.f k x0 x7).bind fun bt102 => (term_deep.l0 k x0 (mx x6 bt102.1) bt102.2 x16 (wrap64 (x17 + 1)))) else (some (wrap64 (x6 + 1), x7))
def term_deep.f : Nat → List (S50) → Int → Option (Int × Int)
  | 0, _, _ => none
  | k + 1, l0, a1 => if 0 ≤ a1 then (if a1 < (l0.length : Int) then (term_deep.l0 k l0 0 (wrap64 (a1 + 1)) ((rd_T50 l0 a1).f1) 0) else (none)) else (none)
end
end Go.Proofs.Ytcmnpjgmpgjbdaa.P

-- ==== PF28
namespace Go.Proofs.Ytcmnpjgmpgjbdaa.P
open Go.RowKit Go.Proofs.YtcmnpjgmpgjbdaaW.PrintWords Go.Proofs.YtcmnpjgmpgjbdaaW.PrintLast Go.Proofs.YtcmnpjgmpgjbdaaW.PrintMore
attribute [local go_sem] max2_int min2_int max_two min_two max_three min_three max_four min_four   -- for this text's walks alone
set_option linter.unusedVariables false
set_option linter.unusedSimpArgs false

/-! ### term_Depth: function 28 -/
def term_Depth.f (k : Nat) (l0 : List (S50)) : Option (Int × Int) := (term_Check.f k l0).bind fun t101 => (if t101 = 0 then ((term_deep.f k l0 0).bind fun bt102 => (some (bt102.1, 0))) else (some (0, t101)))
end Go.Proofs.Ytcmnpjgmpgjbdaa.P

-- ==== PF46
namespace Go.Proofs.Ytcmnpjgmpgjbdaa.P
open Go.RowKit Go.Proofs.YtcmnpjgmpgjbdaaW.PrintWords Go.Proofs.YtcmnpjgmpgjbdaaW.PrintLast Go.Proofs.YtcmnpjgmpgjbdaaW.PrintMore
attribute [local go_sem] max2_int min2_int max_two min_two max_three min_three max_four min_four   -- for this text's walks alone
set_option linter.unusedVariables false
set_option linter.unusedSimpArgs false

/-! ### aumbryref03_Has: function 46 -/
def aumbryref03_Has.l0 : Nat → List ByteArray → ByteArray → Int → Int → Option (Bool)
  | 0, _, _, _, _ => none
  | k + 1, x0, x1, x7, x8 => if x8 < x7 then (if 0 ≤ x8 then (if x8 < (x0.length : Int) then (if (rdOf ByteArray.empty x0 x8).toList = x1.toList then (some true) else (aumbryref03_Has.l0 k x0 x1 x7 (wrap64 (x8 + 1)))) else (none)) else (none)) else (some false)
def aumbryref03_Has.f (k : Nat) (l0 : List ByteArray) (a1 : ByteArray) : Option (Bool) := aumbryref03_Has.l0 k l0 a1 (l0.length : Int) 0
end Go.Proofs.Ytcmnpjgmpgjbdaa.P

-- ==== PF30
namespace Go.Proofs.Ytcmnpjgmpgjbdaa.P
open Go.RowKit Go.Proofs.YtcmnpjgmpgjbdaaW.PrintWords Go.Proofs.YtcmnpjgmpgjbdaaW.PrintLast Go.Proofs.YtcmnpjgmpgjbdaaW.PrintMore
attribute [local go_sem] max2_int min2_int max_two min_two max_three min_three max_four min_four   -- for this text's walks alone
set_option linter.unusedVariables false
set_option linter.unusedSimpArgs false

/-! ### aumbryref04_Vars: function 30 -/
def aumbryref04_Vars.l0 : Nat → List (S50) → List ByteArray → Int → Int → Option (List ByteArray)
  | 0, _, _, _, _ => none
  | k + 1, x0, x3, x6, x7 => if x7 < x6 then (if 0 ≤ x7 then (if x7 < (x0.length : Int) then ((aumbryref03_Kind.f k ((rd_T50 x0 x7).f0)).bind fun t102 => (if t102 = 2 then ((aumbryref03_Has.f k x3 ((rd_T50 x0 x7).f0)).bind fun t104 => (if t104 = true then (aumbryref04_Vars.l0 k x0 x3 x6 (wrap64 (x7 + 1))) else (if x3.length < 8796093022208 then (aumbryref04_Vars.l0 k x0 (x3 ++ [(rd_T50 x0 x7).f0]) x6 (wrap64 (x7 + 1))) else (none)))) else (aumbryref04_Vars.l0 k x0 x3 x6 (wrap64 (x7 + 1))))) else (none)) else (none)) else (some x3)
def aumbryref04_Vars.f (k : Nat) (l0 : List (S50)) : Option (List ByteArray) := aumbryref04_Vars.l0 k l0 ([] : List ByteArray) (l0.length : Int) 0
end Go.Proofs.Ytcmnpjgmpgjbdaa.P

-- ==== PF31
namespace Go.Proofs.Ytcmnpjgmpgjbdaa.P
open Go.RowKit Go.Proofs.YtcmnpjgmpgjbdaaW.PrintWords Go.Proofs.YtcmnpjgmpgjbdaaW.PrintLast Go.Proofs.YtcmnpjgmpgjbdaaW.PrintMore
attribute [local go_sem] max2_int min2_int max_two min_two max_three min_three max_four min_four   -- for this text's walks alone
set_option linter.unusedVariables false
set_option linter.unusedSimpArgs false

/-! ### aumbryref04_Depth: function 31 -/
mutual
def aumbryref04_Depth.l0 : Nat → Int → List (List (S50)) → Int → Int → Option (Int)
  | 0, _, _, _, _ => none
  | k + 1, x3, x4, x10, x11 => if x11 < x10 then (if 0 ≤ x11 then (if x11 < (x4.length : Int) then ((aumbryref04_Depth.f k (rd_L3 x4 x11)).bind fun t105 => (if t105 > x3 then (aumbryref04_Depth.l0 k t105 x4 x10 (wrap64 (x11 + 1))) else (aumbryref04_Depth.l0 k x3 x4 x10 (wrap64 (x11 + 1))))) else (none)) else (none)) else (some (wrap64 (x3 + 1)))
def aumbryref04_Depth.f : Nat → List (S50) → Option (Int)
  | 0, _ => none
  | k + 1, l0 => (aumbryref04_Kids.f k l0).bind fun t101 => (aumbryref04_Depth.l0 k 0 t101 (t101.length : Int) 0)
end
end Go.Proofs.Ytcmnpjgmpgjbdaa.P

-- ==== PF29
namespace Go.Proofs.Ytcmnpjgmpgjbdaa.P
open Go.RowKit Go.Proofs.YtcmnpjgmpgjbdaaW.PrintWords Go.Proofs.YtcmnpjgmpgjbdaaW.PrintLast Go.Proofs.YtcmnpjgmpgjbdaaW.PrintMore
attribute [local go_sem] max2_int min2_int max_two min_two max_three min_three max_four min_four   -- for this text's walks alone
set_option linter.unusedVariables false
set_option linter.unusedSimpArgs false

/-! ### aumbryref03_Same: function 29 -/
def aumbryref03_Same.l0 : Nat → List ByteArray → List ByteArray → Int → Int → Option (Bool)
  | 0, _, _, _, _ => none
  | k + 1, x0, x1, x12, x13 => if x13 < x12 then (if 0 ≤ x13 then (if x13 < (x0.length : Int) then (if x13 < (x1.length : Int) then (if (rdOf ByteArray.empty x0 x13).toList = (rdOf ByteArray.empty x1 x13).toList then (aumbryref03_Same.l0 k x0 x1 x12 (wrap64 (x13 + 1))) else (some false)) else (none)) else (none)) else (none)) else (some true)
def aumbryref03_Same.f (k : Nat) (l0 : List ByteArray) (l1 : List ByteArray) : Option (Bool) := if (l0.length : Int) = (l1.length : Int) then (aumbryref03_Same.l0 k l0 l1 (l0.length : Int) 0) else (some false)
end Go.Proofs.Ytcmnpjgmpgjbdaa.P

-- ==== PL4p
/- Plain laws of chapter 4: what is told of a term that is right: its text, its variables, its depth, its arguments: the program's answers and the document's. -/
namespace Go.Proofs.Ytcmnpjgmpgjbdaa.P
open Go.RowKit Go.Proofs.YtcmnpjgmpgjbdaaW.PrintWords
set_option linter.unusedVariables false
set_option linter.unusedSimpArgs false
/-! ### lists of texts -/
instance txtMem (a : ByteArray) (l : List ByteArray) : Decidable (a ∈ l) :=
  if h : l.any (fun b => decide (a = b)) = true then isTrue (by obtain ⟨b, h1, h2⟩ := List.any_eq_true.1 h; rw [of_decide_eq_true h2]; exact h1) else isFalse (fun h1 => h (List.any_eq_true.2 ⟨a, h1, decide_eq_true rfl⟩))
theorem ev_sameAll_loop (l : List (List Cel)) (hl : l.length ≤ 9223372036854775806) (hs : ∀ a ∈ l, a.length ≤ 9223372036854775806) : ∀ (u : List (List Cel)) (i : Nat), i ≤ l.length → l.drop i = u →
    Ev (fun k => aumbryref04_SameAll.l0 k l l (l.length : Int) (i : Int)) true
  | [], i, hi, hu => by
    have h1 := drop_nil_len hi hu
    refine Ev.step (fun k => (show aumbryref04_SameAll.l0 (k + 1) l l (l.length : Int) (i : Int) = _ from by rw [aumbryref04_SameAll.l0])) ?_
    exact evIfn (by omega) (Ev.now _)
  | b :: u, i, hi, hu => by
    obtain ⟨h1, _, h3⟩ := drop_cons hu
    refine Ev.step (fun k => (show aumbryref04_SameAll.l0 (k + 1) l l (l.length : Int) (i : Int) = _ from by rw [aumbryref04_SameAll.l0])) ?_
    refine evIfp (by omega) (evIfp (by omega) (evIfp (by omega) (evIfp (by omega) ?_)))
    simp only [rd_trm hu, up_cast i (by omega)]
    refine Ev.bind (ev_refSame4 b b (.inl (hs b (List.mem_of_mem_drop (hu ▸ List.mem_cons_self ..))))) ?_
    exact evIfp (decide_eq_true rfl) (ev_sameAll_loop l hl hs u (i + 1) (by omega) h3)
theorem ev_sameAll (l : List (List Cel)) (hl : l.length ≤ 9223372036854775806) (hs : ∀ a ∈ l, a.length ≤ 9223372036854775806) : Ev (fun k => aumbryref04_SameAll.f k l l) true := by
  unfold aumbryref04_SameAll.f
  exact evIfp rfl (ev_sameAll_loop l hl hs l 0 (by omega) rfl)
/-! ### variables -/
/-! ### the document's arguments -/
theorem ev_rkids_loop (t : List Cel) (ht : t.length ≤ 64) (hok : ∀ c ∈ t, Okc c) : ∀ (n a : Nat) (out : List (List Cel)), a ≤ t.length → segN (t.drop a) n = some [] → out.length ≤ a →
    Ev (fun k => aumbryref04_Kids.l0 k t out (a : Int)) (out ++ splitT n (t.drop a))
  | 0, a, out, ha, hn, ho => by
    rw [segN_zero] at hn
    injection hn with hn
    have := drop_nil_len ha hn
    refine Ev.step (fun k => (show aumbryref04_Kids.l0 (k + 1) t out (a : Int) = _ from by rw [aumbryref04_Kids.l0])) ?_
    refine evIfn (by omega) ?_
    simp only [splitT, List.append_nil]
    exact Ev.now _
  | n + 1, a, out, ha, hn, ho => by
    obtain ⟨r, hr1, hr2⟩ := segN_split hn
    have hlt := (segN_len hr1).2 (by omega)
    rw [List.length_drop] at hlt
    obtain ⟨q, hq, hqr⟩ := segN_suffix hr1
    rw [List.drop_drop] at hqr
    rw [List.length_drop] at hq
    have hrl : r.length = t.length - (a + q) := by rw [← hqr, List.length_drop]
    have hb : behS t a 1 = ((a + q : Nat) : Int) := by
      unfold behS
      rw [hr1]
      simp only
      omega
    have hq0 : 0 < q := by omega
    have hpart : ((t.take (((a + q : Nat) : Int)).toNat).drop ((a : Int)).toNat : List Cel) = fstT (t.drop a) r := by
      unfold fstT
      rw [List.length_drop]
      simp only [Int.toNat_natCast]
      rw [List.drop_take]
      congr 1
      omega
    have hbh := ev_refBehind t ht hok a ha
    rw [hb] at hbh
    refine Ev.step (fun k => (show aumbryref04_Kids.l0 (k + 1) t out (a : Int) = _ from by rw [aumbryref04_Kids.l0])) ?_
    refine evIfp (by omega) ?_
    refine Ev.bind hbh ?_
    refine evIfp (by omega) (evIfp (by omega) (evIfp (by omega) ?_))
    have hfl : (fstT (t.drop a) r).length = q := by unfold fstT; rw [List.length_take, List.length_drop]; omega
    simp only [hpart]
    refine Ev.bind (evIs (copy_at _ (by omega))) ?_
    refine evIfp (by omega) ?_
    refine Ev.bind hbh ?_
    have := ev_rkids_loop t ht hok n (a + q) (out ++ [fstT (t.drop a) r]) (by omega) (by rw [hqr]; exact hr2) (by simp; omega)
    have e : out ++ splitT (n + 1) (t.drop a) = out ++ [fstT (t.drop a) r] ++ splitT n (t.drop (a + q)) := by
      simp only [splitT, hr1, hqr, List.append_assoc, List.singleton_append]
    rw [e]
    exact this
theorem ev_rkids {c : Cel} {l : List Cel} (h1 : (c :: l).length ≤ 64) (h2 : ∀ x ∈ c :: l, Okc x) (h3 : segN l (ar c) = some []) : Ev (fun k => aumbryref04_Kids.f k (c :: l)) (splitT (ar c) l) := by
  unfold aumbryref04_Kids.f
  exact ev_rkids_loop (c :: l) h1 h2 (ar c) 1 [] (by simp) h3 (by simp)
theorem split_arg {c : Cel} {l1 l2 : List Cel} {b : List UInt8} {d m : Nat} (h : Tx 0 (ar c) l1 b d) : splitT (m + 1) (c :: (l1 ++ l2)) = (c :: l1) :: splitT m l2 := by
  have h1 : segN (c :: (l1 ++ l2)) 1 = some l2 := by
    show segN (l1 ++ l2) (0 + ar c) = some l2
    rw [Nat.zero_add]
    have := segN_append l2 (tx_seg h)
    rw [Nat.sub_zero] at this
    exact this
  have h2 : fstT (c :: (l1 ++ l2)) l2 = c :: l1 := by
    unfold fstT
    have : (c :: (l1 ++ l2)).length - l2.length = (c :: l1).length := by simp; omega
    rw [this, ← List.cons_append, List.take_left]
  simp only [splitT, h1, h2]
/-! ### the document's text -/
theorem bl_append (a b : ByteArray) : bl (a ++ b) = bl a ++ bl b := by
  unfold bl
  rw [ByteArray.data_append, Array.toList_append]
theorem ev_text_kids {i n : Nat} {l : List Cel} {b : List UInt8} {d : Nat} (h : Tx i n l b d) : (∀ c ∈ l, Okc c) → l.length ≤ 63 → ∀ (kids : List (List Cel)) (acc : ByteArray), kids.length = n → kids.drop i = splitT (n - i) l → acc.size + b.length + 1 ≤ 4000 → n ≤ 4 →
    Ev (fun k => aumbryref04_Text.l0 k acc kids (n : Int) (i : Int)) ⟨(bl acc ++ b ++ closeB n).toArray⟩ := by
  induction h with
  | done n =>
    intro hc hl kids acc hk hd ha hn
    refine Ev.step (fun k => (show aumbryref04_Text.l0 (k + 1) acc kids (n : Int) (n : Int) = _ from by rw [aumbryref04_Text.l0])) ?_
    refine evIfn (by omega) ?_
    by_cases h0 : n = 0
    · refine evIfn (by omega) ?_
      have : (⟨(bl acc ++ [] ++ closeB n).toArray⟩ : ByteArray) = acc := bl_inj (by unfold closeB; rw [if_pos h0]; simp [bl])
      rw [this]
      exact Ev.now _
    · refine evIfp (by omega) (evIfp (by omega) ?_)
      have : (⟨(bl acc ++ [] ++ closeB n).toArray⟩ : ByteArray) = acc ++ (⟨#[41]⟩ : ByteArray) := bl_inj (by rw [bl_append]; unfold closeB; rw [if_neg h0]; simp [bl])
      rw [this]
      exact Ev.now _
  | @arg i n c l1 l2 b1 b2 d1 d2 h h1 h2 ih1 ih2 =>
    intro hc hl kids acc hk hd ha hn
    have hcc := hc c (List.mem_cons_self ..)
    rw [show n - i = (n - (i + 1)) + 1 by omega, split_arg h1] at hd
    obtain ⟨p1, p2, p3⟩ := drop_cons hd
    simp only [List.length_cons, List.length_append] at hl ha
    have hsz := bl_len c.f0
    have hcl : (closeB (ar c)).length ≤ 1 := by unfold closeB; split <;> simp
    have hT : Ev (fun k => aumbryref04_Text.f k (c :: l1)) (txtB c b1) := by
      refine Ev.step (fun k => (show aumbryref04_Text.f (k + 1) (c :: l1) = _ from by rw [aumbryref04_Text.f])) ?_
      refine evIfp (by simp) ?_
      have hrd : rd_T50 (c :: l1) 0 = c := rd_cel (t := c :: l1) (n := 0) (c := c) (s := l1) rfl
      have hsg := tx_seg h1
      rw [Nat.sub_zero] at hsg
      have hkl : (splitT (ar c) l1).length = ar c := (splitT_spec _ _ hsg).2.1
      refine Ev.bind (ev_rkids (by simp; omega) (fun x hx => ?_) hsg) ?_
      · rcases List.mem_cons.1 hx with rfl | hx
        · exact hcc
        · exact hc x (List.mem_cons_of_mem _ (List.mem_append_left _ hx))
      · simp only [hrd, hkl]
        by_cases hb : (closeB (ar c)).length = 0
        · have hlen : c.f0.size + b1.length + 1 ≤ 4000 := by omega
          exact ih1 (fun x hx => hc x (List.mem_cons_of_mem _ (List.mem_append_left _ hx))) (by omega) (splitT (ar c) l1) c.f0 hkl (by rw [Nat.sub_zero, List.drop_zero]) hlen (ar_le hcc)
        · have hlen : c.f0.size + b1.length + 1 ≤ 4000 := by omega
          exact ih1 (fun x hx => hc x (List.mem_cons_of_mem _ (List.mem_append_left _ hx))) (by omega) (splitT (ar c) l1) c.f0 hkl (by rw [Nat.sub_zero, List.drop_zero]) hlen (ar_le hcc)
    have hts : (txtB c b1).size = (bl c.f0).length + b1.length + (closeB (ar c)).length := by rw [← bl_len, txt_bl]; unfold txtL; simp; omega
    have hs1 : ∀ x : UInt8, (acc ++ (⟨#[x]⟩ : ByteArray)).size = acc.size + 1 := fun x => by rw [← bl_len, bl_append, ← bl_len acc]; simp [bl]
    have hs2 : ∀ x : UInt8, ((acc ++ (⟨#[x]⟩ : ByteArray)) ++ txtB c b1).size = acc.size + 1 + (txtB c b1).size := fun x => by rw [← bl_len, bl_append, List.length_append, bl_len, bl_len, hs1]
    have hfin : ∀ x : UInt8, sepB i = x → (⟨(bl ((acc ++ (⟨#[x]⟩ : ByteArray)) ++ txtB c b1) ++ b2 ++ closeB n).toArray⟩ : ByteArray) = ⟨(bl acc ++ sepB i :: (bl c.f0 ++ b1 ++ closeB (ar c) ++ b2) ++ closeB n).toArray⟩ := by
      intro x hx
      rw [bl_append, bl_append, txt_bl, hx]
      unfold txtL
      simp [bl]
    refine Ev.step (fun k => (show aumbryref04_Text.l0 (k + 1) acc kids (n : Int) (i : Int) = _ from by rw [aumbryref04_Text.l0])) ?_
    refine evIfp (by omega) ?_
    have e2 : ∀ x : UInt8, Ev (fun k => aumbryref04_Text.l0 k ((acc ++ (⟨#[x]⟩ : ByteArray)) ++ txtB c b1) kids (n : Int) ((i + 1 : Nat) : Int)) ⟨(bl ((acc ++ (⟨#[x]⟩ : ByteArray)) ++ txtB c b1) ++ b2 ++ closeB n).toArray⟩ := fun x =>
      ih2 (fun y hy => hc y (List.mem_cons_of_mem _ (List.mem_append_right _ hy))) (by omega) kids _ hk p3 (by rw [hs2, hts]; omega) hn
    by_cases hi : i = 0
    · refine evIfp (by omega) (evIfp (by omega) (evIfp (by omega) (evIfp (by omega) ?_)))
      simp only [rd_trm hd, up_cast i (by omega)]
      refine Ev.bind hT ?_
      refine evIfp (by rw [hs1, hts]; omega) ?_
      have := e2 40
      rw [hfin 40 (by unfold sepB; rw [if_pos hi])] at this
      exact this
    · refine evIfn (by omega) (evIfp (by omega) (evIfp (by omega) (evIfp (by omega) ?_)))
      simp only [rd_trm hd, up_cast i (by omega)]
      refine Ev.bind hT ?_
      refine evIfp (by rw [hs1, hts]; omega) ?_
      have := e2 44
      rw [hfin 44 (by unfold sepB; rw [if_neg hi])] at this
      exact this
theorem ev_text {c : Cel} {l : List Cel} {b : List UInt8} {d : Nat} (h : Tx 0 (ar c) l b d) (ho : ∀ x ∈ c :: l, Okc x) (hl : (c :: l).length ≤ 64) : Ev (fun k => aumbryref04_Text.f k (c :: l)) (txtB c b) := by
  refine Ev.step (fun k => (show aumbryref04_Text.f (k + 1) (c :: l) = _ from by rw [aumbryref04_Text.f])) ?_
  refine evIfp (by simp) ?_
  have hrd : rd_T50 (c :: l) 0 = c := rd_cel (t := c :: l) (n := 0) (c := c) (s := l) rfl
  have hsg := tx_seg h
  rw [Nat.sub_zero] at hsg
  have hkl : (splitT (ar c) l).length = ar c := (splitT_spec _ _ hsg).2.1
  have hcc := ho c (List.mem_cons_self ..)
  have hk := kindS_size hcc.kind
  have h1 := tx_len h fun x hx => ho x (List.mem_cons_of_mem _ hx)
  simp only [List.length_cons] at hl
  refine Ev.bind (ev_rkids (by simp; omega) ho hsg) ?_
  simp only [hrd, hkl]
  exact ev_text_kids h (fun x hx => ho x (List.mem_cons_of_mem _ hx)) (by omega) (splitT (ar c) l) c.f0 hkl (by rw [Nat.sub_zero, List.drop_zero]) (by omega) (ar_le hcc)
/-! ### depth -/
end Go.Proofs.Ytcmnpjgmpgjbdaa.P

-- ==== PureTermOwn
/- What is handed in stays; what is answered is new memory: for every term and list of terms, the law answers true. -/
namespace Go.Proofs.Ytcmnpjgmpgjbdaa.Pure
open Go.RowKit Go.Proofs.Ytcmnpjgmpgjbdaa.P Go.Proofs.YtcmnpjgmpgjbdaaW.PrintWords
set_option linter.unusedVariables false
theorem ev_rprint (t : List Cel) : ∃ q, Ev (fun k => aumbryref04_Print.f k t) (q, checkS t) := by
  by_cases hc : checkS t = 0
  · obtain ⟨c, l, b, d, rfl, h1, h2, h3⟩ := tx_term hc
    refine ⟨txtB c b, ?_⟩
    unfold aumbryref04_Print.f
    rw [hc]
    have hr := ev_refCheck (c :: l)
    rw [hc] at hr
    exact Ev.bind hr (evIfp rfl (Ev.bind (ev_text h1 h2 h3) (Ev.now _)))
  · refine ⟨⟨#[]⟩, ?_⟩
    unfold aumbryref04_Print.f
    exact Ev.bind (ev_refCheck t) (evIfn hc (Ev.now _))
theorem ev_own_end (t : List Cel) (l : List (List Cel)) (htl : t.length < 5864062014805) (hl : l.length < 5864062014805) (hs : ∀ a ∈ l, a.length < 5864062014805) (q : ByteArray) (hq : Ev (fun k => aumbryref04_Print.f k t) (q, checkS t)) :
    Ev (fun k => aumbrylaw04_TermOwn.j0 k t l (t ++ [⟨⟨#[107, 101, 101, 112]⟩, 0⟩]) l q false) true := by
  refine Ev.step (fun k => (show aumbrylaw04_TermOwn.j0 (k + 1) t l (t ++ [⟨⟨#[107, 101, 101, 112]⟩, 0⟩]) l q false = _ from by rw [aumbrylaw04_TermOwn.j0])) ?_
  have htk : (t ++ [(⟨⟨#[107, 101, 101, 112]⟩, 0⟩ : Cel)]).take ((t.length : Int)).toNat = t := by
    rw [Int.toNat_natCast, List.take_left]
  have hrd : rd_T50 (t ++ [(⟨⟨#[107, 101, 101, 112]⟩, 0⟩ : Cel)]) (t.length : Int) = ⟨⟨#[107, 101, 101, 112]⟩, 0⟩ := rd_cel (s := []) (by rw [List.drop_left])
  simp only [htk, hrd]
  refine evIfn (by simp) (evIfp (by omega) (evIfp (by simp; omega) ?_))
  refine Ev.bind hq (evIfp rfl (evIfp (by simp; omega) (evIfp (by rw [ByteArray.toList_eq]) ?_)))
  refine Ev.bind (ev_refSame4 t t (.inl (by omega))) (evIfp (decide_eq_true rfl) ?_)
  exact Ev.bind (ev_sameAll l (by omega) (fun a ha => by have := hs a ha; omega)) (Ev.now _)
theorem TermOwn : aumbrylaw04_TermOwn.Pure := by
  intro t l ht hl
  have htl := sz_len ht
  have hll : l.length < 5864062014805 := by have := hl.1; omega
  have hls : ∀ a ∈ l, a.length < 5864062014805 := fun a ha => sz_len (hl.2 a ha)
  refine Ev.rounds ?_
  unfold aumbrylaw04_TermOwn.f
  refine Ev.bind ev_wakes4 (evIfp rfl ?_)
  refine Ev.bind (evIs (copy_at t htl)) (evIfp (by omega) ?_)
  simp only [Option.bind_some]
  refine Ev.bind (ev_copyAll l (by omega) hls) ?_
  have htk : (t ++ [(⟨⟨#[107, 101, 101, 112]⟩, 0⟩ : Cel)]).take ((t.length : Int)).toNat = t := by
    rw [Int.toNat_natCast, List.take_left]
  simp only [htk]
  refine evIfp (by omega) (evIfp (by simp; omega) ?_)
  obtain ⟨q, hq⟩ := ev_rprint t
  by_cases hc : checkS t = 0
  · refine Ev.bind (ev_tkids hc) (Ev.bind (ev_tkids hc) ?_)
    refine Ev.bind (ev_tmake _ l (by omega)) ?_
    refine Ev.bind hq (evIfp hc ?_)
    obtain ⟨c, l', b, d, e, h1, h2, h3⟩ := tx_term hc
    have hsg := tx_seg h1
    rw [Nat.sub_zero] at hsg
    have hk := ev_rkids h3 h2 hsg
    have hkk : kidsS t = splitT (ar c) l' := by rw [e]; rfl
    rw [← e, ← hkk] at hk
    refine Ev.bind hk ?_
    obtain ⟨c', k1, k2, k3, k4⟩ := kidsS_flat hc
    refine Ev.bind (ev_sameAll (kidsS t) (by omega) (fun a ha => by have := checkS_len (k3 a ha); omega)) ?_
    exact ev_own_end t l htl hll hls q hq
  · refine Ev.bind (ev_tkids_no hc) (Ev.bind (ev_tkids_no hc) ?_)
    refine Ev.bind (ev_tmake _ l (by omega)) ?_
    exact Ev.bind hq (evIfn hc (ev_own_end t l htl hll hls q hq))
end Go.Proofs.Ytcmnpjgmpgjbdaa.Pure

-- ==== RowTermOwn
namespace Go.Proofs.Ytcmnpjgmpgjbdaa.termOwn
open Go.ChangeShapes Go.WideShapes Go.ChangeAt Go.RowKit Go.Proofs.YtcmnpjgmpgjbdaaW.PrintWords Go.Proofs.Ytcmnpjgmpgjbdaa.P Go.Proofs.Ytcmnpjgmpgjbdaa.Open
open Go.ChangeMaps (open_string shut_string)
set_option linter.unusedVariables false
theorem own : ownKnob Try.prog.godebug = none := by kernel_rfl
theorem laidOut : laidOutB Try.prog = true := by kernel_rfl
set_option maxRecDepth 100000 in
theorem core {H : Type} {enc : TypeId × Value → H} (W : World) (base : Nat) (args : Array Value) (ds gs : List (DataW H)) (before : List MemPlace)
    (hval : ∀ (j : Nat) t v, Try.f8.params[j]? = some t → args[j]? = some v → Value.okWide Try.prog W .any base t v)
    (hW : DataW.Whole enc Try.prog Try.f8.params.toList Rows.termOwnSpec.vars false W args.toList ds gs before)
    (hsz : (DataW.weightsEach Try.prog (Try.f8.params.toList ++ Rows.termOwnSpec.plain.varTypes Try.prog) (ds ++ gs)).all (· ≤ reachBytes) = true)
    :
    Calls Try.prog 8 args W fun e W' => ∃ v, e = .returned v ∧ Rows.termOwnSpec.post enc Try.prog Try.f8 false true false false W args v W' := by
  have hW' := hW
  obtain ⟨p, q, hA, hV, rfl, hfz, hnd⟩ := hW
  rw [Try.params8] at hA hval hsz
  obtain ⟨v0, vs0, d0, ds0, p0, q0, hargs, rfl, rfl, h0, r0⟩ := trodAll_cons hA
  obtain ⟨v1, vs1, d1, ds1, p1, q1, rfl, rfl, rfl, h1, r1⟩ := trodAll_cons r0
  obtain ⟨rfl, rfl, rfl⟩ := trodAll_nil r1
  obtain rfl : args = #[v0, v1] := by cases args; simp_all
  obtain ⟨rfl, rfl⟩ := trodVars_none hV
  have k0 := h0
  obtain ⟨n0, hf0⟩ := h0
  obtain ⟨x0, hK0, hS0, hB0⟩ := op23.go hf0 (fun m hm => by have := List.all_eq_true.1 hsz m (DataW.weights_mem_each (j := 0) rfl rfl m hm); simpa using this)
  have lt0 : ∀ z ∈ p0, z.block < W.heap.size := by obtain ⟨m, hm⟩ := k0; exact DataW.trod_lt m _ _ _ hm
  obtain ⟨a0, len0, cap0, rfl⟩ := okWide_slice Try.underlying23 (hval 0 23 v0 rfl rfl)
  obtain ⟨A0, c0, hcs0, hc0, hr0⟩ := hK0
  have hcs0' : [(Value.slice a0 len0 cap0)] = [.slice A0 x0.length c0] := hcs0
  injection hcs0' with hcs0'
  injection hcs0' with ha0 hl0 hk0
  subst ha0 hl0 hk0
  have k1 := h1
  obtain ⟨n1, hf1⟩ := h1
  obtain ⟨x1, hK1, hS1, hB1⟩ := op40.go hf1 (fun m hm => by have := List.all_eq_true.1 hsz m (DataW.weights_mem_each (j := 1) rfl rfl m hm); simpa using this)
  have lt1 : ∀ z ∈ p1, z.block < W.heap.size := by obtain ⟨m, hm⟩ := k1; exact DataW.trod_lt m _ _ _ hm
  obtain ⟨a1, len1, cap1, rfl⟩ := okWide_slice Try.underlying40 (hval 1 40 v1 rfl rfl)
  obtain ⟨A1, c1, hcs1, hc1, hr1⟩ := hK1
  have hcs1' : [(Value.slice a1 len1 cap1)] = [.slice A1 x1.length c1] := hcs1
  injection hcs1' with hcs1'
  injection hcs1' with ha1 hl1 hk1
  subst ha1 hl1 hk1
  obtain ⟨k, h⟩ := Pure.TermOwn x0 x1 hS0 hS1
  refine (aumbrylaw04_TermOwn.calls k _ _ x0 _ _ x1 true W hr0 hc0 hr1 hc1 h).mono ?_
  rintro e W' ⟨rfl, hd⟩
  have bel : Below W.heap.size W W' := hd
  exact ⟨_, rfl, _, _, _, [], _, [], hW', trodAll_mk1 (shut_bool Try.underlying4 _), (trodAll_cons_mk (Below.trod laidOut (by kernel_rfl) (of_decide_eq_true (by kernel_rfl)) k0 bel lt0) (trodAll_cons_mk (Below.trod laidOut (by kernel_rfl) (of_decide_eq_true (by kernel_rfl)) k1 bel lt1) trodAll_mk0)), rfl, bel.frame _, fun h => by cases h⟩
set_option maxRecDepth 100000 in
theorem lifted (os : Os) (started : os.Started) (H : Type) (enc : TypeId × Value → H) :
    ReturnsInHanded {} Try.checked os 8 .any (Rows.termOwnSpec.pre6 enc Try.prog Try.f8 Rows.termOwnRow.domain false) (Rows.termOwnSpec.post enc Try.prog Try.f8 false true false false) := by
  refine returnsInHanded_of_change_sized (C := Try.checked) own started (by kernel_rfl) Try.func8
    (ChangeSpec.witness6 (enc := enc) (C := Try.checked) false ⟨#[], #[.slice none 0 0, .slice none 0 0], []⟩ 8 (by kernel_rfl) (by kernel_rfl) (by kernel_rfl) (by kernel_rfl)) ?_
  intro W base args ds gs before hval0 hW hcnd hsz0 _
  exact core W base args ds gs before hval0 hW hsz0
theorem over : Rows.termOwnRow.holds Try.pinned (OpenSpec.ofChange Rows.termOwnSpec) :=
  OpenClaim.holds_of_wide 8 Try.f8 rfl rfl rfl rfl rfl rfl rfl ⟨rfl, rfl, rfl, rfl, rfl⟩ rfl rfl rfl rfl rfl (by kernel_rfl) Try.func8 (by kernel_rfl)
    (of_decide_eq_true (by kernel_rfl)) (by unfold Func.isWrapper; first | (rw [if_pos (by decide +kernel)]; kernel_rfl) | (rw [if_neg (by decide +kernel)]; exact ⟨rfl, rfl⟩))
    (fun os started H enc _ => lifted os started H enc)
theorem proved : Rows.TermOwnSaid := over
end Go.Proofs.Ytcmnpjgmpgjbdaa.termOwn
namespace Go.Proofs.Ytcmnpjgmpgjbdaa
/-- The row, under a short name, for the claim. -/
theorem termOwn_holds : Rows.TermOwnSaid := termOwn.proved
#print axioms termOwn_holds
end Go.Proofs.Ytcmnpjgmpgjbdaa
