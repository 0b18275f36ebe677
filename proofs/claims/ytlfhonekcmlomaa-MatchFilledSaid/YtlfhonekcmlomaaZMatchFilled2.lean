/- MatchFilled: the law answers true at every input that the given row speaks of. Conditions: those of the given row, none besides. (Part 3 of 3; written by programs of this session, which drive the kit's print, and by hand.) -/
import Derived.Test.YtlfhonekcmlomaaRows
import Derived.Test.YtlfhonekcmlomaaZMatchFilledWWords
import Derived.Deep.Slices
import Derived.SizedLaws
import Derived.ChangeSame
import Derived.ChangeArms
import Derived.KernelRfl
import Derived.WalkKit
import Derived.ProofKit
import Derived.OpenShut
import Derived.ShutString
import Derived.ChangeOld
import Derived.Below
import Derived.Carry
import Derived.Test.YtlfhonekcmlomaaZMatchFilled0
import Derived.Test.YtlfhonekcmlomaaZMatchFilled1
-- ==== PF6
namespace Go.Proofs.Ytlfhonekcmlomaa.P
open Go.RowKit Go.Proofs.YtlfhonekcmlomaaW.PrintWords Go.Proofs.YtlfhonekcmlomaaW.PrintLast Go.Proofs.YtlfhonekcmlomaaW.PrintMore
attribute [local go_sem] max2_int min2_int max_two min_two max_three min_three max_four min_four   -- for this text's walks alone
set_option linter.unusedVariables false
set_option linter.unusedSimpArgs false

/-! ### aumbrylaw05_MatchFilled: function 6 -/
mutual
def aumbrylaw05_MatchFilled.j0 : Nat → List (S44) → List (S44) → Bool → Option (Bool)
  | 0, _, _, _ => none
  | k + 1, x1, x7, x40 => if x40 = true then (some false) else (aumbrylaw05_MatchFilled.l0 k x1 x7 (x7.length : Int) 0)
def aumbrylaw05_MatchFilled.l0 : Nat → List (S44) → List (S44) → Int → Int → Option (Bool)
  | 0, _, _, _, _ => none
  | k + 1, x1, x7, x42, x43 => if x43 < x42 then (if 0 ≤ x43 then (if x43 < (x7.length : Int) then ((aumbryref05_At.f k x1 ((rd_T44 x7 x43).f0)).bind fun t121 => (if t121 < 0 then (some false) else (if 0 ≤ t121 then (if t121 < (x1.length : Int) then ((aumbryref04_Same.f k ((rd_T44 x1 t121).f1) ((rd_T44 x7 x43).f1)).bind fun t124 => (if t124 = true then (aumbrylaw05_MatchFilled.l0 k x1 x7 x42 (wrap64 (x43 + 1))) else (some false))) else (none)) else (none)))) else (none)) else (none)) else (some true)
end
def aumbrylaw05_MatchFilled.f (k : Nat) (l0 : List (S47)) (l1 : List (S44)) : Option (Bool) := (aumbrylaw05_wakes.f k).bind fun t101 => (if t101 = true then ((aumbrylaw05_own.f l0).bind fun t102 => ((aumbryref05_Copy.f k l1).bind fun t105 => ((match_Fill.f k t102 t105).bind fun bt108 => (if bt108.2 = 0 then ((aumbrylaw05_own.f l0).bind fun t112 => ((match_Match.f k t112 bt108.1).bind fun bt115 => (if bt115.2.1 = true then (aumbrylaw05_MatchFilled.j0 k l1 bt115.1 (bt115.2.2 != 0)) else (aumbrylaw05_MatchFilled.j0 k l1 bt115.1 true)))) else (some ((bt108.1.length : Int) == 0)))))) else (some false))
set_option maxHeartbeats 8000000 in
set_option maxRecDepth 100000 in
theorem aumbrylaw05_MatchFilled.calls (k : Nat) (A0 : Option Addr) (c0 : Nat) (l0 : List (S47)) (A1 : Option Addr) (c1 : Nat) (l1 : List (S44)) (r : Bool) (w : World) (hr0 : Kd.C k47 w A0 l0.length l0) (hc0 : l0.length ≤ c0) (hr1 : Kd.C k44 w A1 l1.length l1) (hc1 : l1.length ≤ c1) (h : aumbrylaw05_MatchFilled.f k l0 l1 = some r) :
    Calls Try.prog 6 #[.slice A0 l0.length c0, .slice A1 l1.length c1] w fun e w' => e = .returned (.bool r) ∧ Below w.heap.size w w' := by
  have HR0 := Aside0.mk hr0
  have HC0 := Aside0.mk hc0
  clear hr0 hc0
  have HR1 := Aside0.mk hr1
  have HC1 := Aside0.mk hc1
  clear hr1 hc1
  have HB := Aside0.mk (Below.refl w.heap.size w)
  have H : ((aumbrylaw05_wakes.f k).bind fun t101 => (if t101 = true then ((aumbrylaw05_own.f l0).bind fun t102 => ((aumbryref05_Copy.f k l1).bind fun t105 => ((match_Fill.f k t102 t105).bind fun bt108 => (if bt108.2 = 0 then ((aumbrylaw05_own.f l0).bind fun t112 => ((match_Match.f k t112 bt108.1).bind fun bt115 => (if bt115.2.1 = true then (aumbrylaw05_MatchFilled.j0 k l1 bt115.1 (bt115.2.2 != 0)) else (aumbrylaw05_MatchFilled.j0 k l1 bt115.1 true)))) else (some ((bt108.1.length : Int) == 0)))))) else (some false))) = some r := h
  clear h
  replace H := Option.bind_eq_some_iff.mp H
  obtain ⟨t101, A30, H⟩ := H
  replace H : (if t101 = true then ((aumbrylaw05_own.f l0).bind fun t102 => ((aumbryref05_Copy.f k l1).bind fun t105 => ((match_Fill.f k t102 t105).bind fun bt108 => (if bt108.2 = 0 then ((aumbrylaw05_own.f l0).bind fun t112 => ((match_Match.f k t112 bt108.1).bind fun bt115 => (if bt115.2.1 = true then (aumbrylaw05_MatchFilled.j0 k l1 bt115.1 (bt115.2.2 != 0)) else (aumbrylaw05_MatchFilled.j0 k l1 bt115.1 true)))) else (some ((bt108.1.length : Int) == 0)))))) else (some false)) = some r := H
  have A3 := Aside0.mk A30
  clear A30
  by_cases c4 : t101 = true
  · subst c4
    have H1 : ((aumbrylaw05_own.f l0).bind fun t102 => ((aumbryref05_Copy.f k l1).bind fun t105 => ((match_Fill.f k t102 t105).bind fun bt108 => (if bt108.2 = 0 then ((aumbrylaw05_own.f l0).bind fun t112 => ((match_Match.f k t112 bt108.1).bind fun bt115 => (if bt115.2.1 = true then (aumbrylaw05_MatchFilled.j0 k l1 bt115.1 (bt115.2.2 != 0)) else (aumbrylaw05_MatchFilled.j0 k l1 bt115.1 true)))) else (some ((bt108.1.length : Int) == 0)))))) = some r := by rw [if_pos rfl] at H; exact H
    clear H
    have H := H1
    clear H1
    replace H := Option.bind_eq_some_iff.mp H
    obtain ⟨t102, A50, H⟩ := H
    replace H : ((aumbryref05_Copy.f k l1).bind fun t105 => ((match_Fill.f k t102 t105).bind fun bt108 => (if bt108.2 = 0 then ((aumbrylaw05_own.f l0).bind fun t112 => ((match_Match.f k t112 bt108.1).bind fun bt115 => (if bt115.2.1 = true then (aumbrylaw05_MatchFilled.j0 k l1 bt115.1 (bt115.2.2 != 0)) else (aumbrylaw05_MatchFilled.j0 k l1 bt115.1 true)))) else (some ((bt108.1.length : Int) == 0))))) = some r := H
    have A5 := Aside0.mk A50
    clear A50
    replace H := Option.bind_eq_some_iff.mp H
    obtain ⟨t105, A60, H⟩ := H
    replace H : ((match_Fill.f k t102 t105).bind fun bt108 => (if bt108.2 = 0 then ((aumbrylaw05_own.f l0).bind fun t112 => ((match_Match.f k t112 bt108.1).bind fun bt115 => (if bt115.2.1 = true then (aumbrylaw05_MatchFilled.j0 k l1 bt115.1 (bt115.2.2 != 0)) else (aumbrylaw05_MatchFilled.j0 k l1 bt115.1 true)))) else (some ((bt108.1.length : Int) == 0)))) = some r := H
    have A6 := Aside0.mk A60
    clear A60
    replace H := Option.bind_eq_some_iff.mp H
    obtain ⟨⟨t108, t109⟩, A70, H⟩ := H
    replace H : (if t109 = 0 then ((aumbrylaw05_own.f l0).bind fun t112 => ((match_Match.f k t112 t108).bind fun bt115 => (if bt115.2.1 = true then (aumbrylaw05_MatchFilled.j0 k l1 bt115.1 (bt115.2.2 != 0)) else (aumbrylaw05_MatchFilled.j0 k l1 bt115.1 true)))) else (some ((t108.length : Int) == 0))) = some r := H
    have A7 := Aside0.mk A70
    clear A70
    by_cases c8 : t109 = 0
    · rw [if_pos c8] at H
      have c8b0 : (t109 == 0) = true := beq_iff_eq.mpr c8
      have c8b1 : (t109 != 0) = false := bne_eq_false_iff_eq.mpr c8
      clear c8
      replace H := Option.bind_eq_some_iff.mp H
      obtain ⟨t112, A90, H⟩ := H
      replace H : ((match_Match.f k t112 t108).bind fun bt115 => (if bt115.2.1 = true then (aumbrylaw05_MatchFilled.j0 k l1 bt115.1 (bt115.2.2 != 0)) else (aumbrylaw05_MatchFilled.j0 k l1 bt115.1 true))) = some r := H
      have A9 := Aside0.mk A90
      clear A90
      replace H := Option.bind_eq_some_iff.mp H
      obtain ⟨⟨t115, t116, t117⟩, A100, H⟩ := H
      replace H : (if t116 = true then (aumbrylaw05_MatchFilled.j0 k l1 t115 (t117 != 0)) else (aumbrylaw05_MatchFilled.j0 k l1 t115 true)) = some r := H
      have A10 := Aside0.mk A100
      clear A100
      have HC11 := Aside0.mk H
      clear H
      go_enter Try.func6, Try.ntmps6
      go_upto_region 7 with (first | (go_at_call 9; (with_reducible refine (aumbrylaw05_wakes.calls k  true _ A3.out).mono ?_); rintro e w12 ⟨rfl, hb⟩; have n0_ := Aside0.mk (below_step (by repeat (first | (with_reducible first | exact HB.out | apply below_alloc | apply pw_below_drewN | apply below_drew1) | exact HB.out)) hb); clear HB; have HB := n0_; clear n0_; (try clear hb); (try clear hb2); (try clear hk); (try clear hi)) | (go_at_call 11; (fail_if_success (have q_ := HO104)); (with_reducible refine (aumbrylaw05_own.calls _ _ l0 t102 _ ?side1 ?side2 A5.out).mono ?_); (case side1 => repeat (first | exact (Kd.C_below HR0.out HB.out) | (with_reducible refine Kd.C_alloc ?_ _) | (with_reducible refine Kd.C_drewN ?_ _) | (with_reducible refine Kd.C_drew ?_))); (case side2 => exact HC0.out); rintro e w13 ⟨v103, rfl, ho0, hb⟩; have n0_ := Aside0.mk (Kd.R_lower ho0 (below_size (by repeat (first | (with_reducible first | exact HB.out | apply below_alloc | apply pw_below_drewN | apply below_drew1) | exact HB.out)))); have n1_ := Aside0.mk (below_step (by repeat (first | (with_reducible first | exact HB.out | apply below_alloc | apply pw_below_drewN | apply below_drew1) | exact HB.out)) hb); clear HB; have HO104 := n0_; have HB := n1_; clear n0_ n1_; (try clear hb); (try clear hb2); (try clear hk); (try clear hi); (try clear ho0)) | (go_at_call 15; (with_reducible refine (aumbryref05_Copy.calls k _ _ l1 t105 _ ?side1 ?side2 A6.out).mono ?_); (case side1 => repeat (first | exact (Kd.C_below HR1.out HB.out) | (with_reducible refine Kd.C_alloc ?_ _) | (with_reducible refine Kd.C_drewN ?_ _) | (with_reducible refine Kd.C_drew ?_))); (case side2 => exact HC1.out); rintro e w14 ⟨v106, rfl, ho0, hb⟩; have n0_ := Aside0.mk (Kd.R_below (by (with_reducible repeat (first | apply Kd.R_alloc | apply Kd.R_drewN | apply Kd.R_drew)); exact HO104.out) hb); have n1_ := Aside0.mk (Kd.S_lower (Kd.S_new' ho0 (Kd.R_lt (by (with_reducible repeat (first | apply Kd.R_alloc | apply Kd.R_drewN | apply Kd.R_drew)); exact HO104.out))) (below_size (by repeat (first | (with_reducible first | exact HB.out | apply below_alloc | apply pw_below_drewN | apply below_drew1) | exact HB.out)))); have n2_ := Aside0.mk (below_step (by repeat (first | (with_reducible first | exact HB.out | apply below_alloc | apply pw_below_drewN | apply below_drew1) | exact HB.out)) hb); clear HO104; clear HB; have HO104 := n0_; have HO107 := n1_; have HB := n2_; clear n0_ n1_ n2_; (try clear hb); (try clear hb2); (try clear hk); (try clear hi); (try clear ho0); obtain ⟨Ao15, co15, eo15⟩ := Kd.R_slice HO104.out; subst eo15; obtain ⟨Ao16, co16, eo16⟩ := Kd.S_slice HO107.out; subst eo16) | (go_at_call 14; (with_reducible refine (match_Fill.calls k _ _ t102 _ _ t105 t108 t109 _ ?side1 ?side2 ?side3 ?side4 A7.out).mono ?_); (case side1 => repeat (first | exact (Kd.R_reads' HO104.out).2.2 | (with_reducible refine Kd.C_alloc ?_ _) | (with_reducible refine Kd.C_drewN ?_ _) | (with_reducible refine Kd.C_drew ?_))); (case side2 => exact (Kd.R_reads' HO104.out).2.1); (case side3 => repeat (first | exact (Kd.S_reads' HO107.out).2.2 | (with_reducible refine Kd.C_alloc ?_ _) | (with_reducible refine Kd.C_drewN ?_ _) | (with_reducible refine Kd.C_drew ?_))); (case side4 => exact (Kd.S_reads' HO107.out).2.1); rintro e w17 ⟨v110, rfl, ho0, hb⟩; have n0_ := Aside0.mk (Kd.R_elder' (by (with_reducible repeat (first | apply Kd.R_alloc | apply Kd.R_drewN | apply Kd.R_drew)); exact HO104.out) (Kd.R_base ho0) hb); have n1_ := Aside0.mk (Kd.S_elder' (by (with_reducible repeat (first | apply Kd.S_alloc | apply Kd.S_drewN | apply Kd.S_drew)); exact HO107.out) (Kd.R_base ho0) hb); have n2_ := Aside0.mk (Kd.R_lower (Kd.R_new' ho0 (Kd.R_lt (by (with_reducible repeat (first | apply Kd.R_alloc | apply Kd.R_drewN | apply Kd.R_drew)); exact HO104.out))) (below_size (by repeat (first | (with_reducible first | exact HB.out | apply below_alloc | apply pw_below_drewN | apply below_drew1) | exact HB.out)))); have n3_ := Aside0.mk (below_step (by repeat (first | (with_reducible first | exact HB.out | apply below_alloc | apply pw_below_drewN | apply below_drew1) | exact HB.out)) hb); clear HO104; clear HO107; clear HB; have HO104 := n0_; have HO107 := n1_; have HO111 := n2_; have HB := n3_; clear n0_ n1_ n2_ n3_; (try clear hb); (try clear hb2); (try clear hk); (try clear hi); (try clear ho0)) | (go_at_call 11; (fail_if_success (have q_ := HO114)); (with_reducible refine (aumbrylaw05_own.calls _ _ l0 t112 _ ?side1 ?side2 A9.out).mono ?_); (case side1 => repeat (first | exact (Kd.C_below HR0.out HB.out) | (with_reducible refine Kd.C_alloc ?_ _) | (with_reducible refine Kd.C_drewN ?_ _) | (with_reducible refine Kd.C_drew ?_))); (case side2 => exact HC0.out); rintro e w18 ⟨v113, rfl, ho0, hb⟩; have n0_ := Aside0.mk (Kd.R_elder' (by (with_reducible repeat (first | apply Kd.R_alloc | apply Kd.R_drewN | apply Kd.R_drew)); exact HO104.out) (Kd.R_base ho0) hb); have n1_ := Aside0.mk (Kd.S_elder' (by (with_reducible repeat (first | apply Kd.S_alloc | apply Kd.S_drewN | apply Kd.S_drew)); exact HO107.out) (Kd.R_base ho0) hb); have n2_ := Aside0.mk (Kd.R_elder' (by (with_reducible repeat (first | apply Kd.R_alloc | apply Kd.R_drewN | apply Kd.R_drew)); exact HO111.out) (Kd.R_base ho0) hb); have n3_ := Aside0.mk (Kd.R_lower (Kd.R_new' (Kd.R_new' ho0 (Kd.R_lt (by (with_reducible repeat (first | apply Kd.R_alloc | apply Kd.R_drewN | apply Kd.R_drew)); exact HO104.out))) (Kd.R_lt (by (with_reducible repeat (first | apply Kd.R_alloc | apply Kd.R_drewN | apply Kd.R_drew)); exact HO111.out))) (below_size (by repeat (first | (with_reducible first | exact HB.out | apply below_alloc | apply pw_below_drewN | apply below_drew1) | exact HB.out)))); have n4_ := Aside0.mk (below_step (by repeat (first | (with_reducible first | exact HB.out | apply below_alloc | apply pw_below_drewN | apply below_drew1) | exact HB.out)) hb); clear HO104; clear HO107; clear HO111; clear HB; have HO104 := n0_; have HO107 := n1_; have HO111 := n2_; have HO114 := n3_; have HB := n4_; clear n0_ n1_ n2_ n3_ n4_; (try clear hb); (try clear hb2); (try clear hk); (try clear hi); (try clear ho0); obtain ⟨Ao19, co19, eo19⟩ := Kd.R_slice HO114.out; subst eo19; obtain ⟨Ao20, co20, eo20⟩ := Kd.R_slice HO111.out; subst eo20) | (go_at_call 10; (with_reducible refine (match_Match.calls k _ _ t112 _ _ t108 t115 t116 t117 _ ?side1 ?side2 ?side3 ?side4 A10.out).mono ?_); (case side1 => repeat (first | exact (Kd.R_reads' HO114.out).2.2 | (with_reducible refine Kd.C_alloc ?_ _) | (with_reducible refine Kd.C_drewN ?_ _) | (with_reducible refine Kd.C_drew ?_))); (case side2 => exact (Kd.R_reads' HO114.out).2.1); (case side3 => repeat (first | exact (Kd.R_reads' HO111.out).2.2 | (with_reducible refine Kd.C_alloc ?_ _) | (with_reducible refine Kd.C_drewN ?_ _) | (with_reducible refine Kd.C_drew ?_))); (case side4 => exact (Kd.R_reads' HO111.out).2.1); rintro e w21 ⟨v118, rfl, ho0, hb⟩; have n0_ := Aside0.mk (Kd.R_below (by (with_reducible repeat (first | apply Kd.R_alloc | apply Kd.R_drewN | apply Kd.R_drew)); exact HO104.out) hb); have n1_ := Aside0.mk (Kd.S_elder' (by (with_reducible repeat (first | apply Kd.S_alloc | apply Kd.S_drewN | apply Kd.S_drew)); exact HO107.out) (Kd.S_base ho0) hb); have n2_ := Aside0.mk (Kd.R_below (by (with_reducible repeat (first | apply Kd.R_alloc | apply Kd.R_drewN | apply Kd.R_drew)); exact HO111.out) hb); have n3_ := Aside0.mk (Kd.R_below (by (with_reducible repeat (first | apply Kd.R_alloc | apply Kd.R_drewN | apply Kd.R_drew)); exact HO114.out) hb); have n4_ := Aside0.mk (Kd.S_lower (Kd.S_new' (Kd.S_new' (Kd.S_new' (Kd.S_new' ho0 (Kd.R_lt (by (with_reducible repeat (first | apply Kd.R_alloc | apply Kd.R_drewN | apply Kd.R_drew)); exact HO104.out))) (Kd.S_lt (by (with_reducible repeat (first | apply Kd.S_alloc | apply Kd.S_drewN | apply Kd.S_drew)); exact HO107.out))) (Kd.R_lt (by (with_reducible repeat (first | apply Kd.R_alloc | apply Kd.R_drewN | apply Kd.R_drew)); exact HO111.out))) (Kd.R_lt (by (with_reducible repeat (first | apply Kd.R_alloc | apply Kd.R_drewN | apply Kd.R_drew)); exact HO114.out))) (below_size (by repeat (first | (with_reducible first | exact HB.out | apply below_alloc | apply pw_below_drewN | apply below_drew1) | exact HB.out)))); have n5_ := Aside0.mk (below_step (by repeat (first | (with_reducible first | exact HB.out | apply below_alloc | apply pw_below_drewN | apply below_drew1) | exact HB.out)) hb); clear HO104; clear HO107; clear HO111; clear HO114; clear HB; have HO104 := n0_; have HO107 := n1_; have HO111 := n2_; have HO114 := n3_; have HO119 := n4_; have HB := n5_; clear n0_ n1_ n2_ n3_ n4_ n5_; (try clear hb); (try clear hb2); (try clear hk); (try clear hi); (try clear ho0)))
      repeat (go_quiet (first | (go_at_call 9; (with_reducible refine (aumbrylaw05_wakes.calls k  true _ A3.out).mono ?_); rintro e w12 ⟨rfl, hb⟩; have n0_ := Aside0.mk (below_step (by repeat (first | (with_reducible first | exact HB.out | apply below_alloc | apply pw_below_drewN | apply below_drew1) | exact HB.out)) hb); clear HB; have HB := n0_; clear n0_; (try clear hb); (try clear hb2); (try clear hk); (try clear hi)) | (go_at_call 11; (fail_if_success (have q_ := HO104)); (with_reducible refine (aumbrylaw05_own.calls _ _ l0 t102 _ ?side1 ?side2 A5.out).mono ?_); (case side1 => repeat (first | exact (Kd.C_below HR0.out HB.out) | (with_reducible refine Kd.C_alloc ?_ _) | (with_reducible refine Kd.C_drewN ?_ _) | (with_reducible refine Kd.C_drew ?_))); (case side2 => exact HC0.out); rintro e w13 ⟨v103, rfl, ho0, hb⟩; have n0_ := Aside0.mk (Kd.R_lower ho0 (below_size (by repeat (first | (with_reducible first | exact HB.out | apply below_alloc | apply pw_below_drewN | apply below_drew1) | exact HB.out)))); have n1_ := Aside0.mk (below_step (by repeat (first | (with_reducible first | exact HB.out | apply below_alloc | apply pw_below_drewN | apply below_drew1) | exact HB.out)) hb); clear HB; have HO104 := n0_; have HB := n1_; clear n0_ n1_; (try clear hb); (try clear hb2); (try clear hk); (try clear hi); (try clear ho0)) | (go_at_call 15; (with_reducible refine (aumbryref05_Copy.calls k _ _ l1 t105 _ ?side1 ?side2 A6.out).mono ?_); (case side1 => repeat (first | exact (Kd.C_below HR1.out HB.out) | (with_reducible refine Kd.C_alloc ?_ _) | (with_reducible refine Kd.C_drewN ?_ _) | (with_reducible refine Kd.C_drew ?_))); (case side2 => exact HC1.out); rintro e w14 ⟨v106, rfl, ho0, hb⟩; have n0_ := Aside0.mk (Kd.R_below (by (with_reducible repeat (first | apply Kd.R_alloc | apply Kd.R_drewN | apply Kd.R_drew)); exact HO104.out) hb); have n1_ := Aside0.mk (Kd.S_lower (Kd.S_new' ho0 (Kd.R_lt (by (with_reducible repeat (first | apply Kd.R_alloc | apply Kd.R_drewN | apply Kd.R_drew)); exact HO104.out))) (below_size (by repeat (first | (with_reducible first | exact HB.out | apply below_alloc | apply pw_below_drewN | apply below_drew1) | exact HB.out)))); have n2_ := Aside0.mk (below_step (by repeat (first | (with_reducible first | exact HB.out | apply below_alloc | apply pw_below_drewN | apply below_drew1) | exact HB.out)) hb); clear HO104; clear HB; have HO104 := n0_; have HO107 := n1_; have HB := n2_; clear n0_ n1_ n2_; (try clear hb); (try clear hb2); (try clear hk); (try clear hi); (try clear ho0); obtain ⟨Ao15, co15, eo15⟩ := Kd.R_slice HO104.out; subst eo15; obtain ⟨Ao16, co16, eo16⟩ := Kd.S_slice HO107.out; subst eo16) | (go_at_call 14; (with_reducible refine (match_Fill.calls k _ _ t102 _ _ t105 t108 t109 _ ?side1 ?side2 ?side3 ?side4 A7.out).mono ?_); (case side1 => repeat (first | exact (Kd.R_reads' HO104.out).2.2 | (with_reducible refine Kd.C_alloc ?_ _) | (with_reducible refine Kd.C_drewN ?_ _) | (with_reducible refine Kd.C_drew ?_))); (case side2 => exact (Kd.R_reads' HO104.out).2.1); (case side3 => repeat (first | exact (Kd.S_reads' HO107.out).2.2 | (with_reducible refine Kd.C_alloc ?_ _) | (with_reducible refine Kd.C_drewN ?_ _) | (with_reducible refine Kd.C_drew ?_))); (case side4 => exact (Kd.S_reads' HO107.out).2.1); rintro e w17 ⟨v110, rfl, ho0, hb⟩; have n0_ := Aside0.mk (Kd.R_elder' (by (with_reducible repeat (first | apply Kd.R_alloc | apply Kd.R_drewN | apply Kd.R_drew)); exact HO104.out) (Kd.R_base ho0) hb); have n1_ := Aside0.mk (Kd.S_elder' (by (with_reducible repeat (first | apply Kd.S_alloc | apply Kd.S_drewN | apply Kd.S_drew)); exact HO107.out) (Kd.R_base ho0) hb); have n2_ := Aside0.mk (Kd.R_lower (Kd.R_new' ho0 (Kd.R_lt (by (with_reducible repeat (first | apply Kd.R_alloc | apply Kd.R_drewN | apply Kd.R_drew)); exact HO104.out))) (below_size (by repeat (first | (with_reducible first | exact HB.out | apply below_alloc | apply pw_below_drewN | apply below_drew1) | exact HB.out)))); have n3_ := Aside0.mk (below_step (by repeat (first | (with_reducible first | exact HB.out | apply below_alloc | apply pw_below_drewN | apply below_drew1) | exact HB.out)) hb); clear HO104; clear HO107; clear HB; have HO104 := n0_; have HO107 := n1_; have HO111 := n2_; have HB := n3_; clear n0_ n1_ n2_ n3_; (try clear hb); (try clear hb2); (try clear hk); (try clear hi); (try clear ho0)) | (go_at_call 11; (fail_if_success (have q_ := HO114)); (with_reducible refine (aumbrylaw05_own.calls _ _ l0 t112 _ ?side1 ?side2 A9.out).mono ?_); (case side1 => repeat (first | exact (Kd.C_below HR0.out HB.out) | (with_reducible refine Kd.C_alloc ?_ _) | (with_reducible refine Kd.C_drewN ?_ _) | (with_reducible refine Kd.C_drew ?_))); (case side2 => exact HC0.out); rintro e w18 ⟨v113, rfl, ho0, hb⟩; have n0_ := Aside0.mk (Kd.R_elder' (by (with_reducible repeat (first | apply Kd.R_alloc | apply Kd.R_drewN | apply Kd.R_drew)); exact HO104.out) (Kd.R_base ho0) hb); have n1_ := Aside0.mk (Kd.S_elder' (by (with_reducible repeat (first | apply Kd.S_alloc | apply Kd.S_drewN | apply Kd.S_drew)); exact HO107.out) (Kd.R_base ho0) hb); have n2_ := Aside0.mk (Kd.R_elder' (by (with_reducible repeat (first | apply Kd.R_alloc | apply Kd.R_drewN | apply Kd.R_drew)); exact HO111.out) (Kd.R_base ho0) hb); have n3_ := Aside0.mk (Kd.R_lower (Kd.R_new' (Kd.R_new' ho0 (Kd.R_lt (by (with_reducible repeat (first | apply Kd.R_alloc | apply Kd.R_drewN | apply Kd.R_drew)); exact HO104.out))) (Kd.R_lt (by (with_reducible repeat (first | apply Kd.R_alloc | apply Kd.R_drewN | apply Kd.R_drew)); exact HO111.out))) (below_size (by repeat (first | (with_reducible first | exact HB.out | apply below_alloc | apply pw_below_drewN | apply below_drew1) | exact HB.out)))); have n4_ := Aside0.mk (below_step (by repeat (first | (with_reducible first | exact HB.out | apply below_alloc | apply pw_below_drewN | apply below_drew1) | exact HB.out)) hb); clear HO104; clear HO107; clear HO111; clear HB; have HO104 := n0_; have HO107 := n1_; have HO111 := n2_; have HO114 := n3_; have HB := n4_; clear n0_ n1_ n2_ n3_ n4_; (try clear hb); (try clear hb2); (try clear hk); (try clear hi); (try clear ho0); obtain ⟨Ao19, co19, eo19⟩ := Kd.R_slice HO114.out; subst eo19; obtain ⟨Ao20, co20, eo20⟩ := Kd.R_slice HO111.out; subst eo20) | (go_at_call 10; (with_reducible refine (match_Match.calls k _ _ t112 _ _ t108 t115 t116 t117 _ ?side1 ?side2 ?side3 ?side4 A10.out).mono ?_); (case side1 => repeat (first | exact (Kd.R_reads' HO114.out).2.2 | (with_reducible refine Kd.C_alloc ?_ _) | (with_reducible refine Kd.C_drewN ?_ _) | (with_reducible refine Kd.C_drew ?_))); (case side2 => exact (Kd.R_reads' HO114.out).2.1); (case side3 => repeat (first | exact (Kd.R_reads' HO111.out).2.2 | (with_reducible refine Kd.C_alloc ?_ _) | (with_reducible refine Kd.C_drewN ?_ _) | (with_reducible refine Kd.C_drew ?_))); (case side4 => exact (Kd.R_reads' HO111.out).2.1); rintro e w21 ⟨v118, rfl, ho0, hb⟩; have n0_ := Aside0.mk (Kd.R_below (by (with_reducible repeat (first | apply Kd.R_alloc | apply Kd.R_drewN | apply Kd.R_drew)); exact HO104.out) hb); have n1_ := Aside0.mk (Kd.S_elder' (by (with_reducible repeat (first | apply Kd.S_alloc | apply Kd.S_drewN | apply Kd.S_drew)); exact HO107.out) (Kd.S_base ho0) hb); have n2_ := Aside0.mk (Kd.R_below (by (with_reducible repeat (first | apply Kd.R_alloc | apply Kd.R_drewN | apply Kd.R_drew)); exact HO111.out) hb); have n3_ := Aside0.mk (Kd.R_below (by (with_reducible repeat (first | apply Kd.R_alloc | apply Kd.R_drewN | apply Kd.R_drew)); exact HO114.out) hb); have n4_ := Aside0.mk (Kd.S_lower (Kd.S_new' (Kd.S_new' (Kd.S_new' (Kd.S_new' ho0 (Kd.R_lt (by (with_reducible repeat (first | apply Kd.R_alloc | apply Kd.R_drewN | apply Kd.R_drew)); exact HO104.out))) (Kd.S_lt (by (with_reducible repeat (first | apply Kd.S_alloc | apply Kd.S_drewN | apply Kd.S_drew)); exact HO107.out))) (Kd.R_lt (by (with_reducible repeat (first | apply Kd.R_alloc | apply Kd.R_drewN | apply Kd.R_drew)); exact HO111.out))) (Kd.R_lt (by (with_reducible repeat (first | apply Kd.R_alloc | apply Kd.R_drewN | apply Kd.R_drew)); exact HO114.out))) (below_size (by repeat (first | (with_reducible first | exact HB.out | apply below_alloc | apply pw_below_drewN | apply below_drew1) | exact HB.out)))); have n5_ := Aside0.mk (below_step (by repeat (first | (with_reducible first | exact HB.out | apply below_alloc | apply pw_below_drewN | apply below_drew1) | exact HB.out)) hb); clear HO104; clear HO107; clear HO111; clear HO114; clear HB; have HO104 := n0_; have HO107 := n1_; have HO111 := n2_; have HO114 := n3_; have HO119 := n4_; have HB := n5_; clear n0_ n1_ n2_ n3_ n4_ n5_; (try clear hb); (try clear hb2); (try clear hk); (try clear hi); (try clear ho0))); go_upto_region 7 with (first | (go_at_call 9; (with_reducible refine (aumbrylaw05_wakes.calls k  true _ A3.out).mono ?_); rintro e w12 ⟨rfl, hb⟩; have n0_ := Aside0.mk (below_step (by repeat (first | (with_reducible first | exact HB.out | apply below_alloc | apply pw_below_drewN | apply below_drew1) | exact HB.out)) hb); clear HB; have HB := n0_; clear n0_; (try clear hb); (try clear hb2); (try clear hk); (try clear hi)) | (go_at_call 11; (with_reducible refine (aumbrylaw05_own.calls _ _ l0 t102 _ ?side1 ?side2 A5.out).mono ?_); (case side1 => repeat (first | exact (Kd.C_below HR0.out HB.out) | (with_reducible refine Kd.C_alloc ?_ _) | (with_reducible refine Kd.C_drewN ?_ _) | (with_reducible refine Kd.C_drew ?_))); (case side2 => exact HC0.out); rintro e w13 ⟨v103, rfl, ho0, hb⟩; have n0_ := Aside0.mk (Kd.R_lower ho0 (below_size (by repeat (first | (with_reducible first | exact HB.out | apply below_alloc | apply pw_below_drewN | apply below_drew1) | exact HB.out)))); have n1_ := Aside0.mk (below_step (by repeat (first | (with_reducible first | exact HB.out | apply below_alloc | apply pw_below_drewN | apply below_drew1) | exact HB.out)) hb); clear HB; have HO104 := n0_; have HB := n1_; clear n0_ n1_; (try clear hb); (try clear hb2); (try clear hk); (try clear hi); (try clear ho0)) | (go_at_call 15; (with_reducible refine (aumbryref05_Copy.calls k _ _ l1 t105 _ ?side1 ?side2 A6.out).mono ?_); (case side1 => repeat (first | exact (Kd.C_below HR1.out HB.out) | (with_reducible refine Kd.C_alloc ?_ _) | (with_reducible refine Kd.C_drewN ?_ _) | (with_reducible refine Kd.C_drew ?_))); (case side2 => exact HC1.out); rintro e w14 ⟨v106, rfl, ho0, hb⟩; have n0_ := Aside0.mk (Kd.R_below (by (with_reducible repeat (first | apply Kd.R_alloc | apply Kd.R_drewN | apply Kd.R_drew)); exact HO104.out) hb); have n1_ := Aside0.mk (Kd.S_lower (Kd.S_new' ho0 (Kd.R_lt (by (with_reducible repeat (first | apply Kd.R_alloc | apply Kd.R_drewN | apply Kd.R_drew)); exact HO104.out))) (below_size (by repeat (first | (with_reducible first | exact HB.out | apply below_alloc | apply pw_below_drewN | apply below_drew1) | exact HB.out)))); have n2_ := Aside0.mk (below_step (by repeat (first | (with_reducible first | exact HB.out | apply below_alloc | apply pw_below_drewN | apply below_drew1) | exact HB.out)) hb); clear HO104; clear HB; have HO104 := n0_; have HO107 := n1_; have HB := n2_; clear n0_ n1_ n2_; (try clear hb); (try clear hb2); (try clear hk); (try clear hi); (try clear ho0); obtain ⟨Ao15, co15, eo15⟩ := Kd.R_slice HO104.out; subst eo15; obtain ⟨Ao16, co16, eo16⟩ := Kd.S_slice HO107.out; subst eo16) | (go_at_call 14; (with_reducible refine (match_Fill.calls k _ _ t102 _ _ t105 t108 t109 _ ?side1 ?side2 ?side3 ?side4 A7.out).mono ?_); (case side1 => repeat (first | exact (Kd.R_reads' HO104.out).2.2 | (with_reducible refine Kd.C_alloc ?_ _) | (with_reducible refine Kd.C_drewN ?_ _) | (with_reducible refine Kd.C_drew ?_))); (case side2 => exact (Kd.R_reads' HO104.out).2.1); (case side3 => repeat (first | exact (Kd.S_reads' HO107.out).2.2 | (with_reducible refine Kd.C_alloc ?_ _) | (with_reducible refine Kd.C_drewN ?_ _) | (with_reducible refine Kd.C_drew ?_))); (case side4 => exact (Kd.S_reads' HO107.out).2.1); rintro e w17 ⟨v110, rfl, ho0, hb⟩; have n0_ := Aside0.mk (Kd.R_elder' (by (with_reducible repeat (first | apply Kd.R_alloc | apply Kd.R_drewN | apply Kd.R_drew)); exact HO104.out) (Kd.R_base ho0) hb); have n1_ := Aside0.mk (Kd.S_elder' (by (with_reducible repeat (first | apply Kd.S_alloc | apply Kd.S_drewN | apply Kd.S_drew)); exact HO107.out) (Kd.R_base ho0) hb); have n2_ := Aside0.mk (Kd.R_lower (Kd.R_new' ho0 (Kd.R_lt (by (with_reducible repeat (first | apply Kd.R_alloc | apply Kd.R_drewN | apply Kd.R_drew)); exact HO104.out))) (below_size (by repeat (first | (with_reducible first | exact HB.out | apply below_alloc | apply pw_below_drewN | apply below_drew1) | exact HB.out)))); have n3_ := Aside0.mk (below_step (by repeat (first | (with_reducible first | exact HB.out | apply below_alloc | apply pw_below_drewN | apply below_drew1) | exact HB.out)) hb); clear HO104; clear HO107; clear HB; have HO104 := n0_; have HO107 := n1_; have HO111 := n2_; have HB := n3_; clear n0_ n1_ n2_ n3_; (try clear hb); (try clear hb2); (try clear hk); (try clear hi); (try clear ho0)) | (go_at_call 11; (with_reducible refine (aumbrylaw05_own.calls _ _ l0 t112 _ ?side1 ?side2 A9.out).mono ?_); (case side1 => repeat (first | exact (Kd.C_below HR0.out HB.out) | (with_reducible refine Kd.C_alloc ?_ _) | (with_reducible refine Kd.C_drewN ?_ _) | (with_reducible refine Kd.C_drew ?_))); (case side2 => exact HC0.out); rintro e w18 ⟨v113, rfl, ho0, hb⟩; have n0_ := Aside0.mk (Kd.R_elder' (by (with_reducible repeat (first | apply Kd.R_alloc | apply Kd.R_drewN | apply Kd.R_drew)); exact HO104.out) (Kd.R_base ho0) hb); have n1_ := Aside0.mk (Kd.S_elder' (by (with_reducible repeat (first | apply Kd.S_alloc | apply Kd.S_drewN | apply Kd.S_drew)); exact HO107.out) (Kd.R_base ho0) hb); have n2_ := Aside0.mk (Kd.R_elder' (by (with_reducible repeat (first | apply Kd.R_alloc | apply Kd.R_drewN | apply Kd.R_drew)); exact HO111.out) (Kd.R_base ho0) hb); have n3_ := Aside0.mk (Kd.R_lower (Kd.R_new' (Kd.R_new' ho0 (Kd.R_lt (by (with_reducible repeat (first | apply Kd.R_alloc | apply Kd.R_drewN | apply Kd.R_drew)); exact HO104.out))) (Kd.R_lt (by (with_reducible repeat (first | apply Kd.R_alloc | apply Kd.R_drewN | apply Kd.R_drew)); exact HO111.out))) (below_size (by repeat (first | (with_reducible first | exact HB.out | apply below_alloc | apply pw_below_drewN | apply below_drew1) | exact HB.out)))); have n4_ := Aside0.mk (below_step (by repeat (first | (with_reducible first | exact HB.out | apply below_alloc | apply pw_below_drewN | apply below_drew1) | exact HB.out)) hb); clear HO104; clear HO107; clear HO111; clear HB; have HO104 := n0_; have HO107 := n1_; have HO111 := n2_; have HO114 := n3_; have HB := n4_; clear n0_ n1_ n2_ n3_ n4_; (try clear hb); (try clear hb2); (try clear hk); (try clear hi); (try clear ho0); obtain ⟨Ao19, co19, eo19⟩ := Kd.R_slice HO114.out; subst eo19; obtain ⟨Ao20, co20, eo20⟩ := Kd.R_slice HO111.out; subst eo20) | (go_at_call 10; (with_reducible refine (match_Match.calls k _ _ t112 _ _ t108 t115 t116 t117 _ ?side1 ?side2 ?side3 ?side4 A10.out).mono ?_); (case side1 => repeat (first | exact (Kd.R_reads' HO114.out).2.2 | (with_reducible refine Kd.C_alloc ?_ _) | (with_reducible refine Kd.C_drewN ?_ _) | (with_reducible refine Kd.C_drew ?_))); (case side2 => exact (Kd.R_reads' HO114.out).2.1); (case side3 => repeat (first | exact (Kd.R_reads' HO111.out).2.2 | (with_reducible refine Kd.C_alloc ?_ _) | (with_reducible refine Kd.C_drewN ?_ _) | (with_reducible refine Kd.C_drew ?_))); (case side4 => exact (Kd.R_reads' HO111.out).2.1); rintro e w21 ⟨v118, rfl, ho0, hb⟩; have n0_ := Aside0.mk (Kd.R_below (by (with_reducible repeat (first | apply Kd.R_alloc | apply Kd.R_drewN | apply Kd.R_drew)); exact HO104.out) hb); have n1_ := Aside0.mk (Kd.S_elder' (by (with_reducible repeat (first | apply Kd.S_alloc | apply Kd.S_drewN | apply Kd.S_drew)); exact HO107.out) (Kd.S_base ho0) hb); have n2_ := Aside0.mk (Kd.R_below (by (with_reducible repeat (first | apply Kd.R_alloc | apply Kd.R_drewN | apply Kd.R_drew)); exact HO111.out) hb); have n3_ := Aside0.mk (Kd.R_below (by (with_reducible repeat (first | apply Kd.R_alloc | apply Kd.R_drewN | apply Kd.R_drew)); exact HO114.out) hb); have n4_ := Aside0.mk (Kd.S_lower (Kd.S_new' (Kd.S_new' (Kd.S_new' (Kd.S_new' ho0 (Kd.R_lt (by (with_reducible repeat (first | apply Kd.R_alloc | apply Kd.R_drewN | apply Kd.R_drew)); exact HO104.out))) (Kd.S_lt (by (with_reducible repeat (first | apply Kd.S_alloc | apply Kd.S_drewN | apply Kd.S_drew)); exact HO107.out))) (Kd.R_lt (by (with_reducible repeat (first | apply Kd.R_alloc | apply Kd.R_drewN | apply Kd.R_drew)); exact HO111.out))) (Kd.R_lt (by (with_reducible repeat (first | apply Kd.R_alloc | apply Kd.R_drewN | apply Kd.R_drew)); exact HO114.out))) (below_size (by repeat (first | (with_reducible first | exact HB.out | apply below_alloc | apply pw_below_drewN | apply below_drew1) | exact HB.out)))); have n5_ := Aside0.mk (below_step (by repeat (first | (with_reducible first | exact HB.out | apply below_alloc | apply pw_below_drewN | apply below_drew1) | exact HB.out)) hb); clear HO104; clear HO107; clear HO111; clear HO114; clear HB; have HO104 := n0_; have HO107 := n1_; have HO111 := n2_; have HO114 := n3_; have HO119 := n4_; have HB := n5_; clear n0_ n1_ n2_ n3_ n4_ n5_; (try clear hb); (try clear hb2); (try clear hk); (try clear hi); (try clear ho0))))
      (try simp only [Act.put, List.setIfInBounds_toArray, List.set_cons_zero, List.set_cons_succ])
      go_cut [40] (fun v40 wc => ∃ (kq : Nat) (x40_10 : Bool), v40 = .bool x40_10 ∧ Aside0 (aumbrylaw05_MatchFilled.j0 kq l1 t115 x40_10 = some r) ∧ Aside0 (kq ≤ k) ∧ Aside0 (Kd.S k44 44 wc w.heap.size (fun _ => True) v118 t115) ∧ Aside0 (Below w.heap.size w wc))
      case first =>
        have H := HC11.out
        clear HC11
        by_cases c22 : t116 = true
        · subst c22
          have H1 : (aumbrylaw05_MatchFilled.j0 k l1 t115 (t117 != 0)) = some r := by rw [if_pos rfl] at H; exact H
          clear H
          have H := H1
          clear H1
          have H' := Aside0.mk H
          clear H
          go_wp2
          repeat (go_quiet (fail); try go_wp2)
          go_meet
          case rel => exact ⟨_, ((t117 != 0)), (by first | rfl | (simp; done) | (simp [*]; done)), H', ⟨by first | omega | exact Nat.le_refl _⟩, ⟨by (with_reducible repeat (first | apply Kd.S_alloc | apply Kd.S_drewN | apply Kd.S_drew)); exact Kd.S_mono HO119.out (fun _ hk => trivial)⟩, ⟨by repeat (first | (with_reducible first | exact HB.out | apply below_alloc | apply pw_below_drewN | apply below_drew1) | exact HB.out)⟩⟩
        · replace c22 := Bool.eq_false_iff.mpr c22
          subst c22
          have H1 : (aumbrylaw05_MatchFilled.j0 k l1 t115 true) = some r := by rw [if_neg (show ¬ (false = true) by decide)] at H; exact H
          clear H
          have H := H1
          clear H1
          have H' := Aside0.mk H
          clear H
          go_wp2
          repeat (go_quiet (fail); try go_wp2)
          go_meet
          case rel => exact ⟨_, (true), (by first | rfl | (simp; done) | (simp [*]; done)), H', ⟨by first | omega | exact Nat.le_refl _⟩, ⟨by (with_reducible repeat (first | apply Kd.S_alloc | apply Kd.S_drewN | apply Kd.S_drew)); exact Kd.S_mono HO119.out (fun _ hk => trivial)⟩, ⟨by repeat (first | (with_reducible first | exact HB.out | apply below_alloc | apply pw_below_drewN | apply below_drew1) | exact HB.out)⟩⟩
      case rest =>
        clear HC11
        try clear c1
        try clear c2
        try clear p2
        try clear c4
        try clear c6
        try clear c8
        try clear c8b0
        try clear c8b1
        try clear c22
        obtain ⟨kq, x40_10, rfl, HA, HJ10, HO_7, HB⟩ := hcut
        cases kq with
        | zero => exact absurd HA.out (by simp [aumbrylaw05_MatchFilled.j0])
        | succ kj10 =>
          have H := HA.out
          clear HA
          simp only [aumbrylaw05_MatchFilled.j0] at H
          by_cases c23 : x40_10 = true
          · subst c23
            have H1 : (some false) = some r := by rw [if_pos rfl] at H; exact H
            clear H
            have H := H1
            clear H1
            obtain rfl := Option.some.inj H
            go_wp2
            repeat (go_quiet (fail); try go_wp2)
            go_ret
            exact ⟨by first | rfl | (simp [errW_none, errW_some] <;> rfl) | (simp [*, errW_none, errW_some] <;> rfl), by repeat (first | (with_reducible first | exact HB.out | apply below_alloc | apply pw_below_drewN | apply below_drew1) | exact HB.out)⟩
          · replace c23 := Bool.eq_false_iff.mpr c23
            subst c23
            have H1 : (aumbrylaw05_MatchFilled.l0 kj10 l1 t115 (t115.length : Int) 0) = some r := by rw [if_neg (show ¬ (false = true) by decide)] at H; exact H
            clear H
            have H := H1
            clear H1
            have H' := Aside0.mk H
            clear H
            obtain ⟨Ao24, co24, eo24⟩ := Kd.S_slice HO_7.out
            subst eo24
            go_wp2
            repeat (go_quiet (fail); try go_wp2)
            go_loopg [43] kj10 (fun kq v43 w' => ∃ (x43_2 : Int), v43 = .int .i64 x43_2 ∧ Aside0 (aumbrylaw05_MatchFilled.l0 kq l1 t115 (t115.length : Int) x43_2 = some r) ∧ Aside0 (kq ≤ kj10) ∧ Aside0 (Kd.S k44 44 w' w.heap.size (fun _ => True) (.slice Ao24 t115.length co24) t115) ∧ Aside0 (Below w.heap.size w w'))
            case atStart => exact ⟨(0), (by first | rfl | (simp; done) | (simp [*]; done)), H', ⟨Nat.le_refl _⟩, ⟨by (with_reducible repeat (first | apply Kd.S_alloc | apply Kd.S_drewN | apply Kd.S_drew)); exact HO_7.out⟩, ⟨by repeat (first | (with_reducible first | exact HB.out | apply below_alloc | apply pw_below_drewN | apply below_drew1) | exact HB.out)⟩⟩
            case round =>
              clear H'
              try clear c1
              try clear c2
              try clear p2
              try clear c4
              try clear c6
              try clear c8
              try clear c8b0
              try clear c8b1
              try clear c22
              try clear c23
              try clear p2
              obtain ⟨x43_2, rfl, HA, HK2, HO_7, HB⟩ := hrel
              cases gk with
              | zero => exact absurd HA.out (by simp [aumbrylaw05_MatchFilled.l0])
              | succ k2 =>
                have H := HA.out
                clear HA
                simp only [aumbrylaw05_MatchFilled.l0] at H
                by_cases c25 : x43_2 < (t115.length : Int)
                · rw [if_pos c25] at H
                  have c25b0 : decide (x43_2 < (t115.length : Int)) = true := decide_eq_true c25
                  clear c25
                  by_cases c26 : 0 ≤ x43_2
                  · rw [if_pos c26] at H
                    have c26b0 : decide (0 ≤ x43_2) = true := decide_eq_true c26
                    clear c26
                    by_cases c27 : x43_2 < (t115.length : Int)
                    · rw [if_pos c27] at H
                      have c27b0 : decide (x43_2 < (t115.length : Int)) = true := decide_eq_true c27
                      clear c27
                      replace H := Option.bind_eq_some_iff.mp H
                      obtain ⟨t121, A280, H⟩ := H
                      replace H : (if t121 < 0 then (some false) else (if 0 ≤ t121 then (if t121 < (l1.length : Int) then ((aumbryref04_Same.f k2 ((rd_T44 l1 t121).f1) ((rd_T44 t115 x43_2).f1)).bind fun t124 => (if t124 = true then (aumbrylaw05_MatchFilled.l0 k2 l1 t115 (t115.length : Int) (wrap64 (x43_2 + 1))) else (some false))) else (none)) else (none))) = some r := H
                      have A28 := Aside0.mk A280
                      clear A280
                      by_cases c29 : t121 < 0
                      · rw [if_pos c29] at H
                        have c29b0 : decide (t121 < 0) = true := decide_eq_true c29
                        clear c29
                        obtain rfl := Option.some.inj H
                        have p120 : 0 ≤ (x43_2 : Int) := of_decide_eq_true (by first | (with_reducible assumption) | assumption)
                        have q120 : x43_2 < (t115.length : Int) := of_decide_eq_true (by first | (with_reducible assumption) | assumption)
                        obtain ⟨ad120, A120_1, c120_1, e120, hx120_0, hx120_1, hl120_1, hi120_1⟩ := at_T44 (Kd.S_reads' HO_7.out).2.2 x43_2 p120 q120
                        cases e120
                        obtain ⟨ce120, hce120, hMe120, hcc120⟩ := Kd.S_get HO_7.out z44 x43_2 p120 (by first | exact q120 | exact of_decide_eq_true (by first | (with_reducible assumption) | assumption) | (have e_ := (Kd.S_reads' HO_7.out).1; omega))
                        obtain ⟨ve120_1, rfl, ge120_1⟩ := k44_openM hMe120
                        have hv120_1 := hcc120 1 _ rfl
                        rw [add_field _ _ 1 (by omega)] at hv120_1
                        replace hv120_1 := Option.some.inj (hv120_1.symm.trans hx120_1)
                        rw [hv120_1] at ge120_1
                        have HL120_1 := Aside0.mk (show Kd.R k47 47 _ _ _ _ ((rd_T44 t115 x43_2).f1) from ge120_1)
                        clear hv120_1 ge120_1
                        clear hcc120 hce120
                        have HR120_1 := Aside0.mk hi120_1
                        have HC120_1 := Aside0.mk hl120_1
                        clear hi120_1 hl120_1
                        replace p120 := eq_true p120
                        replace q120 := eq_true q120
                        go_wp2_with (first | (go_at_call 19; (with_reducible refine (aumbryref05_At.calls k2 _ _ l1 ((rd_T44 t115 x43_2).f0) t121 _ ?side1 ?side2 A28.out).mono ?_); (case side1 => repeat (first | exact (Kd.C_below HR1.out HB.out) | (with_reducible refine Kd.C_alloc ?_ _) | (with_reducible refine Kd.C_drewN ?_ _) | (with_reducible refine Kd.C_drew ?_))); (case side2 => exact HC1.out); rintro e w' ⟨rfl, ⟨nd, rfl⟩⟩; (try first | exact ⟨rfl, _, World.drewN_drewN _ _ _⟩ | exact ⟨rfl, _, Eq.trans (World.drewN_drewN _ _ _) (congrArg (World.drewN _) (Nat.add_assoc _ _ _))⟩)))
                        repeat (go_quiet (first | (go_at_call 19; (with_reducible refine (aumbryref05_At.calls k2 _ _ l1 ((rd_T44 t115 x43_2).f0) t121 _ ?side1 ?side2 A28.out).mono ?_); (case side1 => repeat (first | exact (Kd.C_below HR1.out HB.out) | (with_reducible refine Kd.C_alloc ?_ _) | (with_reducible refine Kd.C_drewN ?_ _) | (with_reducible refine Kd.C_drew ?_))); (case side2 => exact HC1.out); rintro e w' ⟨rfl, ⟨nd, rfl⟩⟩; (try first | exact ⟨rfl, _, World.drewN_drewN _ _ _⟩ | exact ⟨rfl, _, Eq.trans (World.drewN_drewN _ _ _) (congrArg (World.drewN _) (Nat.add_assoc _ _ _))⟩))); try go_wp2_with (first | (go_at_call 19; (with_reducible refine (aumbryref05_At.calls k2 _ _ l1 ((rd_T44 t115 x43_2).f0) t121 _ ?side1 ?side2 A28.out).mono ?_); (case side1 => repeat (first | exact (Kd.C_below HR1.out HB.out) | (with_reducible refine Kd.C_alloc ?_ _) | (with_reducible refine Kd.C_drewN ?_ _) | (with_reducible refine Kd.C_drew ?_))); (case side2 => exact HC1.out); rintro e w' ⟨rfl, ⟨nd, rfl⟩⟩; (try first | exact ⟨rfl, _, World.drewN_drewN _ _ _⟩ | exact ⟨rfl, _, Eq.trans (World.drewN_drewN _ _ _) (congrArg (World.drewN _) (Nat.add_assoc _ _ _))⟩))))
                        go_ret
                        exact ⟨by first | rfl | (simp [errW_none, errW_some] <;> rfl) | (simp [*, errW_none, errW_some] <;> rfl), by repeat (first | (with_reducible first | exact HB.out | apply below_alloc | apply pw_below_drewN | apply below_drew1) | exact HB.out)⟩
                      · rw [if_neg c29] at H
                        have c29b0 : decide (t121 < 0) = false := decide_eq_false c29
                        clear c29
                        by_cases c30 : 0 ≤ t121
                        · rw [if_pos c30] at H
                          have c30b0 : decide (0 ≤ t121) = true := decide_eq_true c30
                          clear c30
                          by_cases c31 : t121 < (l1.length : Int)
                          · rw [if_pos c31] at H
                            have c31b0 : decide (t121 < (l1.length : Int)) = true := decide_eq_true c31
                            clear c31
                            replace H := Option.bind_eq_some_iff.mp H
                            obtain ⟨t124, A320, H⟩ := H
                            replace H : (if t124 = true then (aumbrylaw05_MatchFilled.l0 k2 l1 t115 (t115.length : Int) (wrap64 (x43_2 + 1))) else (some false)) = some r := H
                            have A32 := Aside0.mk A320
                            clear A320
                            by_cases c33 : t124 = true
                            · subst c33
                              have H1 : (aumbrylaw05_MatchFilled.l0 k2 l1 t115 (t115.length : Int) (wrap64 (x43_2 + 1))) = some r := by rw [if_pos rfl] at H; exact H
                              clear H
                              have H := H1
                              clear H1
                              have H' := Aside0.mk H
                              clear H
                              have p120 : 0 ≤ (x43_2 : Int) := of_decide_eq_true (by first | (with_reducible assumption) | assumption)
                              have q120 : x43_2 < (t115.length : Int) := of_decide_eq_true (by first | (with_reducible assumption) | assumption)
                              obtain ⟨ad120, A120_1, c120_1, e120, hx120_0, hx120_1, hl120_1, hi120_1⟩ := at_T44 (Kd.S_reads' HO_7.out).2.2 x43_2 p120 q120
                              cases e120
                              obtain ⟨ce120, hce120, hMe120, hcc120⟩ := Kd.S_get HO_7.out z44 x43_2 p120 (by first | exact q120 | exact of_decide_eq_true (by first | (with_reducible assumption) | assumption) | (have e_ := (Kd.S_reads' HO_7.out).1; omega))
                              obtain ⟨ve120_1, rfl, ge120_1⟩ := k44_openM hMe120
                              have hv120_1 := hcc120 1 _ rfl
                              rw [add_field _ _ 1 (by omega)] at hv120_1
                              replace hv120_1 := Option.some.inj (hv120_1.symm.trans hx120_1)
                              rw [hv120_1] at ge120_1
                              have HL120_1 := Aside0.mk (show Kd.R k47 47 _ _ _ _ ((rd_T44 t115 x43_2).f1) from ge120_1)
                              clear hv120_1 ge120_1
                              clear hcc120 hce120
                              have HR120_1 := Aside0.mk hi120_1
                              have HC120_1 := Aside0.mk hl120_1
                              clear hi120_1 hl120_1
                              replace p120 := eq_true p120
                              replace q120 := eq_true q120
                              go_wp2_with (first | (go_at_call 19; (with_reducible refine (aumbryref05_At.calls k2 _ _ l1 ((rd_T44 t115 x43_2).f0) t121 _ ?side1 ?side2 A28.out).mono ?_); (case side1 => repeat (first | exact (Kd.C_below HR1.out HB.out) | (with_reducible refine Kd.C_alloc ?_ _) | (with_reducible refine Kd.C_drewN ?_ _) | (with_reducible refine Kd.C_drew ?_))); (case side2 => exact HC1.out); rintro e w' ⟨rfl, ⟨nd, rfl⟩⟩; (try first | exact ⟨rfl, _, World.drewN_drewN _ _ _⟩ | exact ⟨rfl, _, Eq.trans (World.drewN_drewN _ _ _) (congrArg (World.drewN _) (Nat.add_assoc _ _ _))⟩); have p122 : 0 ≤ (t121 : Int) := of_decide_eq_true (by first | (with_reducible assumption) | assumption); have q122 : t121 < (l1.length : Int) := of_decide_eq_true (by first | (with_reducible assumption) | assumption); obtain ⟨ad122, A122_1, c122_1, e122, hx122_0, hx122_1, hl122_1, hi122_1⟩ := at_T44 HR1.out t121 p122 q122; cases e122; replace hx122_0 := (HB.out.cell (World.block_lt_of_cell? w _ hx122_0)).trans hx122_0; replace hx122_1 := (HB.out.cell (World.block_lt_of_cell? w _ hx122_1)).trans hx122_1; have HR122_1 := Aside0.mk hi122_1; have HC122_1 := Aside0.mk hl122_1; clear hi122_1 hl122_1; replace p122 := eq_true p122; replace q122 := eq_true q122; have p123 : 0 ≤ (x43_2 : Int) := of_decide_eq_true (by first | (with_reducible assumption) | assumption); have q123 : x43_2 < (t115.length : Int) := of_decide_eq_true (by first | (with_reducible assumption) | assumption); obtain ⟨ad123, A123_1, c123_1, e123, hx123_0, hx123_1, hl123_1, hi123_1⟩ := at_T44 (Kd.S_reads' HO_7.out).2.2 x43_2 p123 q123; obtain rfl : ad120 = ad123 := (by injection e123); obtain ⟨ce123, hce123, hMe123, hcc123⟩ := Kd.S_get HO_7.out z44 x43_2 p123 (by first | exact q123 | exact of_decide_eq_true (by first | (with_reducible assumption) | assumption) | (have e_ := (Kd.S_reads' HO_7.out).1; omega)); obtain ⟨ve123_1, rfl, ge123_1⟩ := k44_openM hMe123; have hv123_1 := hcc123 1 _ rfl; rw [add_field _ _ 1 (by omega)] at hv123_1; replace hv123_1 := Option.some.inj (hv123_1.symm.trans hx123_1); rw [hv123_1] at ge123_1; have HL123_1 := Aside0.mk (show Kd.R k47 47 _ _ _ _ ((rd_T44 t115 x43_2).f1) from ge123_1); clear hv123_1 ge123_1; clear hcc123 hce123; have HR123_1 := Aside0.mk hi123_1; have HC123_1 := Aside0.mk hl123_1; clear hi123_1 hl123_1; replace p123 := eq_true p123; replace q123 := eq_true q123; have ea_ := Option.some.inj (hx120_1.symm.trans hx123_1); injection ea_ with ea_ en_ ec_; subst ea_; subst ec_; clear en_) | (go_at_call 17; (with_reducible refine (aumbryref04_Same.calls k2 _ _ ((rd_T44 l1 t121).f1) _ _ ((rd_T44 t115 x43_2).f1) true _ ?side1 ?side2 ?side3 ?side4 A32.out).mono ?_); (case side1 => repeat (first | exact (Kd.C_below HR122_1.out (by repeat (first | (with_reducible first | exact HB.out | apply below_alloc | apply pw_below_drewN | apply below_drew1) | exact HB.out))) | (with_reducible refine Kd.C_alloc ?_ _) | (with_reducible refine Kd.C_drewN ?_ _) | (with_reducible refine Kd.C_drew ?_))); (case side2 => exact HC122_1.out); (case side3 => repeat (first | exact (by repeat (first | (with_reducible exact HR123_1.out) | (with_reducible refine Kd.C_alloc ?_ _) | (with_reducible refine Kd.C_drewN ?_ _) | (with_reducible refine Kd.C_drew ?_) | exact HR123_1.out)) | (with_reducible refine Kd.C_alloc ?_ _) | (with_reducible refine Kd.C_drewN ?_ _) | (with_reducible refine Kd.C_drew ?_))); (case side4 => exact HC123_1.out); rintro e w' ⟨rfl, ⟨nd, rfl⟩⟩; (try first | exact ⟨rfl, _, World.drewN_drewN _ _ _⟩ | exact ⟨rfl, _, Eq.trans (World.drewN_drewN _ _ _) (congrArg (World.drewN _) (Nat.add_assoc _ _ _))⟩)))
                              repeat (go_quiet (first | (go_at_call 19; (with_reducible refine (aumbryref05_At.calls k2 _ _ l1 ((rd_T44 t115 x43_2).f0) t121 _ ?side1 ?side2 A28.out).mono ?_); (case side1 => repeat (first | exact (Kd.C_below HR1.out HB.out) | (with_reducible refine Kd.C_alloc ?_ _) | (with_reducible refine Kd.C_drewN ?_ _) | (with_reducible refine Kd.C_drew ?_))); (case side2 => exact HC1.out); rintro e w' ⟨rfl, ⟨nd, rfl⟩⟩; (try first | exact ⟨rfl, _, World.drewN_drewN _ _ _⟩ | exact ⟨rfl, _, Eq.trans (World.drewN_drewN _ _ _) (congrArg (World.drewN _) (Nat.add_assoc _ _ _))⟩); have p122 : 0 ≤ (t121 : Int) := of_decide_eq_true (by first | (with_reducible assumption) | assumption); have q122 : t121 < (l1.length : Int) := of_decide_eq_true (by first | (with_reducible assumption) | assumption); obtain ⟨ad122, A122_1, c122_1, e122, hx122_0, hx122_1, hl122_1, hi122_1⟩ := at_T44 HR1.out t121 p122 q122; cases e122; replace hx122_0 := (HB.out.cell (World.block_lt_of_cell? w _ hx122_0)).trans hx122_0; replace hx122_1 := (HB.out.cell (World.block_lt_of_cell? w _ hx122_1)).trans hx122_1; have HR122_1 := Aside0.mk hi122_1; have HC122_1 := Aside0.mk hl122_1; clear hi122_1 hl122_1; replace p122 := eq_true p122; replace q122 := eq_true q122; have p123 : 0 ≤ (x43_2 : Int) := of_decide_eq_true (by first | (with_reducible assumption) | assumption); have q123 : x43_2 < (t115.length : Int) := of_decide_eq_true (by first | (with_reducible assumption) | assumption); obtain ⟨ad123, A123_1, c123_1, e123, hx123_0, hx123_1, hl123_1, hi123_1⟩ := at_T44 (Kd.S_reads' HO_7.out).2.2 x43_2 p123 q123; obtain rfl : ad120 = ad123 := (by injection e123); obtain ⟨ce123, hce123, hMe123, hcc123⟩ := Kd.S_get HO_7.out z44 x43_2 p123 (by first | exact q123 | exact of_decide_eq_true (by first | (with_reducible assumption) | assumption) | (have e_ := (Kd.S_reads' HO_7.out).1; omega)); obtain ⟨ve123_1, rfl, ge123_1⟩ := k44_openM hMe123; have hv123_1 := hcc123 1 _ rfl; rw [add_field _ _ 1 (by omega)] at hv123_1; replace hv123_1 := Option.some.inj (hv123_1.symm.trans hx123_1); rw [hv123_1] at ge123_1; have HL123_1 := Aside0.mk (show Kd.R k47 47 _ _ _ _ ((rd_T44 t115 x43_2).f1) from ge123_1); clear hv123_1 ge123_1; clear hcc123 hce123; have HR123_1 := Aside0.mk hi123_1; have HC123_1 := Aside0.mk hl123_1; clear hi123_1 hl123_1; replace p123 := eq_true p123; replace q123 := eq_true q123; have ea_ := Option.some.inj (hx120_1.symm.trans hx123_1); injection ea_ with ea_ en_ ec_; subst ea_; subst ec_; clear en_) | (go_at_call 17; (with_reducible refine (aumbryref04_Same.calls k2 _ _ ((rd_T44 l1 t121).f1) _ _ ((rd_T44 t115 x43_2).f1) true _ ?side1 ?side2 ?side3 ?side4 A32.out).mono ?_); (case side1 => repeat (first | exact (Kd.C_below HR122_1.out (by repeat (first | (with_reducible first | exact HB.out | apply below_alloc | apply pw_below_drewN | apply below_drew1) | exact HB.out))) | (with_reducible refine Kd.C_alloc ?_ _) | (with_reducible refine Kd.C_drewN ?_ _) | (with_reducible refine Kd.C_drew ?_))); (case side2 => exact HC122_1.out); (case side3 => repeat (first | exact (by repeat (first | (with_reducible exact HR123_1.out) | (with_reducible refine Kd.C_alloc ?_ _) | (with_reducible refine Kd.C_drewN ?_ _) | (with_reducible refine Kd.C_drew ?_) | exact HR123_1.out)) | (with_reducible refine Kd.C_alloc ?_ _) | (with_reducible refine Kd.C_drewN ?_ _) | (with_reducible refine Kd.C_drew ?_))); (case side4 => exact HC123_1.out); rintro e w' ⟨rfl, ⟨nd, rfl⟩⟩; (try first | exact ⟨rfl, _, World.drewN_drewN _ _ _⟩ | exact ⟨rfl, _, Eq.trans (World.drewN_drewN _ _ _) (congrArg (World.drewN _) (Nat.add_assoc _ _ _))⟩))); try go_wp2_with (first | (go_at_call 19; (with_reducible refine (aumbryref05_At.calls k2 _ _ l1 ((rd_T44 t115 x43_2).f0) t121 _ ?side1 ?side2 A28.out).mono ?_); (case side1 => repeat (first | exact (Kd.C_below HR1.out HB.out) | (with_reducible refine Kd.C_alloc ?_ _) | (with_reducible refine Kd.C_drewN ?_ _) | (with_reducible refine Kd.C_drew ?_))); (case side2 => exact HC1.out); rintro e w' ⟨rfl, ⟨nd, rfl⟩⟩; (try first | exact ⟨rfl, _, World.drewN_drewN _ _ _⟩ | exact ⟨rfl, _, Eq.trans (World.drewN_drewN _ _ _) (congrArg (World.drewN _) (Nat.add_assoc _ _ _))⟩); have p122 : 0 ≤ (t121 : Int) := of_decide_eq_true (by first | (with_reducible assumption) | assumption); have q122 : t121 < (l1.length : Int) := of_decide_eq_true (by first | (with_reducible assumption) | assumption); obtain ⟨ad122, A122_1, c122_1, e122, hx122_0, hx122_1, hl122_1, hi122_1⟩ := at_T44 HR1.out t121 p122 q122; cases e122; replace hx122_0 := (HB.out.cell (World.block_lt_of_cell? w _ hx122_0)).trans hx122_0; replace hx122_1 := (HB.out.cell (World.block_lt_of_cell? w _ hx122_1)).trans hx122_1; have HR122_1 := Aside0.mk hi122_1; have HC122_1 := Aside0.mk hl122_1; clear hi122_1 hl122_1; replace p122 := eq_true p122; replace q122 := eq_true q122; have p123 : 0 ≤ (x43_2 : Int) := of_decide_eq_true (by first | (with_reducible assumption) | assumption); have q123 : x43_2 < (t115.length : Int) := of_decide_eq_true (by first | (with_reducible assumption) | assumption); obtain ⟨ad123, A123_1, c123_1, e123, hx123_0, hx123_1, hl123_1, hi123_1⟩ := at_T44 (Kd.S_reads' HO_7.out).2.2 x43_2 p123 q123; obtain rfl : ad120 = ad123 := (by injection e123); obtain ⟨ce123, hce123, hMe123, hcc123⟩ := Kd.S_get HO_7.out z44 x43_2 p123 (by first | exact q123 | exact of_decide_eq_true (by first | (with_reducible assumption) | assumption) | (have e_ := (Kd.S_reads' HO_7.out).1; omega)); obtain ⟨ve123_1, rfl, ge123_1⟩ := k44_openM hMe123; have hv123_1 := hcc123 1 _ rfl; rw [add_field _ _ 1 (by omega)] at hv123_1; replace hv123_1 := Option.some.inj (hv123_1.symm.trans hx123_1); rw [hv123_1] at ge123_1; have HL123_1 := Aside0.mk (show Kd.R k47 47 _ _ _ _ ((rd_T44 t115 x43_2).f1) from ge123_1); clear hv123_1 ge123_1; clear hcc123 hce123; have HR123_1 := Aside0.mk hi123_1; have HC123_1 := Aside0.mk hl123_1; clear hi123_1 hl123_1; replace p123 := eq_true p123; replace q123 := eq_true q123; have ea_ := Option.some.inj (hx120_1.symm.trans hx123_1); injection ea_ with ea_ en_ ec_; subst ea_; subst ec_; clear en_) | (go_at_call 17; (with_reducible refine (aumbryref04_Same.calls k2 _ _ ((rd_T44 l1 t121).f1) _ _ ((rd_T44 t115 x43_2).f1) true _ ?side1 ?side2 ?side3 ?side4 A32.out).mono ?_); (case side1 => repeat (first | exact (Kd.C_below HR122_1.out (by repeat (first | (with_reducible first | exact HB.out | apply below_alloc | apply pw_below_drewN | apply below_drew1) | exact HB.out))) | (with_reducible refine Kd.C_alloc ?_ _) | (with_reducible refine Kd.C_drewN ?_ _) | (with_reducible refine Kd.C_drew ?_))); (case side2 => exact HC122_1.out); (case side3 => repeat (first | exact (by repeat (first | (with_reducible exact HR123_1.out) | (with_reducible refine Kd.C_alloc ?_ _) | (with_reducible refine Kd.C_drewN ?_ _) | (with_reducible refine Kd.C_drew ?_) | exact HR123_1.out)) | (with_reducible refine Kd.C_alloc ?_ _) | (with_reducible refine Kd.C_drewN ?_ _) | (with_reducible refine Kd.C_drew ?_))); (case side4 => exact HC123_1.out); rintro e w' ⟨rfl, ⟨nd, rfl⟩⟩; (try first | exact ⟨rfl, _, World.drewN_drewN _ _ _⟩ | exact ⟨rfl, _, Eq.trans (World.drewN_drewN _ _ _) (congrArg (World.drewN _) (Nat.add_assoc _ _ _))⟩))))
                              go_roundg k2
                              case measure => have := HJ10.out; have := HK2.out; omega
                              case rel => exact ⟨(wrap64 (x43_2 + 1)), (by first | rfl | (simp; done) | (simp [*]; done)), H', ⟨by have := HJ10.out; have := HK2.out; omega⟩, ⟨by (with_reducible repeat (first | apply Kd.S_alloc | apply Kd.S_drewN | apply Kd.S_drew)); exact HO_7.out⟩, ⟨by repeat (first | (with_reducible first | exact HB.out | apply below_alloc | apply pw_below_drewN | apply below_drew1) | exact HB.out)⟩⟩
                            · replace c33 := Bool.eq_false_iff.mpr c33
                              subst c33
                              have H1 : (some false) = some r := by rw [if_neg (show ¬ (false = true) by decide)] at H; exact H
                              clear H
                              have H := H1
                              clear H1
                              obtain rfl := Option.some.inj H
                              have p120 : 0 ≤ (x43_2 : Int) := of_decide_eq_true (by first | (with_reducible assumption) | assumption)
                              have q120 : x43_2 < (t115.length : Int) := of_decide_eq_true (by first | (with_reducible assumption) | assumption)
                              obtain ⟨ad120, A120_1, c120_1, e120, hx120_0, hx120_1, hl120_1, hi120_1⟩ := at_T44 (Kd.S_reads' HO_7.out).2.2 x43_2 p120 q120
                              cases e120
                              obtain ⟨ce120, hce120, hMe120, hcc120⟩ := Kd.S_get HO_7.out z44 x43_2 p120 (by first | exact q120 | exact of_decide_eq_true (by first | (with_reducible assumption) | assumption) | (have e_ := (Kd.S_reads' HO_7.out).1; omega))
                              obtain ⟨ve120_1, rfl, ge120_1⟩ := k44_openM hMe120
                              have hv120_1 := hcc120 1 _ rfl
                              rw [add_field _ _ 1 (by omega)] at hv120_1
                              replace hv120_1 := Option.some.inj (hv120_1.symm.trans hx120_1)
                              rw [hv120_1] at ge120_1
                              have HL120_1 := Aside0.mk (show Kd.R k47 47 _ _ _ _ ((rd_T44 t115 x43_2).f1) from ge120_1)
                              clear hv120_1 ge120_1
                              clear hcc120 hce120
                              have HR120_1 := Aside0.mk hi120_1
                              have HC120_1 := Aside0.mk hl120_1
                              clear hi120_1 hl120_1
                              replace p120 := eq_true p120
                              replace q120 := eq_true q120
                              go_wp2_with (first | (go_at_call 19; (with_reducible refine (aumbryref05_At.calls k2 _ _ l1 ((rd_T44 t115 x43_2).f0) t121 _ ?side1 ?side2 A28.out).mono ?_); (case side1 => repeat (first | exact (Kd.C_below HR1.out HB.out) | (with_reducible refine Kd.C_alloc ?_ _) | (with_reducible refine Kd.C_drewN ?_ _) | (with_reducible refine Kd.C_drew ?_))); (case side2 => exact HC1.out); rintro e w' ⟨rfl, ⟨nd, rfl⟩⟩; (try first | exact ⟨rfl, _, World.drewN_drewN _ _ _⟩ | exact ⟨rfl, _, Eq.trans (World.drewN_drewN _ _ _) (congrArg (World.drewN _) (Nat.add_assoc _ _ _))⟩); have p122 : 0 ≤ (t121 : Int) := of_decide_eq_true (by first | (with_reducible assumption) | assumption); have q122 : t121 < (l1.length : Int) := of_decide_eq_true (by first | (with_reducible assumption) | assumption); obtain ⟨ad122, A122_1, c122_1, e122, hx122_0, hx122_1, hl122_1, hi122_1⟩ := at_T44 HR1.out t121 p122 q122; cases e122; replace hx122_0 := (HB.out.cell (World.block_lt_of_cell? w _ hx122_0)).trans hx122_0; replace hx122_1 := (HB.out.cell (World.block_lt_of_cell? w _ hx122_1)).trans hx122_1; have HR122_1 := Aside0.mk hi122_1; have HC122_1 := Aside0.mk hl122_1; clear hi122_1 hl122_1; replace p122 := eq_true p122; replace q122 := eq_true q122; have p123 : 0 ≤ (x43_2 : Int) := of_decide_eq_true (by first | (with_reducible assumption) | assumption); have q123 : x43_2 < (t115.length : Int) := of_decide_eq_true (by first | (with_reducible assumption) | assumption); obtain ⟨ad123, A123_1, c123_1, e123, hx123_0, hx123_1, hl123_1, hi123_1⟩ := at_T44 (Kd.S_reads' HO_7.out).2.2 x43_2 p123 q123; obtain rfl : ad120 = ad123 := (by injection e123); obtain ⟨ce123, hce123, hMe123, hcc123⟩ := Kd.S_get HO_7.out z44 x43_2 p123 (by first | exact q123 | exact of_decide_eq_true (by first | (with_reducible assumption) | assumption) | (have e_ := (Kd.S_reads' HO_7.out).1; omega)); obtain ⟨ve123_1, rfl, ge123_1⟩ := k44_openM hMe123; have hv123_1 := hcc123 1 _ rfl; rw [add_field _ _ 1 (by omega)] at hv123_1; replace hv123_1 := Option.some.inj (hv123_1.symm.trans hx123_1); rw [hv123_1] at ge123_1; have HL123_1 := Aside0.mk (show Kd.R k47 47 _ _ _ _ ((rd_T44 t115 x43_2).f1) from ge123_1); clear hv123_1 ge123_1; clear hcc123 hce123; have HR123_1 := Aside0.mk hi123_1; have HC123_1 := Aside0.mk hl123_1; clear hi123_1 hl123_1; replace p123 := eq_true p123; replace q123 := eq_true q123; have ea_ := Option.some.inj (hx120_1.symm.trans hx123_1); injection ea_ with ea_ en_ ec_; subst ea_; subst ec_; clear en_) | (go_at_call 17; (with_reducible refine (aumbryref04_Same.calls k2 _ _ ((rd_T44 l1 t121).f1) _ _ ((rd_T44 t115 x43_2).f1) false _ ?side1 ?side2 ?side3 ?side4 A32.out).mono ?_); (case side1 => repeat (first | exact (Kd.C_below HR122_1.out (by repeat (first | (with_reducible first | exact HB.out | apply below_alloc | apply pw_below_drewN | apply below_drew1) | exact HB.out))) | (with_reducible refine Kd.C_alloc ?_ _) | (with_reducible refine Kd.C_drewN ?_ _) | (with_reducible refine Kd.C_drew ?_))); (case side2 => exact HC122_1.out); (case side3 => repeat (first | exact (by repeat (first | (with_reducible exact HR123_1.out) | (with_reducible refine Kd.C_alloc ?_ _) | (with_reducible refine Kd.C_drewN ?_ _) | (with_reducible refine Kd.C_drew ?_) | exact HR123_1.out)) | (with_reducible refine Kd.C_alloc ?_ _) | (with_reducible refine Kd.C_drewN ?_ _) | (with_reducible refine Kd.C_drew ?_))); (case side4 => exact HC123_1.out); rintro e w' ⟨rfl, ⟨nd, rfl⟩⟩; (try first | exact ⟨rfl, _, World.drewN_drewN _ _ _⟩ | exact ⟨rfl, _, Eq.trans (World.drewN_drewN _ _ _) (congrArg (World.drewN _) (Nat.add_assoc _ _ _))⟩)))
                              repeat (go_quiet (first | (go_at_call 19; (with_reducible refine (aumbryref05_At.calls k2 _ _ l1 ((rd_T44 t115 x43_2).f0) t121 _ ?side1 ?side2 A28.out).mono ?_); (case side1 => repeat (first | exact (Kd.C_below HR1.out HB.out) | (with_reducible refine Kd.C_alloc ?_ _) | (with_reducible refine Kd.C_drewN ?_ _) | (with_reducible refine Kd.C_drew ?_))); (case side2 => exact HC1.out); rintro e w' ⟨rfl, ⟨nd, rfl⟩⟩; (try first | exact ⟨rfl, _, World.drewN_drewN _ _ _⟩ | exact ⟨rfl, _, Eq.trans (World.drewN_drewN _ _ _) (congrArg (World.drewN _) (Nat.add_assoc _ _ _))⟩); have p122 : 0 ≤ (t121 : Int) := of_decide_eq_true (by first | (with_reducible assumption) | assumption); have q122 : t121 < (l1.length : Int) := of_decide_eq_true (by first | (with_reducible assumption) | assumption); obtain ⟨ad122, A122_1, c122_1, e122, hx122_0, hx122_1, hl122_1, hi122_1⟩ := at_T44 HR1.out t121 p122 q122; cases e122; replace hx122_0 := (HB.out.cell (World.block_lt_of_cell? w _ hx122_0)).trans hx122_0; replace hx122_1 := (HB.out.cell (World.block_lt_of_cell? w _ hx122_1)).trans hx122_1; have HR122_1 := Aside0.mk hi122_1; have HC122_1 := Aside0.mk hl122_1; clear hi122_1 hl122_1; replace p122 := eq_true p122; replace q122 := eq_true q122; have p123 : 0 ≤ (x43_2 : Int) := of_decide_eq_true (by first | (with_reducible assumption) | assumption); have q123 : x43_2 < (t115.length : Int) := of_decide_eq_true (by first | (with_reducible assumption) | assumption); obtain ⟨ad123, A123_1, c123_1, e123, hx123_0, hx123_1, hl123_1, hi123_1⟩ := at_T44 (Kd.S_reads' HO_7.out).2.2 x43_2 p123 q123; obtain rfl : ad120 = ad123 := (by injection e123); obtain ⟨ce123, hce123, hMe123, hcc123⟩ := Kd.S_get HO_7.out z44 x43_2 p123 (by first | exact q123 | exact of_decide_eq_true (by first | (with_reducible assumption) | assumption) | (have e_ := (Kd.S_reads' HO_7.out).1; omega)); obtain ⟨ve123_1, rfl, ge123_1⟩ := k44_openM hMe123; have hv123_1 := hcc123 1 _ rfl; rw [add_field _ _ 1 (by omega)] at hv123_1; replace hv123_1 := Option.some.inj (hv123_1.symm.trans hx123_1); rw [hv123_1] at ge123_1; have HL123_1 := Aside0.mk (show Kd.R k47 47 _ _ _ _ ((rd_T44 t115 x43_2).f1) from ge123_1); clear hv123_1 ge123_1; clear hcc123 hce123; have HR123_1 := Aside0.mk hi123_1; have HC123_1 := Aside0.mk hl123_1; clear hi123_1 hl123_1; replace p123 := eq_true p123; replace q123 := eq_true q123; have ea_ := Option.some.inj (hx120_1.symm.trans hx123_1); injection ea_ with ea_ en_ ec_; subst ea_; subst ec_; clear en_) | (go_at_call 17; (with_reducible refine (aumbryref04_Same.calls k2 _ _ ((rd_T44 l1 t121).f1) _ _ ((rd_T44 t115 x43_2).f1) false _ ?side1 ?side2 ?side3 ?side4 A32.out).mono ?_); (case side1 => repeat (first | exact (Kd.C_below HR122_1.out (by repeat (first | (with_reducible first | exact HB.out | apply below_alloc | apply pw_below_drewN | apply below_drew1) | exact HB.out))) | (with_reducible refine Kd.C_alloc ?_ _) | (with_reducible refine Kd.C_drewN ?_ _) | (with_reducible refine Kd.C_drew ?_))); (case side2 => exact HC122_1.out); (case side3 => repeat (first | exact (by repeat (first | (with_reducible exact HR123_1.out) | (with_reducible refine Kd.C_alloc ?_ _) | (with_reducible refine Kd.C_drewN ?_ _) | (with_reducible refine Kd.C_drew ?_) | exact HR123_1.out)) | (with_reducible refine Kd.C_alloc ?_ _) | (with_reducible refine Kd.C_drewN ?_ _) | (with_reducible refine Kd.C_drew ?_))); (case side4 => exact HC123_1.out); rintro e w' ⟨rfl, ⟨nd, rfl⟩⟩; (try first | exact ⟨rfl, _, World.drewN_drewN _ _ _⟩ | exact ⟨rfl, _, Eq.trans (World.drewN_drewN _ _ _) (congrArg (World.drewN _) (Nat.add_assoc _ _ _))⟩))); try go_wp2_with (first | (go_at_call 19; (with_reducible refine (aumbryref05_At.calls k2 _ _ l1 ((rd_T44 t115 x43_2).f0) t121 _ ?side1 ?side2 A28.out).mono ?_); (case side1 => repeat (first | exact (Kd.C_below HR1.out HB.out) | (with_reducible refine Kd.C_alloc ?_ _) | (with_reducible refine Kd.C_drewN ?_ _) | (with_reducible refine Kd.C_drew ?_))); (case side2 => exact HC1.out); rintro e w' ⟨rfl, ⟨nd, rfl⟩⟩; (try first | exact ⟨rfl, _, World.drewN_drewN _ _ _⟩ | exact ⟨rfl, _, Eq.trans (World.drewN_drewN _ _ _) (congrArg (World.drewN _) (Nat.add_assoc _ _ _))⟩); have p122 : 0 ≤ (t121 : Int) := of_decide_eq_true (by first | (with_reducible assumption) | assumption); have q122 : t121 < (l1.length : Int) := of_decide_eq_true (by first | (with_reducible assumption) | assumption); obtain ⟨ad122, A122_1, c122_1, e122, hx122_0, hx122_1, hl122_1, hi122_1⟩ := at_T44 HR1.out t121 p122 q122; cases e122; replace hx122_0 := (HB.out.cell (World.block_lt_of_cell? w _ hx122_0)).trans hx122_0; replace hx122_1 := (HB.out.cell (World.block_lt_of_cell? w _ hx122_1)).trans hx122_1; have HR122_1 := Aside0.mk hi122_1; have HC122_1 := Aside0.mk hl122_1; clear hi122_1 hl122_1; replace p122 := eq_true p122; replace q122 := eq_true q122; have p123 : 0 ≤ (x43_2 : Int) := of_decide_eq_true (by first | (with_reducible assumption) | assumption); have q123 : x43_2 < (t115.length : Int) := of_decide_eq_true (by first | (with_reducible assumption) | assumption); obtain ⟨ad123, A123_1, c123_1, e123, hx123_0, hx123_1, hl123_1, hi123_1⟩ := at_T44 (Kd.S_reads' HO_7.out).2.2 x43_2 p123 q123; obtain rfl : ad120 = ad123 := (by injection e123); obtain ⟨ce123, hce123, hMe123, hcc123⟩ := Kd.S_get HO_7.out z44 x43_2 p123 (by first | exact q123 | exact of_decide_eq_true (by first | (with_reducible assumption) | assumption) | (have e_ := (Kd.S_reads' HO_7.out).1; omega)); obtain ⟨ve123_1, rfl, ge123_1⟩ := k44_openM hMe123; have hv123_1 := hcc123 1 _ rfl; rw [add_field _ _ 1 (by omega)] at hv123_1; replace hv123_1 := Option.some.inj (hv123_1.symm.trans hx123_1); rw [hv123_1] at ge123_1; have HL123_1 := Aside0.mk (show Kd.R k47 47 _ _ _ _ ((rd_T44 t115 x43_2).f1) from ge123_1); clear hv123_1 ge123_1; clear hcc123 hce123; have HR123_1 := Aside0.mk hi123_1; have HC123_1 := Aside0.mk hl123_1; clear hi123_1 hl123_1; replace p123 := eq_true p123; replace q123 := eq_true q123; have ea_ := Option.some.inj (hx120_1.symm.trans hx123_1); injection ea_ with ea_ en_ ec_; subst ea_; subst ec_; clear en_) | (go_at_call 17; (with_reducible refine (aumbryref04_Same.calls k2 _ _ ((rd_T44 l1 t121).f1) _ _ ((rd_T44 t115 x43_2).f1) false _ ?side1 ?side2 ?side3 ?side4 A32.out).mono ?_); (case side1 => repeat (first | exact (Kd.C_below HR122_1.out (by repeat (first | (with_reducible first | exact HB.out | apply below_alloc | apply pw_below_drewN | apply below_drew1) | exact HB.out))) | (with_reducible refine Kd.C_alloc ?_ _) | (with_reducible refine Kd.C_drewN ?_ _) | (with_reducible refine Kd.C_drew ?_))); (case side2 => exact HC122_1.out); (case side3 => repeat (first | exact (by repeat (first | (with_reducible exact HR123_1.out) | (with_reducible refine Kd.C_alloc ?_ _) | (with_reducible refine Kd.C_drewN ?_ _) | (with_reducible refine Kd.C_drew ?_) | exact HR123_1.out)) | (with_reducible refine Kd.C_alloc ?_ _) | (with_reducible refine Kd.C_drewN ?_ _) | (with_reducible refine Kd.C_drew ?_))); (case side4 => exact HC123_1.out); rintro e w' ⟨rfl, ⟨nd, rfl⟩⟩; (try first | exact ⟨rfl, _, World.drewN_drewN _ _ _⟩ | exact ⟨rfl, _, Eq.trans (World.drewN_drewN _ _ _) (congrArg (World.drewN _) (Nat.add_assoc _ _ _))⟩))))
                              go_ret
                              exact ⟨by first | rfl | (simp [errW_none, errW_some] <;> rfl) | (simp [*, errW_none, errW_some] <;> rfl), by repeat (first | (with_reducible first | exact HB.out | apply below_alloc | apply pw_below_drewN | apply below_drew1) | exact HB.out)⟩
                          · rw [if_neg c31] at H
                            exact absurd H (by simp)
                        · rw [if_neg c30] at H
                          exact absurd H (by simp)
                    · rw [if_neg c27] at H
                      exact absurd H (by simp)
                  · rw [if_neg c26] at H
                    exact absurd H (by simp)
                · rw [if_neg c25] at H
                  have c25b0 : decide (x43_2 < (t115.length : Int)) = false := decide_eq_false c25
                  clear c25
                  obtain rfl := Option.some.inj H
                  go_wp2
                  repeat (go_quiet (fail); try go_wp2)
                  go_ret
                  exact ⟨by first | rfl | (simp [errW_none, errW_some] <;> rfl) | (simp [*, errW_none, errW_some] <;> rfl), by repeat (first | (with_reducible first | exact HB.out | apply below_alloc | apply pw_below_drewN | apply below_drew1) | exact HB.out)⟩
    · rw [if_neg c8] at H
      have c8b0 : (t109 == 0) = false := beq_eq_false_iff_ne.mpr c8
      have c8b1 : (t109 != 0) = true := bne_iff_ne.mpr c8
      obtain rfl := Option.some.inj H
      go_enter Try.func6, Try.ntmps6
      go_wp2_with (first | (go_at_call 9; (with_reducible refine (aumbrylaw05_wakes.calls k  true _ A3.out).mono ?_); rintro e w34 ⟨rfl, hb⟩; have n0_ := Aside0.mk (below_step (by repeat (first | (with_reducible first | exact HB.out | apply below_alloc | apply pw_below_drewN | apply below_drew1) | exact HB.out)) hb); clear HB; have HB := n0_; clear n0_; (try clear hb); (try clear hb2); (try clear hk); (try clear hi)) | (go_at_call 11; (with_reducible refine (aumbrylaw05_own.calls _ _ l0 t102 _ ?side1 ?side2 A5.out).mono ?_); (case side1 => repeat (first | exact (Kd.C_below HR0.out HB.out) | (with_reducible refine Kd.C_alloc ?_ _) | (with_reducible refine Kd.C_drewN ?_ _) | (with_reducible refine Kd.C_drew ?_))); (case side2 => exact HC0.out); rintro e w35 ⟨v103, rfl, ho0, hb⟩; have n0_ := Aside0.mk (Kd.R_lower ho0 (below_size (by repeat (first | (with_reducible first | exact HB.out | apply below_alloc | apply pw_below_drewN | apply below_drew1) | exact HB.out)))); have n1_ := Aside0.mk (below_step (by repeat (first | (with_reducible first | exact HB.out | apply below_alloc | apply pw_below_drewN | apply below_drew1) | exact HB.out)) hb); clear HB; have HO104 := n0_; have HB := n1_; clear n0_ n1_; (try clear hb); (try clear hb2); (try clear hk); (try clear hi); (try clear ho0)) | (go_at_call 15; (with_reducible refine (aumbryref05_Copy.calls k _ _ l1 t105 _ ?side1 ?side2 A6.out).mono ?_); (case side1 => repeat (first | exact (Kd.C_below HR1.out HB.out) | (with_reducible refine Kd.C_alloc ?_ _) | (with_reducible refine Kd.C_drewN ?_ _) | (with_reducible refine Kd.C_drew ?_))); (case side2 => exact HC1.out); rintro e w36 ⟨v106, rfl, ho0, hb⟩; have n0_ := Aside0.mk (Kd.R_below (by (with_reducible repeat (first | apply Kd.R_alloc | apply Kd.R_drewN | apply Kd.R_drew)); exact HO104.out) hb); have n1_ := Aside0.mk (Kd.S_lower (Kd.S_new' ho0 (Kd.R_lt (by (with_reducible repeat (first | apply Kd.R_alloc | apply Kd.R_drewN | apply Kd.R_drew)); exact HO104.out))) (below_size (by repeat (first | (with_reducible first | exact HB.out | apply below_alloc | apply pw_below_drewN | apply below_drew1) | exact HB.out)))); have n2_ := Aside0.mk (below_step (by repeat (first | (with_reducible first | exact HB.out | apply below_alloc | apply pw_below_drewN | apply below_drew1) | exact HB.out)) hb); clear HO104; clear HB; have HO104 := n0_; have HO107 := n1_; have HB := n2_; clear n0_ n1_ n2_; (try clear hb); (try clear hb2); (try clear hk); (try clear hi); (try clear ho0); obtain ⟨Ao37, co37, eo37⟩ := Kd.R_slice HO104.out; subst eo37; obtain ⟨Ao38, co38, eo38⟩ := Kd.S_slice HO107.out; subst eo38) | (go_at_call 14; (with_reducible refine (match_Fill.calls k _ _ t102 _ _ t105 t108 t109 _ ?side1 ?side2 ?side3 ?side4 A7.out).mono ?_); (case side1 => repeat (first | exact (Kd.R_reads' HO104.out).2.2 | (with_reducible refine Kd.C_alloc ?_ _) | (with_reducible refine Kd.C_drewN ?_ _) | (with_reducible refine Kd.C_drew ?_))); (case side2 => exact (Kd.R_reads' HO104.out).2.1); (case side3 => repeat (first | exact (Kd.S_reads' HO107.out).2.2 | (with_reducible refine Kd.C_alloc ?_ _) | (with_reducible refine Kd.C_drewN ?_ _) | (with_reducible refine Kd.C_drew ?_))); (case side4 => exact (Kd.S_reads' HO107.out).2.1); rintro e w39 ⟨v110, rfl, ho0, hb⟩; have n0_ := Aside0.mk (Kd.R_elder' (by (with_reducible repeat (first | apply Kd.R_alloc | apply Kd.R_drewN | apply Kd.R_drew)); exact HO104.out) (Kd.R_base ho0) hb); have n1_ := Aside0.mk (Kd.S_elder' (by (with_reducible repeat (first | apply Kd.S_alloc | apply Kd.S_drewN | apply Kd.S_drew)); exact HO107.out) (Kd.R_base ho0) hb); have n2_ := Aside0.mk (Kd.R_lower (Kd.R_new' ho0 (Kd.R_lt (by (with_reducible repeat (first | apply Kd.R_alloc | apply Kd.R_drewN | apply Kd.R_drew)); exact HO104.out))) (below_size (by repeat (first | (with_reducible first | exact HB.out | apply below_alloc | apply pw_below_drewN | apply below_drew1) | exact HB.out)))); have n3_ := Aside0.mk (below_step (by repeat (first | (with_reducible first | exact HB.out | apply below_alloc | apply pw_below_drewN | apply below_drew1) | exact HB.out)) hb); clear HO104; clear HO107; clear HB; have HO104 := n0_; have HO107 := n1_; have HO111 := n2_; have HB := n3_; clear n0_ n1_ n2_ n3_; (try clear hb); (try clear hb2); (try clear hk); (try clear hi); (try clear ho0); obtain ⟨Ao40, co40, eo40⟩ := Kd.R_slice HO111.out; subst eo40))
      repeat (go_quiet (first | (go_at_call 9; (with_reducible refine (aumbrylaw05_wakes.calls k  true _ A3.out).mono ?_); rintro e w34 ⟨rfl, hb⟩; have n0_ := Aside0.mk (below_step (by repeat (first | (with_reducible first | exact HB.out | apply below_alloc | apply pw_below_drewN | apply below_drew1) | exact HB.out)) hb); clear HB; have HB := n0_; clear n0_; (try clear hb); (try clear hb2); (try clear hk); (try clear hi)) | (go_at_call 11; (with_reducible refine (aumbrylaw05_own.calls _ _ l0 t102 _ ?side1 ?side2 A5.out).mono ?_); (case side1 => repeat (first | exact (Kd.C_below HR0.out HB.out) | (with_reducible refine Kd.C_alloc ?_ _) | (with_reducible refine Kd.C_drewN ?_ _) | (with_reducible refine Kd.C_drew ?_))); (case side2 => exact HC0.out); rintro e w35 ⟨v103, rfl, ho0, hb⟩; have n0_ := Aside0.mk (Kd.R_lower ho0 (below_size (by repeat (first | (with_reducible first | exact HB.out | apply below_alloc | apply pw_below_drewN | apply below_drew1) | exact HB.out)))); have n1_ := Aside0.mk (below_step (by repeat (first | (with_reducible first | exact HB.out | apply below_alloc | apply pw_below_drewN | apply below_drew1) | exact HB.out)) hb); clear HB; have HO104 := n0_; have HB := n1_; clear n0_ n1_; (try clear hb); (try clear hb2); (try clear hk); (try clear hi); (try clear ho0)) | (go_at_call 15; (with_reducible refine (aumbryref05_Copy.calls k _ _ l1 t105 _ ?side1 ?side2 A6.out).mono ?_); (case side1 => repeat (first | exact (Kd.C_below HR1.out HB.out) | (with_reducible refine Kd.C_alloc ?_ _) | (with_reducible refine Kd.C_drewN ?_ _) | (with_reducible refine Kd.C_drew ?_))); (case side2 => exact HC1.out); rintro e w36 ⟨v106, rfl, ho0, hb⟩; have n0_ := Aside0.mk (Kd.R_below (by (with_reducible repeat (first | apply Kd.R_alloc | apply Kd.R_drewN | apply Kd.R_drew)); exact HO104.out) hb); have n1_ := Aside0.mk (Kd.S_lower (Kd.S_new' ho0 (Kd.R_lt (by (with_reducible repeat (first | apply Kd.R_alloc | apply Kd.R_drewN | apply Kd.R_drew)); exact HO104.out))) (below_size (by repeat (first | (with_reducible first | exact HB.out | apply below_alloc | apply pw_below_drewN | apply below_drew1) | exact HB.out)))); have n2_ := Aside0.mk (below_step (by repeat (first | (with_reducible first | exact HB.out | apply below_alloc | apply pw_below_drewN | apply below_drew1) | exact HB.out)) hb); clear HO104; clear HB; have HO104 := n0_; have HO107 := n1_; have HB := n2_; clear n0_ n1_ n2_; (try clear hb); (try clear hb2); (try clear hk); (try clear hi); (try clear ho0); obtain ⟨Ao37, co37, eo37⟩ := Kd.R_slice HO104.out; subst eo37; obtain ⟨Ao38, co38, eo38⟩ := Kd.S_slice HO107.out; subst eo38) | (go_at_call 14; (with_reducible refine (match_Fill.calls k _ _ t102 _ _ t105 t108 t109 _ ?side1 ?side2 ?side3 ?side4 A7.out).mono ?_); (case side1 => repeat (first | exact (Kd.R_reads' HO104.out).2.2 | (with_reducible refine Kd.C_alloc ?_ _) | (with_reducible refine Kd.C_drewN ?_ _) | (with_reducible refine Kd.C_drew ?_))); (case side2 => exact (Kd.R_reads' HO104.out).2.1); (case side3 => repeat (first | exact (Kd.S_reads' HO107.out).2.2 | (with_reducible refine Kd.C_alloc ?_ _) | (with_reducible refine Kd.C_drewN ?_ _) | (with_reducible refine Kd.C_drew ?_))); (case side4 => exact (Kd.S_reads' HO107.out).2.1); rintro e w39 ⟨v110, rfl, ho0, hb⟩; have n0_ := Aside0.mk (Kd.R_elder' (by (with_reducible repeat (first | apply Kd.R_alloc | apply Kd.R_drewN | apply Kd.R_drew)); exact HO104.out) (Kd.R_base ho0) hb); have n1_ := Aside0.mk (Kd.S_elder' (by (with_reducible repeat (first | apply Kd.S_alloc | apply Kd.S_drewN | apply Kd.S_drew)); exact HO107.out) (Kd.R_base ho0) hb); have n2_ := Aside0.mk (Kd.R_lower (Kd.R_new' ho0 (Kd.R_lt (by (with_reducible repeat (first | apply Kd.R_alloc | apply Kd.R_drewN | apply Kd.R_drew)); exact HO104.out))) (below_size (by repeat (first | (with_reducible first | exact HB.out | apply below_alloc | apply pw_below_drewN | apply below_drew1) | exact HB.out)))); have n3_ := Aside0.mk (below_step (by repeat (first | (with_reducible first | exact HB.out | apply below_alloc | apply pw_below_drewN | apply below_drew1) | exact HB.out)) hb); clear HO104; clear HO107; clear HB; have HO104 := n0_; have HO107 := n1_; have HO111 := n2_; have HB := n3_; clear n0_ n1_ n2_ n3_; (try clear hb); (try clear hb2); (try clear hk); (try clear hi); (try clear ho0); obtain ⟨Ao40, co40, eo40⟩ := Kd.R_slice HO111.out; subst eo40)); try go_wp2_with (first | (go_at_call 9; (with_reducible refine (aumbrylaw05_wakes.calls k  true _ A3.out).mono ?_); rintro e w34 ⟨rfl, hb⟩; have n0_ := Aside0.mk (below_step (by repeat (first | (with_reducible first | exact HB.out | apply below_alloc | apply pw_below_drewN | apply below_drew1) | exact HB.out)) hb); clear HB; have HB := n0_; clear n0_; (try clear hb); (try clear hb2); (try clear hk); (try clear hi)) | (go_at_call 11; (with_reducible refine (aumbrylaw05_own.calls _ _ l0 t102 _ ?side1 ?side2 A5.out).mono ?_); (case side1 => repeat (first | exact (Kd.C_below HR0.out HB.out) | (with_reducible refine Kd.C_alloc ?_ _) | (with_reducible refine Kd.C_drewN ?_ _) | (with_reducible refine Kd.C_drew ?_))); (case side2 => exact HC0.out); rintro e w35 ⟨v103, rfl, ho0, hb⟩; have n0_ := Aside0.mk (Kd.R_lower ho0 (below_size (by repeat (first | (with_reducible first | exact HB.out | apply below_alloc | apply pw_below_drewN | apply below_drew1) | exact HB.out)))); have n1_ := Aside0.mk (below_step (by repeat (first | (with_reducible first | exact HB.out | apply below_alloc | apply pw_below_drewN | apply below_drew1) | exact HB.out)) hb); clear HB; have HO104 := n0_; have HB := n1_; clear n0_ n1_; (try clear hb); (try clear hb2); (try clear hk); (try clear hi); (try clear ho0)) | (go_at_call 15; (with_reducible refine (aumbryref05_Copy.calls k _ _ l1 t105 _ ?side1 ?side2 A6.out).mono ?_); (case side1 => repeat (first | exact (Kd.C_below HR1.out HB.out) | (with_reducible refine Kd.C_alloc ?_ _) | (with_reducible refine Kd.C_drewN ?_ _) | (with_reducible refine Kd.C_drew ?_))); (case side2 => exact HC1.out); rintro e w36 ⟨v106, rfl, ho0, hb⟩; have n0_ := Aside0.mk (Kd.R_below (by (with_reducible repeat (first | apply Kd.R_alloc | apply Kd.R_drewN | apply Kd.R_drew)); exact HO104.out) hb); have n1_ := Aside0.mk (Kd.S_lower (Kd.S_new' ho0 (Kd.R_lt (by (with_reducible repeat (first | apply Kd.R_alloc | apply Kd.R_drewN | apply Kd.R_drew)); exact HO104.out))) (below_size (by repeat (first | (with_reducible first | exact HB.out | apply below_alloc | apply pw_below_drewN | apply below_drew1) | exact HB.out)))); have n2_ := Aside0.mk (below_step (by repeat (first | (with_reducible first | exact HB.out | apply below_alloc | apply pw_below_drewN | apply below_drew1) | exact HB.out)) hb); clear HO104; clear HB; have HO104 := n0_; have HO107 := n1_; have HB := n2_; clear n0_ n1_ n2_; (try clear hb); (try clear hb2); (try clear hk); (try clear hi); (try clear ho0); obtain ⟨Ao37, co37, eo37⟩ := Kd.R_slice HO104.out; subst eo37; obtain ⟨Ao38, co38, eo38⟩ := Kd.S_slice HO107.out; subst eo38) | (go_at_call 14; (with_reducible refine (match_Fill.calls k _ _ t102 _ _ t105 t108 t109 _ ?side1 ?side2 ?side3 ?side4 A7.out).mono ?_); (case side1 => repeat (first | exact (Kd.R_reads' HO104.out).2.2 | (with_reducible refine Kd.C_alloc ?_ _) | (with_reducible refine Kd.C_drewN ?_ _) | (with_reducible refine Kd.C_drew ?_))); (case side2 => exact (Kd.R_reads' HO104.out).2.1); (case side3 => repeat (first | exact (Kd.S_reads' HO107.out).2.2 | (with_reducible refine Kd.C_alloc ?_ _) | (with_reducible refine Kd.C_drewN ?_ _) | (with_reducible refine Kd.C_drew ?_))); (case side4 => exact (Kd.S_reads' HO107.out).2.1); rintro e w39 ⟨v110, rfl, ho0, hb⟩; have n0_ := Aside0.mk (Kd.R_elder' (by (with_reducible repeat (first | apply Kd.R_alloc | apply Kd.R_drewN | apply Kd.R_drew)); exact HO104.out) (Kd.R_base ho0) hb); have n1_ := Aside0.mk (Kd.S_elder' (by (with_reducible repeat (first | apply Kd.S_alloc | apply Kd.S_drewN | apply Kd.S_drew)); exact HO107.out) (Kd.R_base ho0) hb); have n2_ := Aside0.mk (Kd.R_lower (Kd.R_new' ho0 (Kd.R_lt (by (with_reducible repeat (first | apply Kd.R_alloc | apply Kd.R_drewN | apply Kd.R_drew)); exact HO104.out))) (below_size (by repeat (first | (with_reducible first | exact HB.out | apply below_alloc | apply pw_below_drewN | apply below_drew1) | exact HB.out)))); have n3_ := Aside0.mk (below_step (by repeat (first | (with_reducible first | exact HB.out | apply below_alloc | apply pw_below_drewN | apply below_drew1) | exact HB.out)) hb); clear HO104; clear HO107; clear HB; have HO104 := n0_; have HO107 := n1_; have HO111 := n2_; have HB := n3_; clear n0_ n1_ n2_ n3_; (try clear hb); (try clear hb2); (try clear hk); (try clear hi); (try clear ho0); obtain ⟨Ao40, co40, eo40⟩ := Kd.R_slice HO111.out; subst eo40)))
      go_ret
      exact ⟨by first | rfl | (simp [errW_none, errW_some] <;> rfl) | (simp [*, errW_none, errW_some] <;> rfl), by repeat (first | (with_reducible first | exact HB.out | apply below_alloc | apply pw_below_drewN | apply below_drew1) | exact HB.out)⟩
  · replace c4 := Bool.eq_false_iff.mpr c4
    subst c4
    have H1 : (some false) = some r := by rw [if_neg (show ¬ (false = true) by decide)] at H; exact H
    clear H
    have H := H1
    clear H1
    obtain rfl := Option.some.inj H
    go_enter Try.func6, Try.ntmps6
    go_wp2_with (first | (go_at_call 9; (with_reducible refine (aumbrylaw05_wakes.calls k  false _ A3.out).mono ?_); rintro e w41 ⟨rfl, hb⟩; have n0_ := Aside0.mk (below_step (by repeat (first | (with_reducible first | exact HB.out | apply below_alloc | apply pw_below_drewN | apply below_drew1) | exact HB.out)) hb); clear HB; have HB := n0_; clear n0_; (try clear hb); (try clear hb2); (try clear hk); (try clear hi)))
    repeat (go_quiet (first | (go_at_call 9; (with_reducible refine (aumbrylaw05_wakes.calls k  false _ A3.out).mono ?_); rintro e w41 ⟨rfl, hb⟩; have n0_ := Aside0.mk (below_step (by repeat (first | (with_reducible first | exact HB.out | apply below_alloc | apply pw_below_drewN | apply below_drew1) | exact HB.out)) hb); clear HB; have HB := n0_; clear n0_; (try clear hb); (try clear hb2); (try clear hk); (try clear hi))); try go_wp2_with (first | (go_at_call 9; (with_reducible refine (aumbrylaw05_wakes.calls k  false _ A3.out).mono ?_); rintro e w41 ⟨rfl, hb⟩; have n0_ := Aside0.mk (below_step (by repeat (first | (with_reducible first | exact HB.out | apply below_alloc | apply pw_below_drewN | apply below_drew1) | exact HB.out)) hb); clear HB; have HB := n0_; clear n0_; (try clear hb); (try clear hb2); (try clear hk); (try clear hi))))
    go_ret
    exact ⟨by first | rfl | (simp [errW_none, errW_some] <;> rfl) | (simp [*, errW_none, errW_some] <;> rfl), by repeat (first | (with_reducible first | exact HB.out | apply below_alloc | apply pw_below_drewN | apply below_drew1) | exact HB.out)⟩

end Go.Proofs.Ytlfhonekcmlomaa.P

-- ==== Open
/- What came in and can be read as data, read as the print's kinds: for each kind one fact, put together by the types' shapes. -/
set_option linter.unusedVariables false
namespace Go.Proofs.Ytlfhonekcmlomaa.Open
open Go.RowKit Go.Proofs.YtlfhonekcmlomaaW.PrintWords Go.Proofs.Ytlfhonekcmlomaa.Rows

structure Opens {α : Type} (P : Program) (t : TypeId) (d : Kd α) (Sz : α → Prop) (Bk : α → Nat) : Prop where
  cells : P.cellsOf t = d.sz
  go : ∀ {H : Type} {enc : TypeId × Value → H} {w : World} {base : Nat} {spare : Nat → Bool} {held : Bool} {n : Nat} {cs : List Value} {x : DataW H × List MemPlace},
    DataW.trod enc P w base spare held n t cs = some x → (∀ m ∈ x.1.weights P t, m ≤ reachBytes) → ∃ v : α, d.K w v cs ∧ Sz v ∧ Bk v ≤ uptoBulk x.1

theorem opens_int {P : Program} {t : TypeId} {k : IntKind} (ht : P.underlying t = some (.int k)) (hc : P.cellsOf t = 1) : Opens P t (Kd.int k) (fun a => (Lit.int k a).wf = true) (fun _ => 1) := by
  refine ⟨hc, fun h _ => ?_⟩
  obtain ⟨a, rfl, rfl, hw⟩ := DataW.trod_int ht h
  exact ⟨a, rfl, hw, by simp [uptoBulk]⟩

theorem opens_string {P : Program} {t : TypeId} (ht : P.underlying t = some .string) (hc : P.cellsOf t = 1) : Opens P t Kd.string (fun s => s.size ≤ 140737488351232) (fun s => s.size + 1) := by
  refine ⟨hc, fun h hw => ?_⟩
  obtain ⟨a, rfl, rfl, hs⟩ := DataW.trod_string ht h
  have hl : a.data.toList.length = a.size := data_length a
  refine ⟨a, rfl, ?_, ?_⟩
  · have := hw a.data.toList.length (by simp [DataW.weights])
    rw [hl] at this
    exact this
  · simp only [uptoBulk]
    omega

theorem mem_weightsAll {H : Type} {P : Program} {e : TypeId} {d : DataW H} : ∀ {l : List (DataW H)}, d ∈ l → ∀ {m : Nat}, m ∈ d.weights P e → m ∈ DataW.weightsAll P e l
  | a :: l, h, m, hm => by
    simp only [DataW.weightsAll, List.mem_append]
    rcases List.mem_cons.1 h with rfl | h
    · exact .inl hm
    · exact .inr (mem_weightsAll h hm)
  | [], h, _, _ => by cases h

def bulkAll {α : Type} (Bk : α → Nat) (l : List α) : Nat := (l.map Bk).sum

theorem bulk_all_le {H α : Type} (Bk : α → Nat) : ∀ (xs : List α) (ds : List (DataW H)), xs.length = ds.length → (∀ (i : Nat) x d, xs[i]? = some x → ds[i]? = some d → Bk x ≤ uptoBulk d) → bulkAll Bk xs ≤ uptoBulkAll ds
  | [], [], _, _ => by simp [bulkAll, uptoBulkAll]
  | x :: xs, d :: ds, hl, h => by
    have h0 := h 0 x d rfl rfl
    have h1 := bulk_all_le Bk xs ds (by simpa using hl) (fun i x' d' hx hd => h (i + 1) x' d' (by simpa using hx) (by simpa using hd))
    simp only [bulkAll, uptoBulkAll, List.map_cons, List.sum_cons] at h1 ⊢
    omega
  | [], _ :: _, hl, _ => by simp at hl
  | _ :: _, [], hl, _ => by simp at hl

theorem opens_slice {α : Type} {P : Program} {t e : TypeId} {d : Kd α} {Sz : α → Prop} {Bk : α → Nat} {b : Nat} (ht : P.underlying t = some (.slice e)) (hc : P.cellsOf t = 1) (hb : P.bytesOf e = b) (ho : Opens P e d Sz Bk) :
    Opens P t (Kd.slice e d) (fun l => l.length * b ≤ 140737488351232 ∧ ∀ x ∈ l, Sz x) (fun l => bulkAll Bk l + 1) := by
  refine ⟨hc, ?_⟩
  intro H enc w base spare held n cs x h hw
  rcases Go.Deep.open_slice ht h with ⟨rfl, rfl⟩ | ⟨a, len, cap, m, n', D, Pl, rfl, _, hl, hm, hmm, rfl, hx⟩
  · exact ⟨[], ⟨none, 0, rfl, Nat.le_refl _, Kd.C_nil d w⟩, ⟨by simp, by simp⟩, by simp [bulkAll, uptoBulk]⟩
  · have hlm : len ≤ m := by rw [hmm]; split <;> omega
    have hel : ∀ i, i < len → ∃ v : α, (∃ cs', w.cells? base (a.add (i * P.cellsOf e)) (P.cellsOf e) = some cs' ∧ d.K w v cs') ∧ Sz v ∧ Bk v ≤ uptoBulk (D i) := by
      intro i hi
      obtain ⟨cs', h1, h2⟩ := hx i (by omega)
      obtain ⟨v, hv, hs, hbk⟩ := ho.go h2 (fun m' hm' => hw m' (by
        simp only [DataW.weights, ht, List.mem_cons, List.mem_append]
        exact .inr (.inl (mem_weightsAll (List.mem_map.2 ⟨i, List.mem_range.2 hi, rfl⟩) hm'))))
      exact ⟨v, ⟨cs', h1, hv⟩, hs, hbk⟩
    have hex : ∃ l : List α, l.length = len ∧ ∀ (i : Nat) v, l[i]? = some v → (∃ cs', w.cells? base (a.add (i * P.cellsOf e)) (P.cellsOf e) = some cs' ∧ d.K w v cs') ∧ Sz v ∧ Bk v ≤ uptoBulk (D i) := by
      clear hx hw h hmm hlm hl hm
      induction len with
      | zero => exact ⟨[], rfl, fun i v hv => by simp at hv⟩
      | succ k ih =>
        obtain ⟨l, h1, h2⟩ := ih (fun i hi => hel i (by omega))
        obtain ⟨v, hv⟩ := hel k (by omega)
        refine ⟨l ++ [v], by simp [h1], fun i u hu => ?_⟩
        by_cases hi : i < l.length
        · rw [List.getElem?_append_left hi] at hu
          exact h2 i u hu
        · have hik : i = l.length := by
            have := (List.getElem?_eq_some_iff.1 hu).1
            simp at this
            omega
          subst hik
          simp at hu
          subst hu
          rw [h1]
          exact hv
    obtain ⟨l, hll, hlv⟩ := hex
    subst hll
    refine ⟨l, ⟨some a, cap, rfl, hl, rfl, ?_, fun hp => ⟨a, rfl, fun j v hj => ?_⟩⟩, ⟨?_, ?_⟩, ?_⟩
    · have : maxLen ≤ 9223372036854775807 := by decide
      omega
    · obtain ⟨⟨cs', h1, h2⟩, _, _⟩ := hlv j v hj
      refine ⟨cs', d.K_len h2, h2, fun i u hu => ?_⟩
      obtain ⟨_, hlen, hcell⟩ := World.cells?_some h1
      have hi : i < cs'.length := (List.getElem?_eq_some_iff.1 hu).1
      have hsz := d.K_len h2
      rw [ho.cells] at hcell hlen
      have := hcell i (by omega)
      rw [hu] at this
      rw [← this, add_add]
    · have := hw ((((List.range l.length).map D).length + ((List.range (m - l.length)).map fun j => D (l.length + j)).length) * P.bytesOf e) (by simp [DataW.weights, ht])
      simp only [List.length_map, List.length_range] at this
      rw [hb] at this
      have h3 : reachBytes = 140737488351232 := by decide
      rw [h3] at this
      have h4 : l.length * b ≤ (l.length + (m - l.length)) * b := Nat.mul_le_mul_right _ (by omega)
      omega
    · intro v hv
      obtain ⟨i, hi, rfl⟩ := List.mem_iff_getElem.1 hv
      exact (hlv i _ (List.getElem?_eq_getElem hi)).2.1
    · have := bulk_all_le Bk l ((List.range l.length).map D) (by simp) (fun i v dd hv hd => by
        have hi : i < l.length := (List.getElem?_eq_some_iff.1 hv).1
        simp [hi] at hd
        rw [← hd]
        exact (hlv i v hv).2.2)
      simp only [uptoBulk]
      omega

/-! Structs: the fields, one behind the other. -/
def offs (P : Program) : List TypeId → Nat → Nat
  | [], _ => 0
  | _, 0 => 0
  | t :: ts, i + 1 => P.cellsOf t + offs P ts i

structure OpensF {α : Type} (P : Program) (ts : List TypeId) (d : Kd α) (Sz : α → Prop) (Bk : α → Nat) : Prop where
  cells : (ts.map P.cellsOf).sum = d.sz
  go : ∀ {H : Type} {enc : TypeId × Value → H} {w : World} {base : Nat} {spare : Nat → Bool} {held : Bool} {n : Nat} {cs : List Value} {xs : List (DataW H × List MemPlace)},
    cs.length = d.sz → xs.length = ts.length → (∀ (i : Nat) t, ts[i]? = some t → DataW.trod enc P w base spare held n t ((cs.drop (offs P ts i)).take (P.cellsOf t)) = xs[i]?) →
    (∀ m ∈ DataW.weightsEach P ts (xs.map (·.1)), m ≤ reachBytes) → ∃ v : α, d.K w v cs ∧ Sz v ∧ Bk v ≤ uptoBulkAll (xs.map (·.1))

theorem opensF_one {α : Type} {P : Program} {t : TypeId} {d : Kd α} {Sz : α → Prop} {Bk : α → Nat} (ho : Opens P t d Sz Bk) : OpensF P [t] d Sz Bk := by
  refine ⟨by simp [ho.cells], fun {H enc w base spare held n cs xs} hl hx h hw => ?_⟩
  match xs, hx with
  | [y], _ =>
    have h0 := h 0 t rfl
    rw [show offs P [t] 0 = 0 from rfl, List.drop_zero, List.take_of_length_le (by rw [ho.cells]; omega)] at h0
    obtain ⟨v, h1, h2, h3⟩ := ho.go h0 (fun m hm => hw m (by simp [DataW.weightsEach, hm]))
    exact ⟨v, h1, h2, by simpa [uptoBulkAll] using h3⟩

theorem opensF_cons {α β : Type} {P : Program} {t : TypeId} {ts : List TypeId} {d : Kd α} {ds : Kd β} {Sz : α → Prop} {Bk : α → Nat} {Szs : β → Prop} {Bks : β → Nat} (ho : Opens P t d Sz Bk) (hs : OpensF P ts ds Szs Bks) :
    OpensF P (t :: ts) (Kd.pair d ds) (fun x => Sz x.1 ∧ Szs x.2) (fun x => Bk x.1 + Bks x.2) := by
  refine ⟨by simp [ho.cells, hs.cells, Kd.pair], fun {H enc w base spare held n cs xs} hl hx h hw => ?_⟩
  match xs, hx with
  | y :: ys, hx =>
    have hl' : cs.length = d.sz + ds.sz := hl
    have h0 := h 0 t rfl
    rw [show offs P (t :: ts) 0 = 0 from rfl, List.drop_zero, ho.cells] at h0
    obtain ⟨v, h1, h2, h3⟩ := ho.go h0 (fun m hm => hw m (by simp [DataW.weightsEach, hm]))
    obtain ⟨u, g1, g2, g3⟩ := hs.go (cs := cs.drop d.sz) (xs := ys) (enc := enc) (w := w) (base := base) (spare := spare) (held := held) (n := n) (by rw [List.length_drop]; omega) (by simpa using hx) (fun i t' ht' => by
      have := h (i + 1) t' (by simpa using ht')
      rw [show offs P (t :: ts) (i + 1) = P.cellsOf t + offs P ts i from rfl, ho.cells] at this
      rw [List.drop_drop]
      simpa using this) (fun m hm => hw m (by simp only [List.map_cons, DataW.weightsEach, List.mem_append]; exact .inr hm))
    refine ⟨(v, u), ⟨cs.take d.sz, cs.drop d.sz, (List.take_append_drop _ _).symm, h1, g1⟩, ⟨h2, g2⟩, ?_⟩
    simp only [List.map_cons, uptoBulkAll]
    omega

theorem opens_struct {α β : Type} {P : Program} {t : TypeId} {fs : Array Field} {ts : List TypeId} {d : Kd α} {f : β → α} {Sz : α → Prop} {Bk : α → Nat} (ht : P.underlying t = some (.struct fs)) (hts : fs.toList.map (·.type) = ts)
    (hoff : ∀ (i : Nat) fl, fs[i]? = some fl → fl.offset = offs P ts i) (hc : P.cellsOf t = d.sz) (ho : OpensF P ts d Sz Bk) (g : α → β) (hg : ∀ v, f (g v) = v) :
    Opens P t (Kd.iso d f) (fun x => Sz (f x)) (fun x => Bk (f x) + 1) := by
  refine ⟨hc, fun {H enc w base spare held n cs x} h hw => ?_⟩
  obtain ⟨xs, n', _, rfl, hl, hlen, hf⟩ := DataW.trod_struct ht h
  have hlt : ts.length = fs.size := by rw [← hts]; simp
  obtain ⟨v, h1, h2, h3⟩ := ho.go (cs := cs) (xs := xs) (enc := enc) (w := w) (base := base) (spare := spare) (held := held) (n := n') (by rw [hl, hc]) (by omega) (fun i t' ht' => by
    have hi : i < fs.size := by rw [← hlt]; exact (List.getElem?_eq_some_iff.1 ht').1
    have hfi : fs[i]? = some fs[i] := Array.getElem?_eq_getElem hi
    have := hf i fs[i] hfi
    rw [hoff i _ hfi] at this
    have he : fs[i].type = t' := by
      rw [← hts, List.getElem?_map, Array.getElem?_toList, hfi] at ht'
      simpa using ht'
    rw [he] at this
    exact this) (fun m hm => hw m (by simp only [DataW.weights, ht, hts]; exact hm))
  exact ⟨g v, by show d.K w (f (g v)) cs; rw [hg]; exact h1, by rw [hg]; exact h2, by rw [hg]; simp only [uptoBulk]; omega⟩

end Go.Proofs.Ytlfhonekcmlomaa.Open

-- ==== PO
set_option linter.unusedVariables false
namespace Go.Proofs.Ytlfhonekcmlomaa.P
open Go.RowKit Go.Proofs.YtlfhonekcmlomaaW.PrintWords Go.Proofs.Ytlfhonekcmlomaa.Open
def sz9 (s : ByteArray) : Prop := s.size ≤ 140737488351232
def bk9 (s : ByteArray) : Nat := s.size + 1
theorem op9 : Opens Try.prog 9 Kd.string sz9 bk9 := opens_string Try.underlying9 (by kernel_rfl)
def sz3 (a : Int) : Prop := (Lit.int .i64 a).wf = true
def bk3 (_ : Int) : Nat := 1
theorem op3 : Opens Try.prog 3 (Kd.int .i64) sz3 bk3 := opens_int Try.underlying3 (by kernel_rfl)
def sz47 (x : S47) : Prop := sz9 x.f0 ∧ sz3 x.f1
def bk47 (x : S47) : Nat := (bk9 x.f0 + bk3 x.f1) + 1
theorem op47 : Opens Try.prog 47 k47 sz47 bk47 := opens_struct (P := Try.prog) (ts := [9, 3]) (f := fun x : S47 => (x.f0, x.f1)) Try.underlying47 (by kernel_rfl) (fun i fl h => by
    match i, h with
    | 0, h => obtain rfl := Option.some.inj h; show (0 : Nat) = offs Try.prog [9, 3] 0; kernel_rfl
    | 1, h => obtain rfl := Option.some.inj h; show (1 : Nat) = offs Try.prog [9, 3] 1; kernel_rfl
    | i + 2, h => simp at h) (by kernel_rfl) (opensF_cons op9 (opensF_one op3)) (fun x => ⟨x.1, x.2⟩) (fun _ => rfl)
def sz23 (l : List (S47)) : Prop := l.length * 24 ≤ 140737488351232 ∧ ∀ x ∈ l, sz47 x
def bk23 (l : List (S47)) : Nat := bulkAll bk47 l + 1
theorem op23 : Opens Try.prog 23 (Kd.slice 47 k47) sz23 bk23 := opens_slice Try.underlying23 (by kernel_rfl) (by kernel_rfl) op47
def sz44 (x : S44) : Prop := sz9 x.f0 ∧ sz23 x.f1
def bk44 (x : S44) : Nat := (bk9 x.f0 + bk23 x.f1) + 1
theorem op44 : Opens Try.prog 44 k44 sz44 bk44 := opens_struct (P := Try.prog) (ts := [9, 23]) (f := fun x : S44 => (x.f0, x.f1)) Try.underlying44 (by kernel_rfl) (fun i fl h => by
    match i, h with
    | 0, h => obtain rfl := Option.some.inj h; show (0 : Nat) = offs Try.prog [9, 23] 0; kernel_rfl
    | 1, h => obtain rfl := Option.some.inj h; show (1 : Nat) = offs Try.prog [9, 23] 1; kernel_rfl
    | i + 2, h => simp at h) (by kernel_rfl) (opensF_cons op9 (opensF_one op23)) (fun x => ⟨x.1, x.2⟩) (fun _ => rfl)
def sz25 (l : List (S44)) : Prop := l.length * 40 ≤ 140737488351232 ∧ ∀ x ∈ l, sz44 x
def bk25 (l : List (S44)) : Nat := bulkAll bk44 l + 1
theorem op25 : Opens Try.prog 25 (Kd.slice 44 k44) sz25 bk25 := opens_slice Try.underlying25 (by kernel_rfl) (by kernel_rfl) op44
end Go.Proofs.Ytlfhonekcmlomaa.P

-- ==== PS6
namespace Go.Proofs.Ytlfhonekcmlomaa.P
open Go.RowKit Go.Proofs.YtlfhonekcmlomaaW.PrintWords
def aumbrylaw05_MatchFilled.Pure : Prop := ∀ (l0 : List (S47)) (l1 : List (S44)), sz23 l0 → sz25 l1 → ∃ k, aumbrylaw05_MatchFilled.f k l0 l1 = some true
end Go.Proofs.Ytlfhonekcmlomaa.P

-- ==== PF29
namespace Go.Proofs.Ytlfhonekcmlomaa.P
open Go.RowKit Go.Proofs.YtlfhonekcmlomaaW.PrintWords Go.Proofs.YtlfhonekcmlomaaW.PrintLast Go.Proofs.YtlfhonekcmlomaaW.PrintMore
attribute [local go_sem] max2_int min2_int max_two min_two max_three min_three max_four min_four   -- for this text's walks alone
set_option linter.unusedVariables false
set_option linter.unusedSimpArgs false

/-! ### aumbryref03_Kind: function 29 -/
mutual
def aumbryref03_Kind.j0 : Nat → ByteArray → Bool → Option (Int)
  | 0, _, _ => none
  | k + 1, x0, x15 => if x15 = true then (some 0) else (aumbryref03_Kind.l0 k x0 true true 0)
def aumbryref03_Kind.l0 : Nat → ByteArray → Bool → Bool → Int → Option (Int)
  | 0, _, _, _, _ => none
  | k + 1, x0, x3, x4, x5 => if x5 < (x0.size : Int) then (if 0 ≤ x5 then (if (bt x0 x5) ≥ 48 then (if (bt x0 x5) ≤ 57 then (if x3 = true then (if (bt x0 x5) ≥ 97 then (if (bt x0 x5) ≤ 122 then (if x4 = true then (if (bt x0 x5) ≥ 65 then (if (bt x0 x5) ≤ 90 then (aumbryref03_Kind.l0 k x0 true true (wrap64 (x5 + 1))) else (aumbryref03_Kind.l0 k x0 true (decide (x5 > 0)) (wrap64 (x5 + 1)))) else (aumbryref03_Kind.l0 k x0 true (decide (x5 > 0)) (wrap64 (x5 + 1)))) else (aumbryref03_Kind.l0 k x0 true false (wrap64 (x5 + 1)))) else (if x4 = true then (if (bt x0 x5) ≥ 65 then (if (bt x0 x5) ≤ 90 then (aumbryref03_Kind.l0 k x0 (decide (x5 > 0)) true (wrap64 (x5 + 1))) else (aumbryref03_Kind.l0 k x0 (decide (x5 > 0)) (decide (x5 > 0)) (wrap64 (x5 + 1)))) else (aumbryref03_Kind.l0 k x0 (decide (x5 > 0)) (decide (x5 > 0)) (wrap64 (x5 + 1)))) else (aumbryref03_Kind.l0 k x0 (decide (x5 > 0)) false (wrap64 (x5 + 1))))) else (if x4 = true then (if (bt x0 x5) ≥ 65 then (if (bt x0 x5) ≤ 90 then (aumbryref03_Kind.l0 k x0 (decide (x5 > 0)) true (wrap64 (x5 + 1))) else (aumbryref03_Kind.l0 k x0 (decide (x5 > 0)) (decide (x5 > 0)) (wrap64 (x5 + 1)))) else (aumbryref03_Kind.l0 k x0 (decide (x5 > 0)) (decide (x5 > 0)) (wrap64 (x5 + 1)))) else (aumbryref03_Kind.l0 k x0 (decide (x5 > 0)) false (wrap64 (x5 + 1))))) else (if x4 = true then (if (bt x0 x5) ≥ 65 then (if (bt x0 x5) ≤ 90 then (aumbryref03_Kind.l0 k x0 false true (wrap64 (x5 + 1))) else (aumbryref03_Kind.l0 k x0 false (decide (x5 > 0)) (wrap64 (x5 + 1)))) else (aumbryref03_Kind.l0 k x0 false (decide (x5 > 0)) (wrap64 (x5 + 1)))) else (aumbryref03_Kind.l0 k x0 false false (wrap64 (x5 + 1))))) else (if x3 = true then (if (bt x0 x5) ≥ 97 then (if (bt x0 x5) ≤ 122 then (if x4 = true then (if (bt x0 x5) ≥ 65 then (if (bt x0 x5) ≤ 90 then (aumbryref03_Kind.l0 k x0 true true (wrap64 (x5 + 1))) else (aumbryref03_Kind.l0 k x0 true false (wrap64 (x5 + 1)))) else (aumbryref03_Kind.l0 k x0 true false (wrap64 (x5 + 1)))) else (aumbryref03_Kind.l0 k x0 true false (wrap64 (x5 + 1)))) else (if x4 = true then (if (bt x0 x5) ≥ 65 then (if (bt x0 x5) ≤ 90 then (aumbryref03_Kind.l0 k x0 false true (wrap64 (x5 + 1))) else (aumbryref03_Kind.l0 k x0 false false (wrap64 (x5 + 1)))) else (aumbryref03_Kind.l0 k x0 false false (wrap64 (x5 + 1)))) else (aumbryref03_Kind.l0 k x0 false false (wrap64 (x5 + 1))))) else (if x4 = true then (if (bt x0 x5) ≥ 65 then (if (bt x0 x5) ≤ 90 then (aumbryref03_Kind.l0 k x0 false true (wrap64 (x5 + 1))) else (aumbryref03_Kind.l0 k x0 false false (wrap64 (x5 + 1)))) else (aumbryref03_Kind.l0 k x0 false false (wrap64 (x5 + 1)))) else (aumbryref03_Kind.l0 k x0 false false (wrap64 (x5 + 1))))) else (if x4 = true then (if (bt x0 x5) ≥ 65 then (if (bt x0 x5) ≤ 90 then (aumbryref03_Kind.l0 k x0 false true (wrap64 (x5 + 1))) else (aumbryref03_Kind.l0 k x0 false false (wrap64 (x5 + 1)))) else (aumbryref03_Kind.l0 k x0 false false (wrap64 (x5 + 1)))) else (aumbryref03_Kind.l0 k x0 false false (wrap64 (x5 + 1)))))) else (if x3 = true then (if (bt x0 x5) ≥ 97 then (if (bt x0 x5) ≤ 122 then (if x4 = true then (if (bt x0 x5) ≥ 65 then (if (bt x0 x5) ≤ 90 then (aumbryref03_Kind.l0 k x0 true true (wrap64 (x5 + 1))) else (aumbryref03_Kind.l0 k x0 true false (wrap64 (x5 + 1)))) else (aumbryref03_Kind.l0 k x0 true false (wrap64 (x5 + 1)))) else (aumbryref03_Kind.l0 k x0 true false (wrap64 (x5 + 1)))) else (if x4 = true then (if (bt x0 x5) ≥ 65 then (if (bt x0 x5) ≤ 90 then (aumbryref03_Kind.l0 k x0 false true (wrap64 (x5 + 1))) else (aumbryref03_Kind.l0 k x0 false false (wrap64 (x5 + 1)))) else (aumbryref03_Kind.l0 k x0 false false (wrap64 (x5 + 1)))) else (aumbryref03_Kind.l0 k x0 false false (wrap64 (x5 + 1))))) else (if x4 = true then (if (bt x0 x5) ≥ 65 then (if (bt x0 x5) ≤ 90 then (aumbryref03_Kind.l0 k x0 false true (wrap64 (x5 + 1))) else (aumbryref03_Kind.l0 k x0 false false (wrap64 (x5 + 1)))) else (aumbryref03_Kind.l0 k x0 false false (wrap64 (x5 + 1)))) else (aumbryref03_Kind.l0 k x0 false false (wrap64 (x5 + 1))))) else (if x4 = true then (if (bt x0 x5) ≥ 65 then (if (bt x0 x5) ≤ 90 then (aumbryref03_Kind.l0 k x0 false true (wrap64 (x5 + 1))) else (aumbryref03_Kind.l0 k x0 false false (wrap64 (x5 + 1)))) else (aumbryref03_Kind.l0 k x0 false false (wrap64 (x5 + 1)))) else (aumbryref03_Kind.l0 k x0 false false (wrap64 (x5 + 1)))))) else (none)) else (if x3 = true then (some 1) else (if x4 = true then (some 2) else (some 0)))
end
def aumbryref03_Kind.f (k : Nat) (a0 : ByteArray) : Option (Int) := if (a0.size : Int) < 1 then (aumbryref03_Kind.j0 k a0 true) else (aumbryref03_Kind.j0 k a0 (decide ((a0.size : Int) > 8)))
end Go.Proofs.Ytlfhonekcmlomaa.P

-- ==== PLa
/- Plain laws, part a: what kind a text is: the program's way and the document's way come to one function. -/
namespace Go.Proofs.Ytlfhonekcmlomaa.P
open Go.RowKit Go.Proofs.YtlfhonekcmlomaaW.PrintWords
set_option linter.unusedVariables false
set_option linter.unusedSimpArgs false

theorem wrap_up {i : Int} (h0 : 0 ≤ i) (h : i < 9223372036854775807) : wrap64 (i + 1) = i + 1 := by
  unfold wrap64
  omega
theorem wrap_id {i : Int} (h0 : -9223372036854775808 ≤ i) (h : i ≤ 9223372036854775807) : wrap64 i = i := by
  unfold wrap64
  omega

theorem evIfp {α : Type} {c : Prop} [Decidable c] {f g : Nat → Option α} {r : α} (h : c) (hf : Ev f r) : Ev (fun k => if c then f k else g k) r :=
  Ev.congr (fun _ => if_pos h) hf
theorem evIfn {α : Type} {c : Prop} [Decidable c] {f g : Nat → Option α} {r : α} (h : ¬ c) (hf : Ev g r) : Ev (fun k => if c then f k else g k) r :=
  Ev.congr (fun _ => if_neg h) hf
theorem evIs {α : Type} {x : Option α} {a : α} (h : x = some a) : Ev (fun _ => x) a := ⟨0, fun _ _ => h⟩

def lowB (s : ByteArray) (i : Int) : Bool := (decide (97 ≤ bt s i) && decide (bt s i ≤ 122)) || (decide (48 ≤ bt s i) && decide (bt s i ≤ 57) && decide (0 < i))
def upB (s : ByteArray) (i : Int) : Bool := (decide (65 ≤ bt s i) && decide (bt s i ≤ 90)) || (decide (48 ≤ bt s i) && decide (bt s i ≤ 57) && decide (0 < i))
/-- p holds at i, i + 1, .. (d places). -/
def allN (p : Int → Bool) : Nat → Int → Bool
  | 0, _ => true
  | d + 1, i => p i && allN p d (i + 1)
theorem allN_congr {p q : Int → Bool} : ∀ (d : Nat) (i : Int), (∀ j, i ≤ j → j < i + d → p j = q j) → allN p d i = allN q d i
  | 0, _, _ => rfl
  | d + 1, i, h => by
    simp only [allN]
    rw [h i (Int.le_refl _) (by omega), allN_congr d (i + 1) (fun j h1 h2 => h j (by omega) (by omega))]
def kindS (s : ByteArray) : Int :=
  if s.size < 1 ∨ 8 < s.size then 0 else if allN (lowB s) s.size 0 = true then 1 else if allN (upB s) s.size 0 = true then 2 else 0

theorem kindS_bad {s : ByteArray} (h : s.size < 1 ∨ 8 < s.size) : kindS s = 0 := by
  unfold kindS
  exact if_pos h
theorem kindS_good {s : ByteArray} (h1 : 1 ≤ s.size) (h8 : s.size ≤ 8) : kindS s = (if allN (lowB s) s.size 0 = true then 1 else if allN (upB s) s.size 0 = true then 2 else 0) := by
  unfold kindS
  exact if_neg (by omega)
theorem kindS_size {s : ByteArray} (h : kindS s ≠ 0) : 1 ≤ s.size ∧ s.size ≤ 8 := by
  unfold kindS at h
  split at h
  · exact absurd rfl h
  · omega

/-! ### the document's -/
/-! ### the program's -/
def signS (c : Int) : Int × Int := if 97 ≤ c ∧ c ≤ 122 then (1, 1) else if 65 ≤ c ∧ c ≤ 90 then (2, 2) else if 48 ≤ c ∧ c ≤ 57 then (0, 3) else (0, 0)
theorem sign_at (c : Int) (k : Nat) (hk : 2 ≤ k) : name_sign.f k c = some (signS c) := by
  obtain ⟨k, rfl⟩ : ∃ m, k = m + 2 := ⟨k - 2, by omega⟩
  unfold name_sign.f signS
  by_cases c1 : c ≥ 48 <;> by_cases c2 : c ≤ 57 <;> by_cases c3 : c ≥ 97 <;> by_cases c4 : c ≤ 122 <;> by_cases c5 : c ≥ 65 <;> by_cases c6 : c ≤ 90 <;> first | (exfalso; omega) | (simp [name_sign.j0, name_sign.j1, c1, c2, c3, c4, c5, c6])
theorem bits_and_ (a b : Int) (ha : a = 0 ∨ a = 1 ∨ a = 2 ∨ a = 3) (hb : b = 0 ∨ b = 1 ∨ b = 2) : (Go.bits .and .i64 a b = 0) ↔ (b = 0 ∨ (b = 1 ∧ (a = 0 ∨ a = 2)) ∨ (b = 2 ∧ (a = 0 ∨ a = 1))) := by
  rcases ha with rfl | rfl | rfl | rfl <;> rcases hb with rfl | rfl | rfl <;> decide
def goesB (s : ByteArray) (b : Int) (i : Int) : Bool := decide (¬ (Go.bits .and .i64 (signS (bt s i)).2 b = 0))
theorem kind_loop (s : ByteArray) (b : Int) (hs : s.size ≤ 8) : ∀ (d : Nat) (k : Nat) (i : Int), 0 ≤ i → (s.size : Int) - i = d → d + 2 < k →
    name_Kind.l0 k s b (s.size : Int) i = some (if allN (goesB s b) d i = true then b else 0)
  | 0, k, i, h0, hd, hk => by
    obtain ⟨k, rfl⟩ : ∃ m, k = m + 1 := ⟨k - 1, by omega⟩
    simp only [name_Kind.l0]
    rw [if_neg (by omega)]
    simp [allN]
  | d + 1, k, i, h0, hd, hk => by
    obtain ⟨k, rfl⟩ : ∃ m, k = m + 1 := ⟨k - 1, by omega⟩
    simp only [name_Kind.l0]
    rw [if_pos (by omega), if_pos h0, if_pos (by omega), sign_at _ _ (by omega)]
    simp only [Option.bind_some]
    by_cases hg : Go.bits .and .i64 (signS (bt s i)).2 b = 0
    · rw [if_pos hg]
      simp [allN, goesB, hg]
    · rw [if_neg hg, wrap_up h0 (by omega), kind_loop s b hs d k (i + 1) (by omega) (by omega) (by omega)]
      simp [allN, goesB, hg]
theorem signS_two (c : Int) : (signS c).2 = 0 ∨ (signS c).2 = 1 ∨ (signS c).2 = 2 ∨ (signS c).2 = 3 := by
  unfold signS
  repeat' split
  all_goals simp
theorem goes_one (s : ByteArray) (i : Int) (hi : 0 < i) : goesB s 1 i = lowB s i := by
  have h := bits_and_ (signS (bt s i)).2 1 (signS_two _) (by simp)
  unfold goesB lowB
  rw [Bool.eq_iff_iff]
  simp only [decide_eq_true_eq, h, Bool.or_eq_true, Bool.and_eq_true]
  unfold signS
  repeat' split
  all_goals simp
  all_goals omega
theorem goes_two (s : ByteArray) (i : Int) (hi : 0 < i) : goesB s 2 i = upB s i := by
  have h := bits_and_ (signS (bt s i)).2 2 (signS_two _) (by simp)
  unfold goesB upB
  rw [Bool.eq_iff_iff]
  simp only [decide_eq_true_eq, h, Bool.or_eq_true, Bool.and_eq_true]
  unfold signS
  repeat' split
  all_goals simp
  all_goals omega
theorem kind_eq (s : ByteArray) (h1 : 1 ≤ s.size) (h8 : s.size ≤ 8) : (if allN (goesB s (signS (bt s 0)).1) s.size 0 = true then (signS (bt s 0)).1 else 0) = kindS s := by
  rw [kindS_good h1 h8]
  obtain ⟨n, hn⟩ : ∃ n, s.size = n + 1 := ⟨s.size - 1, by omega⟩
  have e1 : allN (goesB s 1) n (0 + 1) = allN (lowB s) n (0 + 1) := allN_congr _ _ (fun j h1 _ => goes_one s j (by omega))
  have e2 : allN (goesB s 2) n (0 + 1) = allN (upB s) n (0 + 1) := allN_congr _ _ (fun j h1 _ => goes_two s j (by omega))
  by_cases hl : 97 ≤ bt s 0 ∧ bt s 0 ≤ 122
  · have hs : signS (bt s 0) = (1, 1) := by unfold signS; rw [if_pos hl]
    have g0 : goesB s 1 0 = true := by unfold goesB; rw [hs]; decide
    have l0 : lowB s 0 = true := by unfold lowB; simp [hl]
    have u0 : upB s 0 = false := by unfold upB; simp; omega
    simp only [hn, hs, allN, e1, g0, l0, u0, Bool.true_and, Bool.false_and]
    split <;> simp
  · by_cases hu : 65 ≤ bt s 0 ∧ bt s 0 ≤ 90
    · have hs : signS (bt s 0) = (2, 2) := by unfold signS; rw [if_neg hl, if_pos hu]
      have g0 : goesB s 2 0 = true := by unfold goesB; rw [hs]; decide
      have l0 : lowB s 0 = false := by unfold lowB; simp; omega
      have u0 : upB s 0 = true := by unfold upB; simp [hu]
      simp only [hn, hs, allN, e2, g0, l0, u0, Bool.true_and, Bool.false_and]
      simp
    · have hs : (signS (bt s 0)).1 = 0 := by unfold signS; rw [if_neg hl, if_neg hu]; split <;> rfl
      have l0 : lowB s 0 = false := by unfold lowB; simp; omega
      have u0 : upB s 0 = false := by unfold upB; simp; omega
      simp only [hn, hs, allN, l0, u0, Bool.true_and, Bool.false_and]
      simp
theorem toList_nil (s : ByteArray) : s.toList = ([] : List UInt8) ↔ s.size = 0 := by
  rw [ByteArray.toList_eq]
  constructor
  · intro h
    have := congrArg List.length h
    simpa [data_length] using this
  · intro h
    apply List.eq_nil_of_length_eq_zero
    rw [data_length]
    exact h
theorem ev_kind (s : ByteArray) : Ev (fun k => name_Kind.f k s) (kindS s) := by
  refine ⟨16, fun k hk => ?_⟩
  show name_Kind.f k s = _
  unfold name_Kind.f
  obtain ⟨k, rfl⟩ : ∃ m, k = m + 1 := ⟨k - 1, by omega⟩
  by_cases h1 : s.toList = ([] : List UInt8)
  · rw [if_pos h1]
    have := (toList_nil s).1 h1
    simp [name_Kind.j0, kindS_bad (s := s) (.inl (by omega))]
  · have h1' : s.size ≠ 0 := fun h => h1 ((toList_nil s).2 h)
    rw [if_neg h1]
    simp only [name_Kind.j0]
    by_cases h2 : (s.size : Int) > 8
    · rw [if_pos (by simpa using h2), kindS_bad (s := s) (.inr (by omega))]
    · rw [if_neg (by simpa using h2), if_pos (by omega), sign_at _ _ (by omega)]
      simp only [Option.bind_some]
      rw [kind_loop s _ (by omega) s.size k 0 (by omega) (by omega) (by omega), kind_eq s (by omega) (by omega)]
end Go.Proofs.Ytlfhonekcmlomaa.P

-- ==== PF34
namespace Go.Proofs.Ytlfhonekcmlomaa.P
open Go.RowKit Go.Proofs.YtlfhonekcmlomaaW.PrintWords Go.Proofs.YtlfhonekcmlomaaW.PrintLast Go.Proofs.YtlfhonekcmlomaaW.PrintMore
attribute [local go_sem] max2_int min2_int max_two min_two max_three min_three max_four min_four   -- for this text's walks alone
set_option linter.unusedVariables false
set_option linter.unusedSimpArgs false

/-! ### aumbryref04_Behind: function 34 -/
mutual
def aumbryref04_Behind.j0 : Nat → List (S47) → Int → Bool → Option (Int)
  | 0, _, _, _ => none
  | k + 1, x0, x1, x14 => if x14 = true then (some (-1)) else (if 0 ≤ x1 then (if x1 < (x0.length : Int) then (aumbryref04_Behind.l0 k x0 (wrap64 (x1 + 1)) ((rd_T47 x0 x1).f1) 0) else (none)) else (none))
def aumbryref04_Behind.l0 : Nat → List (S47) → Int → Int → Int → Option (Int)
  | 0, _, _, _, _ => none
  | k + 1, x0, x1, x5, x6 => if x6 < x5 then (if x1 ≥ 0 then ((aumbryref04_Behind.f k x0 x1).bind fun t102 => (aumbryref04_Behind.l0 k x0 t102 x5 (wrap64 (x6 + 1)))) else (some x1)) else (some x1)
def aumbryref04_Behind.f : Nat → List (S47) → Int → Option (Int)
  | 0, _, _ => none
  | k + 1, l0, a1 => if a1 < 0 then (aumbryref04_Behind.j0 k l0 a1 true) else (aumbryref04_Behind.j0 k l0 a1 (decide (a1 ≥ (l0.length : Int))))
end
end Go.Proofs.Ytlfhonekcmlomaa.P

-- ==== PF26
namespace Go.Proofs.Ytlfhonekcmlomaa.P
open Go.RowKit Go.Proofs.YtlfhonekcmlomaaW.PrintWords Go.Proofs.YtlfhonekcmlomaaW.PrintLast Go.Proofs.YtlfhonekcmlomaaW.PrintMore
attribute [local go_sem] max2_int min2_int max_two min_two max_three min_three max_four min_four   -- for this text's walks alone
set_option linter.unusedVariables false
set_option linter.unusedSimpArgs false

/-! ### aumbryref04_Check: function 26 -/
def aumbryref04_Check.l0 : Nat → List (S47) → Int → Int → Option (Int)
  | 0, _, _, _ => none
  | k + 1, x0, x9, x10 => if x10 < x9 then (if 0 ≤ x10 then (if x10 < (x0.length : Int) then ((aumbryref03_Kind.f k ((rd_T47 x0 x10).f0)).bind fun t103 => (if t103 = 0 then (some 4) else (if ((rd_T47 x0 x10).f1) < 0 then (some 5) else (if ((rd_T47 x0 x10).f1) > 4 then (some 5) else (if t103 = 2 then (if ((rd_T47 x0 x10).f1) = 0 then (aumbryref04_Check.l0 k x0 x9 (wrap64 (x10 + 1))) else (some 5)) else (aumbryref04_Check.l0 k x0 x9 (wrap64 (x10 + 1)))))))) else (none)) else (none)) else ((aumbryref04_Behind.f k x0 0).bind fun t101 => (if t101 = (x0.length : Int) then (some 0) else (some 3)))
def aumbryref04_Check.f (k : Nat) (l0 : List (S47)) : Option (Int) := if (l0.length : Int) > 64 then (some 6) else (aumbryref04_Check.l0 k l0 (l0.length : Int) 0)
end Go.Proofs.Ytlfhonekcmlomaa.P

-- ==== PLb
/- Plain laws, part b: a list of cells as terms one behind the other; whether it is a term (both ways come to one function). -/
namespace Go.Proofs.Ytlfhonekcmlomaa.P
open Go.RowKit Go.Proofs.YtlfhonekcmlomaaW.PrintWords
set_option linter.unusedVariables false
set_option linter.unusedSimpArgs false

abbrev Cel := S47
instance celEq : DecidableEq Cel := fun a b =>
  if h : a.f0 = b.f0 ∧ a.f1 = b.f1 then isTrue (by cases a; cases b; simp only at h; rw [h.1, h.2]) else isFalse (fun e => h (by rw [e]; exact ⟨rfl, rfl⟩))
theorem drop_cons {α : Type} {t : List α} {n : Nat} {c : α} {s : List α} (h : t.drop n = c :: s) : n < t.length ∧ (∀ d, t.getD n d = c) ∧ t.drop (n + 1) = s := by
  have h1 : n < t.length := by
    rcases Nat.lt_or_ge n t.length with h1 | h1
    · exact h1
    · rw [List.drop_eq_nil_of_le h1] at h
      cases h
  rw [List.drop_eq_getElem_cons h1] at h
  injection h with h2 h3
  exact ⟨h1, fun d => by rw [List.getD_eq_getElem?_getD, List.getElem?_eq_getElem h1]; exact h2, h3⟩
theorem drop_nil_len {α : Type} {t : List α} {n : Nat} (hn : n ≤ t.length) (h : t.drop n = []) : n = t.length := by
  have := congrArg List.length h
  simp at this
  omega
theorem rd_cel {t : List Cel} {n : Nat} {c : Cel} {s : List Cel} (h : t.drop n = c :: s) : rd_T47 t (n : Int) = c := by
  unfold rd_T47
  exact (drop_cons h).2.1 _

def ar (c : Cel) : Nat := c.f1.toNat
def cellErr (c : Cel) : Int := if kindS c.f0 = 0 then 4 else if c.f1 < 0 then 5 else if c.f1 > 4 then 5 else if kindS c.f0 = 2 then (if c.f1 > 0 then 5 else 0) else 0
def errs : List Cel → Int
  | [] => 0
  | c :: l => if cellErr c = 0 then errs l else cellErr c
/-- What is left behind the first n terms. -/
def segN : List Cel → Nat → Option (List Cel)
  | l, 0 => some l
  | [], _ + 1 => none
  | c :: l, n + 1 => segN l (n + ar c)
def checkS (t : List Cel) : Int := if t.length > 64 then 6 else if errs t = 0 then (if segN t 1 = some [] then 0 else 3) else errs t

theorem segN_zero (l : List Cel) : segN l 0 = some l := by cases l <;> rfl
theorem segN_add : ∀ (l : List Cel) (a b : Nat), segN l (a + b) = (segN l a).bind fun r => segN r b
  | l, 0, b => by rw [segN_zero]; simp
  | [], a + 1, b => by rw [show a + 1 + b = (a + b) + 1 by omega]; rfl
  | c :: l, a + 1, b => by
    rw [show a + 1 + b = (a + b) + 1 by omega]
    show segN l (a + b + ar c) = (segN l (a + ar c)).bind _
    rw [show a + b + ar c = (a + ar c) + b by omega]
    exact segN_add l (a + ar c) b
theorem segN_len : ∀ {l r : List Cel} {n : Nat}, segN l n = some r → r.length ≤ l.length ∧ (0 < n → r.length < l.length)
  | l, r, 0, h => by
    rw [segN_zero] at h
    injection h with h
    subst h
    exact ⟨Nat.le_refl _, fun h => absurd h (by omega)⟩
  | [], r, n + 1, h => by cases h
  | c :: l, r, n + 1, h => by
    have := (segN_len (l := l) (r := r) (n := n + ar c) h).1
    simp only [List.length_cons]
    exact ⟨by omega, fun _ => by omega⟩
theorem segN_suffix : ∀ {l r : List Cel} {n : Nat}, segN l n = some r → ∃ m, m ≤ l.length ∧ l.drop m = r
  | l, r, 0, h => by
    rw [segN_zero] at h
    injection h with h
    exact ⟨0, by omega, h⟩
  | [], r, n + 1, h => by cases h
  | c :: l, r, n + 1, h => by
    obtain ⟨m, h1, h2⟩ := segN_suffix (l := l) (r := r) (n := n + ar c) h
    exact ⟨m + 1, by simp; omega, h2⟩

/-- What the cells of a term that is right are. -/
structure Okc (c : Cel) : Prop where
  kind : kindS c.f0 ≠ 0
  lo : 0 ≤ c.f1
  hi : c.f1 ≤ 4
  var : kindS c.f0 = 2 → c.f1 = 0
theorem okc_of {c : Cel} (h : cellErr c = 0) : Okc c := by
  unfold cellErr at h
  by_cases h1 : kindS c.f0 = 0
  · rw [if_pos h1] at h; cases h
  · rw [if_neg h1] at h
    by_cases h2 : c.f1 < 0
    · rw [if_pos h2] at h; cases h
    · rw [if_neg h2] at h
      by_cases h3 : c.f1 > 4
      · rw [if_pos h3] at h; cases h
      · rw [if_neg h3] at h
        refine ⟨h1, by omega, by omega, fun hk => ?_⟩
        rw [if_pos hk] at h
        by_cases h4 : c.f1 > 0
        · rw [if_pos h4] at h; cases h
        · omega
theorem errs_ok : ∀ {l : List Cel}, errs l = 0 → ∀ c ∈ l, Okc c
  | [], _, _, h => by cases h
  | a :: l, h, c, hc => by
    unfold errs at h
    by_cases h1 : cellErr a = 0
    · rw [if_pos h1] at h
      rcases List.mem_cons.1 hc with rfl | hc
      · exact okc_of h1
      · exact errs_ok h c hc
    · rw [if_neg h1] at h
      exact absurd h h1
/-! ### the program's: behind, Check -/
theorem ev_cell (c : Cel) : Ev (fun k => term_cell.f k c.f0 c.f1) (cellErr c) := by
  unfold term_cell.f
  refine Ev.bind (ev_kind c.f0) ?_
  refine Ev.congr (f := fun _ => some (cellErr c)) (fun k => ?_) (Ev.now _)
  unfold cellErr
  simp only [apply_ite some]
/-- The place behind n terms that begin at 'at'; -1: they have no end. -/
def behS (t : List Cel) (a n : Nat) : Int := match segN (t.drop a) n with
  | none => -1
  | some r => ((t.length - r.length : Nat) : Int)
theorem ev_behind_loop (t : List Cel) (ht : t.length ≤ 64) (hok : ∀ c ∈ t, Okc c) : ∀ (s : List Cel) (a n : Nat), a ≤ t.length → t.drop a = s → n ≤ 1 + 4 * a →
    Ev (fun k => term_behind.l0 k t (a : Int) (n : Int)) (behS t a n)
  | s, a, 0, ha, hs, hn => by
    refine Ev.step (f := fun _ => some (a : Int)) (fun k => by simp only [term_behind.l0]; rw [if_neg (by omega)]) ?_
    have : behS t a 0 = (a : Int) := by
      unfold behS
      rw [segN_zero]
      simp only [List.length_drop]
      omega
    rw [this]
    exact Ev.now _
  | [], a, n + 1, ha, hs, hn => by
    have hl := drop_nil_len ha hs
    refine Ev.step (f := fun _ => some (-1 : Int)) (fun k => by simp only [term_behind.l0]; rw [if_pos (by omega), if_pos (by omega)]) ?_
    have : behS t a (n + 1) = -1 := by
      unfold behS
      rw [hs]
      rfl
    rw [this]
    exact Ev.now _
  | c :: s, a, n + 1, ha, hs, hn => by
    obtain ⟨h1, h2, h3⟩ := drop_cons hs
    have hc : Okc c := hok c (List.mem_of_mem_drop (hs ▸ List.mem_cons_self ..))
    have har : (ar c : Int) = c.f1 := by unfold ar; have := hc.lo; omega
    have hh := hc.hi
    have hl0 := hc.lo
    refine Ev.step (f := fun k => term_behind.l0 k t ((a + 1 : Nat) : Int) ((n + ar c : Nat) : Int)) (fun k => ?_) ?_
    · simp only [term_behind.l0]
      rw [if_pos (by omega), if_neg (by omega), if_pos (by omega), if_pos (by omega), rd_cel hs, wrap_up (by omega) (by omega)]
      have e : wrap64 (((n + 1 : Nat) : Int) + wrap64 (c.f1 - 1)) = ((n + ar c : Nat) : Int) := by
        rw [wrap_id (i := c.f1 - 1) (by omega) (by omega), wrap_id (by omega) (by omega)]
        omega
      rw [e]
      rfl
    · have : behS t a (n + 1) = behS t (a + 1) (n + ar c) := by
        unfold behS
        rw [hs, h3]
        rfl
      rw [this]
      exact ev_behind_loop t ht hok s (a + 1) (n + ar c) (by omega) h3 (by omega)
theorem ev_behind (t : List Cel) (ht : t.length ≤ 64) (hok : ∀ c ∈ t, Okc c) (a : Nat) (ha : a ≤ t.length) : Ev (fun k => term_behind.f k t (a : Int)) (behS t a 1) := by
  unfold term_behind.f
  exact ev_behind_loop t ht hok _ a 1 ha rfl (by omega)
theorem behS_whole (t : List Cel) : (behS t 0 1 = (t.length : Int)) ↔ segN t 1 = some [] := by
  unfold behS
  rw [List.drop_zero]
  cases h : segN t 1 with
  | none => simp
  | some r =>
    have := segN_len h
    simp only [Option.some.injEq]
    constructor
    · intro h1
      apply List.eq_nil_of_length_eq_zero
      omega
    · rintro rfl
      simp
theorem ev_check_loop (t : List Cel) (ht : t.length ≤ 64) : ∀ (s : List Cel) (a : Nat), a ≤ t.length → t.drop a = s → (∀ c ∈ t.take a, Okc c) →
    Ev (fun k => term_Check.l0 k t t (t.length : Int) (a : Int)) (if errs s = 0 then (if segN t 1 = some [] then 0 else 3) else errs s)
  | [], a, ha, hs, hok => by
    have hl := drop_nil_len ha hs
    rw [hl, List.take_length] at hok
    refine Ev.step (f := fun k => (term_behind.f k t 0).bind fun r => (if r = (t.length : Int) then (some 0) else (some 3))) (fun k => by simp only [term_Check.l0]; rw [if_neg (by omega)]) ?_
    refine Ev.bind (ev_behind t ht hok 0 (by omega)) ?_
    refine Ev.congr (f := fun _ => some (if segN t 1 = some [] then 0 else 3)) (fun k => ?_) (Ev.now _)
    by_cases h : segN t 1 = some []
    · rw [if_pos ((behS_whole t).2 h), if_pos h]
    · rw [if_neg (fun h' => h ((behS_whole t).1 h')), if_neg h]
  | c :: s, a, ha, hs, hok => by
    obtain ⟨h1, h2, h3⟩ := drop_cons hs
    refine Ev.step (f := fun k => (term_cell.f k c.f0 c.f1).bind fun e => (if e = 0 then (term_Check.l0 k t t (t.length : Int) ((a + 1 : Nat) : Int)) else (some e))) (fun k => ?_) ?_
    · simp only [term_Check.l0]
      rw [if_pos (by omega), if_pos (by omega), if_pos (by omega), rd_cel hs, wrap_up (by omega) (by omega)]
      rfl
    · refine Ev.bind (ev_cell c) ?_
      by_cases he : cellErr c = 0
      · refine Ev.congr (f := fun k => term_Check.l0 k t t (t.length : Int) ((a + 1 : Nat) : Int)) (fun k => by rw [if_pos he]) ?_
        have : errs (c :: s) = errs s := by simp only [errs]; rw [if_pos he]
        rw [this]
        refine ev_check_loop t ht s (a + 1) (by omega) h3 (fun x hx => ?_)
        rw [List.take_succ_eq_append_getElem h1] at hx
        rcases List.mem_append.1 hx with hx | hx
        · exact hok x hx
        · have hce : t[a] = c := by have := h2 c; rw [List.getD_eq_getElem?_getD, List.getElem?_eq_getElem h1] at this; exact this
          rw [List.mem_singleton.1 hx, hce]
          exact okc_of he
      · refine Ev.congr (f := fun _ => some (cellErr c)) (fun k => by rw [if_neg he]) ?_
        have : errs (c :: s) = cellErr c := by simp only [errs]; rw [if_neg he]
        rw [this, if_neg he]
        exact Ev.now _
theorem ev_check (t : List Cel) : Ev (fun k => term_Check.f k t) (checkS t) := by
  unfold term_Check.f checkS
  by_cases h : t.length > 64
  · rw [if_pos h]
    exact Ev.congr (f := fun _ => some 6) (fun k => if_pos (by omega)) (Ev.now _)
  · rw [if_neg h]
    exact Ev.congr (f := fun k => term_Check.l0 k t t (t.length : Int) ((0 : Nat) : Int)) (fun k => if_neg (by omega)) (ev_check_loop t (by omega) t 0 (by omega) rfl (by simp))

/-! ### the document's: Behind, Check -/
end Go.Proofs.Ytlfhonekcmlomaa.P

-- ==== PF35
namespace Go.Proofs.Ytlfhonekcmlomaa.P
open Go.RowKit Go.Proofs.YtlfhonekcmlomaaW.PrintWords Go.Proofs.YtlfhonekcmlomaaW.PrintLast Go.Proofs.YtlfhonekcmlomaaW.PrintMore
attribute [local go_sem] max2_int min2_int max_two min_two max_three min_three max_four min_four   -- for this text's walks alone
set_option linter.unusedVariables false
set_option linter.unusedSimpArgs false

/-! ### aumbryref05_Var: function 35 -/
def aumbryref05_Var.f (k : Nat) (l0 : List (S47)) : Option (Bool) := if (l0.length : Int) = 1 then (if 0 < (l0.length : Int) then ((aumbryref03_Kind.f k ((rd_T47 l0 0).f0)).bind fun t102 => (some (t102 == 2))) else (none)) else (some false)
end Go.Proofs.Ytlfhonekcmlomaa.P

-- ==== PF36
namespace Go.Proofs.Ytlfhonekcmlomaa.P
open Go.RowKit Go.Proofs.YtlfhonekcmlomaaW.PrintWords Go.Proofs.YtlfhonekcmlomaaW.PrintLast Go.Proofs.YtlfhonekcmlomaaW.PrintMore
attribute [local go_sem] max2_int min2_int max_two min_two max_three min_three max_four min_four   -- for this text's walks alone
set_option linter.unusedVariables false
set_option linter.unusedSimpArgs false

/-! ### aumbryref04_Kids: function 36 -/
def aumbryref04_Kids.l0 : Nat → List (S47) → List (List (S47)) → Int → Option ((List (List (S47))))
  | 0, _, _, _ => none
  | k + 1, x0, x3, x4 => if x4 < (x0.length : Int) then ((aumbryref04_Behind.f k x0 x4).bind fun t101 => (if 0 ≤ x4 then (if x4 ≤ t101 then (if t101 ≤ (x0.length : Int) then ((aumbryref04_Copy.f ((x0.take (t101 : Int).toNat).drop (x4 : Int).toNat)).bind fun t106 => (if x3.length < 5864062014805 then ((aumbryref04_Behind.f k x0 x4).bind fun t112 => (aumbryref04_Kids.l0 k x0 (x3 ++ [t106]) t112)) else (none))) else (none)) else (none)) else (none))) else (some x3)
def aumbryref04_Kids.f (k : Nat) (l0 : List (S47)) : Option ((List (List (S47)))) := aumbryref04_Kids.l0 k l0 ([] : List (List (S47))) 1
end Go.Proofs.Ytlfhonekcmlomaa.P

-- ==== PF27
namespace Go.Proofs.Ytlfhonekcmlomaa.P
open Go.RowKit Go.Proofs.YtlfhonekcmlomaaW.PrintWords Go.Proofs.YtlfhonekcmlomaaW.PrintLast Go.Proofs.YtlfhonekcmlomaaW.PrintMore
attribute [local go_sem] max2_int min2_int max_two min_two max_three min_three max_four min_four   -- for this text's walks alone
set_option linter.unusedVariables false
set_option linter.unusedSimpArgs false

attribute [local go_sem high] eqA47
/-! ### aumbryref05_Fit: function 27 -/
mutual
def aumbryref05_Fit.l0 : Nat → List (S44) → List (List (S47)) → List (List (S47)) → Int → Int → Option ((List (S44)) × Bool)
  | 0, _, _, _, _, _ => none
  | k + 1, x2, x9, x10, x54, x55 => if x55 < x54 then (if 0 ≤ x55 then (if x55 < (x9.length : Int) then (if x55 < (x10.length : Int) then ((aumbryref05_Fit.f k (rd_L3 x9 x55) (rd_L3 x10 x55) x2).bind fun bt123 => (if bt123.2 = true then (aumbryref05_Fit.l0 k bt123.1 x9 x10 x54 (wrap64 (x55 + 1))) else (some (([] : List (S44)), false)))) else (none)) else (none)) else (none)) else (some (x2, true))
def aumbryref05_Fit.f : Nat → List (S47) → List (S47) → List (S44) → Option ((List (S44)) × Bool)
  | 0, _, _, _ => none
  | k + 1, l0, l1, l2 => (aumbryref05_Var.f k l0).bind fun t101 => (if t101 = true then (if 0 < (l0.length : Int) then ((aumbryref05_At.f k l2 ((rd_T47 l0 0).f0)).bind fun t103 => (if t103 < 0 then ((aumbryref04_Copy.f l1).bind fun t105 => (if l2.length < 3518437208883 then (some ((l2 ++ [(⟨(rd_T47 l0 0).f0, t105⟩ : S44)]), true)) else (none))) else (if 0 ≤ t103 then (if t103 < (l2.length : Int) then ((aumbryref04_Same.f k ((rd_T44 l2 t103).f1) l1).bind fun t112 => (some (l2, t112))) else (none)) else (none)))) else (none)) else (if 0 < (l0.length : Int) then (if 0 < (l1.length : Int) then (if (!((((rd_T47 l0 0).f0).toList) == (((rd_T47 l1 0).f0).toList)) || (!(((rd_T47 l0 0).f1) == ((rd_T47 l1 0).f1)))) = true then (some (([] : List (S44)), false)) else ((aumbryref04_Kids.f k l0).bind fun t115 => ((aumbryref04_Kids.f k l1).bind fun t118 => (aumbryref05_Fit.l0 k l2 t115 t118 (t115.length : Int) 0)))) else (none)) else (none)))
end
end Go.Proofs.Ytlfhonekcmlomaa.P

-- ==== PF12
namespace Go.Proofs.Ytlfhonekcmlomaa.P
open Go.RowKit Go.Proofs.YtlfhonekcmlomaaW.PrintWords Go.Proofs.YtlfhonekcmlomaaW.PrintLast Go.Proofs.YtlfhonekcmlomaaW.PrintMore
attribute [local go_sem] max2_int min2_int max_two min_two max_three min_three max_four min_four   -- for this text's walks alone
set_option linter.unusedVariables false
set_option linter.unusedSimpArgs false

/-! ### aumbryref05_Match: function 12 -/
def aumbryref05_Match.f (k : Nat) (l0 : List (S47)) (l1 : List (S47)) : Option ((List (S44)) × Bool × Int) := (aumbryref04_Check.f k l0).bind fun t101 => (if t101 = 0 then ((aumbryref04_Check.f k l1).bind fun t102 => (if t102 = 0 then ((aumbryref05_Fit.f k l0 l1 ([] : List (S44))).bind fun bt103 => (if bt103.2 = true then (some (bt103.1, true, 0)) else (some (([] : List (S44)), false, 0)))) else (some (([] : List (S44)), false, t102)))) else (some (([] : List (S44)), false, t101)))
end Go.Proofs.Ytlfhonekcmlomaa.P

-- ==== PF13
namespace Go.Proofs.Ytlfhonekcmlomaa.P
open Go.RowKit Go.Proofs.YtlfhonekcmlomaaW.PrintWords Go.Proofs.YtlfhonekcmlomaaW.PrintLast Go.Proofs.YtlfhonekcmlomaaW.PrintMore
attribute [local go_sem] max2_int min2_int max_two min_two max_three min_three max_four min_four   -- for this text's walks alone
set_option linter.unusedVariables false
set_option linter.unusedSimpArgs false

/-! ### aumbryref05_Same: function 13 -/
def aumbryref05_Same.l0 : Nat → List (S44) → List (S44) → Int → Int → Option (Bool)
  | 0, _, _, _, _ => none
  | k + 1, x0, x1, x12, x13 => if x13 < x12 then (if 0 ≤ x13 then (if x13 < (x0.length : Int) then (if x13 < (x1.length : Int) then (if ((rd_T44 x0 x13).f0).toList = ((rd_T44 x1 x13).f0).toList then ((aumbryref04_Same.f k ((rd_T44 x0 x13).f1) ((rd_T44 x1 x13).f1)).bind fun t105 => (if t105 = true then (aumbryref05_Same.l0 k x0 x1 x12 (wrap64 (x13 + 1))) else (some false))) else (some false)) else (none)) else (none)) else (none)) else (some true)
def aumbryref05_Same.f (k : Nat) (l0 : List (S44)) (l1 : List (S44)) : Option (Bool) := if (l0.length : Int) = (l1.length : Int) then (aumbryref05_Same.l0 k l0 l1 (l0.length : Int) 0) else (some false)
end Go.Proofs.Ytlfhonekcmlomaa.P

-- ==== PLc
/- Plain laws, part c: where a pattern fits: along the cells, and part by part. -/
namespace Go.Proofs.Ytlfhonekcmlomaa.P
open Go.RowKit Go.Proofs.YtlfhonekcmlomaaW.PrintWords
set_option linter.unusedVariables false
set_option linter.unusedSimpArgs false

abbrev Bnd := S44
def lookB (out : List Bnd) (s : ByteArray) : Option (List Cel) := (out.find? (fun b => decide (b.f0 = s))).map (·.f1)
/-- The first term of a list. -/
def fstT (t r : List Cel) : List Cel := t.take (t.length - r.length)
def mat : List Cel → List Cel → List Bnd → Option (List Bnd × List Cel)
  | [], t, out => some (out, t)
  | c :: p, t, out =>
    if kindS c.f0 = 2 then
      match segN t 1 with
      | none => none
      | some r => match lookB out c.f0 with
        | none => mat p r (out ++ [⟨c.f0, fstT t r⟩])
        | some v => if v = fstT t r then mat p r out else none
    else match t with
      | [] => none
      | d :: t' => if d = c then mat p t' out else none

/-! ### segments -/
theorem segN_append : ∀ {l r : List Cel} {n : Nat} (q : List Cel), segN l n = some r → segN (l ++ q) n = some (r ++ q)
  | l, r, 0, q, h => by
    rw [segN_zero] at h ⊢
    injection h with h
    rw [h]
  | [], r, n + 1, q, h => by cases h
  | c :: l, r, n + 1, q, h => segN_append (l := l) (r := r) (n := n + ar c) q h
theorem segN_split {t : List Cel} {n : Nat} (h : segN t (n + 1) = some []) : ∃ r, segN t 1 = some r ∧ segN r n = some [] := by
  rw [show n + 1 = 1 + n by omega, segN_add] at h
  cases hr : segN t 1 with
  | none => rw [hr] at h; cases h
  | some r => rw [hr] at h; exact ⟨r, rfl, h⟩
theorem segN_nil_pos {n : Nat} (h : segN [] n = some []) : n = 0 := by
  cases n with
  | zero => rfl
  | succ n => cases h
theorem segN_fst {t r : List Cel} {n : Nat} (h : segN t n = some r) : t = fstT t r ++ r ∧ segN (fstT t r) n = some [] := by
  obtain ⟨m, hm, hd⟩ := segN_suffix h
  have hl : r.length = t.length - m := by rw [← hd, List.length_drop]
  have he : fstT t r = t.take m := by unfold fstT; rw [show t.length - r.length = m by omega]
  rw [he]
  refine ⟨by rw [← hd]; exact (List.take_append_drop m t).symm, ?_⟩
  have : ∀ (l : List Cel) (n m : Nat), m ≤ l.length → segN l n = some (l.drop m) → segN (l.take m) n = some [] := by
    intro l
    induction l with
    | nil =>
      intro n m hm h
      have hm0 : m = 0 := by simpa using hm
      subst hm0
      simpa using h
    | cons c l ih =>
      intro n m hm h
      cases n with
      | zero =>
        rw [segN_zero] at h ⊢
        injection h with h
        have := congrArg List.length h
        simp only [List.length_cons, List.length_drop] at this
        have hm0 : m = 0 := by simp at hm; omega
        rw [hm0]
        rfl
      | succ n =>
        cases m with
        | zero =>
          have := segN_len h
          simp at this
        | succ m =>
          simp only [List.drop_succ_cons] at h
          exact ih (n + ar c) m (by simpa using hm) h
  rw [← hd] at h
  exact this t n m hm h

/-! ### the program's Match -/
theorem ev_variable (c : Cel) : Ev (fun k => match_variable.f k c.f0 c.f1) (kindS c.f0 == 2) := by
  unfold match_variable.f
  exact Ev.bind (ev_kind c.f0) (Ev.now _)
theorem ev_end_loop (t : List Cel) (ht : t.length ≤ 64) (hok : ∀ c ∈ t, Okc c) : ∀ (s : List Cel) (a n : Nat) (r : List Cel), a ≤ t.length → t.drop a = s → n ≤ 1 + 4 * a → segN s n = some r →
    Ev (fun k => match_end.l0 k t (a : Int) (n : Int)) ((t.length - r.length : Nat) : Int)
  | s, a, 0, r, ha, hs, hn, hr => by
    refine Ev.step (f := fun _ => some (a : Int)) (fun k => by simp only [match_end.l0]; rw [if_neg (by omega)]) ?_
    rw [segN_zero] at hr
    injection hr with hr
    have : ((t.length - r.length : Nat) : Int) = (a : Int) := by rw [← hr, ← hs, List.length_drop]; omega
    rw [this]
    exact Ev.now _
  | [], a, n + 1, r, ha, hs, hn, hr => by cases hr
  | c :: s, a, n + 1, r, ha, hs, hn, hr => by
    obtain ⟨h1, h2, h3⟩ := drop_cons hs
    have hc : Okc c := hok c (List.mem_of_mem_drop (hs ▸ List.mem_cons_self ..))
    have har : (ar c : Int) = c.f1 := by unfold ar; have := hc.lo; omega
    have hh := hc.hi
    have hl0 := hc.lo
    refine Ev.step (f := fun k => match_end.l0 k t ((a + 1 : Nat) : Int) ((n + ar c : Nat) : Int)) (fun k => ?_) (ev_end_loop t ht hok s (a + 1) (n + ar c) r (by omega) h3 (by omega) hr)
    simp only [match_end.l0]
    rw [if_pos (by omega), if_pos (by omega), if_pos (by omega), rd_cel hs, wrap_up (by omega) (by omega)]
    have e : wrap64 (((n + 1 : Nat) : Int) + wrap64 (c.f1 - 1)) = ((n + ar c : Nat) : Int) := by
      rw [wrap_id (i := c.f1 - 1) (by omega) (by omega), wrap_id (by omega) (by omega)]
      omega
    rw [e]
    rfl
theorem ev_end (t : List Cel) (ht : t.length ≤ 64) (hok : ∀ c ∈ t, Okc c) (a : Nat) (ha : a ≤ t.length) {r : List Cel} (hr : segN (t.drop a) 1 = some r) : Ev (fun k => match_end.f k t (a : Int)) ((t.length - r.length : Nat) : Int) := by
  unfold match_end.f
  exact ev_end_loop t ht hok _ a 1 r ha rfl (by omega) hr
theorem bytes_eq (a b : ByteArray) : a.toList = b.toList ↔ a = b := by
  rw [ByteArray.toList_eq, ByteArray.toList_eq]
  constructor
  · intro h
    cases a; cases b
    simp only [ByteArray.mk.injEq]
    exact Array.toList_inj.1 h
  · intro h
    rw [h]
theorem cel_ne (c d : Cel) : ((!((c.f0.toList) == (d.f0.toList)) || (!(c.f1 == d.f1))) = true) ↔ c ≠ d := by
  cases c with | mk a b => cases d with | mk a' b' =>
  simp only [Bool.or_eq_true, Bool.not_eq_true', beq_eq_false_iff_ne, ne_eq, bytes_eq, S47.mk.injEq]
  by_cases h : a = a' <;> simp [h]
theorem ev_cels_loop (F : Nat → List Cel → List Cel → Int → Int → Option Bool)
    (hF : ∀ k x y n i, F (k + 1) x y n i = if i < n then (if 0 ≤ i then (if i < (x.length : Int) then (if i < (y.length : Int) then (if (!((((rd_T47 x i).f0).toList) == (((rd_T47 y i).f0).toList)) || (!(((rd_T47 x i).f1) == ((rd_T47 y i).f1)))) = true then (some false) else (F k x y n (wrap64 (i + 1)))) else (none)) else (none)) else (none)) else (some true))
    (x y : List Cel) (hl : x.length = y.length) (hb : x.length ≤ 9223372036854775806) : ∀ (s u : List Cel) (a : Nat), a ≤ x.length → x.drop a = s → y.drop a = u → Ev (fun k => F k x y (x.length : Int) (a : Int)) (decide (s = u))
  | [], u, a, ha, hs, hu => by
    have h1 := drop_nil_len ha hs
    have h2 : u = [] := by rw [← hu]; exact List.drop_eq_nil_of_le (by omega)
    refine Ev.step (f := fun _ => some true) (fun k => by rw [hF, if_neg (by omega)]) ?_
    rw [h2]
    exact Ev.now _
  | c :: s, u, a, ha, hs, hu => by
    obtain ⟨h1, _, h3⟩ := drop_cons hs
    rcases u with _ | ⟨d, u⟩
    · have := drop_nil_len (by omega) hu
      omega
    obtain ⟨_, _, h4⟩ := drop_cons hu
    by_cases hcd : c = d
    · refine Ev.step (f := fun k => F k x y (x.length : Int) ((a + 1 : Nat) : Int)) (fun k => by
        rw [hF, if_pos (by omega), if_pos (by omega), if_pos (by omega), if_pos (by omega), rd_cel hs, rd_cel hu, if_neg (fun h => (cel_ne c d).1 h hcd), wrap_up (by omega) (by omega)]
        rfl) ?_
      have : decide (c :: s = d :: u) = decide (s = u) := by subst hcd; simp
      rw [this]
      exact ev_cels_loop F hF x y hl hb s u (a + 1) (by omega) h3 h4
    · refine Ev.step (f := fun _ => some false) (fun k => by
        rw [hF, if_pos (by omega), if_pos (by omega), if_pos (by omega), if_pos (by omega), rd_cel hs, rd_cel hu, if_pos ((cel_ne c d).2 hcd)]) ?_
      have : decide (c :: s = d :: u) = false := by simp [hcd]
      rw [this]
      exact Ev.now _
theorem ev_equal (x y : List Cel) (hb : x.length ≤ 9223372036854775806 ∨ y.length ≤ 9223372036854775806) : Ev (fun k => api_Cell_24.f k x y) (decide (x = y)) := by
  unfold api_Cell_24.f
  by_cases h : (x.length : Int) = (y.length : Int)
  · exact Ev.congr (f := fun k => api_Cell_24.l0 k x y (x.length : Int) ((0 : Nat) : Int)) (fun k => by rw [if_pos h]; rfl) (ev_cels_loop _ (fun k x y n i => rfl) x y (by omega) (by omega) x y 0 (by omega) rfl rfl)
  · refine Ev.congr (f := fun _ => some (decide (x = y))) (fun k => ?_) (Ev.now _)
    rw [if_neg h]
    congr 1
    rw [Eq.comm, decide_eq_false_iff_not]
    rintro rfl
    exact h rfl
theorem ev_refSame4 (x y : List Cel) (hb : x.length ≤ 9223372036854775806 ∨ y.length ≤ 9223372036854775806) : Ev (fun k => aumbryref04_Same.f k x y) (decide (x = y)) := by
  unfold aumbryref04_Same.f
  by_cases h : (x.length : Int) = (y.length : Int)
  · exact Ev.congr (f := fun k => aumbryref04_Same.l0 k x y (x.length : Int) ((0 : Nat) : Int)) (fun k => by rw [if_pos h]; rfl) (ev_cels_loop _ (fun k x y n i => rfl) x y (by omega) (by omega) x y 0 (by omega) rfl rfl)
  · refine Ev.congr (f := fun _ => some (decide (x = y))) (fun k => ?_) (Ev.now _)
    rw [if_neg h]
    congr 1
    rw [Eq.comm, decide_eq_false_iff_not]
    rintro rfl
    exact h rfl
theorem clone_at (x : List Cel) (h : x.length < 5864062014805) : api_Cell_23.f x = some x := by
  unfold api_Cell_23.f
  rw [if_pos (by simpa using h)]
  rfl
theorem copy_at (x : List Cel) (h : x.length < 5864062014805) : aumbryref04_Copy.f x = some x := by
  unfold aumbryref04_Copy.f
  rw [if_pos (by simpa using h)]
  rfl

/-- The map of places is that of the binds. -/
structure MapOk (m : List Cel) (out : List Bnd) : Prop where
  len : m.length = out.length
  has : ∀ s, mapHas m s = (lookB out s).isSome
  at_ : ∀ s v, lookB out s = some v → ∃ j : Nat, mapAt m s = (j : Int) ∧ j < out.length ∧ ∃ b, out[j]? = some b ∧ b.f1 = v
theorem data_eq (a b : ByteArray) : a.data.toList = b.data.toList ↔ a = b := by
  rw [← bytes_eq, ByteArray.toList_eq, ByteArray.toList_eq]
theorem mapOk_nil : MapOk [] [] := ⟨rfl, fun s => rfl, fun s v h => by cases h⟩
theorem mapOk_put {m : List Cel} {out : List Bnd} (h : MapOk m out) (s : ByteArray) (v : List Cel) (hn : lookB out s = none) : MapOk (mapPut m s (out.length : Int)) (out ++ [⟨s, v⟩]) := by
  have hlook : ∀ s', lookB (out ++ [⟨s, v⟩]) s' = if s = s' then some v else lookB out s' := by
    intro s'
    unfold lookB at hn ⊢
    rw [List.find?_append]
    by_cases hs : s = s'
    · subst hs
      rw [if_pos rfl]
      cases hf : out.find? (fun b => decide (b.f0 = s)) with
      | none => simp
      | some b => rw [hf] at hn; cases hn
    · rw [if_neg hs]
      cases hf : out.find? (fun b => decide (b.f0 = s')) with
      | none => simp [hs]
      | some b => simp
  refine ⟨by simp [mapPut, h.len], fun s' => ?_, fun s' v' hv => ?_⟩
  · rw [hlook]
    by_cases hs : s = s'
    · subst hs
      simp [mapHas, mapPut]
    · rw [if_neg hs, ← h.has s']
      have : (s.data.toList == s'.data.toList) = false := by simp only [beq_eq_false_iff_ne, ne_eq, data_eq]; exact hs
      simp only [mapHas, mapPut, List.any_cons, this, Bool.false_or]
  · rw [hlook] at hv
    by_cases hs : s = s'
    · subst hs
      rw [if_pos rfl] at hv
      injection hv with hv
      subst hv
      exact ⟨out.length, by simp [mapAt, mapPut], by simp, ⟨s, v⟩, by simp, rfl⟩
    · rw [if_neg hs] at hv
      obtain ⟨j, h1, h2, b, h3, h4⟩ := h.at_ s' v' hv
      have : (s.data.toList == s'.data.toList) = false := by simp only [beq_eq_false_iff_ne, ne_eq, data_eq]; exact hs
      refine ⟨j, ?_, by simp; omega, b, by rw [List.getElem?_append_left h2]; exact h3, h4⟩
      rw [← h1]
      simp only [mapAt, mapPut, List.find?_cons, this]
def matR (x : Option (List Bnd × List Cel)) : List Bnd × Bool × Int := match x with
  | none => ([], false, 0)
  | some y => (y.1, true, 0)
theorem ev_match_loop (p t : List Cel) (hp : p.length ≤ 64) (ht : t.length ≤ 64) (hokp : ∀ c ∈ p, Okc c) (hokt : ∀ c ∈ t, Okc c) :
    ∀ (s : List Cel) (i a n : Nat) (out : List Bnd) (m : List Cel), i ≤ p.length → a ≤ t.length → p.drop i = s → segN s n = some [] → segN (t.drop a) n = some [] → MapOk m out → out.length ≤ i →
    Ev (fun k => match_Match.l0 k t out m (a : Int) p (p.length : Int) (i : Int)) (matR (mat s (t.drop a) out))
  | [], i, a, n, out, m, hi, ha, hs, hn, hnt, hm, ho => by
    have h1 := drop_nil_len hi hs
    refine Ev.step (f := fun _ => some (out, true, 0)) (fun k => by simp only [match_Match.l0]; rw [if_neg (by omega)]) ?_
    exact Ev.now _
  | c :: s, i, a, n, out, m, hi, ha, hs, hn, hnt, hm, ho => by
    obtain ⟨h1, _, h3⟩ := drop_cons hs
    have hc : Okc c := hokp c (List.mem_of_mem_drop (hs ▸ List.mem_cons_self ..))
    obtain ⟨n, rfl⟩ : ∃ q, n = q + 1 := by
      cases n with
      | zero => rw [segN_zero] at hn; injection hn with hn; cases hn
      | succ n => exact ⟨n, rfl⟩
    have hn' : segN s (n + ar c) = some [] := hn
    obtain ⟨r, hr1, hrn⟩ := segN_split hnt
    have hks := kindS_size hc.kind
    by_cases hv : kindS c.f0 = 2
    · have hac : ar c = 0 := by unfold ar; rw [hc.var hv]; rfl
      rw [hac, Nat.add_zero] at hn'
      obtain ⟨q, hq, hqr⟩ := segN_suffix hr1
      rw [List.drop_drop] at hqr
      rw [List.length_drop] at hq
      have hrl : r.length = t.length - (a + q) := by rw [← hqr, List.length_drop]
      have hpart : ((t.take (((t.length - r.length : Nat) : Int)).toNat).drop ((a : Int)).toNat : List Cel) = fstT (t.drop a) r := by
        unfold fstT
        rw [List.length_drop]
        simp only [Int.toNat_natCast]
        rw [List.drop_take]
        congr 1
        omega
      have hfl : (fstT (t.drop a) r).length = q := by unfold fstT; rw [List.length_take, List.length_drop]; omega
      have hw1 : True → wrap64 ((a : Int) + ((fstT (t.drop a) r).length : Int)) = ((a + q : Nat) : Int) := fun _ => by rw [hfl, wrap_id (by omega) (by omega)]; omega
      have hw2 : True → wrap64 ((i : Int) + 1) = ((i + 1 : Nat) : Int) := fun _ => by rw [wrap_up (by omega) (by omega)]; rfl
      refine Ev.step (fun k => (show match_Match.l0 (k + 1) t out m (a : Int) p (p.length : Int) (i : Int) = _ from by rw [match_Match.l0])) ?_
      refine evIfp (by omega) (evIfp (by omega) (evIfp (by omega) ?_))
      simp only [rd_cel hs]
      refine Ev.bind (ev_variable c) ?_
      refine evIfp (by simp [hv]) ?_
      refine Ev.bind (ev_end t ht hokt a ha hr1) ?_
      refine evIfp (by omega) (evIfp (by omega) (evIfp (by omega) ?_))
      refine Ev.bind (Ev.now _) ?_
      simp only [hpart, hw1 trivial, hw2 trivial]
      refine evIfp (by omega) ?_
      have hmat : mat (c :: s) (t.drop a) out = (match lookB out c.f0 with | none => mat s r (out ++ [⟨c.f0, fstT (t.drop a) r⟩]) | some v => if v = fstT (t.drop a) r then mat s r out else none) := by
        show (if kindS c.f0 = 2 then _ else _) = _
        rw [if_pos hv, hr1]
      rw [hmat]
      cases hl : lookB out c.f0 with
      | none =>
        refine evIfn (by rw [hm.has, hl]; simp) ?_
        have hml := hm.len
        refine evIfp (by omega) ?_
        refine Ev.bind (evIs (clone_at _ (by omega))) ?_
        refine evIfp (by omega) ?_
        have := ev_match_loop p t hp ht hokp hokt s (i + 1) (a + q) n (out ++ [⟨c.f0, fstT (t.drop a) r⟩]) (mapPut m c.f0 (out.length : Int)) (by omega) (by omega) h3 hn' (by rw [hqr]; exact hrn) (mapOk_put hm _ _ hl) (by simp; omega)
        rw [hqr] at this
        exact this
      | some v =>
        obtain ⟨j, hj1, hj2, b, hj3, hj4⟩ := hm.at_ _ _ hl
        have hrd : (rd_T44 out (mapAt m c.f0)).f1 = v := by
          rw [hj1]
          unfold rd_T44
          rw [List.getD_eq_getElem?_getD, Int.toNat_natCast, hj3]
          exact hj4
        refine evIfp (by rw [hm.has, hl]; simp) ?_
        refine evIfp (by omega) (evIfp (by omega) ?_)
        simp only [hrd]
        refine Ev.bind (ev_equal _ _ (.inr (by omega))) ?_
        by_cases he : v = fstT (t.drop a) r
        · refine evIfp (by simpa using he) ?_
          have := ev_match_loop p t hp ht hokp hokt s (i + 1) (a + q) n out m (by omega) (by omega) h3 hn' (by rw [hqr]; exact hrn) hm (by omega)
          rw [hqr] at this
          simp only [he, if_true]
          exact this
        · refine evIfn (by simpa using he) ?_
          simp only [he, if_false]
          exact Ev.now _
    · rcases ht' : t.drop a with _ | ⟨d, u⟩
      · rw [ht'] at hnt
        cases hnt
      obtain ⟨g1, _, g3⟩ := drop_cons ht'
      have hw1 : True → wrap64 ((a : Int) + 1) = ((a + 1 : Nat) : Int) := fun _ => by rw [wrap_up (by omega) (by omega)]; rfl
      have hw2 : True → wrap64 ((i : Int) + 1) = ((i + 1 : Nat) : Int) := fun _ => by rw [wrap_up (by omega) (by omega)]; rfl
      refine Ev.step (fun k => (show match_Match.l0 (k + 1) t out m (a : Int) p (p.length : Int) (i : Int) = _ from by rw [match_Match.l0])) ?_
      refine evIfp (by omega) (evIfp (by omega) (evIfp (by omega) ?_))
      simp only [rd_cel hs, rd_cel ht']
      refine Ev.bind (ev_variable c) ?_
      refine evIfn (by simp [hv]) ?_
      refine evIfp (by omega) (evIfp (by omega) ?_)
      have hmat : mat (c :: s) (d :: u) out = if d = c then mat s u out else none := by
        show (if kindS c.f0 = 2 then _ else _) = _
        rw [if_neg hv]
      rw [hmat]
      by_cases hdc : d = c
      · refine evIfn (fun h => (cel_ne d c).1 h hdc) ?_
        rw [if_pos hdc]
        simp only [hw1 trivial, hw2 trivial]
        have := ev_match_loop p t hp ht hokp hokt s (i + 1) (a + 1) (n + ar c) out m (by omega) (by omega) h3 hn' (by rw [ht'] at hnt; rw [g3, ← hdc]; exact hnt) hm (by omega)
        rw [g3] at this
        exact this
      · refine evIfp ((cel_ne d c).2 hdc) ?_
        rw [if_neg hdc]
        exact Ev.now _
theorem checkS_ok {t : List Cel} (h : checkS t = 0) : t.length ≤ 64 ∧ (∀ c ∈ t, Okc c) ∧ segN t 1 = some [] := by
  unfold checkS at h
  by_cases h1 : t.length > 64
  · rw [if_pos h1] at h
    cases h
  · rw [if_neg h1] at h
    by_cases h2 : errs t = 0
    · rw [if_pos h2] at h
      by_cases h3 : segN t 1 = some []
      · exact ⟨by omega, errs_ok h2, h3⟩
      · rw [if_neg h3] at h
        cases h
    · rw [if_neg h2] at h
      exact absurd h h2
def matchS (p t : List Cel) : List Bnd × Bool × Int := if checkS p = 0 then (if checkS t = 0 then matR (mat p t []) else ([], false, checkS t)) else ([], false, checkS p)
theorem ev_match (p t : List Cel) : Ev (fun k => match_Match.f k p t) (matchS p t) := by
  unfold match_Match.f matchS
  refine Ev.bind (ev_check p) ?_
  by_cases hp : checkS p = 0
  · rw [if_pos hp]
    refine evIfp hp ?_
    refine Ev.bind (ev_check t) ?_
    by_cases ht : checkS t = 0
    · rw [if_pos ht]
      refine evIfp ht ?_
      obtain ⟨p1, p2, p3⟩ := checkS_ok hp
      obtain ⟨t1, t2, t3⟩ := checkS_ok ht
      exact ev_match_loop p t p1 t1 p2 t2 p 0 0 1 [] [] (by omega) (by omega) rfl p3 t3 mapOk_nil (by simp)
    · rw [if_neg ht]
      exact evIfn ht (Ev.now _)
  · rw [if_neg hp]
    exact evIfn hp (Ev.now _)

/-! ### the document's Match -/
end Go.Proofs.Ytlfhonekcmlomaa.P

-- ==== PLd
/- Plain laws, part d: the document's Match is the program's. -/
namespace Go.Proofs.Ytlfhonekcmlomaa.P
open Go.RowKit Go.Proofs.YtlfhonekcmlomaaW.PrintWords
set_option linter.unusedVariables false
set_option linter.unusedSimpArgs false

theorem rd_bnd {t : List Bnd} {n : Nat} {c : Bnd} {s : List Bnd} (h : t.drop n = c :: s) : rd_T44 t (n : Int) = c := by
  unfold rd_T44
  exact (drop_cons h).2.1 _
theorem up_cast (a : Nat) (h : a < 9223372036854775807) : wrap64 ((a : Int) + 1) = ((a + 1 : Nat) : Int) := by rw [wrap_up (by omega) (by omega)]; rfl

def atS (l : List Bnd) (s : ByteArray) : Int := match l.findIdx? (fun b => decide (b.f0 = s)) with
  | none => -1
  | some j => (j : Int)
theorem ev_at_loop (l : List Bnd) (s : ByteArray) (hl : l.length ≤ 9223372036854775806) : ∀ (u : List Bnd) (a : Nat), a ≤ l.length → l.drop a = u →
    Ev (fun k => aumbryref05_At.l0 k l s (l.length : Int) (a : Int)) (match u.findIdx? (fun b => decide (b.f0 = s)) with | none => -1 | some j => ((a + j : Nat) : Int))
  | [], a, ha, hu => by
    have h1 := drop_nil_len ha hu
    refine Ev.step (fun k => (show aumbryref05_At.l0 (k + 1) l s (l.length : Int) (a : Int) = _ from by rw [aumbryref05_At.l0])) ?_
    exact evIfn (by omega) (Ev.now _)
  | b :: u, a, ha, hu => by
    obtain ⟨h1, _, h3⟩ := drop_cons hu
    refine Ev.step (fun k => (show aumbryref05_At.l0 (k + 1) l s (l.length : Int) (a : Int) = _ from by rw [aumbryref05_At.l0])) ?_
    refine evIfp (by omega) (evIfp (by omega) (evIfp (by omega) ?_))
    simp only [rd_bnd hu, up_cast a (by omega)]
    by_cases hb : b.f0 = s
    · refine evIfp ((bytes_eq _ _).2 hb) ?_
      simp only [List.findIdx?_cons, hb, decide_true, if_true]
      exact Ev.now _
    · refine evIfn (fun h => hb ((bytes_eq _ _).1 h)) ?_
      have := ev_at_loop l s hl u (a + 1) (by omega) h3
      have e : (match (b :: u).findIdx? (fun b => decide (b.f0 = s)) with | none => (-1 : Int) | some j => ((a + j : Nat) : Int)) = (match u.findIdx? (fun b => decide (b.f0 = s)) with | none => -1 | some j => ((a + 1 + j : Nat) : Int)) := by
        simp only [List.findIdx?_cons, hb, decide_false]
        cases u.findIdx? (fun b => decide (b.f0 = s)) with
        | none => rfl
        | some j => show ((a + (j + 1) : Nat) : Int) = ((a + 1 + j : Nat) : Int); omega
      rw [e]
      exact this
theorem ev_at (l : List Bnd) (s : ByteArray) (hl : l.length ≤ 9223372036854775806) : Ev (fun k => aumbryref05_At.f k l s) (atS l s) := by
  unfold aumbryref05_At.f atS
  have := ev_at_loop l s hl l 0 (by omega) rfl
  simp only [Nat.zero_add] at this
  exact this
theorem atS_look (l : List Bnd) (s : ByteArray) : (lookB l s = none ∧ atS l s = -1) ∨ ∃ (j : Nat) (b : Bnd), l[j]? = some b ∧ b.f0 = s ∧ lookB l s = some b.f1 ∧ atS l s = (j : Int) ∧ j < l.length ∧ ∀ i : Nat, i < j → ∀ c, l[i]? = some c → c.f0 ≠ s := by
  unfold lookB atS
  induction l with
  | nil => exact .inl ⟨rfl, rfl⟩
  | cons b l ih =>
    by_cases hb : b.f0 = s
    · refine .inr ⟨0, b, rfl, hb, ?_, ?_, by simp, fun i hi => by omega⟩
      · simp [hb]
      · simp [List.findIdx?_cons, hb]
    · rcases ih with ⟨h1, h2⟩ | ⟨j, c, h1, h2, h3, h4, h5, h6⟩
      · refine .inl ⟨?_, ?_⟩
        · rw [List.find?_cons_of_neg (by simp [hb])]
          exact h1
        · simp only [List.findIdx?_cons, hb, decide_false]
          cases hf : l.findIdx? (fun b => decide (b.f0 = s)) with
          | none => rfl
          | some j => rw [hf] at h2; simp only at h2; omega
      · refine .inr ⟨j + 1, c, by simpa using h1, h2, ?_, ?_, by simp; omega, fun i hi x hx => ?_⟩
        · rw [List.find?_cons_of_neg (by simp [hb])]
          exact h3
        · simp only [List.findIdx?_cons, hb, decide_false]
          cases hf : l.findIdx? (fun b => decide (b.f0 = s)) with
          | none => rw [hf] at h4; simp only at h4; omega
          | some q => rw [hf] at h4; simp only at h4; simp; omega
        · cases i with
          | zero => simp at hx; subst hx; exact hb
          | succ i => exact h6 i (by omega) x (by simpa using hx)
theorem mat_len : ∀ (p t : List Cel) (out o : List Bnd) (r : List Cel), mat p t out = some (o, r) → o.length ≤ out.length + p.length
  | [], t, out, o, r, h => by
    have h' : some (out, t) = some (o, r) := h
    injection h' with h'
    injection h' with h' _
    rw [← h']
    simp
  | c :: p, t, out, o, r, h => by
    have h : (if kindS c.f0 = 2 then _ else _) = some (o, r) := h
    by_cases hv : kindS c.f0 = 2
    · rw [if_pos hv] at h
      cases hq : segN t 1 with
      | none => rw [hq] at h; cases h
      | some q =>
        rw [hq] at h
        simp only at h
        cases hl : lookB out c.f0 with
        | none =>
          rw [hl] at h
          have := mat_len p q _ o r h
          simp at this
          simp
          omega
        | some v =>
          rw [hl] at h
          simp only at h
          by_cases he : v = fstT t q
          · rw [if_pos he] at h
            have := mat_len p q _ o r h
            simp
            omega
          · rw [if_neg he] at h
            cases h
    · rw [if_neg hv] at h
      rcases t with _ | ⟨d, t⟩
      · cases h
      · have h9 : (if d = c then mat p t out else none) = some (o, r) := h
        by_cases he : d = c
        · rw [if_pos he] at h9
          have := mat_len p t _ o r h9
          simp
          omega
        · rw [if_neg he] at h9
          cases h9
/-! ### binds alike -/
theorem mat_vals : ∀ (p t : List Cel) (out o : List Bnd) (r : List Cel) (N : Nat), t.length ≤ N → (∀ b ∈ out, b.f1.length ≤ N) → mat p t out = some (o, r) → ∀ b ∈ o, b.f1.length ≤ N
  | [], t, out, o, r, N, ht, ho, h => by
    have h' : some (out, t) = some (o, r) := h
    injection h' with h'
    injection h' with h' _
    rw [← h']
    exact ho
  | c :: p, t, out, o, r, N, ht, ho, h => by
    have h : (if kindS c.f0 = 2 then _ else _) = some (o, r) := h
    by_cases hv : kindS c.f0 = 2
    · rw [if_pos hv] at h
      cases hq : segN t 1 with
      | none => rw [hq] at h; cases h
      | some q =>
        rw [hq] at h
        have hql := segN_len hq
        simp only at h
        cases hl : lookB out c.f0 with
        | none =>
          rw [hl] at h
          refine mat_vals p q _ o r N (by omega) (fun b hb => ?_) h
          rcases List.mem_append.1 hb with hb | hb
          · exact ho b hb
          · rw [List.mem_singleton.1 hb]
            unfold fstT
            simp only [List.length_take]
            omega
        | some v =>
          rw [hl] at h
          simp only at h
          by_cases he : v = fstT t q
          · rw [if_pos he] at h
            exact mat_vals p q _ o r N (by omega) ho h
          · rw [if_neg he] at h
            cases h
    · rw [if_neg hv] at h
      rcases t with _ | ⟨d, t⟩
      · cases h
      · have h9 : (if d = c then mat p t out else none) = some (o, r) := h
        by_cases he : d = c
        · rw [if_pos he] at h9
          simp only [List.length_cons] at ht
          exact mat_vals p t _ o r N (by omega) ho h9
        · rw [if_neg he] at h9
          cases h9
theorem matchS_small (p t : List Cel) : (matchS p t).1.length ≤ 64 ∧ ∀ b ∈ (matchS p t).1, b.f1.length ≤ 64 := by
  unfold matchS
  by_cases hp : checkS p = 0
  · rw [if_pos hp]
    by_cases ht : checkS t = 0
    · rw [if_pos ht]
      obtain ⟨p1, p2, p3⟩ := checkS_ok hp
      obtain ⟨t1, t2, t3⟩ := checkS_ok ht
      cases hm : mat p t [] with
      | none => exact ⟨by simp [matR], fun b hb => by cases hb⟩
      | some y =>
        obtain ⟨o, r⟩ := y
        have h1 := mat_len p t [] o r hm
        exact ⟨by simp only [matR]; simp at h1; omega, fun b hb => mat_vals p t [] o r 64 t1 (fun b hb => by cases hb) hm b hb⟩
    · rw [if_neg ht]
      exact ⟨by simp, fun b hb => by cases hb⟩
  · rw [if_neg hp]
    exact ⟨by simp, fun b hb => by cases hb⟩
end Go.Proofs.Ytlfhonekcmlomaa.P

-- ==== PLe
/- Plain laws, part e: what the statements ask ahead (wakes), and copies. -/
namespace Go.Proofs.Ytlfhonekcmlomaa.P
open Go.RowKit Go.Proofs.YtlfhonekcmlomaaW.PrintWords
set_option linter.unusedVariables false
set_option linter.unusedSimpArgs false

set_option maxRecDepth 100000 in
theorem ev_wakes : Ev (fun k => aumbrylaw05_wakes.f k) true := Ev.of (g := fun k => aumbrylaw05_wakes.f k) aumbrylaw05_wakes.mono (k := 40) (by kernel_rfl)
theorem own_at (x : List Cel) (h : x.length < 5864062014805) : aumbrylaw05_own.f x = some x := by
  unfold aumbrylaw05_own.f
  rw [copy_at x h]
  rfl
theorem sz_len {l : List Cel} (h : sz23 l) : l.length < 5864062014805 := by
  have := h.1
  omega
end Go.Proofs.Ytlfhonekcmlomaa.P

-- ==== PF31
namespace Go.Proofs.Ytlfhonekcmlomaa.P
open Go.RowKit Go.Proofs.YtlfhonekcmlomaaW.PrintWords Go.Proofs.YtlfhonekcmlomaaW.PrintLast Go.Proofs.YtlfhonekcmlomaaW.PrintMore
attribute [local go_sem] max2_int min2_int max_two min_two max_three min_three max_four min_four   -- for this text's walks alone
set_option linter.unusedVariables false
set_option linter.unusedSimpArgs false

/-! ### aumbryref03_Has: function 31 -/
def aumbryref03_Has.l0 : Nat → List ByteArray → ByteArray → Int → Int → Option (Bool)
  | 0, _, _, _, _ => none
  | k + 1, x0, x1, x7, x8 => if x8 < x7 then (if 0 ≤ x8 then (if x8 < (x0.length : Int) then (if (rdOf ByteArray.empty x0 x8).toList = x1.toList then (some true) else (aumbryref03_Has.l0 k x0 x1 x7 (wrap64 (x8 + 1)))) else (none)) else (none)) else (some false)
def aumbryref03_Has.f (k : Nat) (l0 : List ByteArray) (a1 : ByteArray) : Option (Bool) := aumbryref03_Has.l0 k l0 a1 (l0.length : Int) 0
end Go.Proofs.Ytlfhonekcmlomaa.P

-- ==== PF18
namespace Go.Proofs.Ytlfhonekcmlomaa.P
open Go.RowKit Go.Proofs.YtlfhonekcmlomaaW.PrintWords Go.Proofs.YtlfhonekcmlomaaW.PrintLast Go.Proofs.YtlfhonekcmlomaaW.PrintMore
attribute [local go_sem] max2_int min2_int max_two min_two max_three min_three max_four min_four   -- for this text's walks alone
set_option linter.unusedVariables false
set_option linter.unusedSimpArgs false

/-! ### aumbryref04_Vars: function 18 -/
def aumbryref04_Vars.l0 : Nat → List (S47) → List ByteArray → Int → Int → Option (List ByteArray)
  | 0, _, _, _, _ => none
  | k + 1, x0, x3, x6, x7 => if x7 < x6 then (if 0 ≤ x7 then (if x7 < (x0.length : Int) then ((aumbryref03_Kind.f k ((rd_T47 x0 x7).f0)).bind fun t102 => (if t102 = 2 then ((aumbryref03_Has.f k x3 ((rd_T47 x0 x7).f0)).bind fun t104 => (if t104 = true then (aumbryref04_Vars.l0 k x0 x3 x6 (wrap64 (x7 + 1))) else (if x3.length < 8796093022208 then (aumbryref04_Vars.l0 k x0 (x3 ++ [(rd_T47 x0 x7).f0]) x6 (wrap64 (x7 + 1))) else (none)))) else (aumbryref04_Vars.l0 k x0 x3 x6 (wrap64 (x7 + 1))))) else (none)) else (none)) else (some x3)
def aumbryref04_Vars.f (k : Nat) (l0 : List (S47)) : Option (List ByteArray) := aumbryref04_Vars.l0 k l0 ([] : List ByteArray) (l0.length : Int) 0
end Go.Proofs.Ytlfhonekcmlomaa.P

-- ==== PF30
namespace Go.Proofs.Ytlfhonekcmlomaa.P
open Go.RowKit Go.Proofs.YtlfhonekcmlomaaW.PrintWords Go.Proofs.YtlfhonekcmlomaaW.PrintLast Go.Proofs.YtlfhonekcmlomaaW.PrintMore
attribute [local go_sem] max2_int min2_int max_two min_two max_three min_three max_four min_four   -- for this text's walks alone
set_option linter.unusedVariables false
set_option linter.unusedSimpArgs false

/-! ### aumbryref05_Put: function 30 -/
def aumbryref05_Put.l0 : Nat → List (S47) → List (S44) → List (S47) → Int → Int → Option ((List (S47)))
  | 0, _, _, _, _, _ => none
  | k + 1, x0, x1, x5, x8, x9 => if x9 < x8 then (if 0 ≤ x9 then (if x9 < (x0.length : Int) then ((aumbryref03_Kind.f k ((rd_T47 x0 x9).f0)).bind fun t102 => (if t102 = 2 then ((aumbryref05_At.f k x1 ((rd_T47 x0 x9).f0)).bind fun t104 => (if 0 ≤ t104 then (if t104 < (x1.length : Int) then (if x5.length + ((rd_T44 x1 t104).f1).length < 5864062014805 then (aumbryref05_Put.l0 k x0 x1 (x5 ++ ((rd_T44 x1 t104).f1)) x8 (wrap64 (x9 + 1))) else (none)) else (none)) else (none))) else (if x5.length < 5864062014805 then (aumbryref05_Put.l0 k x0 x1 (x5 ++ [(⟨(rd_T47 x0 x9).f0, (rd_T47 x0 x9).f1⟩ : S47)]) x8 (wrap64 (x9 + 1))) else (none)))) else (none)) else (none)) else (some x5)
def aumbryref05_Put.f (k : Nat) (l0 : List (S47)) (l1 : List (S44)) : Option ((List (S47))) := aumbryref05_Put.l0 k l0 l1 ([] : List (S47)) (l0.length : Int) 0
end Go.Proofs.Ytlfhonekcmlomaa.P

-- ==== PF16
namespace Go.Proofs.Ytlfhonekcmlomaa.P
open Go.RowKit Go.Proofs.YtlfhonekcmlomaaW.PrintWords Go.Proofs.YtlfhonekcmlomaaW.PrintLast Go.Proofs.YtlfhonekcmlomaaW.PrintMore
attribute [local go_sem] max2_int min2_int max_two min_two max_three min_three max_four min_four   -- for this text's walks alone
set_option linter.unusedVariables false
set_option linter.unusedSimpArgs false

/-! ### aumbryref05_Fill: function 16 -/
mutual
def aumbryref05_Fill.l0 : Nat → List (S47) → List (S44) → Int → Int → Option ((List (S47)) × Int)
  | 0, _, _, _, _ => none
  | k + 1, x0, x1, x18, x19 => if x19 < x18 then (if 0 ≤ x19 then (if x19 < (x1.length : Int) then ((aumbryref03_Kind.f k ((rd_T44 x1 x19).f0)).bind fun t103 => (if t103 = 2 then ((aumbryref05_At.f k x1 ((rd_T44 x1 x19).f0)).bind fun t105 => (if t105 < x19 then (some (([] : List (S47)), 9)) else ((aumbryref04_Check.f k ((rd_T44 x1 x19).f1)).bind fun t107 => (if t107 = 0 then (aumbryref05_Fill.l0 k x0 x1 x18 (wrap64 (x19 + 1))) else (some (([] : List (S47)), t107)))))) else (some (([] : List (S47)), 4)))) else (none)) else (none)) else ((aumbryref04_Vars.f k x0).bind fun t108 => (aumbryref05_Fill.l1 k x0 x1 t108 (t108.length : Int) 0))
def aumbryref05_Fill.l1 : Nat → List (S47) → List (S44) → List ByteArray → Int → Int → Option ((List (S47)) × Int)
  | 0, _, _, _, _, _ => none
  | k + 1, x0, x1, x9, x51, x52 => if x52 < x51 then (if 0 ≤ x52 then (if x52 < (x9.length : Int) then ((aumbryref05_At.f k x1 (rdOf ByteArray.empty x9 x52)).bind fun t112 => (if t112 < 0 then (some (([] : List (S47)), 7)) else (aumbryref05_Fill.l1 k x0 x1 x9 x51 (wrap64 (x52 + 1))))) else (none)) else (none)) else ((aumbryref05_Put.f k x0 x1).bind fun t113 => (if (t113.length : Int) > 64 then (some (([] : List (S47)), 6)) else (some (t113, 0))))
end
def aumbryref05_Fill.f (k : Nat) (l0 : List (S47)) (l1 : List (S44)) : Option ((List (S47)) × Int) := (aumbryref04_Check.f k l0).bind fun t101 => (if t101 = 0 then (aumbryref05_Fill.l0 k l0 l1 (l1.length : Int) 0) else (some (([] : List (S47)), t101)))
end Go.Proofs.Ytlfhonekcmlomaa.P

-- ==== PLf
/- Plain laws, part f: what a pattern becomes by binds: the program's Fill is the document's. -/
namespace Go.Proofs.Ytlfhonekcmlomaa.P
open Go.RowKit Go.Proofs.YtlfhonekcmlomaaW.PrintWords
set_option linter.unusedVariables false
set_option linter.unusedSimpArgs false

def bErr : List Bnd → List Bnd → Int
  | _, [] => 0
  | seen, b :: u => if kindS b.f0 = 2 then (if (lookB seen b.f0).isSome = true then 9 else if checkS b.f1 = 0 then bErr (seen ++ [b]) u else checkS b.f1) else 4
def putS : List Cel → List Bnd → Option (List Cel)
  | [], _ => some []
  | c :: p, l => if kindS c.f0 = 2 then (match lookB l c.f0 with | none => none | some v => (putS p l).map (v ++ ·)) else (putS p l).map (c :: ·)
def putR (x : Option (List Cel)) : List Cel × Int := match x with
  | none => ([], 7)
  | some o => if o.length > 64 then ([], 6) else (o, 0)
def fillS (p : List Cel) (l : List Bnd) : List Cel × Int := if checkS p = 0 then (if bErr [] l = 0 then putR (putS p l) else ([], bErr [] l)) else ([], checkS p)

theorem lookB_snoc (out : List Bnd) (b : Bnd) (s : ByteArray) : lookB (out ++ [b]) s = (match lookB out s with | some v => some v | none => if b.f0 = s then some b.f1 else none) := by
  unfold lookB
  rw [List.find?_append]
  cases out.find? (fun b => decide (b.f0 = s)) with
  | some x => simp
  | none => by_cases h : b.f0 = s <;> simp [h]
/-- The values of binds that are right have no more than 64 cells. -/
theorem bErr_vals : ∀ (u seen : List Bnd), bErr seen u = 0 → ∀ b ∈ u, b.f1.length ≤ 64 ∧ kindS b.f0 = 2 ∧ checkS b.f1 = 0
  | [], _, _, b, hb => by cases hb
  | a :: u, seen, h, b, hb => by
    unfold bErr at h
    by_cases h1 : kindS a.f0 = 2
    · rw [if_pos h1] at h
      by_cases h2 : (lookB seen a.f0).isSome = true
      · rw [if_pos h2] at h; cases h
      · rw [if_neg h2] at h
        by_cases h3 : checkS a.f1 = 0
        · rw [if_pos h3] at h
          rcases List.mem_cons.1 hb with rfl | hb
          · exact ⟨(checkS_ok h3).1, h1, h3⟩
          · exact bErr_vals u _ h b hb
        · rw [if_neg h3] at h
          exact absurd h h3
    · rw [if_neg h1] at h; cases h
theorem lookB_mem {l : List Bnd} {s : ByteArray} {v : List Cel} (h : lookB l s = some v) : ∃ b ∈ l, b.f0 = s ∧ b.f1 = v := by
  unfold lookB at h
  cases hf : l.find? (fun b => decide (b.f0 = s)) with
  | none => rw [hf] at h; cases h
  | some b =>
    rw [hf] at h
    exact ⟨b, List.mem_of_find?_eq_some hf, by simpa using List.find?_some hf, by simpa using h⟩

/-! ### the program's -/
theorem ev_fill2 (p : List Cel) (l : List Bnd) (m : List Cel) (hp : p.length ≤ 64) (hok : ∀ c ∈ p, Okc c) (hm : MapOk m l) (hv : ∀ b ∈ l, b.f1.length ≤ 64) (hl : l.length ≤ 9223372036854775806) :
    ∀ (s : List Cel) (i : Nat) (out : List Cel), i ≤ p.length → p.drop i = s → out.length ≤ 64 * i → Ev (fun k => match_Fill.l1 k l m out p (p.length : Int) (i : Int)) (putR ((putS s l).map (out ++ ·)))
  | [], i, out, hi, hs, ho => by
    have h1 := drop_nil_len hi hs
    refine Ev.step (fun k => (show match_Fill.l1 (k + 1) l m out p (p.length : Int) (i : Int) = _ from by rw [match_Fill.l1])) ?_
    refine evIfn (by omega) ?_
    simp only [putS, Option.map_some, List.append_nil, putR]
    by_cases h : out.length > 64
    · rw [if_pos h]
      exact evIfp (by omega) (Ev.now _)
    · rw [if_neg h]
      exact evIfn (by omega) (Ev.now _)
  | c :: s, i, out, hi, hs, ho => by
    obtain ⟨h1, _, h3⟩ := drop_cons hs
    have hc : Okc c := hok c (List.mem_of_mem_drop (hs ▸ List.mem_cons_self ..))
    have hks := kindS_size hc.kind
    refine Ev.step (fun k => (show match_Fill.l1 (k + 1) l m out p (p.length : Int) (i : Int) = _ from by rw [match_Fill.l1])) ?_
    refine evIfp (by omega) (evIfp (by omega) (evIfp (by omega) ?_))
    simp only [rd_cel hs, up_cast i (by omega)]
    refine evIfp (by omega) ?_
    refine Ev.bind (ev_variable c) ?_
    by_cases hk : kindS c.f0 = 2
    · refine evIfp (by simp [hk]) ?_
      cases hlk : lookB l c.f0 with
      | none =>
        refine evIfn (by rw [hm.has, hlk]; simp) ?_
        have : putS (c :: s) l = none := by simp only [putS, hk, if_true, hlk]
        rw [this]
        exact Ev.now _
      | some v =>
        obtain ⟨j, hj1, hj2, b, hj3, hj4⟩ := hm.at_ _ _ hlk
        have hrd : (rd_T44 l (mapAt m c.f0)).f1 = v := by
          rw [hj1]
          unfold rd_T44
          rw [List.getD_eq_getElem?_getD, Int.toNat_natCast, hj3]
          exact hj4
        obtain ⟨b', hb', _, hb2⟩ := lookB_mem hlk
        have hvl : v.length ≤ 64 := by rw [← hb2]; exact hv b' hb'
        refine evIfp (by rw [hm.has, hlk]; simp) ?_
        refine evIfp (by omega) (evIfp (by omega) ?_)
        simp only [hrd]
        refine evIfp (by omega) ?_
        have := ev_fill2 p l m hp hok hm hv hl s (i + 1) (out ++ v) (by omega) h3 (by simp; omega)
        have e : (putS (c :: s) l).map (out ++ ·) = (putS s l).map (out ++ v ++ ·) := by
          simp only [putS, hk, if_true, hlk, Option.map_map]
          congr 1
          funext x
          simp
        rw [e]
        exact this
    · refine evIfn (by simp [hk]) ?_
      refine evIfp (by omega) ?_
      have := ev_fill2 p l m hp hok hm hv hl s (i + 1) (out ++ [c]) (by omega) h3 (by simp; omega)
      have e : (putS (c :: s) l).map (out ++ ·) = (putS s l).map (out ++ [c] ++ ·) := by
        simp only [putS, hk, if_false, Option.map_map]
        congr 1
        funext x
        simp
      rw [e]
      exact this
theorem ev_fill1 (p : List Cel) (l : List Bnd) (hp : p.length ≤ 64) (hok : ∀ c ∈ p, Okc c) (hl : l.length ≤ 9223372036854775806) :
    ∀ (u : List Bnd) (i : Nat) (m : List Cel), i ≤ l.length → l.drop i = u → MapOk m (l.take i) → (∀ b ∈ l.take i, b.f1.length ≤ 64) →
    Ev (fun k => match_Fill.l0 k p l m l (l.length : Int) (i : Int)) (if bErr (l.take i) u = 0 then putR (putS p l) else ([], bErr (l.take i) u))
  | [], i, m, hi, hu, hm, hv => by
    have h1 := drop_nil_len hi hu
    refine Ev.step (fun k => (show match_Fill.l0 (k + 1) p l m l (l.length : Int) (i : Int) = _ from by rw [match_Fill.l0])) ?_
    refine evIfn (by omega) ?_
    rw [h1, List.take_length] at hm hv
    have := ev_fill2 p l m hp hok hm hv hl p 0 [] (by omega) rfl (by simp)
    simp only [bErr, if_true]
    have e : (putS p l).map (([] : List Cel) ++ ·) = putS p l := by cases putS p l <;> rfl
    rw [e] at this
    exact this
  | b :: u, i, m, hi, hu, hm, hv => by
    obtain ⟨h1, h2, h3⟩ := drop_cons hu
    have htk : l.take (i + 1) = l.take i ++ [b] := by
      rw [List.take_succ_eq_append_getElem h1]
      have := h2 b
      rw [List.getD_eq_getElem?_getD, List.getElem?_eq_getElem h1] at this
      rw [show l[i] = b from this]
    have hln : (l.take i).length = i := by rw [List.length_take]; omega
    have hml := hm.len
    refine Ev.step (fun k => (show match_Fill.l0 (k + 1) p l m l (l.length : Int) (i : Int) = _ from by rw [match_Fill.l0])) ?_
    refine evIfp (by omega) (evIfp (by omega) (evIfp (by omega) ?_))
    simp only [rd_bnd hu, up_cast i (by omega)]
    refine Ev.bind (ev_kind b.f0) ?_
    by_cases hk : kindS b.f0 = 2
    · have hks := kindS_size (s := b.f0) (by rw [hk]; decide)
      refine evIfp hk (evIfp (by omega) ?_)
      by_cases hh : (lookB (l.take i) b.f0).isSome = true
      · refine evIfp (by rw [hm.has]; exact hh) ?_
        simp only [bErr, hk, if_true, hh]
        exact Ev.now _
      · refine evIfn (by rw [hm.has]; exact hh) ?_
        refine Ev.bind (ev_check b.f1) ?_
        by_cases hc : checkS b.f1 = 0
        · refine evIfp hc (evIfp (by omega) ?_)
          have hlk : lookB (l.take i) b.f0 = none := by
            cases hq : lookB (l.take i) b.f0 with
            | none => rfl
            | some v => rw [hq] at hh; exact absurd rfl hh
          have hm' : MapOk (mapPut m b.f0 (i : Int)) (l.take (i + 1)) := by
            have := mapOk_put hm b.f0 b.f1 hlk
            rw [hln] at this
            rw [htk]
            exact this
          have := ev_fill1 p l hp hok hl u (i + 1) (mapPut m b.f0 (i : Int)) (by omega) h3 hm' (fun x hx => by
            rw [htk] at hx
            rcases List.mem_append.1 hx with hx | hx
            · exact hv x hx
            · rw [List.mem_singleton.1 hx]
              exact (checkS_ok hc).1)
          have e : bErr (l.take i) (b :: u) = bErr (l.take (i + 1)) u := by
            simp only [bErr, hk, if_true, hh, hc, htk]
            simp
          rw [e]
          exact this
        · refine evIfn hc ?_
          have e : bErr (l.take i) (b :: u) = checkS b.f1 := by
            simp only [bErr, hk, if_true, hh, hc, if_false]
            simp
          rw [e, if_neg hc]
          exact Ev.now _
    · refine evIfn hk ?_
      simp only [bErr, hk, if_false]
      exact Ev.now _
theorem ev_fill (p : List Cel) (l : List Bnd) (hl : l.length ≤ 9223372036854775806) : Ev (fun k => match_Fill.f k p l) (fillS p l) := by
  unfold match_Fill.f fillS
  refine Ev.bind (ev_check p) ?_
  by_cases hp : checkS p = 0
  · obtain ⟨p1, p2, _⟩ := checkS_ok hp
    rw [if_pos hp]
    refine evIfp hp ?_
    have := ev_fill1 p l p1 p2 hl l 0 [] (by omega) rfl mapOk_nil (fun b hb => by simp at hb)
    simp only [List.take_zero] at this
    exact this
  · rw [if_neg hp]
    exact evIfn hp (Ev.now _)

/-! ### the document's -/
instance decMemB (c : ByteArray) (l : List ByteArray) : Decidable (c ∈ l) := decidable_of_iff (l.any (fun x => decide (x = c)) = true) (by simp)
/-! ### copies of binds -/
theorem ev_copyB_loop (l : List Bnd) (hl : l.length < 3518437208883) (hv : ∀ b ∈ l, b.f1.length < 5864062014805) : ∀ (u : List Bnd) (i : Nat) (out : List Bnd), i ≤ l.length → l.drop i = u → out.length ≤ i → Ev (fun k => aumbryref05_Copy.l0 k l out (l.length : Int) (i : Int)) (out ++ u)
  | [], i, out, hi, hu, ho => by
    have h1 := drop_nil_len hi hu
    refine Ev.step (fun k => (show aumbryref05_Copy.l0 (k + 1) l out (l.length : Int) (i : Int) = _ from by rw [aumbryref05_Copy.l0])) ?_
    rw [List.append_nil]
    exact evIfn (by omega) (Ev.now _)
  | b :: u, i, out, hi, hu, ho => by
    obtain ⟨h1, _, h3⟩ := drop_cons hu
    refine Ev.step (fun k => (show aumbryref05_Copy.l0 (k + 1) l out (l.length : Int) (i : Int) = _ from by rw [aumbryref05_Copy.l0])) ?_
    refine evIfp (by omega) (evIfp (by omega) (evIfp (by omega) ?_))
    simp only [rd_bnd hu, up_cast i (by omega)]
    refine Ev.bind (evIs (copy_at b.f1 (hv b (List.mem_of_mem_drop (hu ▸ List.mem_cons_self ..))))) ?_
    refine evIfp (by omega) ?_
    have := ev_copyB_loop l hl hv u (i + 1) (out ++ [b]) (by omega) h3 (by simp; omega)
    rw [List.append_assoc] at this
    exact this
theorem ev_copyB (l : List Bnd) (hl : l.length < 3518437208883) (hv : ∀ b ∈ l, b.f1.length < 5864062014805) : Ev (fun k => aumbryref05_Copy.f k l) l := by
  unfold aumbryref05_Copy.f
  exact ev_copyB_loop l hl hv l 0 [] (by omega) rfl (by simp)
theorem szb_len {l : List Bnd} (h : sz25 l) : l.length < 3518437208883 ∧ ∀ b ∈ l, b.f1.length < 5864062014805 := by
  have := h.1
  exact ⟨by omega, fun b hb => sz_len (h.2 b hb).2⟩
end Go.Proofs.Ytlfhonekcmlomaa.P

-- ==== PLg
/- Plain laws, part g: filling what a match tells gives the term; what is filled is matched; a term matches itself. -/
namespace Go.Proofs.Ytlfhonekcmlomaa.P
open Go.RowKit Go.Proofs.YtlfhonekcmlomaaW.PrintWords
set_option linter.unusedVariables false
set_option linter.unusedSimpArgs false

/-- What one list of binds tells the other tells too. -/
def Ext (a b : List Bnd) : Prop := ∀ s v, lookB a s = some v → lookB b s = some v
theorem Ext.trans {a b c : List Bnd} (h : Ext a b) (g : Ext b c) : Ext a c := fun s v e => g s v (h s v e)
theorem mat_var {c : Cel} {p t r : List Cel} {out : List Bnd} (hv : kindS c.f0 = 2) (hr : segN t 1 = some r) : mat (c :: p) t out = (match lookB out c.f0 with | none => mat p r (out ++ [⟨c.f0, fstT t r⟩]) | some v => if v = fstT t r then mat p r out else none) := by
  show (if kindS c.f0 = 2 then _ else _) = _
  rw [if_pos hv, hr]
  try rfl
theorem mat_var_none {c : Cel} {p t : List Cel} {out : List Bnd} (hv : kindS c.f0 = 2) (hr : segN t 1 = none) : mat (c :: p) t out = none := by
  show (if kindS c.f0 = 2 then _ else _) = _
  rw [if_pos hv, hr]
theorem mat_sym {c d : Cel} {p t : List Cel} {out : List Bnd} (hv : ¬ kindS c.f0 = 2) : mat (c :: p) (d :: t) out = if d = c then mat p t out else none := by
  show (if kindS c.f0 = 2 then _ else _) = _
  rw [if_neg hv]
theorem mat_sym_nil {c : Cel} {p : List Cel} {out : List Bnd} (hv : ¬ kindS c.f0 = 2) : mat (c :: p) [] out = none := by
  show (if kindS c.f0 = 2 then _ else _) = _
  rw [if_neg hv]

/-! ### the binds of a match are right -/
theorem cellErr_okc {c : Cel} (h : Okc c) : cellErr c = 0 := by
  unfold cellErr
  have h1 := h.lo
  have h2 := h.hi
  rw [if_neg h.kind, if_neg (by omega), if_neg (by omega)]
  by_cases hk : kindS c.f0 = 2
  · rw [if_pos hk, if_neg (by have := h.var hk; omega)]
  · rw [if_neg hk]
theorem ok_errs : ∀ {l : List Cel}, (∀ c ∈ l, Okc c) → errs l = 0
  | [], _ => rfl
  | a :: l, h => by
    unfold errs
    rw [if_pos (cellErr_okc (h a (List.mem_cons_self ..)))]
    exact ok_errs fun c hc => h c (List.mem_cons_of_mem _ hc)
theorem checkS_of {t : List Cel} (h1 : t.length ≤ 64) (h2 : ∀ c ∈ t, Okc c) (h3 : segN t 1 = some []) : checkS t = 0 := by
  unfold checkS
  rw [if_neg (by omega), if_pos (ok_errs h2), if_pos h3]
theorem bErr_snoc : ∀ (u seen : List Bnd) (b : Bnd), bErr seen u = 0 → kindS b.f0 = 2 → lookB (seen ++ u) b.f0 = none → checkS b.f1 = 0 → bErr seen (u ++ [b]) = 0
  | [], seen, b, h, hk, hl, hc => by
    rw [List.append_nil] at hl
    show bErr seen [b] = 0
    unfold bErr
    rw [if_pos hk, if_neg (by rw [hl]; simp), if_pos hc]
    rfl
  | a :: u, seen, b, h, hk, hl, hc => by
    show bErr seen (a :: (u ++ [b])) = 0
    unfold bErr at h ⊢
    by_cases h1 : kindS a.f0 = 2
    · rw [if_pos h1] at h ⊢
      by_cases h2 : (lookB seen a.f0).isSome = true
      · rw [if_pos h2] at h; cases h
      · rw [if_neg h2] at h ⊢
        by_cases h3 : checkS a.f1 = 0
        · rw [if_pos h3] at h ⊢
          exact bErr_snoc u (seen ++ [a]) b h hk (by simpa using hl) hc
        · rw [if_neg h3] at h
          exact absurd h h3
    · rw [if_neg h1] at h; cases h
theorem mem_fstT {t r : List Cel} {c : Cel} (h : c ∈ fstT t r) : c ∈ t := List.mem_of_mem_take h
theorem mat_right : ∀ (p t : List Cel) (out o : List Bnd) (r : List Cel), mat p t out = some (o, r) → t.length ≤ 64 → (∀ c ∈ t, Okc c) → bErr [] out = 0 → bErr [] o = 0
  | [], t, out, o, r, h, ht, hok, hb => by
    have h' : some (out, t) = some (o, r) := h
    injection h' with h'
    injection h' with h1 h2
    rw [← h1]
    exact hb
  | c :: p, t, out, o, r, h, ht, hok, hb => by
    by_cases hv : kindS c.f0 = 2
    · cases hq : segN t 1 with
      | none => rw [mat_var_none hv hq] at h; cases h
      | some q =>
        rw [mat_var hv hq] at h
        have hf := segN_fst hq
        have hql := segN_len hq
        have hqo : ∀ c ∈ q, Okc c := fun c hc => hok c (by rw [hf.1]; exact List.mem_append_right _ hc)
        cases hl : lookB out c.f0 with
        | none =>
          rw [hl] at h
          refine mat_right p q _ o r h (by omega) hqo (bErr_snoc out [] _ hb hv (by simpa using hl) ?_)
          exact checkS_of (by unfold fstT; rw [List.length_take]; omega) (fun c hc => hok c (mem_fstT hc)) hf.2
        | some v =>
          rw [hl] at h
          simp only at h
          by_cases he : v = fstT t q
          · rw [if_pos he] at h
            exact mat_right p q _ o r h (by omega) hqo hb
          · rw [if_neg he] at h
            cases h
    · rcases t with _ | ⟨d, t⟩
      · rw [mat_sym_nil hv] at h; cases h
      · rw [mat_sym hv] at h
        by_cases he : d = c
        · rw [if_pos he] at h
          simp only [List.length_cons] at ht
          exact mat_right p t _ o r h (by omega) (fun c hc => hok c (List.mem_cons_of_mem _ hc)) hb
        · rw [if_neg he] at h; cases h
/-! ### what is filled is matched -/
theorem fstT_append (v w : List Cel) : fstT (v ++ w) w = v := by
  unfold fstT
  rw [List.length_append, show v.length + w.length - w.length = v.length by omega, List.take_left']
  rfl
/-- Binds whose values are terms. -/
def Vals (l : List Bnd) : Prop := ∀ s v, lookB l s = some v → segN v 1 = some []
theorem mat_of_put : ∀ (p : List Cel) (l : List Bnd) (s r : List Cel) (out : List Bnd), putS p l = some s → (∀ c ∈ p, kindS c.f0 = 2 → ∀ v, lookB l c.f0 = some v → segN v 1 = some []) → Ext out l → ∃ o, mat p (s ++ r) out = some (o, r) ∧ Ext o l
  | [], l, s, r, out, h, hv, he => by
    injection h with h
    subst h
    exact ⟨out, rfl, he⟩
  | c :: p, l, s, r, out, h, hv, he => by
    simp only [putS] at h
    by_cases hk : kindS c.f0 = 2
    · rw [if_pos hk] at h
      cases hl : lookB l c.f0 with
      | none => rw [hl] at h; cases h
      | some v =>
        rw [hl] at h
        simp only at h
        obtain ⟨s2, h2, rfl⟩ := Option.map_eq_some_iff.1 h
        have hq : segN (v ++ s2 ++ r) 1 = some (s2 ++ r) := by
          have := segN_append (s2 ++ r) (hv c (List.mem_cons_self ..) hk v hl)
          rw [List.append_assoc]
          simpa using this
        have hf : fstT (v ++ s2 ++ r) (s2 ++ r) = v := by rw [List.append_assoc]; exact fstT_append _ _
        rw [mat_var hk hq, hf]
        cases ho : lookB out c.f0 with
        | none =>
          simp only
          exact mat_of_put p l s2 r _ h2 (fun c h => hv c (List.mem_cons_of_mem _ h)) (fun x y hxy => by
            rw [lookB_snoc] at hxy
            cases hx : lookB out x with
            | none =>
              rw [hx] at hxy
              simp only at hxy
              by_cases hcx : c.f0 = x
              · rw [if_pos hcx] at hxy
                injection hxy with hxy
                rw [← hcx, ← hxy]
                exact hl
              · rw [if_neg hcx] at hxy; cases hxy
            | some z =>
              rw [hx] at hxy
              simp only at hxy
              rw [← hxy]
              exact he _ _ hx)
        | some w =>
          have : w = v := by have := he _ _ ho; rw [hl] at this; injection this with this; exact this.symm
          simp only [this, if_true]
          exact mat_of_put p l s2 r _ h2 (fun c h => hv c (List.mem_cons_of_mem _ h)) he
    · rw [if_neg hk] at h
      obtain ⟨s2, h2, rfl⟩ := Option.map_eq_some_iff.1 h
      rw [List.cons_append, mat_sym hk, if_pos rfl]
      exact mat_of_put p l s2 r _ h2 (fun c h => hv c (List.mem_cons_of_mem _ h)) he
theorem vals_of {l : List Bnd} (h : bErr [] l = 0) : Vals l := fun s v hl => by
  obtain ⟨b, hb, _, h2⟩ := lookB_mem hl
  rw [← h2]
  exact (checkS_ok (bErr_vals l [] h b hb).2.2).2.2
theorem segN_put : ∀ (s t : List Cel) (l : List Bnd) (n : Nat), (∀ c ∈ s, Okc c) → segN s n = some [] → putS s l = some t → Vals l → segN t n = some []
  | [], t, l, n, hok, hs, hp, hv => by
    have := segN_nil_pos hs
    subst this
    injection hp with hp
    subst hp
    rfl
  | c :: s, t, l, 0, hok, hs, hp, hv => by rw [segN_zero] at hs; injection hs with hs; cases hs
  | c :: s, t, l, n + 1, hok, hs, hp, hv => by
    have hc := hok c (List.mem_cons_self ..)
    have hs' : segN s (n + ar c) = some [] := hs
    simp only [putS] at hp
    by_cases hk : kindS c.f0 = 2
    · rw [if_pos hk] at hp
      cases hl : lookB l c.f0 with
      | none => rw [hl] at hp; cases hp
      | some v =>
        rw [hl] at hp
        simp only at hp
        obtain ⟨t2, h2, rfl⟩ := Option.map_eq_some_iff.1 hp
        have hac : ar c = 0 := by unfold ar; rw [hc.var hk]; rfl
        rw [hac, Nat.add_zero] at hs'
        rw [Nat.add_comm, segN_add, segN_append t2 (hv _ _ hl)]
        exact segN_put s t2 l n (fun c h => hok c (List.mem_cons_of_mem _ h)) hs' h2 hv
    · rw [if_neg hk] at hp
      obtain ⟨t2, h2, rfl⟩ := Option.map_eq_some_iff.1 hp
      show segN t2 (n + ar c) = some []
      exact segN_put s t2 l _ (fun c h => hok c (List.mem_cons_of_mem _ h)) hs' h2 hv
/-! ### the three laws -/
theorem matchS_ok {p t : List Cel} (h : (matchS p t).2.1 = true) : checkS p = 0 ∧ checkS t = 0 ∧ ∃ o r, mat p t [] = some (o, r) ∧ matchS p t = (o, true, 0) := by
  unfold matchS at h ⊢
  by_cases hp : checkS p = 0
  · rw [if_pos hp] at h ⊢
    by_cases ht : checkS t = 0
    · rw [if_pos ht] at h ⊢
      cases hm : mat p t [] with
      | none => rw [hm] at h; cases h
      | some x => exact ⟨hp, ht, x.1, x.2, rfl, rfl⟩
    · rw [if_neg ht] at h; cases h
  · rw [if_neg hp] at h; cases h
theorem matchS_of {p t : List Cel} (hp : checkS p = 0) (ht : checkS t = 0) {o : List Bnd} {r : List Cel} (hm : mat p t [] = some (o, r)) : matchS p t = (o, true, 0) := by
  unfold matchS
  rw [if_pos hp, if_pos ht, hm]
  rfl
theorem ext_nil (l : List Bnd) : Ext [] l := fun s v h => by cases h
/-- What is filled is matched, with just what was put there. -/
theorem match_fill {p : List Cel} {l : List Bnd} (h : (fillS p l).2 = 0) : (matchS p (fillS p l).1).2.1 = true ∧ (matchS p (fillS p l).1).2.2 = 0 ∧ Ext (matchS p (fillS p l).1).1 l := by
  unfold fillS at h ⊢
  by_cases hp : checkS p = 0
  · rw [if_pos hp] at h ⊢
    by_cases hb : bErr [] l = 0
    · rw [if_pos hb] at h ⊢
      cases hs : putS p l with
      | none => rw [hs] at h; cases h
      | some s =>
        rw [hs] at h
        unfold putR at h ⊢
        simp only at h ⊢
        by_cases hl : s.length > 64
        · rw [if_pos hl] at h; cases h
        · rw [if_neg hl]
          obtain ⟨p1, p2, p3⟩ := checkS_ok hp
          have hsok : ∀ (q s : List Cel), (∀ c ∈ q, Okc c) → putS q l = some s → ∀ c ∈ s, Okc c := by
            intro q
            induction q with
            | nil =>
              intro s _ h c hc
              injection h with h
              subst h
              cases hc
            | cons d q ih =>
              intro s hq h c hc
              simp only [putS] at h
              by_cases hk : kindS d.f0 = 2
              · rw [if_pos hk] at h
                cases hlk : lookB l d.f0 with
                | none => rw [hlk] at h; cases h
                | some v =>
                  rw [hlk] at h
                  simp only at h
                  obtain ⟨s2, g, rfl⟩ := Option.map_eq_some_iff.1 h
                  rcases List.mem_append.1 hc with hc | hc
                  · obtain ⟨b, hb1, _, hb2⟩ := lookB_mem hlk
                    rw [← hb2] at hc
                    exact (checkS_ok (bErr_vals l [] hb b hb1).2.2).2.1 c hc
                  · exact ih s2 (fun c h => hq c (List.mem_cons_of_mem _ h)) g c hc
              · rw [if_neg hk] at h
                obtain ⟨s2, g, rfl⟩ := Option.map_eq_some_iff.1 h
                rcases List.mem_cons.1 hc with rfl | hc
                · exact hq _ (List.mem_cons_self ..)
                · exact ih s2 (fun c h => hq c (List.mem_cons_of_mem _ h)) g c hc
          have hcs : checkS s = 0 := checkS_of (by omega) (hsok p s p2 hs) (segN_put p s l 1 p2 p3 hs (vals_of hb))
          obtain ⟨o, ho, he⟩ := mat_of_put p l s [] [] hs (fun c _ _ v h => vals_of hb _ v h) (ext_nil _)
          rw [List.append_nil] at ho
          rw [matchS_of hp hcs ho]
          exact ⟨rfl, rfl, he⟩
    · rw [if_neg hb] at h
      exact absurd h hb
  · rw [if_neg hp] at h
    exact absurd h hp
theorem fillS_err {p : List Cel} {l : List Bnd} (h : ¬ (fillS p l).2 = 0) : (fillS p l).1 = [] := by
  unfold fillS at h ⊢
  by_cases hp : checkS p = 0
  · rw [if_pos hp] at h ⊢
    by_cases hb : bErr [] l = 0
    · rw [if_pos hb] at h ⊢
      cases hs : putS p l with
      | none => rfl
      | some s =>
        rw [hs] at h
        unfold putR at h ⊢
        simp only at h ⊢
        by_cases hl : s.length > 64
        · rw [if_pos hl]
        · rw [if_neg hl] at h; exact absurd rfl h
    · rw [if_neg hb]
  · rw [if_neg hp]
end Go.Proofs.Ytlfhonekcmlomaa.P

-- ==== PureMatchFilled
/- A pattern fits whatever it becomes, with just what was put there: for every pattern and list of binds that can be read as data, the law answers true. -/
namespace Go.Proofs.Ytlfhonekcmlomaa.Pure
open Go.RowKit Go.Proofs.Ytlfhonekcmlomaa.P Go.Proofs.YtlfhonekcmlomaaW.PrintWords
set_option linter.unusedVariables false

theorem lookB_uniq {m : List Bnd} : ∀ (seen : List Bnd), bErr seen m = 0 → ∀ b ∈ m, lookB (seen ++ m) b.f0 = some b.f1 := by
  induction m with
  | nil => intro _ _ b hb; cases hb
  | cons a m ih =>
    intro seen h b hb
    have h' := h
    unfold bErr at h
    by_cases h1 : kindS a.f0 = 2
    · rw [if_pos h1] at h
      by_cases h2 : (lookB seen a.f0).isSome = true
      · rw [if_pos h2] at h; cases h
      · rw [if_neg h2] at h
        by_cases h3 : checkS a.f1 = 0
        · rw [if_pos h3] at h
          rw [show seen ++ a :: m = seen ++ [a] ++ m by simp]
          rcases List.mem_cons.1 hb with rfl | hb
          · have hn : lookB seen b.f0 = none := by
              cases hq : lookB seen b.f0 with
              | none => rfl
              | some v => rw [hq] at h2; exact absurd rfl h2
            have : lookB (seen ++ [b]) b.f0 = some b.f1 := by rw [lookB_snoc, hn]; simp
            unfold lookB at this ⊢
            rw [List.find?_append]
            cases hf : (seen ++ [b]).find? (fun x => decide (x.f0 = b.f0)) with
            | none => rw [hf] at this; cases this
            | some z => rw [hf] at this; simpa using this
          · exact ih (seen ++ [a]) h b hb
        · rw [if_neg h3] at h; exact absurd h h3
    · rw [if_neg h1] at h; cases h
theorem ev_filled_loop (l m : List Bnd) (hl : l.length ≤ 9223372036854775806) (hm : m.length ≤ 64) (hu : ∀ b ∈ m, lookB l b.f0 = some b.f1 ∧ b.f1.length ≤ 64) :
    ∀ (u : List Bnd) (i : Nat), i ≤ m.length → m.drop i = u → Ev (fun k => aumbrylaw05_MatchFilled.l0 k l m (m.length : Int) (i : Int)) true
  | [], i, hi, hd => by
    have h1 := drop_nil_len hi hd
    refine Ev.step (fun k => (show aumbrylaw05_MatchFilled.l0 (k + 1) l m (m.length : Int) (i : Int) = _ from by rw [aumbrylaw05_MatchFilled.l0])) ?_
    exact evIfn (by omega) (Ev.now _)
  | b :: u, i, hi, hd => by
    obtain ⟨h1, _, h3⟩ := drop_cons hd
    obtain ⟨g1, g2⟩ := hu b (List.mem_of_mem_drop (hd ▸ List.mem_cons_self ..))
    refine Ev.step (fun k => (show aumbrylaw05_MatchFilled.l0 (k + 1) l m (m.length : Int) (i : Int) = _ from by rw [aumbrylaw05_MatchFilled.l0])) ?_
    refine evIfp (by omega) (evIfp (by omega) (evIfp (by omega) ?_))
    simp only [rd_bnd hd, up_cast i (by omega)]
    refine Ev.bind (ev_at l b.f0 hl) ?_
    rcases atS_look l b.f0 with ⟨k1, _⟩ | ⟨j, c, j1, j2, j3, j4, j5, _⟩
    · rw [k1] at g1; cases g1
    · have hc : c.f1 = b.f1 := by rw [j3] at g1; injection g1
      have hrd : (rd_T44 l (j : Int)).f1 = b.f1 := by
        unfold rd_T44
        rw [List.getD_eq_getElem?_getD, Int.toNat_natCast, j1]
        exact hc
      rw [j4]
      refine evIfn (by omega) (evIfp (by omega) (evIfp (by omega) ?_))
      simp only [hrd]
      refine Ev.bind (ev_refSame4 b.f1 b.f1 (.inl (by omega))) ?_
      exact evIfp (by simp) (ev_filled_loop l m hl hm hu u (i + 1) (by omega) h3)
theorem MatchFilled : aumbrylaw05_MatchFilled.Pure := by
  intro p l hp hl
  have hpl := sz_len hp
  have hlen := szb_len hl
  refine Ev.rounds ?_
  unfold aumbrylaw05_MatchFilled.f
  refine Ev.bind ev_wakes ?_
  refine evIfp rfl ?_
  refine Ev.bind (evIs (own_at p hpl)) ?_
  refine Ev.bind (ev_copyB l hlen.1 hlen.2) ?_
  refine Ev.bind (ev_fill p l (by omega)) ?_
  by_cases he : (fillS p l).2 = 0
  · refine evIfp he ?_
    have hm := match_fill he
    refine Ev.bind (evIs (own_at p hpl)) ?_
    refine Ev.bind (ev_match p _) ?_
    refine evIfp hm.1 ?_
    have hs := matchS_small p (fillS p l).1
    have hb : bErr [] (matchS p (fillS p l).1).1 = 0 := by
      obtain ⟨c1, c2, o, r, h3, h4⟩ := matchS_ok hm.1
      obtain ⟨t1, t2, t3⟩ := checkS_ok c2
      rw [h4]
      exact mat_right p _ [] o r h3 t1 t2 rfl
    have e : ((matchS p (fillS p l).1).2.2 != 0) = false := by rw [hm.2.1]; rfl
    rw [e]
    refine Ev.step (fun k => (show aumbrylaw05_MatchFilled.j0 (k + 1) l (matchS p (fillS p l).1).1 false = _ from by rw [aumbrylaw05_MatchFilled.j0])) ?_
    refine evIfn (by simp) ?_
    refine ev_filled_loop l _ (by omega) hs.1 (fun b hbm => ⟨hm.2.2 _ _ ?_, hs.2 b hbm⟩) _ 0 (by omega) rfl
    have := lookB_uniq [] hb b hbm
    simpa using this
  · refine evIfn he ?_
    rw [fillS_err he]
    exact Ev.now _
end Go.Proofs.Ytlfhonekcmlomaa.Pure

-- ==== RowMatchFilled
namespace Go.Proofs.Ytlfhonekcmlomaa.matchFilled
open Go.ChangeShapes Go.WideShapes Go.ChangeAt Go.RowKit Go.Proofs.YtlfhonekcmlomaaW.PrintWords Go.Proofs.Ytlfhonekcmlomaa.P Go.Proofs.Ytlfhonekcmlomaa.Open
open Go.ChangeMaps (open_string shut_string)
set_option linter.unusedVariables false
theorem own : ownKnob Try.prog.godebug = none := by kernel_rfl
theorem laidOut : laidOutB Try.prog = true := by kernel_rfl
set_option maxRecDepth 100000 in
theorem core {H : Type} {enc : TypeId × Value → H} (W : World) (base : Nat) (args : Array Value) (ds gs : List (DataW H)) (before : List MemPlace)
    (hval : ∀ (j : Nat) t v, Try.f6.params[j]? = some t → args[j]? = some v → Value.okWide Try.prog W .any base t v)
    (hW : DataW.Whole enc Try.prog Try.f6.params.toList Rows.matchFilledSpec.vars false W args.toList ds gs before)
    (hsz : (DataW.weightsEach Try.prog (Try.f6.params.toList ++ Rows.matchFilledSpec.plain.varTypes Try.prog) (ds ++ gs)).all (· ≤ reachBytes) = true)
    :
    Calls Try.prog 6 args W fun e W' => ∃ v, e = .returned v ∧ Rows.matchFilledSpec.post enc Try.prog Try.f6 false true false false W args v W' := by
  have hW' := hW
  obtain ⟨p, q, hA, hV, rfl, hfz, hnd⟩ := hW
  rw [Try.params6] at hA hval hsz
  obtain ⟨v0, vs0, d0, ds0, p0, q0, hargs, rfl, rfl, h0, r0⟩ := trodAll_cons hA
  obtain ⟨v1, vs1, d1, ds1, p1, q1, rfl, rfl, rfl, h1, r1⟩ := trodAll_cons r0
  obtain ⟨rfl, rfl, rfl⟩ := trodAll_nil r1
  obtain rfl : args = #[v0, v1] := by cases args; simp_all
  obtain ⟨rfl, rfl⟩ := trodVars_none hV
  have k0 := h0
  obtain ⟨n0, hf0⟩ := h0
  obtain ⟨x0, hK0, hS0, hB0⟩ := op23.go hf0 (fun m hm => by have := List.all_eq_true.1 hsz m (DataW.weights_mem_each (j := 0) rfl rfl m hm); simpa using this)
  have lt0 : ∀ z ∈ p0, z.block < W.heap.size := by obtain ⟨m, hm⟩ := k0; exact DataW.trod_lt m _ _ _ hm
  obtain ⟨a0, len0, cap0, rfl⟩ := okWide_slice Try.underlying23 (hval 0 23 v0 rfl rfl)
  obtain ⟨A0, c0, hcs0, hc0, hr0⟩ := hK0
  have hcs0' : [(Value.slice a0 len0 cap0)] = [.slice A0 x0.length c0] := hcs0
  injection hcs0' with hcs0'
  injection hcs0' with ha0 hl0 hk0
  subst ha0 hl0 hk0
  have k1 := h1
  obtain ⟨n1, hf1⟩ := h1
  obtain ⟨x1, hK1, hS1, hB1⟩ := op25.go hf1 (fun m hm => by have := List.all_eq_true.1 hsz m (DataW.weights_mem_each (j := 1) rfl rfl m hm); simpa using this)
  have lt1 : ∀ z ∈ p1, z.block < W.heap.size := by obtain ⟨m, hm⟩ := k1; exact DataW.trod_lt m _ _ _ hm
  obtain ⟨a1, len1, cap1, rfl⟩ := okWide_slice Try.underlying25 (hval 1 25 v1 rfl rfl)
  obtain ⟨A1, c1, hcs1, hc1, hr1⟩ := hK1
  have hcs1' : [(Value.slice a1 len1 cap1)] = [.slice A1 x1.length c1] := hcs1
  injection hcs1' with hcs1'
  injection hcs1' with ha1 hl1 hk1
  subst ha1 hl1 hk1
  obtain ⟨k, h⟩ := Pure.MatchFilled x0 x1 hS0 hS1
  refine (aumbrylaw05_MatchFilled.calls k _ _ x0 _ _ x1 true W hr0 hc0 hr1 hc1 h).mono ?_
  rintro e W' ⟨rfl, hd⟩
  have bel : Below W.heap.size W W' := hd
  exact ⟨_, rfl, _, _, _, [], _, [], hW', trodAll_mk1 (shut_bool Try.underlying4 _), (trodAll_cons_mk (Below.trod laidOut (by kernel_rfl) (of_decide_eq_true (by kernel_rfl)) k0 bel lt0) (trodAll_cons_mk (Below.trod laidOut (by kernel_rfl) (of_decide_eq_true (by kernel_rfl)) k1 bel lt1) trodAll_mk0)), rfl, bel.frame _, fun h => by cases h⟩
set_option maxRecDepth 100000 in
theorem lifted (os : Os) (started : os.Started) (H : Type) (enc : TypeId × Value → H) :
    ReturnsInHanded {} Try.checked os 6 .any (Rows.matchFilledSpec.pre6 enc Try.prog Try.f6 Rows.matchFilledRow.domain false) (Rows.matchFilledSpec.post enc Try.prog Try.f6 false true false false) := by
  refine returnsInHanded_of_change_sized (C := Try.checked) own started (by kernel_rfl) Try.func6
    (ChangeSpec.witness6 (enc := enc) (C := Try.checked) false ⟨#[], #[.slice none 0 0, .slice none 0 0], []⟩ 8 (by kernel_rfl) (by kernel_rfl) (by kernel_rfl) (by kernel_rfl)) ?_
  intro W base args ds gs before hval0 hW hcnd hsz0 _
  exact core W base args ds gs before hval0 hW hsz0
theorem over : Rows.matchFilledRow.holds Try.pinned (OpenSpec.ofChange Rows.matchFilledSpec) :=
  OpenClaim.holds_of_wide 6 Try.f6 rfl rfl rfl rfl rfl rfl rfl ⟨rfl, rfl, rfl, rfl, rfl⟩ rfl rfl rfl rfl rfl (by kernel_rfl) Try.func6 (by kernel_rfl)
    (of_decide_eq_true (by kernel_rfl)) (by unfold Func.isWrapper; first | (rw [if_pos (by decide +kernel)]; kernel_rfl) | (rw [if_neg (by decide +kernel)]; exact ⟨rfl, rfl⟩))
    (fun os started H enc _ => lifted os started H enc)
theorem proved : Rows.MatchFilledSaid := over
end Go.Proofs.Ytlfhonekcmlomaa.matchFilled
namespace Go.Proofs.Ytlfhonekcmlomaa
/-- The row, under a short name, for the claim. -/
theorem matchFilled_holds : Rows.MatchFilledSaid := matchFilled.proved
#print axioms matchFilled_holds
end Go.Proofs.Ytlfhonekcmlomaa
