/- RuleChecks: the law answers true at every input that the given row speaks of. Conditions: those of the given row, none besides. (Part 5 of 5; written by programs of this session, which drive the kit's print, and by hand.) -/
import Derived.Test.YtpnamhplhdaphaaDoorRows
import Derived.Test.YtpnamhplhdaphaaDoorZRuleChecksWWords
import Derived.Deep.Slices
import Derived.SizedLaws
import Derived.ChangeSame
import Derived.ChangeArms
import Derived.KernelRfl
import Derived.Test.YtpnamhplhdaphaaDoorCards
import Derived.Test.YtpnamhplhdaphaaDoorTie
import Derived.Deep.DeepHandedRow
import Derived.Lay
import Derived.SevenTiedAt
import Derived.WalkKit
import Derived.ProofKit
import Derived.OpenShut
import Derived.ShutString
import Derived.ChangeOld
import Derived.Below
import Derived.Carry
import Derived.Test.YtpnamhplhdaphaaDoorZRuleChecks0
import Derived.Test.YtpnamhplhdaphaaDoorZRuleChecks1
import Derived.Test.YtpnamhplhdaphaaDoorZRuleChecks2
import Derived.Test.YtpnamhplhdaphaaDoorZRuleChecks3
-- ==== PF3
namespace Go.Proofs.YtpnamhplhdaphaaDoor.P
open Go.RowKit Go.Proofs.YtpnamhplhdaphaaDoorW.PrintWords Go.Proofs.YtpnamhplhdaphaaDoorW.PrintLast Go.Proofs.YtpnamhplhdaphaaDoorW.PrintMore
attribute [local go_sem] max2_int min2_int max_two min_two max_three min_three max_four min_four   -- for this text's walks alone
set_option linter.unusedVariables false
set_option linter.unusedSimpArgs false

/-! ### aumbrylaw06_RuleChecks: function 3 -/
def aumbrylaw06_RuleChecks.j0 : Nat → Bool → Int → List (S33) → List (S33) → Option (Bool)
  | 0, _, _, _, _ => none
  | k + 1, x13, x102000, x102001, x102002 => if x13 = true then (some false) else ((aumbryref06_Copy.f x102000 x102001 x102002).bind fun bt112 => ((rule_Head.f k bt112.1 bt112.2.1 bt112.2.2).bind fun t119 => ((aumbryref06_Check.f k x102000 x102001 x102002).bind fun t120 => (if t120 = 0 then ((aumbryref06_Check.f k x102000 x102001 x102002).bind fun t121 => (if t121 = 0 then (if 0 < (x102001.length : Int) then (some (t119.toList == ((rd_T33 x102001 0).f0).toList)) else (none)) else (some false))) else (if t119.toList = ([] : List UInt8) then (some true) else ((aumbryref06_Check.f k x102000 x102001 x102002).bind fun t123 => (if t123 = 0 then (if 0 < (x102001.length : Int) then (some (t119.toList == ((rd_T33 x102001 0).f0).toList)) else (none)) else (some false))))))))
def aumbrylaw06_RuleChecks.f (k : Nat) (a0_0 : Int) (l0_1 : List (S33)) (l0_2 : List (S33)) : Option (Bool) := (aumbrylaw06_wakes.f k).bind fun t102 => (if t102 = true then ((aumbryref06_Copy.f a0_0 l0_1 l0_2).bind fun bt103 => ((rule_Check.f k bt103.1 bt103.2.1 bt103.2.2).bind fun t110 => ((aumbryref06_Check.f k a0_0 l0_1 l0_2).bind fun t111 => (aumbrylaw06_RuleChecks.j0 k (t110 != t111) a0_0 l0_1 l0_2)))) else (aumbrylaw06_RuleChecks.j0 k true a0_0 l0_1 l0_2))
def aumbrylaw06_RuleChecks.T1 : Bool × List (List Nat × List Nat) := (true, [([], []), ([0], [0]), ([1, 0], [1]), ([2], [2]), ([3, 2, 2], [2, 3]), ([4, 4, 2], [2, 4]), ([2], [2]), ([6, 5, 2], [2, 6]), ([5, 7, 2], [2, 5, 7]), ([2, 8], [2, 8])])
def aumbrylaw06_RuleChecks.B1 : List Nat := [0, 1, 3, 7, 15, 31, 7, 127, 255, 511]
theorem aumbrylaw06_RuleChecks.tab1 : rtab .any (opsOf Tryd.f3 1) = aumbrylaw06_RuleChecks.T1 := by kernel_rfl
theorem aumbrylaw06_RuleChecks.bits1 : waitsOk aumbrylaw06_RuleChecks.T1.2 aumbrylaw06_RuleChecks.B1 = true := by kernel_rfl
set_option maxHeartbeats 8000000 in
set_option maxRecDepth 100000 in
theorem aumbrylaw06_RuleChecks.calls (k : Nat) (a0_0 : Int) (A0_1 : Option Addr) (c0_1 : Nat) (l0_1 : List (S33)) (A0_2 : Option Addr) (c0_2 : Nat) (l0_2 : List (S33)) (r : Bool) (w : World) (hr0_1 : Kd.C k33 w A0_1 l0_1.length l0_1) (hc0_1 : l0_1.length ≤ c0_1) (hr0_2 : Kd.C k33 w A0_2 l0_2.length l0_2) (hc0_2 : l0_2.length ≤ c0_2) (h : aumbrylaw06_RuleChecks.f k a0_0 l0_1 l0_2 = some r) :
    Calls Tryd.prog 3 #[.agg #[.int .i64 a0_0, .slice A0_1 l0_1.length c0_1, .slice A0_2 l0_2.length c0_2]] w fun e w' => e = .returned (.bool r) ∧ Below w.heap.size w w' := by
  have hu25 := Tryd.underlying25
  have HR0_1 := Aside0.mk hr0_1
  have HC0_1 := Aside0.mk hc0_1
  clear hr0_1 hc0_1
  have HR0_2 := Aside0.mk hr0_2
  have HC0_2 := Aside0.mk hc0_2
  clear hr0_2 hc0_2
  have HB := Aside0.mk (Below.refl w.heap.size w)
  have H : ((aumbrylaw06_wakes.f k).bind fun t102 => (if t102 = true then ((aumbryref06_Copy.f a0_0 l0_1 l0_2).bind fun bt103 => ((rule_Check.f k bt103.1 bt103.2.1 bt103.2.2).bind fun t110 => ((aumbryref06_Check.f k a0_0 l0_1 l0_2).bind fun t111 => (aumbrylaw06_RuleChecks.j0 k (t110 != t111) a0_0 l0_1 l0_2)))) else (aumbrylaw06_RuleChecks.j0 k true a0_0 l0_1 l0_2))) = some r := h
  clear h
  have HC2 := Aside0.mk H
  clear H
  go_enter Tryd.func3, Tryd.ntmps3
  go_upto_region 1 with (first | ((with_reducible refine gate_dst (N := 1) rfl ?_); refine box_event ?hg (N := 1) ?hd (cs := #[.int .i64 a0_0, .slice A0_1 l0_1.length c0_1, .slice A0_2 l0_2.length c0_2]) (t := 25) ?hr ?_; (case hd => rfl); (case hg => rfl); (case hr => first | (go_simp; done) | (go_simp; rfl)); intro gb101 hg w3 hbox hb; have n0_ := Aside0.mk (below_step (by repeat (first | (with_reducible first | exact HB.out | apply below_alloc | apply pw_below_drewN | apply below_drew1) | exact HB.out)) hb); have n1_ := Aside0.mk (hbox); have n2_ := Aside0.mk ((by rw [hg]; exact (below_size (by repeat (first | (with_reducible first | exact HB.out | apply below_alloc | apply pw_below_drewN | apply below_drew1) | exact HB.out))) : w.heap.size ≤ gb101)); have n3_ := Aside0.mk ((by rw [hg]; exact (below_size (by repeat (first | (with_reducible first | exact HB.out | apply below_alloc | apply pw_below_drewN | apply below_drew1) | exact HB.out))) : w.heap.size ≤ gb101)); clear HB; have HB := n0_; have BK101 := n1_; have GW101 := n2_; have GE101 := n3_; clear n0_ n1_ n2_ n3_; clear hb hbox hg))
  (try simp only [Act.put, List.setIfInBounds_toArray, List.set_cons_zero, List.set_cons_succ])
  go_cut [13] (fun v13 wc => ∃ (kq : Nat) (x13_1 : Bool), v13 = .bool x13_1 ∧ Aside0 (aumbrylaw06_RuleChecks.j0 kq x13_1 a0_0 l0_1 l0_2 = some r) ∧ Aside0 (kq ≤ k) ∧ Aside0 (wc.heap[gb101]? = some (.cells #[.int .i64 a0_0, (.slice A0_1 l0_1.length c0_1), (.slice A0_2 l0_2.length c0_2)] 25 (0, 0))) ∧ Aside0 (Below w.heap.size w wc))
  case first =>
    have H := HC2.out
    clear HC2
    replace H := Option.bind_eq_some_iff.mp H
    obtain ⟨t102, A40, H⟩ := H
    replace H : (if t102 = true then ((aumbryref06_Copy.f a0_0 l0_1 l0_2).bind fun bt103 => ((rule_Check.f k bt103.1 bt103.2.1 bt103.2.2).bind fun t110 => ((aumbryref06_Check.f k a0_0 l0_1 l0_2).bind fun t111 => (aumbrylaw06_RuleChecks.j0 k (t110 != t111) a0_0 l0_1 l0_2)))) else (aumbrylaw06_RuleChecks.j0 k true a0_0 l0_1 l0_2)) = some r := H
    have A4 := Aside0.mk A40
    clear A40
    by_cases c5 : t102 = true
    · subst c5
      have H1 : ((aumbryref06_Copy.f a0_0 l0_1 l0_2).bind fun bt103 => ((rule_Check.f k bt103.1 bt103.2.1 bt103.2.2).bind fun t110 => ((aumbryref06_Check.f k a0_0 l0_1 l0_2).bind fun t111 => (aumbrylaw06_RuleChecks.j0 k (t110 != t111) a0_0 l0_1 l0_2)))) = some r := by rw [if_pos rfl] at H; exact H
      clear H
      have H := H1
      clear H1
      replace H := Option.bind_eq_some_iff.mp H
      obtain ⟨⟨t103, t104, t107⟩, A60, H⟩ := H
      replace H : ((rule_Check.f k t103 t104 t107).bind fun t110 => ((aumbryref06_Check.f k a0_0 l0_1 l0_2).bind fun t111 => (aumbrylaw06_RuleChecks.j0 k (t110 != t111) a0_0 l0_1 l0_2))) = some r := H
      have A6 := Aside0.mk A60
      clear A60
      replace H := Option.bind_eq_some_iff.mp H
      obtain ⟨t110, A70, H⟩ := H
      replace H : ((aumbryref06_Check.f k a0_0 l0_1 l0_2).bind fun t111 => (aumbrylaw06_RuleChecks.j0 k (t110 != t111) a0_0 l0_1 l0_2)) = some r := H
      have A7 := Aside0.mk A70
      clear A70
      replace H := Option.bind_eq_some_iff.mp H
      obtain ⟨t111, A80, H⟩ := H
      replace H : (aumbrylaw06_RuleChecks.j0 k (t110 != t111) a0_0 l0_1 l0_2) = some r := H
      have A8 := Aside0.mk A80
      clear A80
      have H' := Aside0.mk H
      clear H
      try go_wp2
      have n0_ := Aside0.mk (blk_drew BK101.out)
      have n1_ := Aside0.mk (below_drew1 HB.out)
      clear BK101
      clear HB
      have BK101 := n0_
      have HB := n1_
      clear n0_ n1_
      refine start_ (n := 10) (S := fun w' => w'.cell? ⟨gb101, 0, none⟩ = some (.int .i64 a0_0) ∧ w'.cell? ⟨gb101, 1, none⟩ = some (.slice A0_1 l0_1.length c0_1) ∧ w'.cell? ⟨gb101, 2, none⟩ = some (.slice A0_2 l0_2.length c0_2)) (ds := []) #[false, false, false, false, false, false, false, false, false, false] (by kernel_rfl) rfl rfl ⟨(blk_cell BK101.out 0).trans rfl, (blk_cell BK101.out 1).trans rfl, (blk_cell BK101.out 2).trans rfl⟩ (fun hHeld => ?_); refine with_tabW aumbrylaw06_RuleChecks.tab1 aumbrylaw06_RuleChecks.bits1 (fun HT_ HW_ => ?_)
      generalize w3.drew = w9 at BK101 HB hHeld ⊢
      refine one_ (i := 0) (N := some 4) #[true, false, false, false, false, false, false, false, false, false] rfl rfl (one_of HT_.out (by kernel_rfl)) (by decide) (fun K hK => ?_)
      refine goes_ Tryd.func10 (by kernel_rfl) rfl #[] (by rfl) rfl rfl (by (try simp only [List.map_toArray, List.map_cons, List.map_nil]); first | done | rfl | (simp only [List.length_drop, List.length_take]; rfl)) ?_
      with_reducible refine (aumbrylaw06_wakes.calls k  true _ A4.out).mono ?_
      rintro e w10 ⟨rfl, hb⟩
      refine ⟨_, rfl, ?_⟩
      have n0_ := Aside0.mk (blk_below (g := gb101) (o := .cells #[.int .i64 a0_0, .slice A0_1 l0_1.length c0_1, .slice A0_2 l0_2.length c0_2] 25 (0, 0)) (by (with_reducible repeat (first | refine blk_drewN ?_ _ | refine blk_drew ?_ | refine blk_alloc ?_ _)); exact BK101.out) hb)
      have n1_ := Aside0.mk (below_step (by repeat (first | (with_reducible first | exact HB.out | apply below_alloc | apply pw_below_drewN | apply below_drew1 | refine below_set ?_ GE101.out) | exact HB.out)) hb)
      clear BK101
      clear HB
      have BK101 := n0_
      have HB := n1_
      clear n0_ n1_
      (try clear hb)
      (try clear hb2)
      (try clear hk)
      (try clear hi)
      refine hK.out _ _ ⟨(blk_cell BK101.out 0).trans rfl, (blk_cell BK101.out 1).trans rfl, (blk_cell BK101.out 2).trans rfl⟩ (fun hHeld => ?_)
      clear hK K
      refine norm_ (a' := ?_) ?_ ?_
      rotate_left
      · show Act.put _ (some 4) _ = _
        simp only [Act.put, List.setIfInBounds_toArray, List.set_cons_zero, List.set_cons_succ, i64_w, i32_w]
        rfl
      refine pure_ (i := 1) (N := some 5) (v := ?_) (a' := ?_) #[true, true, false, false, false, false, false, false, false, false] rfl rfl (any_of HT_.out (by kernel_rfl)) (fun _ _ _ h => h) (Or.inl ⟨by rfl, ?_⟩) ?_ ?_
      rotate_left
      · intro w'
        go_simp
        with_reducible rfl
      rotate_left
      · simp only [Act.put, List.setIfInBounds_toArray, List.set_cons_zero, List.set_cons_succ, i64_w, i32_w]
        rfl
      refine pure_ (i := 2) (N := some 6) (v := ?_) (a' := ?_) #[true, true, true, false, false, false, false, false, false, false] rfl rfl (any_of HT_.out (by kernel_rfl)) (fun _ _ _ h => h) (Or.inl ⟨by rfl, ?_⟩) ?_ ?_
      rotate_left
      · intro w'
        go_simp
        with_reducible rfl
      rotate_left
      · simp only [Act.put, List.setIfInBounds_toArray, List.set_cons_zero, List.set_cons_succ, i64_w, i32_w]
        rfl
      refine take_ (i := 3) (N := some 7) (v := ?_) (a' := ?_) #[true, true, true, true, false, false, false, false, false, false] rfl rfl (take_ofW HT_.out HW_.out (by kernel_rfl)) (fun _ _ _ h => h) (Or.inl ⟨by rfl, ?_⟩) hHeld ?_ ?_
      rotate_left
      · rintro w' ⟨s0, s1, s2⟩
        go_simp
        with_reducible rfl
      rotate_left
      · simp only [Act.put, List.setIfInBounds_toArray, List.set_cons_zero, List.set_cons_succ, i64_w, i32_w]
        rfl
      refine take_ (i := 6) (N := some 10) (v := ?_) (a' := ?_) #[true, true, true, true, false, false, true, false, false, false] rfl rfl (take_ofW HT_.out HW_.out (by kernel_rfl)) (fun _ _ _ h => h) (Or.inl ⟨by rfl, ?_⟩) hHeld ?_ ?_
      rotate_left
      · rintro w' ⟨s0, s1, s2⟩
        go_simp
        with_reducible rfl
      rotate_left
      · simp only [Act.put, List.setIfInBounds_toArray, List.set_cons_zero, List.set_cons_succ, i64_w, i32_w]
        rfl
      refine one_ (i := 4) (N := some 8) #[true, true, true, true, true, false, true, false, false, false] rfl rfl (one_of HT_.out (by kernel_rfl)) (by decide) (fun K hK => ?_)
      refine goes_ Tryd.func12 (by kernel_rfl) rfl #[.agg #[.int .i64 a0_0, .slice A0_1 l0_1.length c0_1, .slice A0_2 l0_2.length c0_2]] (by rfl) rfl rfl (by (try simp only [List.map_toArray, List.map_cons, List.map_nil]); first | done | rfl | (simp only [List.length_drop, List.length_take]; rfl)) ?_
      with_reducible refine (aumbryref06_Copy.calls a0_0 _ _ l0_1 _ _ l0_2 t103 t104 t107 _ ?side1 ?side2 ?side3 ?side4 A6.out).mono ?_
      (case side1 => repeat (first | exact (Kd.C_below HR0_1.out HB.out) | (with_reducible refine Kd.C_alloc ?_ _) | (with_reducible refine Kd.C_drewN ?_ _) | (with_reducible refine Kd.C_drew ?_)))
      (case side2 => exact HC0_1.out)
      (case side3 => repeat (first | exact (Kd.C_below HR0_2.out HB.out) | (with_reducible refine Kd.C_alloc ?_ _) | (with_reducible refine Kd.C_drewN ?_ _) | (with_reducible refine Kd.C_drew ?_)))
      (case side4 => exact HC0_2.out)
      rintro e w11 ⟨v105, v108, rfl, ho0, ho1, hb⟩
      refine ⟨_, rfl, ?_⟩
      have n0_ := Aside0.mk (Kd.R_lower ho0 (below_size (by repeat (first | (with_reducible first | exact HB.out | apply below_alloc | apply pw_below_drewN | apply below_drew1 | refine below_set ?_ GE101.out) | exact HB.out))))
      have n1_ := Aside0.mk (Kd.R_lower ho1 (below_size (by repeat (first | (with_reducible first | exact HB.out | apply below_alloc | apply pw_below_drewN | apply below_drew1 | refine below_set ?_ GE101.out) | exact HB.out))))
      have n2_ := Aside0.mk (blk_below (g := gb101) (o := .cells #[.int .i64 a0_0, .slice A0_1 l0_1.length c0_1, .slice A0_2 l0_2.length c0_2] 25 (0, 0)) (by (with_reducible repeat (first | refine blk_drewN ?_ _ | refine blk_drew ?_ | refine blk_alloc ?_ _)); exact BK101.out) hb)
      have n3_ := Aside0.mk (below_step (by repeat (first | (with_reducible first | exact HB.out | apply below_alloc | apply pw_below_drewN | apply below_drew1 | refine below_set ?_ GE101.out) | exact HB.out)) hb)
      clear BK101
      clear HB
      have HO106 := n0_
      have HO109 := n1_
      have BK101 := n2_
      have HB := n3_
      clear n0_ n1_ n2_ n3_
      (try clear hb)
      (try clear hb2)
      (try clear hk)
      (try clear hi)
      (try clear ho0)
      (try clear ho1)
      obtain ⟨Ao12, co12, eo12⟩ := Kd.R_slice HO106.out
      (first | subst eo12 | (injection eo12 with f1_ f2_ f3_; have f4_ := f1_.symm; have f5_ := f3_.symm; clear f1_ f2_ f3_; subst f4_; subst f5_))
      obtain ⟨Ao13, co13, eo13⟩ := Kd.R_slice HO109.out
      (first | subst eo13 | (injection eo13 with f1_ f2_ f3_; have f4_ := f1_.symm; have f5_ := f3_.symm; clear f1_ f2_ f3_; subst f4_; subst f5_))
      refine hK.out _ _ ⟨(blk_cell BK101.out 0).trans rfl, (blk_cell BK101.out 1).trans rfl, (blk_cell BK101.out 2).trans rfl⟩ (fun hHeld => ?_)
      clear hK K
      refine norm_ (a' := ?_) ?_ ?_
      rotate_left
      · show Act.put _ (some 8) _ = _
        simp only [Act.put, List.setIfInBounds_toArray, List.set_cons_zero, List.set_cons_succ, i64_w, i32_w]
        rfl
      refine one_ (i := 5) (N := some 9) #[true, true, true, true, true, true, true, false, false, false] rfl rfl (one_of HT_.out (by kernel_rfl)) (by decide) (fun K hK => ?_)
      refine goes_ Tryd.func11 (by kernel_rfl) rfl #[.agg #[.int .i64 t103, .slice Ao12 t104.length co12, .slice Ao13 t107.length co13]] (by rfl) rfl rfl (by (try simp only [List.map_toArray, List.map_cons, List.map_nil]); first | done | rfl | (simp only [List.length_drop, List.length_take]; rfl)) ?_
      with_reducible refine (rule_Check.calls k t103 _ _ t104 _ _ t107 t110 _ ?side1 ?side2 ?side3 ?side4 A7.out).mono ?_
      (case side1 => repeat (first | exact (Kd.R_reads' HO106.out).2.2 | (with_reducible refine Kd.C_alloc ?_ _) | (with_reducible refine Kd.C_drewN ?_ _) | (with_reducible refine Kd.C_drew ?_)))
      (case side2 => exact (Kd.R_reads' HO106.out).2.1)
      (case side3 => repeat (first | exact (Kd.R_reads' HO109.out).2.2 | (with_reducible refine Kd.C_alloc ?_ _) | (with_reducible refine Kd.C_drewN ?_ _) | (with_reducible refine Kd.C_drew ?_)))
      (case side4 => exact (Kd.R_reads' HO109.out).2.1)
      rintro e w14 ⟨rfl, hb⟩
      refine ⟨_, rfl, ?_⟩
      have n0_ := Aside0.mk (Kd.R_below (by (with_reducible repeat (first | apply Kd.R_alloc | apply Kd.R_drewN | apply Kd.R_drew)); exact HO106.out) hb)
      have n1_ := Aside0.mk (Kd.R_below (by (with_reducible repeat (first | apply Kd.R_alloc | apply Kd.R_drewN | apply Kd.R_drew)); exact HO109.out) hb)
      have n2_ := Aside0.mk (blk_below (g := gb101) (o := .cells #[.int .i64 a0_0, .slice A0_1 l0_1.length c0_1, .slice A0_2 l0_2.length c0_2] 25 (0, 0)) (by (with_reducible repeat (first | refine blk_drewN ?_ _ | refine blk_drew ?_ | refine blk_alloc ?_ _)); exact BK101.out) hb)
      have n3_ := Aside0.mk (below_step (by repeat (first | (with_reducible first | exact HB.out | apply below_alloc | apply pw_below_drewN | apply below_drew1 | refine below_set ?_ GE101.out) | exact HB.out)) hb)
      clear HO106
      clear HO109
      clear BK101
      clear HB
      have HO106 := n0_
      have HO109 := n1_
      have BK101 := n2_
      have HB := n3_
      clear n0_ n1_ n2_ n3_
      (try clear hb)
      (try clear hb2)
      (try clear hk)
      (try clear hi)
      refine hK.out _ _ ⟨(blk_cell BK101.out 0).trans rfl, (blk_cell BK101.out 1).trans rfl, (blk_cell BK101.out 2).trans rfl⟩ (fun hHeld => ?_)
      clear hK K
      refine norm_ (a' := ?_) ?_ ?_
      rotate_left
      · show Act.put _ (some 9) _ = _
        simp only [Act.put, List.setIfInBounds_toArray, List.set_cons_zero, List.set_cons_succ, i64_w, i32_w]
        rfl
      refine one_ (i := 7) (N := some 11) #[true, true, true, true, true, true, true, true, false, false] rfl rfl (one_of HT_.out (by kernel_rfl)) (by decide) (fun K hK => ?_)
      refine goes_ Tryd.func13 (by kernel_rfl) rfl #[.agg #[.int .i64 a0_0, .slice A0_1 l0_1.length c0_1, .slice A0_2 l0_2.length c0_2]] (by rfl) rfl rfl (by (try simp only [List.map_toArray, List.map_cons, List.map_nil]); first | done | rfl | (simp only [List.length_drop, List.length_take]; rfl)) ?_
      with_reducible refine (aumbryref06_Check.calls k a0_0 _ _ l0_1 _ _ l0_2 t111 _ ?side1 ?side2 ?side3 ?side4 A8.out).mono ?_
      (case side1 => repeat (first | exact (Kd.C_below HR0_1.out HB.out) | (with_reducible refine Kd.C_alloc ?_ _) | (with_reducible refine Kd.C_drewN ?_ _) | (with_reducible refine Kd.C_drew ?_)))
      (case side2 => exact HC0_1.out)
      (case side3 => repeat (first | exact (Kd.C_below HR0_2.out HB.out) | (with_reducible refine Kd.C_alloc ?_ _) | (with_reducible refine Kd.C_drewN ?_ _) | (with_reducible refine Kd.C_drew ?_)))
      (case side4 => exact HC0_2.out)
      rintro e w15 ⟨rfl, hb⟩
      refine ⟨_, rfl, ?_⟩
      have n0_ := Aside0.mk (Kd.R_below (by (with_reducible repeat (first | apply Kd.R_alloc | apply Kd.R_drewN | apply Kd.R_drew)); exact HO106.out) hb)
      have n1_ := Aside0.mk (Kd.R_below (by (with_reducible repeat (first | apply Kd.R_alloc | apply Kd.R_drewN | apply Kd.R_drew)); exact HO109.out) hb)
      have n2_ := Aside0.mk (blk_below (g := gb101) (o := .cells #[.int .i64 a0_0, .slice A0_1 l0_1.length c0_1, .slice A0_2 l0_2.length c0_2] 25 (0, 0)) (by (with_reducible repeat (first | refine blk_drewN ?_ _ | refine blk_drew ?_ | refine blk_alloc ?_ _)); exact BK101.out) hb)
      have n3_ := Aside0.mk (below_step (by repeat (first | (with_reducible first | exact HB.out | apply below_alloc | apply pw_below_drewN | apply below_drew1 | refine below_set ?_ GE101.out) | exact HB.out)) hb)
      clear HO106
      clear HO109
      clear BK101
      clear HB
      have HO106 := n0_
      have HO109 := n1_
      have BK101 := n2_
      have HB := n3_
      clear n0_ n1_ n2_ n3_
      (try clear hb)
      (try clear hb2)
      (try clear hk)
      (try clear hi)
      refine hK.out _ _ ⟨(blk_cell BK101.out 0).trans rfl, (blk_cell BK101.out 1).trans rfl, (blk_cell BK101.out 2).trans rfl⟩ (fun hHeld => ?_)
      clear hK K
      refine norm_ (a' := ?_) ?_ ?_
      rotate_left
      · show Act.put _ (some 11) _ = _
        simp only [Act.put, List.setIfInBounds_toArray, List.set_cons_zero, List.set_cons_succ, i64_w, i32_w]
        rfl
      refine pure_ (i := 8) (N := some 12) (v := ?_) (a' := ?_) #[true, true, true, true, true, true, true, true, true, false] rfl rfl (any_of HT_.out (by kernel_rfl)) (fun _ _ _ h => h) (Or.inl ⟨by rfl, ?_⟩) ?_ ?_
      rotate_left
      · intro w'
        go_simp
        with_reducible rfl
      rotate_left
      · simp only [Act.put, List.setIfInBounds_toArray, List.set_cons_zero, List.set_cons_succ, i64_w, i32_w]
        rfl
      refine pure_ (i := 9) (N := some 13) (v := ?_) (a' := ?_) #[true, true, true, true, true, true, true, true, true, true] rfl rfl (any_of HT_.out (by kernel_rfl)) (fun _ _ _ h => h) (Or.inl ⟨by rfl, ?_⟩) ?_ ?_
      rotate_left
      · intro w'
        go_simp
        with_reducible rfl
      rotate_left
      · simp only [Act.put, List.setIfInBounds_toArray, List.set_cons_zero, List.set_cons_succ, i64_w, i32_w]
        rfl
      refine done_ (done_of HT_.out (by kernel_rfl)) ?_
      try go_wp2
      go_meet
      case rel => exact ⟨_, ((t110 != t111)), (by first | rfl | (simp; done) | (simp [*]; done)), H', ⟨by first | omega | exact Nat.le_refl _⟩, ⟨by (with_reducible repeat (first | refine blk_drewN ?_ _ | refine blk_drew ?_ | refine blk_alloc ?_ _)); exact BK101.out⟩, ⟨by repeat (first | (with_reducible first | exact HB.out | apply below_alloc | apply pw_below_drewN | apply below_drew1 | refine below_set ?_ GE101.out) | exact HB.out)⟩⟩
    · replace c5 := Bool.eq_false_iff.mpr c5
      subst c5
      have H1 : (aumbrylaw06_RuleChecks.j0 k true a0_0 l0_1 l0_2) = some r := by rw [if_neg (show ¬ (false = true) by decide)] at H; exact H
      clear H
      have H := H1
      clear H1
      have H' := Aside0.mk H
      clear H
      try go_wp2
      have n0_ := Aside0.mk (blk_drew BK101.out)
      have n1_ := Aside0.mk (below_drew1 HB.out)
      clear BK101
      clear HB
      have BK101 := n0_
      have HB := n1_
      clear n0_ n1_
      refine start_ (n := 10) (S := fun w' => True) (ds := []) #[false, false, false, false, false, false, false, false, false, false] (by kernel_rfl) rfl rfl trivial (fun hHeld => ?_); refine with_tabW aumbrylaw06_RuleChecks.tab1 aumbrylaw06_RuleChecks.bits1 (fun HT_ HW_ => ?_)
      generalize w3.drew = w16 at BK101 HB hHeld ⊢
      refine one_ (i := 0) (N := some 4) #[true, false, false, false, false, false, false, false, false, false] rfl rfl (one_of HT_.out (by kernel_rfl)) (by decide) (fun K hK => ?_)
      refine goes_ Tryd.func10 (by kernel_rfl) rfl #[] (by rfl) rfl rfl (by (try simp only [List.map_toArray, List.map_cons, List.map_nil]); first | done | rfl | (simp only [List.length_drop, List.length_take]; rfl)) ?_
      with_reducible refine (aumbrylaw06_wakes.calls k  false _ A4.out).mono ?_
      rintro e w17 ⟨rfl, hb⟩
      refine ⟨_, rfl, ?_⟩
      have n0_ := Aside0.mk (blk_below (g := gb101) (o := .cells #[.int .i64 a0_0, .slice A0_1 l0_1.length c0_1, .slice A0_2 l0_2.length c0_2] 25 (0, 0)) (by (with_reducible repeat (first | refine blk_drewN ?_ _ | refine blk_drew ?_ | refine blk_alloc ?_ _)); exact BK101.out) hb)
      have n1_ := Aside0.mk (below_step (by repeat (first | (with_reducible first | exact HB.out | apply below_alloc | apply pw_below_drewN | apply below_drew1 | refine below_set ?_ GE101.out) | exact HB.out)) hb)
      clear BK101
      clear HB
      have BK101 := n0_
      have HB := n1_
      clear n0_ n1_
      (try clear hb)
      (try clear hb2)
      (try clear hk)
      (try clear hi)
      refine hK.out _ _ trivial (fun hHeld => ?_)
      clear hK K
      refine norm_ (a' := ?_) ?_ ?_
      rotate_left
      · show Act.put _ (some 4) _ = _
        simp only [Act.put, List.setIfInBounds_toArray, List.set_cons_zero, List.set_cons_succ, i64_w, i32_w]
        rfl
      refine pure_ (i := 1) (N := some 5) (v := ?_) (a' := ?_) #[true, true, false, false, false, false, false, false, false, false] rfl rfl (any_of HT_.out (by kernel_rfl)) (fun _ _ _ h => h) (Or.inl ⟨by rfl, ?_⟩) ?_ ?_
      rotate_left
      · intro w'
        go_simp
        with_reducible rfl
      rotate_left
      · simp only [Act.put, List.setIfInBounds_toArray, List.set_cons_zero, List.set_cons_succ, i64_w, i32_w]
        rfl
      refine pure_ (i := 2) (N := some 6) (v := ?_) (a' := ?_) #[true, true, true, false, false, false, false, false, false, false] rfl rfl (any_of HT_.out (by kernel_rfl)) (fun _ _ _ h => h) (Or.inl ⟨by rfl, ?_⟩) ?_ ?_
      rotate_left
      · intro w'
        go_simp
        with_reducible rfl
      rotate_left
      · simp only [Act.put, List.setIfInBounds_toArray, List.set_cons_zero, List.set_cons_succ, i64_w, i32_w]
        rfl
      refine pure_ (i := 3) (N := some 7) (v := undef) (a' := ?_) #[true, true, true, true, false, false, false, false, false, false] rfl rfl (any_of HT_.out (by kernel_rfl)) (fun _ _ _ h => h) (Or.inr ⟨by rfl, rfl⟩) ?_ ?_
      rotate_left
      · simp only [Act.put, List.setIfInBounds_toArray, List.set_cons_zero, List.set_cons_succ, i64_w, i32_w]
        rfl
      refine pure_ (i := 4) (N := some 8) (v := undef) (a' := ?_) #[true, true, true, true, true, false, false, false, false, false] rfl rfl (any_of HT_.out (by kernel_rfl)) (fun _ _ _ h => h) (Or.inr ⟨by rfl, rfl⟩) ?_ ?_
      rotate_left
      · simp only [Act.put, List.setIfInBounds_toArray, List.set_cons_zero, List.set_cons_succ, i64_w, i32_w]
        rfl
      refine pure_ (i := 5) (N := some 9) (v := undef) (a' := ?_) #[true, true, true, true, true, true, false, false, false, false] rfl rfl (any_of HT_.out (by kernel_rfl)) (fun _ _ _ h => h) (Or.inr ⟨by rfl, rfl⟩) ?_ ?_
      rotate_left
      · simp only [Act.put, List.setIfInBounds_toArray, List.set_cons_zero, List.set_cons_succ, i64_w, i32_w]
        rfl
      refine pure_ (i := 6) (N := some 10) (v := undef) (a' := ?_) #[true, true, true, true, true, true, true, false, false, false] rfl rfl (any_of HT_.out (by kernel_rfl)) (fun _ _ _ h => h) (Or.inr ⟨by rfl, rfl⟩) ?_ ?_
      rotate_left
      · simp only [Act.put, List.setIfInBounds_toArray, List.set_cons_zero, List.set_cons_succ, i64_w, i32_w]
        rfl
      refine pure_ (i := 7) (N := some 11) (v := undef) (a' := ?_) #[true, true, true, true, true, true, true, true, false, false] rfl rfl (any_of HT_.out (by kernel_rfl)) (fun _ _ _ h => h) (Or.inr ⟨by rfl, rfl⟩) ?_ ?_
      rotate_left
      · simp only [Act.put, List.setIfInBounds_toArray, List.set_cons_zero, List.set_cons_succ, i64_w, i32_w]
        rfl
      refine pure_ (i := 8) (N := some 12) (v := undef) (a' := ?_) #[true, true, true, true, true, true, true, true, true, false] rfl rfl (any_of HT_.out (by kernel_rfl)) (fun _ _ _ h => h) (Or.inr ⟨by rfl, rfl⟩) ?_ ?_
      rotate_left
      · simp only [Act.put, List.setIfInBounds_toArray, List.set_cons_zero, List.set_cons_succ, i64_w, i32_w]
        rfl
      refine pure_ (i := 9) (N := some 13) (v := ?_) (a' := ?_) #[true, true, true, true, true, true, true, true, true, true] rfl rfl (any_of HT_.out (by kernel_rfl)) (fun _ _ _ h => h) (Or.inl ⟨by rfl, ?_⟩) ?_ ?_
      rotate_left
      · intro w'
        go_simp
        with_reducible rfl
      rotate_left
      · simp only [Act.put, List.setIfInBounds_toArray, List.set_cons_zero, List.set_cons_succ, i64_w, i32_w]
        rfl
      refine done_ (done_of HT_.out (by kernel_rfl)) ?_
      try go_wp2
      go_meet
      case rel => exact ⟨_, (true), (by first | rfl | (simp; done) | (simp [*]; done)), H', ⟨by first | omega | exact Nat.le_refl _⟩, ⟨by (with_reducible repeat (first | refine blk_drewN ?_ _ | refine blk_drew ?_ | refine blk_alloc ?_ _)); exact BK101.out⟩, ⟨by repeat (first | (with_reducible first | exact HB.out | apply below_alloc | apply pw_below_drewN | apply below_drew1 | refine below_set ?_ GE101.out) | exact HB.out)⟩⟩
  case rest =>
    clear HC2
    try clear c1
    try clear p2
    try clear c3
    try clear c5
    try clear c10
    try clear c11
    try clear c12
    try clear c13
    obtain ⟨kq, x13_1, rfl, HA, HJ1, BK101, HB⟩ := hcut
    cases kq with
    | zero => exact absurd HA.out (by simp [aumbrylaw06_RuleChecks.j0])
    | succ kj1 =>
      have H := HA.out
      clear HA
      simp only [aumbrylaw06_RuleChecks.j0] at H
      by_cases c18 : x13_1 = true
      · subst c18
        have H1 : (some false) = some r := by rw [if_pos rfl] at H; exact H
        clear H
        have H := H1
        clear H1
        obtain rfl := Option.some.inj H
        go_wp2
        go_ret
        exact ⟨by first | rfl | (simp [errW_none, errW_some] <;> rfl) | (simp [*, errW_none, errW_some] <;> rfl), by repeat (first | (with_reducible first | exact HB.out | apply below_alloc | apply pw_below_drewN | apply below_drew1 | refine below_set ?_ GE101.out) | exact HB.out)⟩
      · replace c18 := Bool.eq_false_iff.mpr c18
        subst c18
        have H1 : ((aumbryref06_Copy.f a0_0 l0_1 l0_2).bind fun bt112 => ((rule_Head.f kj1 bt112.1 bt112.2.1 bt112.2.2).bind fun t119 => ((aumbryref06_Check.f kj1 a0_0 l0_1 l0_2).bind fun t120 => (if t120 = 0 then ((aumbryref06_Check.f kj1 a0_0 l0_1 l0_2).bind fun t121 => (if t121 = 0 then (if 0 < (l0_1.length : Int) then (some (t119.toList == ((rd_T33 l0_1 0).f0).toList)) else (none)) else (some false))) else (if t119.toList = ([] : List UInt8) then (some true) else ((aumbryref06_Check.f kj1 a0_0 l0_1 l0_2).bind fun t123 => (if t123 = 0 then (if 0 < (l0_1.length : Int) then (some (t119.toList == ((rd_T33 l0_1 0).f0).toList)) else (none)) else (some false)))))))) = some r := by rw [if_neg (show ¬ (false = true) by decide)] at H; exact H
        clear H
        have H := H1
        clear H1
        replace H := Option.bind_eq_some_iff.mp H
        obtain ⟨⟨t112, t113, t116⟩, A190, H⟩ := H
        replace H : ((rule_Head.f kj1 t112 t113 t116).bind fun t119 => ((aumbryref06_Check.f kj1 a0_0 l0_1 l0_2).bind fun t120 => (if t120 = 0 then ((aumbryref06_Check.f kj1 a0_0 l0_1 l0_2).bind fun t121 => (if t121 = 0 then (if 0 < (l0_1.length : Int) then (some (t119.toList == ((rd_T33 l0_1 0).f0).toList)) else (none)) else (some false))) else (if t119.toList = ([] : List UInt8) then (some true) else ((aumbryref06_Check.f kj1 a0_0 l0_1 l0_2).bind fun t123 => (if t123 = 0 then (if 0 < (l0_1.length : Int) then (some (t119.toList == ((rd_T33 l0_1 0).f0).toList)) else (none)) else (some false))))))) = some r := H
        have A19 := Aside0.mk A190
        clear A190
        replace H := Option.bind_eq_some_iff.mp H
        obtain ⟨t119, A200, H⟩ := H
        replace H : ((aumbryref06_Check.f kj1 a0_0 l0_1 l0_2).bind fun t120 => (if t120 = 0 then ((aumbryref06_Check.f kj1 a0_0 l0_1 l0_2).bind fun t121 => (if t121 = 0 then (if 0 < (l0_1.length : Int) then (some (t119.toList == ((rd_T33 l0_1 0).f0).toList)) else (none)) else (some false))) else (if t119.toList = ([] : List UInt8) then (some true) else ((aumbryref06_Check.f kj1 a0_0 l0_1 l0_2).bind fun t123 => (if t123 = 0 then (if 0 < (l0_1.length : Int) then (some (t119.toList == ((rd_T33 l0_1 0).f0).toList)) else (none)) else (some false)))))) = some r := H
        have A20 := Aside0.mk A200
        clear A200
        replace H := Option.bind_eq_some_iff.mp H
        obtain ⟨t120, A210, H⟩ := H
        replace H : (if t120 = 0 then ((aumbryref06_Check.f kj1 a0_0 l0_1 l0_2).bind fun t121 => (if t121 = 0 then (if 0 < (l0_1.length : Int) then (some (t119.toList == ((rd_T33 l0_1 0).f0).toList)) else (none)) else (some false))) else (if t119.toList = ([] : List UInt8) then (some true) else ((aumbryref06_Check.f kj1 a0_0 l0_1 l0_2).bind fun t123 => (if t123 = 0 then (if 0 < (l0_1.length : Int) then (some (t119.toList == ((rd_T33 l0_1 0).f0).toList)) else (none)) else (some false))))) = some r := H
        have A21 := Aside0.mk A210
        clear A210
        by_cases c22 : t120 = 0
        · rw [if_pos c22] at H
          have c22b0 : (t120 == 0) = true := beq_iff_eq.mpr c22
          have c22b1 : (t120 != 0) = false := bne_eq_false_iff_eq.mpr c22
          clear c22
          replace H := Option.bind_eq_some_iff.mp H
          obtain ⟨t121, A230, H⟩ := H
          replace H : (if t121 = 0 then (if 0 < (l0_1.length : Int) then (some (t119.toList == ((rd_T33 l0_1 0).f0).toList)) else (none)) else (some false)) = some r := H
          have A23 := Aside0.mk A230
          clear A230
          by_cases c24 : t121 = 0
          · rw [if_pos c24] at H
            have c24b0 : (t121 == 0) = true := beq_iff_eq.mpr c24
            have c24b1 : (t121 != 0) = false := bne_eq_false_iff_eq.mpr c24
            clear c24
            by_cases c25 : 0 < (l0_1.length : Int)
            · rw [if_pos c25] at H
              have c25b0 : decide (0 < (l0_1.length : Int)) = true := decide_eq_true c25
              have c25b1 : decide (0 < l0_1.length) = true := decide_eq_true (by omega)
              clear c25
              obtain rfl := Option.some.inj H
              have hcz26_0 : wc.cell? ⟨gb101, 0, none⟩ = some (.int .i64 a0_0) := (blk_cell BK101.out 0).trans rfl
              have hcz26_1 : wc.cell? ⟨gb101, 1, none⟩ = some (.slice A0_1 l0_1.length c0_1) := (blk_cell BK101.out 1).trans rfl
              have hcz26_2 : wc.cell? ⟨gb101, 2, none⟩ = some (.slice A0_2 l0_2.length c0_2) := (blk_cell BK101.out 2).trans rfl
              have hfz26_0 := blk_frozen BK101.out 0
              have hfz26_1 := blk_frozen BK101.out 1
              have hfz26_2 := blk_frozen BK101.out 2
              go_wp2_with (first | ((with_reducible refine gate_callee (f := 12) rfl ?_); refine goesL_ (some 15) rfl rfl Tryd.func12 (by kernel_rfl) rfl #[.agg #[.int .i64 a0_0, .slice A0_1 l0_1.length c0_1, .slice A0_2 l0_2.length c0_2]] rfl (by (try simp only [List.map_toArray, List.map_cons, List.map_nil]); first | done | rfl | (simp only [List.length_drop, List.length_take]; rfl)) ?_; (with_reducible refine (aumbryref06_Copy.calls a0_0 _ _ l0_1 _ _ l0_2 t112 t113 t116 _ ?side1 ?side2 ?side3 ?side4 A19.out).mono ?_); (case side1 => repeat (first | exact (Kd.C_below HR0_1.out HB.out) | (with_reducible refine Kd.C_alloc ?_ _) | (with_reducible refine Kd.C_drewN ?_ _) | (with_reducible refine Kd.C_drew ?_))); (case side2 => exact HC0_1.out); (case side3 => repeat (first | exact (Kd.C_below HR0_2.out HB.out) | (with_reducible refine Kd.C_alloc ?_ _) | (with_reducible refine Kd.C_drewN ?_ _) | (with_reducible refine Kd.C_drew ?_))); (case side4 => exact HC0_2.out); rintro e w27 ⟨v114, v117, rfl, ho0, ho1, hb⟩; refine ⟨_, rfl, ?_⟩; have n0_ := Aside0.mk (Kd.R_lower ho0 (below_size (by repeat (first | (with_reducible first | exact HB.out | apply below_alloc | apply pw_below_drewN | apply below_drew1 | refine below_set ?_ GE101.out) | exact HB.out)))); have n1_ := Aside0.mk (Kd.R_lower ho1 (below_size (by repeat (first | (with_reducible first | exact HB.out | apply below_alloc | apply pw_below_drewN | apply below_drew1 | refine below_set ?_ GE101.out) | exact HB.out)))); have n2_ := Aside0.mk (blk_below (g := gb101) (o := .cells #[.int .i64 a0_0, .slice A0_1 l0_1.length c0_1, .slice A0_2 l0_2.length c0_2] 25 (0, 0)) (by (with_reducible repeat (first | refine blk_drewN ?_ _ | refine blk_drew ?_ | refine blk_alloc ?_ _)); exact BK101.out) hb); have n3_ := Aside0.mk (below_step (by repeat (first | (with_reducible first | exact HB.out | apply below_alloc | apply pw_below_drewN | apply below_drew1 | refine below_set ?_ GE101.out) | exact HB.out)) hb); clear BK101; clear HB; have HO115 := n0_; have HO118 := n1_; have BK101 := n2_; have HB := n3_; clear n0_ n1_ n2_ n3_; (try clear hb); (try clear hb2); (try clear hk); (try clear hi); (try clear ho0); (try clear ho1); obtain ⟨Ao28, co28, eo28⟩ := Kd.R_slice HO115.out; subst eo28; obtain ⟨Ao29, co29, eo29⟩ := Kd.R_slice HO118.out; subst eo29) | ((with_reducible refine gate_callee (f := 14) rfl ?_); refine goesL_ (some 16) rfl rfl Tryd.func14 (by kernel_rfl) rfl #[.agg #[.int .i64 t112, .slice Ao28 t113.length co28, .slice Ao29 t116.length co29]] rfl (by (try simp only [List.map_toArray, List.map_cons, List.map_nil]); first | done | rfl | (simp only [List.length_drop, List.length_take]; rfl)) ?_; (with_reducible refine (rule_Head.calls kj1 t112 _ _ t113 _ _ t116 t119 _ ?side1 ?side2 ?side3 ?side4 A20.out).mono ?_); (case side1 => repeat (first | exact (Kd.R_reads' HO115.out).2.2 | (with_reducible refine Kd.C_alloc ?_ _) | (with_reducible refine Kd.C_drewN ?_ _) | (with_reducible refine Kd.C_drew ?_))); (case side2 => exact (Kd.R_reads' HO115.out).2.1); (case side3 => repeat (first | exact (Kd.R_reads' HO118.out).2.2 | (with_reducible refine Kd.C_alloc ?_ _) | (with_reducible refine Kd.C_drewN ?_ _) | (with_reducible refine Kd.C_drew ?_))); (case side4 => exact (Kd.R_reads' HO118.out).2.1); rintro e w30 ⟨rfl, hb⟩; refine ⟨_, rfl, ?_⟩; have n0_ := Aside0.mk (Kd.R_below (by (with_reducible repeat (first | apply Kd.R_alloc | apply Kd.R_drewN | apply Kd.R_drew)); exact HO115.out) hb); have n1_ := Aside0.mk (Kd.R_below (by (with_reducible repeat (first | apply Kd.R_alloc | apply Kd.R_drewN | apply Kd.R_drew)); exact HO118.out) hb); have n2_ := Aside0.mk (blk_below (g := gb101) (o := .cells #[.int .i64 a0_0, .slice A0_1 l0_1.length c0_1, .slice A0_2 l0_2.length c0_2] 25 (0, 0)) (by (with_reducible repeat (first | refine blk_drewN ?_ _ | refine blk_drew ?_ | refine blk_alloc ?_ _)); exact BK101.out) hb); have n3_ := Aside0.mk (below_step (by repeat (first | (with_reducible first | exact HB.out | apply below_alloc | apply pw_below_drewN | apply below_drew1 | refine below_set ?_ GE101.out) | exact HB.out)) hb); clear HO115; clear HO118; clear BK101; clear HB; have HO115 := n0_; have HO118 := n1_; have BK101 := n2_; have HB := n3_; clear n0_ n1_ n2_ n3_; (try clear hb); (try clear hb2); (try clear hk); (try clear hi); have hcz31_0 : w30.cell? ⟨gb101, 0, none⟩ = some (.int .i64 a0_0) := (blk_cell BK101.out 0).trans rfl; have hcz31_1 : w30.cell? ⟨gb101, 1, none⟩ = some (.slice A0_1 l0_1.length c0_1) := (blk_cell BK101.out 1).trans rfl; have hcz31_2 : w30.cell? ⟨gb101, 2, none⟩ = some (.slice A0_2 l0_2.length c0_2) := (blk_cell BK101.out 2).trans rfl; have hfz31_0 := blk_frozen BK101.out 0; have hfz31_1 := blk_frozen BK101.out 1; have hfz31_2 := blk_frozen BK101.out 2) | ((with_reducible refine gate_callee (f := 13) rfl ?_); refine goesL_ (some 18) rfl rfl Tryd.func13 (by kernel_rfl) rfl #[.agg #[.int .i64 a0_0, .slice A0_1 l0_1.length c0_1, .slice A0_2 l0_2.length c0_2]] rfl (by (try simp only [List.map_toArray, List.map_cons, List.map_nil]); first | done | rfl | (simp only [List.length_drop, List.length_take]; rfl)) ?_; (with_reducible refine (aumbryref06_Check.calls kj1 a0_0 _ _ l0_1 _ _ l0_2 t120 _ ?side1 ?side2 ?side3 ?side4 A21.out).mono ?_); (case side1 => repeat (first | exact (Kd.C_below HR0_1.out HB.out) | (with_reducible refine Kd.C_alloc ?_ _) | (with_reducible refine Kd.C_drewN ?_ _) | (with_reducible refine Kd.C_drew ?_))); (case side2 => exact HC0_1.out); (case side3 => repeat (first | exact (Kd.C_below HR0_2.out HB.out) | (with_reducible refine Kd.C_alloc ?_ _) | (with_reducible refine Kd.C_drewN ?_ _) | (with_reducible refine Kd.C_drew ?_))); (case side4 => exact HC0_2.out); rintro e w32 ⟨rfl, hb⟩; refine ⟨_, rfl, ?_⟩; have n0_ := Aside0.mk (Kd.R_below (by (with_reducible repeat (first | apply Kd.R_alloc | apply Kd.R_drewN | apply Kd.R_drew)); exact HO115.out) hb); have n1_ := Aside0.mk (Kd.R_below (by (with_reducible repeat (first | apply Kd.R_alloc | apply Kd.R_drewN | apply Kd.R_drew)); exact HO118.out) hb); have n2_ := Aside0.mk (blk_below (g := gb101) (o := .cells #[.int .i64 a0_0, .slice A0_1 l0_1.length c0_1, .slice A0_2 l0_2.length c0_2] 25 (0, 0)) (by (with_reducible repeat (first | refine blk_drewN ?_ _ | refine blk_drew ?_ | refine blk_alloc ?_ _)); exact BK101.out) hb); have n3_ := Aside0.mk (below_step (by repeat (first | (with_reducible first | exact HB.out | apply below_alloc | apply pw_below_drewN | apply below_drew1 | refine below_set ?_ GE101.out) | exact HB.out)) hb); clear HO115; clear HO118; clear BK101; clear HB; have HO115 := n0_; have HO118 := n1_; have BK101 := n2_; have HB := n3_; clear n0_ n1_ n2_ n3_; (try clear hb); (try clear hb2); (try clear hk); (try clear hi); have hcz33_0 : w32.cell? ⟨gb101, 0, none⟩ = some (.int .i64 a0_0) := (blk_cell BK101.out 0).trans rfl; have hcz33_1 : w32.cell? ⟨gb101, 1, none⟩ = some (.slice A0_1 l0_1.length c0_1) := (blk_cell BK101.out 1).trans rfl; have hcz33_2 : w32.cell? ⟨gb101, 2, none⟩ = some (.slice A0_2 l0_2.length c0_2) := (blk_cell BK101.out 2).trans rfl; have hfz33_0 := blk_frozen BK101.out 0; have hfz33_1 := blk_frozen BK101.out 1; have hfz33_2 := blk_frozen BK101.out 2) | (go_at_call 13; (with_reducible refine (aumbryref06_Check.calls kj1 a0_0 _ _ l0_1 _ _ l0_2 t121 _ ?side1 ?side2 ?side3 ?side4 A23.out).mono ?_); (case side1 => repeat (first | exact (Kd.C_below HR0_1.out HB.out) | (with_reducible refine Kd.C_alloc ?_ _) | (with_reducible refine Kd.C_drewN ?_ _) | (with_reducible refine Kd.C_drew ?_))); (case side2 => exact HC0_1.out); (case side3 => repeat (first | exact (Kd.C_below HR0_2.out HB.out) | (with_reducible refine Kd.C_alloc ?_ _) | (with_reducible refine Kd.C_drewN ?_ _) | (with_reducible refine Kd.C_drew ?_))); (case side4 => exact HC0_2.out); rintro e w34 ⟨rfl, hb⟩; have n0_ := Aside0.mk (Kd.R_below (by (with_reducible repeat (first | apply Kd.R_alloc | apply Kd.R_drewN | apply Kd.R_drew)); exact HO115.out) hb); have n1_ := Aside0.mk (Kd.R_below (by (with_reducible repeat (first | apply Kd.R_alloc | apply Kd.R_drewN | apply Kd.R_drew)); exact HO118.out) hb); have n2_ := Aside0.mk (blk_below (g := gb101) (o := .cells #[.int .i64 a0_0, .slice A0_1 l0_1.length c0_1, .slice A0_2 l0_2.length c0_2] 25 (0, 0)) (by (with_reducible repeat (first | refine blk_drewN ?_ _ | refine blk_drew ?_ | refine blk_alloc ?_ _)); exact BK101.out) hb); have n3_ := Aside0.mk (below_step (by repeat (first | (with_reducible first | exact HB.out | apply below_alloc | apply pw_below_drewN | apply below_drew1 | refine below_set ?_ GE101.out) | exact HB.out)) hb); clear HO115; clear HO118; clear BK101; clear HB; have HO115 := n0_; have HO118 := n1_; have BK101 := n2_; have HB := n3_; clear n0_ n1_ n2_ n3_; (try clear hb); (try clear hb2); (try clear hk); (try clear hi); have hcz35_0 : w34.cell? ⟨gb101, 0, none⟩ = some (.int .i64 a0_0) := (blk_cell BK101.out 0).trans rfl; have hcz35_1 : w34.cell? ⟨gb101, 1, none⟩ = some (.slice A0_1 l0_1.length c0_1) := (blk_cell BK101.out 1).trans rfl; have hcz35_2 : w34.cell? ⟨gb101, 2, none⟩ = some (.slice A0_2 l0_2.length c0_2) := (blk_cell BK101.out 2).trans rfl; have hfz35_0 := blk_frozen BK101.out 0; have hfz35_1 := blk_frozen BK101.out 1; have hfz35_2 := blk_frozen BK101.out 2; have p122 : 0 ≤ (0 : Int) := (by omega); have q122 : 0 < (l0_1.length : Int) := of_decide_eq_true (by first | (with_reducible assumption) | assumption); obtain ⟨ad122, e122, hx122_0, hx122_1⟩ := at_T33 HR0_1.out 0 p122 q122; cases e122; have qi122 : (0 < l0_1.length) = True := eq_true (by omega); (try rw [show ((0 : Int)).toNat = 0 from rfl] at hx122_0); (try rw [show 0 * 2 = 0 from rfl] at hx122_0); (try rw [Addr.add_zero'] at hx122_0); (try rw [show ((0 : Int)).toNat = 0 from rfl] at hx122_1); (try rw [show 0 * 2 = 0 from rfl] at hx122_1); (try rw [Addr.add_zero'] at hx122_1); replace hx122_0 := (HB.out.cell (World.block_lt_of_cell? w _ hx122_0)).trans hx122_0; replace hx122_1 := (HB.out.cell (World.block_lt_of_cell? w _ hx122_1)).trans hx122_1; replace p122 := eq_true p122; replace q122 := eq_true q122))
              go_ret
              exact ⟨by first | rfl | (simp [errW_none, errW_some] <;> rfl) | (simp [*, errW_none, errW_some] <;> rfl), by repeat (first | (with_reducible first | exact HB.out | apply below_alloc | apply pw_below_drewN | apply below_drew1 | refine below_set ?_ GE101.out) | exact HB.out)⟩
            · rw [if_neg c25] at H
              exact absurd H (by simp)
          · rw [if_neg c24] at H
            have c24b0 : (t121 == 0) = false := beq_eq_false_iff_ne.mpr c24
            have c24b1 : (t121 != 0) = true := bne_iff_ne.mpr c24
            obtain rfl := Option.some.inj H
            have hcz36_0 : wc.cell? ⟨gb101, 0, none⟩ = some (.int .i64 a0_0) := (blk_cell BK101.out 0).trans rfl
            have hcz36_1 : wc.cell? ⟨gb101, 1, none⟩ = some (.slice A0_1 l0_1.length c0_1) := (blk_cell BK101.out 1).trans rfl
            have hcz36_2 : wc.cell? ⟨gb101, 2, none⟩ = some (.slice A0_2 l0_2.length c0_2) := (blk_cell BK101.out 2).trans rfl
            have hfz36_0 := blk_frozen BK101.out 0
            have hfz36_1 := blk_frozen BK101.out 1
            have hfz36_2 := blk_frozen BK101.out 2
            go_wp2_with (first | ((with_reducible refine gate_callee (f := 12) rfl ?_); refine goesL_ (some 15) rfl rfl Tryd.func12 (by kernel_rfl) rfl #[.agg #[.int .i64 a0_0, .slice A0_1 l0_1.length c0_1, .slice A0_2 l0_2.length c0_2]] rfl (by (try simp only [List.map_toArray, List.map_cons, List.map_nil]); first | done | rfl | (simp only [List.length_drop, List.length_take]; rfl)) ?_; (with_reducible refine (aumbryref06_Copy.calls a0_0 _ _ l0_1 _ _ l0_2 t112 t113 t116 _ ?side1 ?side2 ?side3 ?side4 A19.out).mono ?_); (case side1 => repeat (first | exact (Kd.C_below HR0_1.out HB.out) | (with_reducible refine Kd.C_alloc ?_ _) | (with_reducible refine Kd.C_drewN ?_ _) | (with_reducible refine Kd.C_drew ?_))); (case side2 => exact HC0_1.out); (case side3 => repeat (first | exact (Kd.C_below HR0_2.out HB.out) | (with_reducible refine Kd.C_alloc ?_ _) | (with_reducible refine Kd.C_drewN ?_ _) | (with_reducible refine Kd.C_drew ?_))); (case side4 => exact HC0_2.out); rintro e w37 ⟨v114, v117, rfl, ho0, ho1, hb⟩; refine ⟨_, rfl, ?_⟩; have n0_ := Aside0.mk (Kd.R_lower ho0 (below_size (by repeat (first | (with_reducible first | exact HB.out | apply below_alloc | apply pw_below_drewN | apply below_drew1 | refine below_set ?_ GE101.out) | exact HB.out)))); have n1_ := Aside0.mk (Kd.R_lower ho1 (below_size (by repeat (first | (with_reducible first | exact HB.out | apply below_alloc | apply pw_below_drewN | apply below_drew1 | refine below_set ?_ GE101.out) | exact HB.out)))); have n2_ := Aside0.mk (blk_below (g := gb101) (o := .cells #[.int .i64 a0_0, .slice A0_1 l0_1.length c0_1, .slice A0_2 l0_2.length c0_2] 25 (0, 0)) (by (with_reducible repeat (first | refine blk_drewN ?_ _ | refine blk_drew ?_ | refine blk_alloc ?_ _)); exact BK101.out) hb); have n3_ := Aside0.mk (below_step (by repeat (first | (with_reducible first | exact HB.out | apply below_alloc | apply pw_below_drewN | apply below_drew1 | refine below_set ?_ GE101.out) | exact HB.out)) hb); clear BK101; clear HB; have HO115 := n0_; have HO118 := n1_; have BK101 := n2_; have HB := n3_; clear n0_ n1_ n2_ n3_; (try clear hb); (try clear hb2); (try clear hk); (try clear hi); (try clear ho0); (try clear ho1); obtain ⟨Ao38, co38, eo38⟩ := Kd.R_slice HO115.out; subst eo38; obtain ⟨Ao39, co39, eo39⟩ := Kd.R_slice HO118.out; subst eo39) | ((with_reducible refine gate_callee (f := 14) rfl ?_); refine goesL_ (some 16) rfl rfl Tryd.func14 (by kernel_rfl) rfl #[.agg #[.int .i64 t112, .slice Ao38 t113.length co38, .slice Ao39 t116.length co39]] rfl (by (try simp only [List.map_toArray, List.map_cons, List.map_nil]); first | done | rfl | (simp only [List.length_drop, List.length_take]; rfl)) ?_; (with_reducible refine (rule_Head.calls kj1 t112 _ _ t113 _ _ t116 t119 _ ?side1 ?side2 ?side3 ?side4 A20.out).mono ?_); (case side1 => repeat (first | exact (Kd.R_reads' HO115.out).2.2 | (with_reducible refine Kd.C_alloc ?_ _) | (with_reducible refine Kd.C_drewN ?_ _) | (with_reducible refine Kd.C_drew ?_))); (case side2 => exact (Kd.R_reads' HO115.out).2.1); (case side3 => repeat (first | exact (Kd.R_reads' HO118.out).2.2 | (with_reducible refine Kd.C_alloc ?_ _) | (with_reducible refine Kd.C_drewN ?_ _) | (with_reducible refine Kd.C_drew ?_))); (case side4 => exact (Kd.R_reads' HO118.out).2.1); rintro e w40 ⟨rfl, hb⟩; refine ⟨_, rfl, ?_⟩; have n0_ := Aside0.mk (Kd.R_below (by (with_reducible repeat (first | apply Kd.R_alloc | apply Kd.R_drewN | apply Kd.R_drew)); exact HO115.out) hb); have n1_ := Aside0.mk (Kd.R_below (by (with_reducible repeat (first | apply Kd.R_alloc | apply Kd.R_drewN | apply Kd.R_drew)); exact HO118.out) hb); have n2_ := Aside0.mk (blk_below (g := gb101) (o := .cells #[.int .i64 a0_0, .slice A0_1 l0_1.length c0_1, .slice A0_2 l0_2.length c0_2] 25 (0, 0)) (by (with_reducible repeat (first | refine blk_drewN ?_ _ | refine blk_drew ?_ | refine blk_alloc ?_ _)); exact BK101.out) hb); have n3_ := Aside0.mk (below_step (by repeat (first | (with_reducible first | exact HB.out | apply below_alloc | apply pw_below_drewN | apply below_drew1 | refine below_set ?_ GE101.out) | exact HB.out)) hb); clear HO115; clear HO118; clear BK101; clear HB; have HO115 := n0_; have HO118 := n1_; have BK101 := n2_; have HB := n3_; clear n0_ n1_ n2_ n3_; (try clear hb); (try clear hb2); (try clear hk); (try clear hi); have hcz41_0 : w40.cell? ⟨gb101, 0, none⟩ = some (.int .i64 a0_0) := (blk_cell BK101.out 0).trans rfl; have hcz41_1 : w40.cell? ⟨gb101, 1, none⟩ = some (.slice A0_1 l0_1.length c0_1) := (blk_cell BK101.out 1).trans rfl; have hcz41_2 : w40.cell? ⟨gb101, 2, none⟩ = some (.slice A0_2 l0_2.length c0_2) := (blk_cell BK101.out 2).trans rfl; have hfz41_0 := blk_frozen BK101.out 0; have hfz41_1 := blk_frozen BK101.out 1; have hfz41_2 := blk_frozen BK101.out 2) | ((with_reducible refine gate_callee (f := 13) rfl ?_); refine goesL_ (some 18) rfl rfl Tryd.func13 (by kernel_rfl) rfl #[.agg #[.int .i64 a0_0, .slice A0_1 l0_1.length c0_1, .slice A0_2 l0_2.length c0_2]] rfl (by (try simp only [List.map_toArray, List.map_cons, List.map_nil]); first | done | rfl | (simp only [List.length_drop, List.length_take]; rfl)) ?_; (with_reducible refine (aumbryref06_Check.calls kj1 a0_0 _ _ l0_1 _ _ l0_2 t120 _ ?side1 ?side2 ?side3 ?side4 A21.out).mono ?_); (case side1 => repeat (first | exact (Kd.C_below HR0_1.out HB.out) | (with_reducible refine Kd.C_alloc ?_ _) | (with_reducible refine Kd.C_drewN ?_ _) | (with_reducible refine Kd.C_drew ?_))); (case side2 => exact HC0_1.out); (case side3 => repeat (first | exact (Kd.C_below HR0_2.out HB.out) | (with_reducible refine Kd.C_alloc ?_ _) | (with_reducible refine Kd.C_drewN ?_ _) | (with_reducible refine Kd.C_drew ?_))); (case side4 => exact HC0_2.out); rintro e w42 ⟨rfl, hb⟩; refine ⟨_, rfl, ?_⟩; have n0_ := Aside0.mk (Kd.R_below (by (with_reducible repeat (first | apply Kd.R_alloc | apply Kd.R_drewN | apply Kd.R_drew)); exact HO115.out) hb); have n1_ := Aside0.mk (Kd.R_below (by (with_reducible repeat (first | apply Kd.R_alloc | apply Kd.R_drewN | apply Kd.R_drew)); exact HO118.out) hb); have n2_ := Aside0.mk (blk_below (g := gb101) (o := .cells #[.int .i64 a0_0, .slice A0_1 l0_1.length c0_1, .slice A0_2 l0_2.length c0_2] 25 (0, 0)) (by (with_reducible repeat (first | refine blk_drewN ?_ _ | refine blk_drew ?_ | refine blk_alloc ?_ _)); exact BK101.out) hb); have n3_ := Aside0.mk (below_step (by repeat (first | (with_reducible first | exact HB.out | apply below_alloc | apply pw_below_drewN | apply below_drew1 | refine below_set ?_ GE101.out) | exact HB.out)) hb); clear HO115; clear HO118; clear BK101; clear HB; have HO115 := n0_; have HO118 := n1_; have BK101 := n2_; have HB := n3_; clear n0_ n1_ n2_ n3_; (try clear hb); (try clear hb2); (try clear hk); (try clear hi); have hcz43_0 : w42.cell? ⟨gb101, 0, none⟩ = some (.int .i64 a0_0) := (blk_cell BK101.out 0).trans rfl; have hcz43_1 : w42.cell? ⟨gb101, 1, none⟩ = some (.slice A0_1 l0_1.length c0_1) := (blk_cell BK101.out 1).trans rfl; have hcz43_2 : w42.cell? ⟨gb101, 2, none⟩ = some (.slice A0_2 l0_2.length c0_2) := (blk_cell BK101.out 2).trans rfl; have hfz43_0 := blk_frozen BK101.out 0; have hfz43_1 := blk_frozen BK101.out 1; have hfz43_2 := blk_frozen BK101.out 2) | (go_at_call 13; (with_reducible refine (aumbryref06_Check.calls kj1 a0_0 _ _ l0_1 _ _ l0_2 t121 _ ?side1 ?side2 ?side3 ?side4 A23.out).mono ?_); (case side1 => repeat (first | exact (Kd.C_below HR0_1.out HB.out) | (with_reducible refine Kd.C_alloc ?_ _) | (with_reducible refine Kd.C_drewN ?_ _) | (with_reducible refine Kd.C_drew ?_))); (case side2 => exact HC0_1.out); (case side3 => repeat (first | exact (Kd.C_below HR0_2.out HB.out) | (with_reducible refine Kd.C_alloc ?_ _) | (with_reducible refine Kd.C_drewN ?_ _) | (with_reducible refine Kd.C_drew ?_))); (case side4 => exact HC0_2.out); rintro e w44 ⟨rfl, hb⟩; have n0_ := Aside0.mk (Kd.R_below (by (with_reducible repeat (first | apply Kd.R_alloc | apply Kd.R_drewN | apply Kd.R_drew)); exact HO115.out) hb); have n1_ := Aside0.mk (Kd.R_below (by (with_reducible repeat (first | apply Kd.R_alloc | apply Kd.R_drewN | apply Kd.R_drew)); exact HO118.out) hb); have n2_ := Aside0.mk (blk_below (g := gb101) (o := .cells #[.int .i64 a0_0, .slice A0_1 l0_1.length c0_1, .slice A0_2 l0_2.length c0_2] 25 (0, 0)) (by (with_reducible repeat (first | refine blk_drewN ?_ _ | refine blk_drew ?_ | refine blk_alloc ?_ _)); exact BK101.out) hb); have n3_ := Aside0.mk (below_step (by repeat (first | (with_reducible first | exact HB.out | apply below_alloc | apply pw_below_drewN | apply below_drew1 | refine below_set ?_ GE101.out) | exact HB.out)) hb); clear HO115; clear HO118; clear BK101; clear HB; have HO115 := n0_; have HO118 := n1_; have BK101 := n2_; have HB := n3_; clear n0_ n1_ n2_ n3_; (try clear hb); (try clear hb2); (try clear hk); (try clear hi)))
            go_ret
            exact ⟨by first | rfl | (simp [errW_none, errW_some] <;> rfl) | (simp [*, errW_none, errW_some] <;> rfl), by repeat (first | (with_reducible first | exact HB.out | apply below_alloc | apply pw_below_drewN | apply below_drew1 | refine below_set ?_ GE101.out) | exact HB.out)⟩
        · rw [if_neg c22] at H
          have c22b0 : (t120 == 0) = false := beq_eq_false_iff_ne.mpr c22
          have c22b1 : (t120 != 0) = true := bne_iff_ne.mpr c22
          by_cases c45 : t119.toList = ([] : List UInt8)
          · rw [if_pos c45] at H
            have c45b0 : (t119.toList == ([] : List UInt8)) = true := beq_iff_eq.mpr c45
            have c45b1 : (t119.toList != ([] : List UInt8)) = false := bne_eq_false_iff_eq.mpr c45
            clear c45
            obtain rfl := Option.some.inj H
            have hcz46_0 : wc.cell? ⟨gb101, 0, none⟩ = some (.int .i64 a0_0) := (blk_cell BK101.out 0).trans rfl
            have hcz46_1 : wc.cell? ⟨gb101, 1, none⟩ = some (.slice A0_1 l0_1.length c0_1) := (blk_cell BK101.out 1).trans rfl
            have hcz46_2 : wc.cell? ⟨gb101, 2, none⟩ = some (.slice A0_2 l0_2.length c0_2) := (blk_cell BK101.out 2).trans rfl
            have hfz46_0 := blk_frozen BK101.out 0
            have hfz46_1 := blk_frozen BK101.out 1
            have hfz46_2 := blk_frozen BK101.out 2
            go_wp2_with (first | ((with_reducible refine gate_callee (f := 12) rfl ?_); refine goesL_ (some 15) rfl rfl Tryd.func12 (by kernel_rfl) rfl #[.agg #[.int .i64 a0_0, .slice A0_1 l0_1.length c0_1, .slice A0_2 l0_2.length c0_2]] rfl (by (try simp only [List.map_toArray, List.map_cons, List.map_nil]); first | done | rfl | (simp only [List.length_drop, List.length_take]; rfl)) ?_; (with_reducible refine (aumbryref06_Copy.calls a0_0 _ _ l0_1 _ _ l0_2 t112 t113 t116 _ ?side1 ?side2 ?side3 ?side4 A19.out).mono ?_); (case side1 => repeat (first | exact (Kd.C_below HR0_1.out HB.out) | (with_reducible refine Kd.C_alloc ?_ _) | (with_reducible refine Kd.C_drewN ?_ _) | (with_reducible refine Kd.C_drew ?_))); (case side2 => exact HC0_1.out); (case side3 => repeat (first | exact (Kd.C_below HR0_2.out HB.out) | (with_reducible refine Kd.C_alloc ?_ _) | (with_reducible refine Kd.C_drewN ?_ _) | (with_reducible refine Kd.C_drew ?_))); (case side4 => exact HC0_2.out); rintro e w47 ⟨v114, v117, rfl, ho0, ho1, hb⟩; refine ⟨_, rfl, ?_⟩; have n0_ := Aside0.mk (Kd.R_lower ho0 (below_size (by repeat (first | (with_reducible first | exact HB.out | apply below_alloc | apply pw_below_drewN | apply below_drew1 | refine below_set ?_ GE101.out) | exact HB.out)))); have n1_ := Aside0.mk (Kd.R_lower ho1 (below_size (by repeat (first | (with_reducible first | exact HB.out | apply below_alloc | apply pw_below_drewN | apply below_drew1 | refine below_set ?_ GE101.out) | exact HB.out)))); have n2_ := Aside0.mk (blk_below (g := gb101) (o := .cells #[.int .i64 a0_0, .slice A0_1 l0_1.length c0_1, .slice A0_2 l0_2.length c0_2] 25 (0, 0)) (by (with_reducible repeat (first | refine blk_drewN ?_ _ | refine blk_drew ?_ | refine blk_alloc ?_ _)); exact BK101.out) hb); have n3_ := Aside0.mk (below_step (by repeat (first | (with_reducible first | exact HB.out | apply below_alloc | apply pw_below_drewN | apply below_drew1 | refine below_set ?_ GE101.out) | exact HB.out)) hb); clear BK101; clear HB; have HO115 := n0_; have HO118 := n1_; have BK101 := n2_; have HB := n3_; clear n0_ n1_ n2_ n3_; (try clear hb); (try clear hb2); (try clear hk); (try clear hi); (try clear ho0); (try clear ho1); obtain ⟨Ao48, co48, eo48⟩ := Kd.R_slice HO115.out; subst eo48; obtain ⟨Ao49, co49, eo49⟩ := Kd.R_slice HO118.out; subst eo49) | ((with_reducible refine gate_callee (f := 14) rfl ?_); refine goesL_ (some 16) rfl rfl Tryd.func14 (by kernel_rfl) rfl #[.agg #[.int .i64 t112, .slice Ao48 t113.length co48, .slice Ao49 t116.length co49]] rfl (by (try simp only [List.map_toArray, List.map_cons, List.map_nil]); first | done | rfl | (simp only [List.length_drop, List.length_take]; rfl)) ?_; (with_reducible refine (rule_Head.calls kj1 t112 _ _ t113 _ _ t116 t119 _ ?side1 ?side2 ?side3 ?side4 A20.out).mono ?_); (case side1 => repeat (first | exact (Kd.R_reads' HO115.out).2.2 | (with_reducible refine Kd.C_alloc ?_ _) | (with_reducible refine Kd.C_drewN ?_ _) | (with_reducible refine Kd.C_drew ?_))); (case side2 => exact (Kd.R_reads' HO115.out).2.1); (case side3 => repeat (first | exact (Kd.R_reads' HO118.out).2.2 | (with_reducible refine Kd.C_alloc ?_ _) | (with_reducible refine Kd.C_drewN ?_ _) | (with_reducible refine Kd.C_drew ?_))); (case side4 => exact (Kd.R_reads' HO118.out).2.1); rintro e w50 ⟨rfl, hb⟩; refine ⟨_, rfl, ?_⟩; have n0_ := Aside0.mk (Kd.R_below (by (with_reducible repeat (first | apply Kd.R_alloc | apply Kd.R_drewN | apply Kd.R_drew)); exact HO115.out) hb); have n1_ := Aside0.mk (Kd.R_below (by (with_reducible repeat (first | apply Kd.R_alloc | apply Kd.R_drewN | apply Kd.R_drew)); exact HO118.out) hb); have n2_ := Aside0.mk (blk_below (g := gb101) (o := .cells #[.int .i64 a0_0, .slice A0_1 l0_1.length c0_1, .slice A0_2 l0_2.length c0_2] 25 (0, 0)) (by (with_reducible repeat (first | refine blk_drewN ?_ _ | refine blk_drew ?_ | refine blk_alloc ?_ _)); exact BK101.out) hb); have n3_ := Aside0.mk (below_step (by repeat (first | (with_reducible first | exact HB.out | apply below_alloc | apply pw_below_drewN | apply below_drew1 | refine below_set ?_ GE101.out) | exact HB.out)) hb); clear HO115; clear HO118; clear BK101; clear HB; have HO115 := n0_; have HO118 := n1_; have BK101 := n2_; have HB := n3_; clear n0_ n1_ n2_ n3_; (try clear hb); (try clear hb2); (try clear hk); (try clear hi); have hcz51_0 : w50.cell? ⟨gb101, 0, none⟩ = some (.int .i64 a0_0) := (blk_cell BK101.out 0).trans rfl; have hcz51_1 : w50.cell? ⟨gb101, 1, none⟩ = some (.slice A0_1 l0_1.length c0_1) := (blk_cell BK101.out 1).trans rfl; have hcz51_2 : w50.cell? ⟨gb101, 2, none⟩ = some (.slice A0_2 l0_2.length c0_2) := (blk_cell BK101.out 2).trans rfl; have hfz51_0 := blk_frozen BK101.out 0; have hfz51_1 := blk_frozen BK101.out 1; have hfz51_2 := blk_frozen BK101.out 2) | ((with_reducible refine gate_callee (f := 13) rfl ?_); refine goesL_ (some 18) rfl rfl Tryd.func13 (by kernel_rfl) rfl #[.agg #[.int .i64 a0_0, .slice A0_1 l0_1.length c0_1, .slice A0_2 l0_2.length c0_2]] rfl (by (try simp only [List.map_toArray, List.map_cons, List.map_nil]); first | done | rfl | (simp only [List.length_drop, List.length_take]; rfl)) ?_; (with_reducible refine (aumbryref06_Check.calls kj1 a0_0 _ _ l0_1 _ _ l0_2 t120 _ ?side1 ?side2 ?side3 ?side4 A21.out).mono ?_); (case side1 => repeat (first | exact (Kd.C_below HR0_1.out HB.out) | (with_reducible refine Kd.C_alloc ?_ _) | (with_reducible refine Kd.C_drewN ?_ _) | (with_reducible refine Kd.C_drew ?_))); (case side2 => exact HC0_1.out); (case side3 => repeat (first | exact (Kd.C_below HR0_2.out HB.out) | (with_reducible refine Kd.C_alloc ?_ _) | (with_reducible refine Kd.C_drewN ?_ _) | (with_reducible refine Kd.C_drew ?_))); (case side4 => exact HC0_2.out); rintro e w52 ⟨rfl, hb⟩; refine ⟨_, rfl, ?_⟩; have n0_ := Aside0.mk (Kd.R_below (by (with_reducible repeat (first | apply Kd.R_alloc | apply Kd.R_drewN | apply Kd.R_drew)); exact HO115.out) hb); have n1_ := Aside0.mk (Kd.R_below (by (with_reducible repeat (first | apply Kd.R_alloc | apply Kd.R_drewN | apply Kd.R_drew)); exact HO118.out) hb); have n2_ := Aside0.mk (blk_below (g := gb101) (o := .cells #[.int .i64 a0_0, .slice A0_1 l0_1.length c0_1, .slice A0_2 l0_2.length c0_2] 25 (0, 0)) (by (with_reducible repeat (first | refine blk_drewN ?_ _ | refine blk_drew ?_ | refine blk_alloc ?_ _)); exact BK101.out) hb); have n3_ := Aside0.mk (below_step (by repeat (first | (with_reducible first | exact HB.out | apply below_alloc | apply pw_below_drewN | apply below_drew1 | refine below_set ?_ GE101.out) | exact HB.out)) hb); clear HO115; clear HO118; clear BK101; clear HB; have HO115 := n0_; have HO118 := n1_; have BK101 := n2_; have HB := n3_; clear n0_ n1_ n2_ n3_; (try clear hb); (try clear hb2); (try clear hk); (try clear hi)))
            go_ret
            exact ⟨by first | rfl | (simp [errW_none, errW_some] <;> rfl) | (simp [*, errW_none, errW_some] <;> rfl), by repeat (first | (with_reducible first | exact HB.out | apply below_alloc | apply pw_below_drewN | apply below_drew1 | refine below_set ?_ GE101.out) | exact HB.out)⟩
          · rw [if_neg c45] at H
            have c45b0 : (t119.toList == ([] : List UInt8)) = false := beq_eq_false_iff_ne.mpr c45
            have c45b1 : (t119.toList != ([] : List UInt8)) = true := bne_iff_ne.mpr c45
            replace H := Option.bind_eq_some_iff.mp H
            obtain ⟨t123, A530, H⟩ := H
            replace H : (if t123 = 0 then (if 0 < (l0_1.length : Int) then (some (t119.toList == ((rd_T33 l0_1 0).f0).toList)) else (none)) else (some false)) = some r := H
            have A53 := Aside0.mk A530
            clear A530
            by_cases c54 : t123 = 0
            · rw [if_pos c54] at H
              have c54b0 : (t123 == 0) = true := beq_iff_eq.mpr c54
              have c54b1 : (t123 != 0) = false := bne_eq_false_iff_eq.mpr c54
              clear c54
              by_cases c55 : 0 < (l0_1.length : Int)
              · rw [if_pos c55] at H
                have c55b0 : decide (0 < (l0_1.length : Int)) = true := decide_eq_true c55
                have c55b1 : decide (0 < l0_1.length) = true := decide_eq_true (by omega)
                clear c55
                obtain rfl := Option.some.inj H
                have hcz56_0 : wc.cell? ⟨gb101, 0, none⟩ = some (.int .i64 a0_0) := (blk_cell BK101.out 0).trans rfl
                have hcz56_1 : wc.cell? ⟨gb101, 1, none⟩ = some (.slice A0_1 l0_1.length c0_1) := (blk_cell BK101.out 1).trans rfl
                have hcz56_2 : wc.cell? ⟨gb101, 2, none⟩ = some (.slice A0_2 l0_2.length c0_2) := (blk_cell BK101.out 2).trans rfl
                have hfz56_0 := blk_frozen BK101.out 0
                have hfz56_1 := blk_frozen BK101.out 1
                have hfz56_2 := blk_frozen BK101.out 2
                go_wp2_with (first | ((with_reducible refine gate_callee (f := 12) rfl ?_); refine goesL_ (some 15) rfl rfl Tryd.func12 (by kernel_rfl) rfl #[.agg #[.int .i64 a0_0, .slice A0_1 l0_1.length c0_1, .slice A0_2 l0_2.length c0_2]] rfl (by (try simp only [List.map_toArray, List.map_cons, List.map_nil]); first | done | rfl | (simp only [List.length_drop, List.length_take]; rfl)) ?_; (with_reducible refine (aumbryref06_Copy.calls a0_0 _ _ l0_1 _ _ l0_2 t112 t113 t116 _ ?side1 ?side2 ?side3 ?side4 A19.out).mono ?_); (case side1 => repeat (first | exact (Kd.C_below HR0_1.out HB.out) | (with_reducible refine Kd.C_alloc ?_ _) | (with_reducible refine Kd.C_drewN ?_ _) | (with_reducible refine Kd.C_drew ?_))); (case side2 => exact HC0_1.out); (case side3 => repeat (first | exact (Kd.C_below HR0_2.out HB.out) | (with_reducible refine Kd.C_alloc ?_ _) | (with_reducible refine Kd.C_drewN ?_ _) | (with_reducible refine Kd.C_drew ?_))); (case side4 => exact HC0_2.out); rintro e w57 ⟨v114, v117, rfl, ho0, ho1, hb⟩; refine ⟨_, rfl, ?_⟩; have n0_ := Aside0.mk (Kd.R_lower ho0 (below_size (by repeat (first | (with_reducible first | exact HB.out | apply below_alloc | apply pw_below_drewN | apply below_drew1 | refine below_set ?_ GE101.out) | exact HB.out)))); have n1_ := Aside0.mk (Kd.R_lower ho1 (below_size (by repeat (first | (with_reducible first | exact HB.out | apply below_alloc | apply pw_below_drewN | apply below_drew1 | refine below_set ?_ GE101.out) | exact HB.out)))); have n2_ := Aside0.mk (blk_below (g := gb101) (o := .cells #[.int .i64 a0_0, .slice A0_1 l0_1.length c0_1, .slice A0_2 l0_2.length c0_2] 25 (0, 0)) (by (with_reducible repeat (first | refine blk_drewN ?_ _ | refine blk_drew ?_ | refine blk_alloc ?_ _)); exact BK101.out) hb); have n3_ := Aside0.mk (below_step (by repeat (first | (with_reducible first | exact HB.out | apply below_alloc | apply pw_below_drewN | apply below_drew1 | refine below_set ?_ GE101.out) | exact HB.out)) hb); clear BK101; clear HB; have HO115 := n0_; have HO118 := n1_; have BK101 := n2_; have HB := n3_; clear n0_ n1_ n2_ n3_; (try clear hb); (try clear hb2); (try clear hk); (try clear hi); (try clear ho0); (try clear ho1); obtain ⟨Ao58, co58, eo58⟩ := Kd.R_slice HO115.out; subst eo58; obtain ⟨Ao59, co59, eo59⟩ := Kd.R_slice HO118.out; subst eo59) | ((with_reducible refine gate_callee (f := 14) rfl ?_); refine goesL_ (some 16) rfl rfl Tryd.func14 (by kernel_rfl) rfl #[.agg #[.int .i64 t112, .slice Ao58 t113.length co58, .slice Ao59 t116.length co59]] rfl (by (try simp only [List.map_toArray, List.map_cons, List.map_nil]); first | done | rfl | (simp only [List.length_drop, List.length_take]; rfl)) ?_; (with_reducible refine (rule_Head.calls kj1 t112 _ _ t113 _ _ t116 t119 _ ?side1 ?side2 ?side3 ?side4 A20.out).mono ?_); (case side1 => repeat (first | exact (Kd.R_reads' HO115.out).2.2 | (with_reducible refine Kd.C_alloc ?_ _) | (with_reducible refine Kd.C_drewN ?_ _) | (with_reducible refine Kd.C_drew ?_))); (case side2 => exact (Kd.R_reads' HO115.out).2.1); (case side3 => repeat (first | exact (Kd.R_reads' HO118.out).2.2 | (with_reducible refine Kd.C_alloc ?_ _) | (with_reducible refine Kd.C_drewN ?_ _) | (with_reducible refine Kd.C_drew ?_))); (case side4 => exact (Kd.R_reads' HO118.out).2.1); rintro e w60 ⟨rfl, hb⟩; refine ⟨_, rfl, ?_⟩; have n0_ := Aside0.mk (Kd.R_below (by (with_reducible repeat (first | apply Kd.R_alloc | apply Kd.R_drewN | apply Kd.R_drew)); exact HO115.out) hb); have n1_ := Aside0.mk (Kd.R_below (by (with_reducible repeat (first | apply Kd.R_alloc | apply Kd.R_drewN | apply Kd.R_drew)); exact HO118.out) hb); have n2_ := Aside0.mk (blk_below (g := gb101) (o := .cells #[.int .i64 a0_0, .slice A0_1 l0_1.length c0_1, .slice A0_2 l0_2.length c0_2] 25 (0, 0)) (by (with_reducible repeat (first | refine blk_drewN ?_ _ | refine blk_drew ?_ | refine blk_alloc ?_ _)); exact BK101.out) hb); have n3_ := Aside0.mk (below_step (by repeat (first | (with_reducible first | exact HB.out | apply below_alloc | apply pw_below_drewN | apply below_drew1 | refine below_set ?_ GE101.out) | exact HB.out)) hb); clear HO115; clear HO118; clear BK101; clear HB; have HO115 := n0_; have HO118 := n1_; have BK101 := n2_; have HB := n3_; clear n0_ n1_ n2_ n3_; (try clear hb); (try clear hb2); (try clear hk); (try clear hi); have hcz61_0 : w60.cell? ⟨gb101, 0, none⟩ = some (.int .i64 a0_0) := (blk_cell BK101.out 0).trans rfl; have hcz61_1 : w60.cell? ⟨gb101, 1, none⟩ = some (.slice A0_1 l0_1.length c0_1) := (blk_cell BK101.out 1).trans rfl; have hcz61_2 : w60.cell? ⟨gb101, 2, none⟩ = some (.slice A0_2 l0_2.length c0_2) := (blk_cell BK101.out 2).trans rfl; have hfz61_0 := blk_frozen BK101.out 0; have hfz61_1 := blk_frozen BK101.out 1; have hfz61_2 := blk_frozen BK101.out 2) | ((with_reducible refine gate_callee (f := 13) rfl ?_); refine goesL_ (some 18) rfl rfl Tryd.func13 (by kernel_rfl) rfl #[.agg #[.int .i64 a0_0, .slice A0_1 l0_1.length c0_1, .slice A0_2 l0_2.length c0_2]] rfl (by (try simp only [List.map_toArray, List.map_cons, List.map_nil]); first | done | rfl | (simp only [List.length_drop, List.length_take]; rfl)) ?_; (with_reducible refine (aumbryref06_Check.calls kj1 a0_0 _ _ l0_1 _ _ l0_2 t120 _ ?side1 ?side2 ?side3 ?side4 A21.out).mono ?_); (case side1 => repeat (first | exact (Kd.C_below HR0_1.out HB.out) | (with_reducible refine Kd.C_alloc ?_ _) | (with_reducible refine Kd.C_drewN ?_ _) | (with_reducible refine Kd.C_drew ?_))); (case side2 => exact HC0_1.out); (case side3 => repeat (first | exact (Kd.C_below HR0_2.out HB.out) | (with_reducible refine Kd.C_alloc ?_ _) | (with_reducible refine Kd.C_drewN ?_ _) | (with_reducible refine Kd.C_drew ?_))); (case side4 => exact HC0_2.out); rintro e w62 ⟨rfl, hb⟩; refine ⟨_, rfl, ?_⟩; have n0_ := Aside0.mk (Kd.R_below (by (with_reducible repeat (first | apply Kd.R_alloc | apply Kd.R_drewN | apply Kd.R_drew)); exact HO115.out) hb); have n1_ := Aside0.mk (Kd.R_below (by (with_reducible repeat (first | apply Kd.R_alloc | apply Kd.R_drewN | apply Kd.R_drew)); exact HO118.out) hb); have n2_ := Aside0.mk (blk_below (g := gb101) (o := .cells #[.int .i64 a0_0, .slice A0_1 l0_1.length c0_1, .slice A0_2 l0_2.length c0_2] 25 (0, 0)) (by (with_reducible repeat (first | refine blk_drewN ?_ _ | refine blk_drew ?_ | refine blk_alloc ?_ _)); exact BK101.out) hb); have n3_ := Aside0.mk (below_step (by repeat (first | (with_reducible first | exact HB.out | apply below_alloc | apply pw_below_drewN | apply below_drew1 | refine below_set ?_ GE101.out) | exact HB.out)) hb); clear HO115; clear HO118; clear BK101; clear HB; have HO115 := n0_; have HO118 := n1_; have BK101 := n2_; have HB := n3_; clear n0_ n1_ n2_ n3_; (try clear hb); (try clear hb2); (try clear hk); (try clear hi); have hcz63_0 : w62.cell? ⟨gb101, 0, none⟩ = some (.int .i64 a0_0) := (blk_cell BK101.out 0).trans rfl; have hcz63_1 : w62.cell? ⟨gb101, 1, none⟩ = some (.slice A0_1 l0_1.length c0_1) := (blk_cell BK101.out 1).trans rfl; have hcz63_2 : w62.cell? ⟨gb101, 2, none⟩ = some (.slice A0_2 l0_2.length c0_2) := (blk_cell BK101.out 2).trans rfl; have hfz63_0 := blk_frozen BK101.out 0; have hfz63_1 := blk_frozen BK101.out 1; have hfz63_2 := blk_frozen BK101.out 2) | (go_at_call 13; (with_reducible refine (aumbryref06_Check.calls kj1 a0_0 _ _ l0_1 _ _ l0_2 t123 _ ?side1 ?side2 ?side3 ?side4 A53.out).mono ?_); (case side1 => repeat (first | exact (Kd.C_below HR0_1.out HB.out) | (with_reducible refine Kd.C_alloc ?_ _) | (with_reducible refine Kd.C_drewN ?_ _) | (with_reducible refine Kd.C_drew ?_))); (case side2 => exact HC0_1.out); (case side3 => repeat (first | exact (Kd.C_below HR0_2.out HB.out) | (with_reducible refine Kd.C_alloc ?_ _) | (with_reducible refine Kd.C_drewN ?_ _) | (with_reducible refine Kd.C_drew ?_))); (case side4 => exact HC0_2.out); rintro e w64 ⟨rfl, hb⟩; have n0_ := Aside0.mk (Kd.R_below (by (with_reducible repeat (first | apply Kd.R_alloc | apply Kd.R_drewN | apply Kd.R_drew)); exact HO115.out) hb); have n1_ := Aside0.mk (Kd.R_below (by (with_reducible repeat (first | apply Kd.R_alloc | apply Kd.R_drewN | apply Kd.R_drew)); exact HO118.out) hb); have n2_ := Aside0.mk (blk_below (g := gb101) (o := .cells #[.int .i64 a0_0, .slice A0_1 l0_1.length c0_1, .slice A0_2 l0_2.length c0_2] 25 (0, 0)) (by (with_reducible repeat (first | refine blk_drewN ?_ _ | refine blk_drew ?_ | refine blk_alloc ?_ _)); exact BK101.out) hb); have n3_ := Aside0.mk (below_step (by repeat (first | (with_reducible first | exact HB.out | apply below_alloc | apply pw_below_drewN | apply below_drew1 | refine below_set ?_ GE101.out) | exact HB.out)) hb); clear HO115; clear HO118; clear BK101; clear HB; have HO115 := n0_; have HO118 := n1_; have BK101 := n2_; have HB := n3_; clear n0_ n1_ n2_ n3_; (try clear hb); (try clear hb2); (try clear hk); (try clear hi); have hcz65_0 : w64.cell? ⟨gb101, 0, none⟩ = some (.int .i64 a0_0) := (blk_cell BK101.out 0).trans rfl; have hcz65_1 : w64.cell? ⟨gb101, 1, none⟩ = some (.slice A0_1 l0_1.length c0_1) := (blk_cell BK101.out 1).trans rfl; have hcz65_2 : w64.cell? ⟨gb101, 2, none⟩ = some (.slice A0_2 l0_2.length c0_2) := (blk_cell BK101.out 2).trans rfl; have hfz65_0 := blk_frozen BK101.out 0; have hfz65_1 := blk_frozen BK101.out 1; have hfz65_2 := blk_frozen BK101.out 2; have p124 : 0 ≤ (0 : Int) := (by omega); have q124 : 0 < (l0_1.length : Int) := of_decide_eq_true (by first | (with_reducible assumption) | assumption); obtain ⟨ad124, e124, hx124_0, hx124_1⟩ := at_T33 HR0_1.out 0 p124 q124; cases e124; have qi124 : (0 < l0_1.length) = True := eq_true (by omega); (try rw [show ((0 : Int)).toNat = 0 from rfl] at hx124_0); (try rw [show 0 * 2 = 0 from rfl] at hx124_0); (try rw [Addr.add_zero'] at hx124_0); (try rw [show ((0 : Int)).toNat = 0 from rfl] at hx124_1); (try rw [show 0 * 2 = 0 from rfl] at hx124_1); (try rw [Addr.add_zero'] at hx124_1); replace hx124_0 := (HB.out.cell (World.block_lt_of_cell? w _ hx124_0)).trans hx124_0; replace hx124_1 := (HB.out.cell (World.block_lt_of_cell? w _ hx124_1)).trans hx124_1; replace p124 := eq_true p124; replace q124 := eq_true q124))
                go_ret
                exact ⟨by first | rfl | (simp [errW_none, errW_some] <;> rfl) | (simp [*, errW_none, errW_some] <;> rfl), by repeat (first | (with_reducible first | exact HB.out | apply below_alloc | apply pw_below_drewN | apply below_drew1 | refine below_set ?_ GE101.out) | exact HB.out)⟩
              · rw [if_neg c55] at H
                exact absurd H (by simp)
            · rw [if_neg c54] at H
              have c54b0 : (t123 == 0) = false := beq_eq_false_iff_ne.mpr c54
              have c54b1 : (t123 != 0) = true := bne_iff_ne.mpr c54
              obtain rfl := Option.some.inj H
              have hcz66_0 : wc.cell? ⟨gb101, 0, none⟩ = some (.int .i64 a0_0) := (blk_cell BK101.out 0).trans rfl
              have hcz66_1 : wc.cell? ⟨gb101, 1, none⟩ = some (.slice A0_1 l0_1.length c0_1) := (blk_cell BK101.out 1).trans rfl
              have hcz66_2 : wc.cell? ⟨gb101, 2, none⟩ = some (.slice A0_2 l0_2.length c0_2) := (blk_cell BK101.out 2).trans rfl
              have hfz66_0 := blk_frozen BK101.out 0
              have hfz66_1 := blk_frozen BK101.out 1
              have hfz66_2 := blk_frozen BK101.out 2
              go_wp2_with (first | ((with_reducible refine gate_callee (f := 12) rfl ?_); refine goesL_ (some 15) rfl rfl Tryd.func12 (by kernel_rfl) rfl #[.agg #[.int .i64 a0_0, .slice A0_1 l0_1.length c0_1, .slice A0_2 l0_2.length c0_2]] rfl (by (try simp only [List.map_toArray, List.map_cons, List.map_nil]); first | done | rfl | (simp only [List.length_drop, List.length_take]; rfl)) ?_; (with_reducible refine (aumbryref06_Copy.calls a0_0 _ _ l0_1 _ _ l0_2 t112 t113 t116 _ ?side1 ?side2 ?side3 ?side4 A19.out).mono ?_); (case side1 => repeat (first | exact (Kd.C_below HR0_1.out HB.out) | (with_reducible refine Kd.C_alloc ?_ _) | (with_reducible refine Kd.C_drewN ?_ _) | (with_reducible refine Kd.C_drew ?_))); (case side2 => exact HC0_1.out); (case side3 => repeat (first | exact (Kd.C_below HR0_2.out HB.out) | (with_reducible refine Kd.C_alloc ?_ _) | (with_reducible refine Kd.C_drewN ?_ _) | (with_reducible refine Kd.C_drew ?_))); (case side4 => exact HC0_2.out); rintro e w67 ⟨v114, v117, rfl, ho0, ho1, hb⟩; refine ⟨_, rfl, ?_⟩; have n0_ := Aside0.mk (Kd.R_lower ho0 (below_size (by repeat (first | (with_reducible first | exact HB.out | apply below_alloc | apply pw_below_drewN | apply below_drew1 | refine below_set ?_ GE101.out) | exact HB.out)))); have n1_ := Aside0.mk (Kd.R_lower ho1 (below_size (by repeat (first | (with_reducible first | exact HB.out | apply below_alloc | apply pw_below_drewN | apply below_drew1 | refine below_set ?_ GE101.out) | exact HB.out)))); have n2_ := Aside0.mk (blk_below (g := gb101) (o := .cells #[.int .i64 a0_0, .slice A0_1 l0_1.length c0_1, .slice A0_2 l0_2.length c0_2] 25 (0, 0)) (by (with_reducible repeat (first | refine blk_drewN ?_ _ | refine blk_drew ?_ | refine blk_alloc ?_ _)); exact BK101.out) hb); have n3_ := Aside0.mk (below_step (by repeat (first | (with_reducible first | exact HB.out | apply below_alloc | apply pw_below_drewN | apply below_drew1 | refine below_set ?_ GE101.out) | exact HB.out)) hb); clear BK101; clear HB; have HO115 := n0_; have HO118 := n1_; have BK101 := n2_; have HB := n3_; clear n0_ n1_ n2_ n3_; (try clear hb); (try clear hb2); (try clear hk); (try clear hi); (try clear ho0); (try clear ho1); obtain ⟨Ao68, co68, eo68⟩ := Kd.R_slice HO115.out; subst eo68; obtain ⟨Ao69, co69, eo69⟩ := Kd.R_slice HO118.out; subst eo69) | ((with_reducible refine gate_callee (f := 14) rfl ?_); refine goesL_ (some 16) rfl rfl Tryd.func14 (by kernel_rfl) rfl #[.agg #[.int .i64 t112, .slice Ao68 t113.length co68, .slice Ao69 t116.length co69]] rfl (by (try simp only [List.map_toArray, List.map_cons, List.map_nil]); first | done | rfl | (simp only [List.length_drop, List.length_take]; rfl)) ?_; (with_reducible refine (rule_Head.calls kj1 t112 _ _ t113 _ _ t116 t119 _ ?side1 ?side2 ?side3 ?side4 A20.out).mono ?_); (case side1 => repeat (first | exact (Kd.R_reads' HO115.out).2.2 | (with_reducible refine Kd.C_alloc ?_ _) | (with_reducible refine Kd.C_drewN ?_ _) | (with_reducible refine Kd.C_drew ?_))); (case side2 => exact (Kd.R_reads' HO115.out).2.1); (case side3 => repeat (first | exact (Kd.R_reads' HO118.out).2.2 | (with_reducible refine Kd.C_alloc ?_ _) | (with_reducible refine Kd.C_drewN ?_ _) | (with_reducible refine Kd.C_drew ?_))); (case side4 => exact (Kd.R_reads' HO118.out).2.1); rintro e w70 ⟨rfl, hb⟩; refine ⟨_, rfl, ?_⟩; have n0_ := Aside0.mk (Kd.R_below (by (with_reducible repeat (first | apply Kd.R_alloc | apply Kd.R_drewN | apply Kd.R_drew)); exact HO115.out) hb); have n1_ := Aside0.mk (Kd.R_below (by (with_reducible repeat (first | apply Kd.R_alloc | apply Kd.R_drewN | apply Kd.R_drew)); exact HO118.out) hb); have n2_ := Aside0.mk (blk_below (g := gb101) (o := .cells #[.int .i64 a0_0, .slice A0_1 l0_1.length c0_1, .slice A0_2 l0_2.length c0_2] 25 (0, 0)) (by (with_reducible repeat (first | refine blk_drewN ?_ _ | refine blk_drew ?_ | refine blk_alloc ?_ _)); exact BK101.out) hb); have n3_ := Aside0.mk (below_step (by repeat (first | (with_reducible first | exact HB.out | apply below_alloc | apply pw_below_drewN | apply below_drew1 | refine below_set ?_ GE101.out) | exact HB.out)) hb); clear HO115; clear HO118; clear BK101; clear HB; have HO115 := n0_; have HO118 := n1_; have BK101 := n2_; have HB := n3_; clear n0_ n1_ n2_ n3_; (try clear hb); (try clear hb2); (try clear hk); (try clear hi); have hcz71_0 : w70.cell? ⟨gb101, 0, none⟩ = some (.int .i64 a0_0) := (blk_cell BK101.out 0).trans rfl; have hcz71_1 : w70.cell? ⟨gb101, 1, none⟩ = some (.slice A0_1 l0_1.length c0_1) := (blk_cell BK101.out 1).trans rfl; have hcz71_2 : w70.cell? ⟨gb101, 2, none⟩ = some (.slice A0_2 l0_2.length c0_2) := (blk_cell BK101.out 2).trans rfl; have hfz71_0 := blk_frozen BK101.out 0; have hfz71_1 := blk_frozen BK101.out 1; have hfz71_2 := blk_frozen BK101.out 2) | ((with_reducible refine gate_callee (f := 13) rfl ?_); refine goesL_ (some 18) rfl rfl Tryd.func13 (by kernel_rfl) rfl #[.agg #[.int .i64 a0_0, .slice A0_1 l0_1.length c0_1, .slice A0_2 l0_2.length c0_2]] rfl (by (try simp only [List.map_toArray, List.map_cons, List.map_nil]); first | done | rfl | (simp only [List.length_drop, List.length_take]; rfl)) ?_; (with_reducible refine (aumbryref06_Check.calls kj1 a0_0 _ _ l0_1 _ _ l0_2 t120 _ ?side1 ?side2 ?side3 ?side4 A21.out).mono ?_); (case side1 => repeat (first | exact (Kd.C_below HR0_1.out HB.out) | (with_reducible refine Kd.C_alloc ?_ _) | (with_reducible refine Kd.C_drewN ?_ _) | (with_reducible refine Kd.C_drew ?_))); (case side2 => exact HC0_1.out); (case side3 => repeat (first | exact (Kd.C_below HR0_2.out HB.out) | (with_reducible refine Kd.C_alloc ?_ _) | (with_reducible refine Kd.C_drewN ?_ _) | (with_reducible refine Kd.C_drew ?_))); (case side4 => exact HC0_2.out); rintro e w72 ⟨rfl, hb⟩; refine ⟨_, rfl, ?_⟩; have n0_ := Aside0.mk (Kd.R_below (by (with_reducible repeat (first | apply Kd.R_alloc | apply Kd.R_drewN | apply Kd.R_drew)); exact HO115.out) hb); have n1_ := Aside0.mk (Kd.R_below (by (with_reducible repeat (first | apply Kd.R_alloc | apply Kd.R_drewN | apply Kd.R_drew)); exact HO118.out) hb); have n2_ := Aside0.mk (blk_below (g := gb101) (o := .cells #[.int .i64 a0_0, .slice A0_1 l0_1.length c0_1, .slice A0_2 l0_2.length c0_2] 25 (0, 0)) (by (with_reducible repeat (first | refine blk_drewN ?_ _ | refine blk_drew ?_ | refine blk_alloc ?_ _)); exact BK101.out) hb); have n3_ := Aside0.mk (below_step (by repeat (first | (with_reducible first | exact HB.out | apply below_alloc | apply pw_below_drewN | apply below_drew1 | refine below_set ?_ GE101.out) | exact HB.out)) hb); clear HO115; clear HO118; clear BK101; clear HB; have HO115 := n0_; have HO118 := n1_; have BK101 := n2_; have HB := n3_; clear n0_ n1_ n2_ n3_; (try clear hb); (try clear hb2); (try clear hk); (try clear hi); have hcz73_0 : w72.cell? ⟨gb101, 0, none⟩ = some (.int .i64 a0_0) := (blk_cell BK101.out 0).trans rfl; have hcz73_1 : w72.cell? ⟨gb101, 1, none⟩ = some (.slice A0_1 l0_1.length c0_1) := (blk_cell BK101.out 1).trans rfl; have hcz73_2 : w72.cell? ⟨gb101, 2, none⟩ = some (.slice A0_2 l0_2.length c0_2) := (blk_cell BK101.out 2).trans rfl; have hfz73_0 := blk_frozen BK101.out 0; have hfz73_1 := blk_frozen BK101.out 1; have hfz73_2 := blk_frozen BK101.out 2) | (go_at_call 13; (with_reducible refine (aumbryref06_Check.calls kj1 a0_0 _ _ l0_1 _ _ l0_2 t123 _ ?side1 ?side2 ?side3 ?side4 A53.out).mono ?_); (case side1 => repeat (first | exact (Kd.C_below HR0_1.out HB.out) | (with_reducible refine Kd.C_alloc ?_ _) | (with_reducible refine Kd.C_drewN ?_ _) | (with_reducible refine Kd.C_drew ?_))); (case side2 => exact HC0_1.out); (case side3 => repeat (first | exact (Kd.C_below HR0_2.out HB.out) | (with_reducible refine Kd.C_alloc ?_ _) | (with_reducible refine Kd.C_drewN ?_ _) | (with_reducible refine Kd.C_drew ?_))); (case side4 => exact HC0_2.out); rintro e w74 ⟨rfl, hb⟩; have n0_ := Aside0.mk (Kd.R_below (by (with_reducible repeat (first | apply Kd.R_alloc | apply Kd.R_drewN | apply Kd.R_drew)); exact HO115.out) hb); have n1_ := Aside0.mk (Kd.R_below (by (with_reducible repeat (first | apply Kd.R_alloc | apply Kd.R_drewN | apply Kd.R_drew)); exact HO118.out) hb); have n2_ := Aside0.mk (blk_below (g := gb101) (o := .cells #[.int .i64 a0_0, .slice A0_1 l0_1.length c0_1, .slice A0_2 l0_2.length c0_2] 25 (0, 0)) (by (with_reducible repeat (first | refine blk_drewN ?_ _ | refine blk_drew ?_ | refine blk_alloc ?_ _)); exact BK101.out) hb); have n3_ := Aside0.mk (below_step (by repeat (first | (with_reducible first | exact HB.out | apply below_alloc | apply pw_below_drewN | apply below_drew1 | refine below_set ?_ GE101.out) | exact HB.out)) hb); clear HO115; clear HO118; clear BK101; clear HB; have HO115 := n0_; have HO118 := n1_; have BK101 := n2_; have HB := n3_; clear n0_ n1_ n2_ n3_; (try clear hb); (try clear hb2); (try clear hk); (try clear hi)))
              go_ret
              exact ⟨by first | rfl | (simp [errW_none, errW_some] <;> rfl) | (simp [*, errW_none, errW_some] <;> rfl), by repeat (first | (with_reducible first | exact HB.out | apply below_alloc | apply pw_below_drewN | apply below_drew1 | refine below_set ?_ GE101.out) | exact HB.out)⟩

end Go.Proofs.YtpnamhplhdaphaaDoor.P

-- ==== Open
/- What came in and can be read as data, read as the print's kinds: for each kind one fact, put together by the types' shapes. -/
set_option linter.unusedVariables false
namespace Go.Proofs.YtpnamhplhdaphaaDoor.Open
open Go.RowKit Go.Proofs.YtpnamhplhdaphaaDoorW.PrintWords Go.Proofs.YtpnamhplhdaphaaDoor.Rows

structure Opens {α : Type} (P : Program) (t : TypeId) (d : Kd α) (Sz : α → Prop) (Bk : α → Nat) : Prop where
  cells : P.cellsOf t = d.sz
  go : ∀ {H : Type} {enc : TypeId × Value → H} {w : World} {base : Nat} {spare : Nat → Bool} {held : Bool} {n : Nat} {cs : List Value} {x : DataW H × List MemPlace},
    DataW.trod enc P w base spare held n t cs = some x → (∀ m ∈ x.1.weights P t, m ≤ reachBytes) → ∃ v : α, d.K w v cs ∧ Sz v ∧ Bk v ≤ uptoBulk x.1

theorem opens_int {P : Program} {t : TypeId} {k : IntKind} (ht : P.underlying t = some (.int k)) (hc : P.cellsOf t = 1) : Opens P t (Kd.int k) (fun a => (Lit.int k a).wf = true) (fun _ => 1) := by
  refine ⟨hc, fun h _ => ?_⟩
  obtain ⟨a, rfl, rfl, hw⟩ := DataW.trod_int ht h
  exact ⟨a, rfl, hw, by simp [uptoBulk]⟩

theorem opens_string {P : Program} {t : TypeId} (ht : P.underlying t = some .string) (hc : P.cellsOf t = 1) : Opens P t Kd.string (fun s => s.size ≤ 140737488351232) (fun s => s.size + 1) := by
  refine ⟨hc, fun h hw => ?_⟩
  obtain ⟨a, rfl, rfl, hs⟩ := DataW.trod_string ht h
  have hl : a.data.toList.length = a.size := data_length a
  refine ⟨a, rfl, ?_, ?_⟩
  · have := hw a.data.toList.length (by simp [DataW.weights])
    rw [hl] at this
    exact this
  · simp only [uptoBulk]
    omega

theorem mem_weightsAll {H : Type} {P : Program} {e : TypeId} {d : DataW H} : ∀ {l : List (DataW H)}, d ∈ l → ∀ {m : Nat}, m ∈ d.weights P e → m ∈ DataW.weightsAll P e l
  | a :: l, h, m, hm => by
    simp only [DataW.weightsAll, List.mem_append]
    rcases List.mem_cons.1 h with rfl | h
    · exact .inl hm
    · exact .inr (mem_weightsAll h hm)
  | [], h, _, _ => by cases h

def bulkAll {α : Type} (Bk : α → Nat) (l : List α) : Nat := (l.map Bk).sum

theorem bulk_all_le {H α : Type} (Bk : α → Nat) : ∀ (xs : List α) (ds : List (DataW H)), xs.length = ds.length → (∀ (i : Nat) x d, xs[i]? = some x → ds[i]? = some d → Bk x ≤ uptoBulk d) → bulkAll Bk xs ≤ uptoBulkAll ds
  | [], [], _, _ => by simp [bulkAll, uptoBulkAll]
  | x :: xs, d :: ds, hl, h => by
    have h0 := h 0 x d rfl rfl
    have h1 := bulk_all_le Bk xs ds (by simpa using hl) (fun i x' d' hx hd => h (i + 1) x' d' (by simpa using hx) (by simpa using hd))
    simp only [bulkAll, uptoBulkAll, List.map_cons, List.sum_cons] at h1 ⊢
    omega
  | [], _ :: _, hl, _ => by simp at hl
  | _ :: _, [], hl, _ => by simp at hl

theorem opens_slice {α : Type} {P : Program} {t e : TypeId} {d : Kd α} {Sz : α → Prop} {Bk : α → Nat} {b : Nat} (ht : P.underlying t = some (.slice e)) (hc : P.cellsOf t = 1) (hb : P.bytesOf e = b) (ho : Opens P e d Sz Bk) :
    Opens P t (Kd.slice e d) (fun l => l.length * b ≤ 140737488351232 ∧ ∀ x ∈ l, Sz x) (fun l => bulkAll Bk l + 1) := by
  refine ⟨hc, ?_⟩
  intro H enc w base spare held n cs x h hw
  rcases Go.Deep.open_slice ht h with ⟨rfl, rfl⟩ | ⟨a, len, cap, m, n', D, Pl, rfl, _, hl, hm, hmm, rfl, hx⟩
  · exact ⟨[], ⟨none, 0, rfl, Nat.le_refl _, Kd.C_nil d w⟩, ⟨by simp, by simp⟩, by simp [bulkAll, uptoBulk]⟩
  · have hlm : len ≤ m := by rw [hmm]; split <;> omega
    have hel : ∀ i, i < len → ∃ v : α, (∃ cs', w.cells? base (a.add (i * P.cellsOf e)) (P.cellsOf e) = some cs' ∧ d.K w v cs') ∧ Sz v ∧ Bk v ≤ uptoBulk (D i) := by
      intro i hi
      obtain ⟨cs', h1, h2⟩ := hx i (by omega)
      obtain ⟨v, hv, hs, hbk⟩ := ho.go h2 (fun m' hm' => hw m' (by
        simp only [DataW.weights, ht, List.mem_cons, List.mem_append]
        exact .inr (.inl (mem_weightsAll (List.mem_map.2 ⟨i, List.mem_range.2 hi, rfl⟩) hm'))))
      exact ⟨v, ⟨cs', h1, hv⟩, hs, hbk⟩
    have hex : ∃ l : List α, l.length = len ∧ ∀ (i : Nat) v, l[i]? = some v → (∃ cs', w.cells? base (a.add (i * P.cellsOf e)) (P.cellsOf e) = some cs' ∧ d.K w v cs') ∧ Sz v ∧ Bk v ≤ uptoBulk (D i) := by
      clear hx hw h hmm hlm hl hm
      induction len with
      | zero => exact ⟨[], rfl, fun i v hv => by simp at hv⟩
      | succ k ih =>
        obtain ⟨l, h1, h2⟩ := ih (fun i hi => hel i (by omega))
        obtain ⟨v, hv⟩ := hel k (by omega)
        refine ⟨l ++ [v], by simp [h1], fun i u hu => ?_⟩
        by_cases hi : i < l.length
        · rw [List.getElem?_append_left hi] at hu
          exact h2 i u hu
        · have hik : i = l.length := by
            have := (List.getElem?_eq_some_iff.1 hu).1
            simp at this
            omega
          subst hik
          simp at hu
          subst hu
          rw [h1]
          exact hv
    obtain ⟨l, hll, hlv⟩ := hex
    subst hll
    refine ⟨l, ⟨some a, cap, rfl, hl, rfl, ?_, fun hp => ⟨a, rfl, fun j v hj => ?_⟩⟩, ⟨?_, ?_⟩, ?_⟩
    · have : maxLen ≤ 9223372036854775807 := by decide
      omega
    · obtain ⟨⟨cs', h1, h2⟩, _, _⟩ := hlv j v hj
      refine ⟨cs', d.K_len h2, h2, fun i u hu => ?_⟩
      obtain ⟨_, hlen, hcell⟩ := World.cells?_some h1
      have hi : i < cs'.length := (List.getElem?_eq_some_iff.1 hu).1
      have hsz := d.K_len h2
      rw [ho.cells] at hcell hlen
      have := hcell i (by omega)
      rw [hu] at this
      rw [← this, add_add]
    · have := hw ((((List.range l.length).map D).length + ((List.range (m - l.length)).map fun j => D (l.length + j)).length) * P.bytesOf e) (by simp [DataW.weights, ht])
      simp only [List.length_map, List.length_range] at this
      rw [hb] at this
      have h3 : reachBytes = 140737488351232 := by decide
      rw [h3] at this
      have h4 : l.length * b ≤ (l.length + (m - l.length)) * b := Nat.mul_le_mul_right _ (by omega)
      omega
    · intro v hv
      obtain ⟨i, hi, rfl⟩ := List.mem_iff_getElem.1 hv
      exact (hlv i _ (List.getElem?_eq_getElem hi)).2.1
    · have := bulk_all_le Bk l ((List.range l.length).map D) (by simp) (fun i v dd hv hd => by
        have hi : i < l.length := (List.getElem?_eq_some_iff.1 hv).1
        simp [hi] at hd
        rw [← hd]
        exact (hlv i v hv).2.2)
      simp only [uptoBulk]
      omega

/-! Structs: the fields, one behind the other. -/
def offs (P : Program) : List TypeId → Nat → Nat
  | [], _ => 0
  | _, 0 => 0
  | t :: ts, i + 1 => P.cellsOf t + offs P ts i

structure OpensF {α : Type} (P : Program) (ts : List TypeId) (d : Kd α) (Sz : α → Prop) (Bk : α → Nat) : Prop where
  cells : (ts.map P.cellsOf).sum = d.sz
  go : ∀ {H : Type} {enc : TypeId × Value → H} {w : World} {base : Nat} {spare : Nat → Bool} {held : Bool} {n : Nat} {cs : List Value} {xs : List (DataW H × List MemPlace)},
    cs.length = d.sz → xs.length = ts.length → (∀ (i : Nat) t, ts[i]? = some t → DataW.trod enc P w base spare held n t ((cs.drop (offs P ts i)).take (P.cellsOf t)) = xs[i]?) →
    (∀ m ∈ DataW.weightsEach P ts (xs.map (·.1)), m ≤ reachBytes) → ∃ v : α, d.K w v cs ∧ Sz v ∧ Bk v ≤ uptoBulkAll (xs.map (·.1))

theorem opensF_one {α : Type} {P : Program} {t : TypeId} {d : Kd α} {Sz : α → Prop} {Bk : α → Nat} (ho : Opens P t d Sz Bk) : OpensF P [t] d Sz Bk := by
  refine ⟨by simp [ho.cells], fun {H enc w base spare held n cs xs} hl hx h hw => ?_⟩
  match xs, hx with
  | [y], _ =>
    have h0 := h 0 t rfl
    rw [show offs P [t] 0 = 0 from rfl, List.drop_zero, List.take_of_length_le (by rw [ho.cells]; omega)] at h0
    obtain ⟨v, h1, h2, h3⟩ := ho.go h0 (fun m hm => hw m (by simp [DataW.weightsEach, hm]))
    exact ⟨v, h1, h2, by simpa [uptoBulkAll] using h3⟩

theorem opensF_cons {α β : Type} {P : Program} {t : TypeId} {ts : List TypeId} {d : Kd α} {ds : Kd β} {Sz : α → Prop} {Bk : α → Nat} {Szs : β → Prop} {Bks : β → Nat} (ho : Opens P t d Sz Bk) (hs : OpensF P ts ds Szs Bks) :
    OpensF P (t :: ts) (Kd.pair d ds) (fun x => Sz x.1 ∧ Szs x.2) (fun x => Bk x.1 + Bks x.2) := by
  refine ⟨by simp [ho.cells, hs.cells, Kd.pair], fun {H enc w base spare held n cs xs} hl hx h hw => ?_⟩
  match xs, hx with
  | y :: ys, hx =>
    have hl' : cs.length = d.sz + ds.sz := hl
    have h0 := h 0 t rfl
    rw [show offs P (t :: ts) 0 = 0 from rfl, List.drop_zero, ho.cells] at h0
    obtain ⟨v, h1, h2, h3⟩ := ho.go h0 (fun m hm => hw m (by simp [DataW.weightsEach, hm]))
    obtain ⟨u, g1, g2, g3⟩ := hs.go (cs := cs.drop d.sz) (xs := ys) (enc := enc) (w := w) (base := base) (spare := spare) (held := held) (n := n) (by rw [List.length_drop]; omega) (by simpa using hx) (fun i t' ht' => by
      have := h (i + 1) t' (by simpa using ht')
      rw [show offs P (t :: ts) (i + 1) = P.cellsOf t + offs P ts i from rfl, ho.cells] at this
      rw [List.drop_drop]
      simpa using this) (fun m hm => hw m (by simp only [List.map_cons, DataW.weightsEach, List.mem_append]; exact .inr hm))
    refine ⟨(v, u), ⟨cs.take d.sz, cs.drop d.sz, (List.take_append_drop _ _).symm, h1, g1⟩, ⟨h2, g2⟩, ?_⟩
    simp only [List.map_cons, uptoBulkAll]
    omega

theorem opens_struct {α β : Type} {P : Program} {t : TypeId} {fs : Array Field} {ts : List TypeId} {d : Kd α} {f : β → α} {Sz : α → Prop} {Bk : α → Nat} (ht : P.underlying t = some (.struct fs)) (hts : fs.toList.map (·.type) = ts)
    (hoff : ∀ (i : Nat) fl, fs[i]? = some fl → fl.offset = offs P ts i) (hc : P.cellsOf t = d.sz) (ho : OpensF P ts d Sz Bk) (g : α → β) (hg : ∀ v, f (g v) = v) :
    Opens P t (Kd.iso d f) (fun x => Sz (f x)) (fun x => Bk (f x) + 1) := by
  refine ⟨hc, fun {H enc w base spare held n cs x} h hw => ?_⟩
  obtain ⟨xs, n', _, rfl, hl, hlen, hf⟩ := DataW.trod_struct ht h
  have hlt : ts.length = fs.size := by rw [← hts]; simp
  obtain ⟨v, h1, h2, h3⟩ := ho.go (cs := cs) (xs := xs) (enc := enc) (w := w) (base := base) (spare := spare) (held := held) (n := n') (by rw [hl, hc]) (by omega) (fun i t' ht' => by
    have hi : i < fs.size := by rw [← hlt]; exact (List.getElem?_eq_some_iff.1 ht').1
    have hfi : fs[i]? = some fs[i] := Array.getElem?_eq_getElem hi
    have := hf i fs[i] hfi
    rw [hoff i _ hfi] at this
    have he : fs[i].type = t' := by
      rw [← hts, List.getElem?_map, Array.getElem?_toList, hfi] at ht'
      simpa using ht'
    rw [he] at this
    exact this) (fun m hm => hw m (by simp only [DataW.weights, ht, hts]; exact hm))
  exact ⟨g v, by show d.K w (f (g v)) cs; rw [hg]; exact h1, by rw [hg]; exact h2, by rw [hg]; simp only [uptoBulk]; omega⟩

end Go.Proofs.YtpnamhplhdaphaaDoor.Open

-- ==== PO
set_option linter.unusedVariables false
namespace Go.Proofs.YtpnamhplhdaphaaDoor.P
open Go.RowKit Go.Proofs.YtpnamhplhdaphaaDoorW.PrintWords Go.Proofs.YtpnamhplhdaphaaDoor.Open
def sz3 (a : Int) : Prop := (Lit.int .i64 a).wf = true
def bk3 (_ : Int) : Nat := 1
theorem op3 : Opens Tryd.prog 3 (Kd.int .i64) sz3 bk3 := opens_int Tryd.underlying3 (by kernel_rfl)
def sz9 (s : ByteArray) : Prop := s.size ≤ 140737488351232
def bk9 (s : ByteArray) : Nat := s.size + 1
theorem op9 : Opens Tryd.prog 9 Kd.string sz9 bk9 := opens_string Tryd.underlying9 (by kernel_rfl)
def sz33 (x : S33) : Prop := sz9 x.f0 ∧ sz3 x.f1
def bk33 (x : S33) : Nat := (bk9 x.f0 + bk3 x.f1) + 1
theorem op33 : Opens Tryd.prog 33 k33 sz33 bk33 := opens_struct (P := Tryd.prog) (ts := [9, 3]) (f := fun x : S33 => (x.f0, x.f1)) Tryd.underlying33 (by kernel_rfl) (fun i fl h => by
    match i, h with
    | 0, h => obtain rfl := Option.some.inj h; show (0 : Nat) = offs Tryd.prog [9, 3] 0; kernel_rfl
    | 1, h => obtain rfl := Option.some.inj h; show (1 : Nat) = offs Tryd.prog [9, 3] 1; kernel_rfl
    | i + 2, h => simp at h) (by kernel_rfl) (opensF_cons op9 (opensF_one op3)) (fun x => ⟨x.1, x.2⟩) (fun _ => rfl)
def sz23 (l : List (S33)) : Prop := l.length * 24 ≤ 140737488351232 ∧ ∀ x ∈ l, sz33 x
def bk23 (l : List (S33)) : Nat := bulkAll bk33 l + 1
theorem op23 : Opens Tryd.prog 23 (Kd.slice 33 k33) sz23 bk23 := opens_slice Tryd.underlying23 (by kernel_rfl) (by kernel_rfl) op33
def sz25 (x : S25) : Prop := sz3 x.f0 ∧ sz23 x.f1 ∧ sz23 x.f2
def bk25 (x : S25) : Nat := (bk3 x.f0 + (bk23 x.f1 + bk23 x.f2)) + 1
theorem op25 : Opens Tryd.prog 25 k25 sz25 bk25 := opens_struct (P := Tryd.prog) (ts := [3, 23, 23]) (f := fun x : S25 => (x.f0, x.f1, x.f2)) Tryd.underlying25 (by kernel_rfl) (fun i fl h => by
    match i, h with
    | 0, h => obtain rfl := Option.some.inj h; show (0 : Nat) = offs Tryd.prog [3, 23, 23] 0; kernel_rfl
    | 1, h => obtain rfl := Option.some.inj h; show (1 : Nat) = offs Tryd.prog [3, 23, 23] 1; kernel_rfl
    | 2, h => obtain rfl := Option.some.inj h; show (2 : Nat) = offs Tryd.prog [3, 23, 23] 2; kernel_rfl
    | i + 3, h => simp at h) (by kernel_rfl) (opensF_cons op3 (opensF_cons op23 (opensF_one op23))) (fun x => ⟨x.1, x.2.1, x.2.2⟩) (fun _ => rfl)
end Go.Proofs.YtpnamhplhdaphaaDoor.P

-- ==== PS3
namespace Go.Proofs.YtpnamhplhdaphaaDoor.P
open Go.RowKit Go.Proofs.YtpnamhplhdaphaaDoorW.PrintWords
def aumbrylaw06_RuleChecks.Pure : Prop := ∀ (x0 : S25), sz25 x0 → ∃ k, aumbrylaw06_RuleChecks.f k (x0).f0 (x0).f1 (x0).f2 = some true
end Go.Proofs.YtpnamhplhdaphaaDoor.P

-- ==== PLa
/- Plain laws, part a: what kind a text is: the program's way and the document's way come to one function. -/
namespace Go.Proofs.YtpnamhplhdaphaaDoor.P
open Go.RowKit Go.Proofs.YtpnamhplhdaphaaDoorW.PrintWords
set_option linter.unusedVariables false
set_option linter.unusedSimpArgs false

theorem wrap_up {i : Int} (h0 : 0 ≤ i) (h : i < 9223372036854775807) : wrap64 (i + 1) = i + 1 := by
  unfold wrap64
  omega
theorem wrap_id {i : Int} (h0 : -9223372036854775808 ≤ i) (h : i ≤ 9223372036854775807) : wrap64 i = i := by
  unfold wrap64
  omega

theorem evIfp {α : Type} {c : Prop} [Decidable c] {f g : Nat → Option α} {r : α} (h : c) (hf : Ev f r) : Ev (fun k => if c then f k else g k) r :=
  Ev.congr (fun _ => if_pos h) hf
theorem evIfn {α : Type} {c : Prop} [Decidable c] {f g : Nat → Option α} {r : α} (h : ¬ c) (hf : Ev g r) : Ev (fun k => if c then f k else g k) r :=
  Ev.congr (fun _ => if_neg h) hf
theorem evIs {α : Type} {x : Option α} {a : α} (h : x = some a) : Ev (fun _ => x) a := ⟨0, fun _ _ => h⟩

def lowB (s : ByteArray) (i : Int) : Bool := (decide (97 ≤ bt s i) && decide (bt s i ≤ 122)) || (decide (48 ≤ bt s i) && decide (bt s i ≤ 57) && decide (0 < i))
def upB (s : ByteArray) (i : Int) : Bool := (decide (65 ≤ bt s i) && decide (bt s i ≤ 90)) || (decide (48 ≤ bt s i) && decide (bt s i ≤ 57) && decide (0 < i))
/-- p holds at i, i + 1, .. (d places). -/
def allN (p : Int → Bool) : Nat → Int → Bool
  | 0, _ => true
  | d + 1, i => p i && allN p d (i + 1)
theorem allN_congr {p q : Int → Bool} : ∀ (d : Nat) (i : Int), (∀ j, i ≤ j → j < i + d → p j = q j) → allN p d i = allN q d i
  | 0, _, _ => rfl
  | d + 1, i, h => by
    simp only [allN]
    rw [h i (Int.le_refl _) (by omega), allN_congr d (i + 1) (fun j h1 h2 => h j (by omega) (by omega))]
def kindS (s : ByteArray) : Int :=
  if s.size < 1 ∨ 8 < s.size then 0 else if allN (lowB s) s.size 0 = true then 1 else if allN (upB s) s.size 0 = true then 2 else 0

theorem kindS_bad {s : ByteArray} (h : s.size < 1 ∨ 8 < s.size) : kindS s = 0 := by
  unfold kindS
  exact if_pos h
theorem kindS_good {s : ByteArray} (h1 : 1 ≤ s.size) (h8 : s.size ≤ 8) : kindS s = (if allN (lowB s) s.size 0 = true then 1 else if allN (upB s) s.size 0 = true then 2 else 0) := by
  unfold kindS
  exact if_neg (by omega)
/-! ### the document's -/
theorem refKind_step (k : Nat) (s : ByteArray) (a b : Bool) (i : Int) (h0 : 0 ≤ i) (h1 : i < (s.size : Int)) :
    aumbryref03_Kind.l0 (k + 1) s a b i = aumbryref03_Kind.l0 k s (a && lowB s i) (b && upB s i) (wrap64 (i + 1)) := by
  simp only [aumbryref03_Kind.l0]
  rw [if_pos h1, if_pos h0]
  unfold lowB upB
  generalize bt s i = c
  by_cases c1 : c ≥ 48 <;> by_cases c2 : c ≤ 57 <;> by_cases c3 : c ≥ 97 <;> by_cases c4 : c ≤ 122 <;> by_cases c5 : c ≥ 65 <;> by_cases c6 : c ≤ 90 <;> first | (exfalso; omega) | (cases a <;> cases b <;> simp [c1, c2, c3, c4, c5, c6])
theorem refKind_end (k : Nat) (s : ByteArray) (a b : Bool) (i : Int) (h1 : ¬ i < (s.size : Int)) :
    aumbryref03_Kind.l0 (k + 1) s a b i = some (if a = true then 1 else if b = true then 2 else 0) := by
  simp only [aumbryref03_Kind.l0]
  rw [if_neg h1]
  cases a <;> cases b <;> rfl
theorem refKind_loop (s : ByteArray) (hs : s.size ≤ 8) : ∀ (d : Nat) (k : Nat) (a b : Bool) (i : Int), 0 ≤ i → (s.size : Int) - i = d → d < k →
    aumbryref03_Kind.l0 k s a b i = some (if (a && allN (lowB s) d i) = true then 1 else if (b && allN (upB s) d i) = true then 2 else 0)
  | 0, k, a, b, i, h0, hd, hk => by
    obtain ⟨k, rfl⟩ : ∃ m, k = m + 1 := ⟨k - 1, by omega⟩
    rw [refKind_end k s a b i (by omega)]
    simp [allN]
  | d + 1, k, a, b, i, h0, hd, hk => by
    obtain ⟨k, rfl⟩ : ∃ m, k = m + 1 := ⟨k - 1, by omega⟩
    rw [refKind_step k s a b i h0 (by omega), wrap_up h0 (by omega), refKind_loop s hs d k _ _ (i + 1) (by omega) (by omega) (by omega)]
    simp [allN, Bool.and_assoc]
theorem ev_refKind (s : ByteArray) : Ev (fun k => aumbryref03_Kind.f k s) (kindS s) := by
  refine ⟨12, fun k hk => ?_⟩
  show aumbryref03_Kind.f k s = _
  unfold aumbryref03_Kind.f
  obtain ⟨k, rfl⟩ : ∃ m, k = m + 1 := ⟨k - 1, by omega⟩
  by_cases h1 : (s.size : Int) < 1
  · rw [if_pos h1]
    simp [aumbryref03_Kind.j0, kindS_bad (s := s) (.inl (by omega))]
  · rw [if_neg h1]
    simp only [aumbryref03_Kind.j0]
    by_cases h2 : (s.size : Int) > 8
    · rw [if_pos (by simpa using h2), kindS_bad (s := s) (.inr (by omega))]
    · rw [kindS_good (s := s) (by omega) (by omega), if_neg (by simpa using h2), refKind_loop s (by omega) s.size k true true 0 (by omega) (by omega) (by omega)]
      simp

/-! ### the program's -/
def signS (c : Int) : Int × Int := if 97 ≤ c ∧ c ≤ 122 then (1, 1) else if 65 ≤ c ∧ c ≤ 90 then (2, 2) else if 48 ≤ c ∧ c ≤ 57 then (0, 3) else (0, 0)
theorem sign_at (c : Int) (k : Nat) (hk : 2 ≤ k) : name_sign.f k c = some (signS c) := by
  obtain ⟨k, rfl⟩ : ∃ m, k = m + 2 := ⟨k - 2, by omega⟩
  unfold name_sign.f signS
  by_cases c1 : c ≥ 48 <;> by_cases c2 : c ≤ 57 <;> by_cases c3 : c ≥ 97 <;> by_cases c4 : c ≤ 122 <;> by_cases c5 : c ≥ 65 <;> by_cases c6 : c ≤ 90 <;> first | (exfalso; omega) | (simp [name_sign.j0, name_sign.j1, c1, c2, c3, c4, c5, c6])
theorem bits_and_ (a b : Int) (ha : a = 0 ∨ a = 1 ∨ a = 2 ∨ a = 3) (hb : b = 0 ∨ b = 1 ∨ b = 2) : (Go.bits .and .i64 a b = 0) ↔ (b = 0 ∨ (b = 1 ∧ (a = 0 ∨ a = 2)) ∨ (b = 2 ∧ (a = 0 ∨ a = 1))) := by
  rcases ha with rfl | rfl | rfl | rfl <;> rcases hb with rfl | rfl | rfl <;> decide
def goesB (s : ByteArray) (b : Int) (i : Int) : Bool := decide (¬ (Go.bits .and .i64 (signS (bt s i)).2 b = 0))
theorem kind_loop (s : ByteArray) (b : Int) (hs : s.size ≤ 8) : ∀ (d : Nat) (k : Nat) (i : Int), 0 ≤ i → (s.size : Int) - i = d → d + 2 < k →
    name_Kind.l0 k s b (s.size : Int) i = some (if allN (goesB s b) d i = true then b else 0)
  | 0, k, i, h0, hd, hk => by
    obtain ⟨k, rfl⟩ : ∃ m, k = m + 1 := ⟨k - 1, by omega⟩
    simp only [name_Kind.l0]
    rw [if_neg (by omega)]
    simp [allN]
  | d + 1, k, i, h0, hd, hk => by
    obtain ⟨k, rfl⟩ : ∃ m, k = m + 1 := ⟨k - 1, by omega⟩
    simp only [name_Kind.l0]
    rw [if_pos (by omega), if_pos h0, if_pos (by omega), sign_at _ _ (by omega)]
    simp only [Option.bind_some]
    by_cases hg : Go.bits .and .i64 (signS (bt s i)).2 b = 0
    · rw [if_pos hg]
      simp [allN, goesB, hg]
    · rw [if_neg hg, wrap_up h0 (by omega), kind_loop s b hs d k (i + 1) (by omega) (by omega) (by omega)]
      simp [allN, goesB, hg]
theorem signS_two (c : Int) : (signS c).2 = 0 ∨ (signS c).2 = 1 ∨ (signS c).2 = 2 ∨ (signS c).2 = 3 := by
  unfold signS
  repeat' split
  all_goals simp
theorem goes_one (s : ByteArray) (i : Int) (hi : 0 < i) : goesB s 1 i = lowB s i := by
  have h := bits_and_ (signS (bt s i)).2 1 (signS_two _) (by simp)
  unfold goesB lowB
  rw [Bool.eq_iff_iff]
  simp only [decide_eq_true_eq, h, Bool.or_eq_true, Bool.and_eq_true]
  unfold signS
  repeat' split
  all_goals simp
  all_goals omega
theorem goes_two (s : ByteArray) (i : Int) (hi : 0 < i) : goesB s 2 i = upB s i := by
  have h := bits_and_ (signS (bt s i)).2 2 (signS_two _) (by simp)
  unfold goesB upB
  rw [Bool.eq_iff_iff]
  simp only [decide_eq_true_eq, h, Bool.or_eq_true, Bool.and_eq_true]
  unfold signS
  repeat' split
  all_goals simp
  all_goals omega
theorem kind_eq (s : ByteArray) (h1 : 1 ≤ s.size) (h8 : s.size ≤ 8) : (if allN (goesB s (signS (bt s 0)).1) s.size 0 = true then (signS (bt s 0)).1 else 0) = kindS s := by
  rw [kindS_good h1 h8]
  obtain ⟨n, hn⟩ : ∃ n, s.size = n + 1 := ⟨s.size - 1, by omega⟩
  have e1 : allN (goesB s 1) n (0 + 1) = allN (lowB s) n (0 + 1) := allN_congr _ _ (fun j h1 _ => goes_one s j (by omega))
  have e2 : allN (goesB s 2) n (0 + 1) = allN (upB s) n (0 + 1) := allN_congr _ _ (fun j h1 _ => goes_two s j (by omega))
  by_cases hl : 97 ≤ bt s 0 ∧ bt s 0 ≤ 122
  · have hs : signS (bt s 0) = (1, 1) := by unfold signS; rw [if_pos hl]
    have g0 : goesB s 1 0 = true := by unfold goesB; rw [hs]; decide
    have l0 : lowB s 0 = true := by unfold lowB; simp [hl]
    have u0 : upB s 0 = false := by unfold upB; simp; omega
    simp only [hn, hs, allN, e1, g0, l0, u0, Bool.true_and, Bool.false_and]
    split <;> simp
  · by_cases hu : 65 ≤ bt s 0 ∧ bt s 0 ≤ 90
    · have hs : signS (bt s 0) = (2, 2) := by unfold signS; rw [if_neg hl, if_pos hu]
      have g0 : goesB s 2 0 = true := by unfold goesB; rw [hs]; decide
      have l0 : lowB s 0 = false := by unfold lowB; simp; omega
      have u0 : upB s 0 = true := by unfold upB; simp [hu]
      simp only [hn, hs, allN, e2, g0, l0, u0, Bool.true_and, Bool.false_and]
      simp
    · have hs : (signS (bt s 0)).1 = 0 := by unfold signS; rw [if_neg hl, if_neg hu]; split <;> rfl
      have l0 : lowB s 0 = false := by unfold lowB; simp; omega
      have u0 : upB s 0 = false := by unfold upB; simp; omega
      simp only [hn, hs, allN, l0, u0, Bool.true_and, Bool.false_and]
      simp
theorem toList_nil (s : ByteArray) : s.toList = ([] : List UInt8) ↔ s.size = 0 := by
  rw [ByteArray.toList_eq]
  constructor
  · intro h
    have := congrArg List.length h
    simpa [data_length] using this
  · intro h
    apply List.eq_nil_of_length_eq_zero
    rw [data_length]
    exact h
theorem ev_kind (s : ByteArray) : Ev (fun k => name_Kind.f k s) (kindS s) := by
  refine ⟨16, fun k hk => ?_⟩
  show name_Kind.f k s = _
  unfold name_Kind.f
  obtain ⟨k, rfl⟩ : ∃ m, k = m + 1 := ⟨k - 1, by omega⟩
  by_cases h1 : s.toList = ([] : List UInt8)
  · rw [if_pos h1]
    have := (toList_nil s).1 h1
    simp [name_Kind.j0, kindS_bad (s := s) (.inl (by omega))]
  · have h1' : s.size ≠ 0 := fun h => h1 ((toList_nil s).2 h)
    rw [if_neg h1]
    simp only [name_Kind.j0]
    by_cases h2 : (s.size : Int) > 8
    · rw [if_pos (by simpa using h2), kindS_bad (s := s) (.inr (by omega))]
    · rw [if_neg (by simpa using h2), if_pos (by omega), sign_at _ _ (by omega)]
      simp only [Option.bind_some]
      rw [kind_loop s _ (by omega) s.size k 0 (by omega) (by omega) (by omega), kind_eq s (by omega) (by omega)]
end Go.Proofs.YtpnamhplhdaphaaDoor.P

-- ==== PLb
/- Plain laws, part b: a list of cells as terms one behind the other; whether it is a term (both ways come to one function). -/
namespace Go.Proofs.YtpnamhplhdaphaaDoor.P
open Go.RowKit Go.Proofs.YtpnamhplhdaphaaDoorW.PrintWords
set_option linter.unusedVariables false
set_option linter.unusedSimpArgs false

abbrev Cel := S33
instance celEq : DecidableEq Cel := fun a b =>
  if h : a.f0 = b.f0 ∧ a.f1 = b.f1 then isTrue (by cases a; cases b; simp only at h; rw [h.1, h.2]) else isFalse (fun e => h (by rw [e]; exact ⟨rfl, rfl⟩))
theorem drop_cons {α : Type} {t : List α} {n : Nat} {c : α} {s : List α} (h : t.drop n = c :: s) : n < t.length ∧ (∀ d, t.getD n d = c) ∧ t.drop (n + 1) = s := by
  have h1 : n < t.length := by
    rcases Nat.lt_or_ge n t.length with h1 | h1
    · exact h1
    · rw [List.drop_eq_nil_of_le h1] at h
      cases h
  rw [List.drop_eq_getElem_cons h1] at h
  injection h with h2 h3
  exact ⟨h1, fun d => by rw [List.getD_eq_getElem?_getD, List.getElem?_eq_getElem h1]; exact h2, h3⟩
theorem drop_nil_len {α : Type} {t : List α} {n : Nat} (hn : n ≤ t.length) (h : t.drop n = []) : n = t.length := by
  have := congrArg List.length h
  simp at this
  omega
theorem rd_cel {t : List Cel} {n : Nat} {c : Cel} {s : List Cel} (h : t.drop n = c :: s) : rd_T33 t (n : Int) = c := by
  unfold rd_T33
  exact (drop_cons h).2.1 _

def ar (c : Cel) : Nat := c.f1.toNat
def cellErr (c : Cel) : Int := if kindS c.f0 = 0 then 4 else if c.f1 < 0 then 5 else if c.f1 > 4 then 5 else if kindS c.f0 = 2 then (if c.f1 > 0 then 5 else 0) else 0
def errs : List Cel → Int
  | [] => 0
  | c :: l => if cellErr c = 0 then errs l else cellErr c
/-- What is left behind the first n terms. -/
def segN : List Cel → Nat → Option (List Cel)
  | l, 0 => some l
  | [], _ + 1 => none
  | c :: l, n + 1 => segN l (n + ar c)
def checkS (t : List Cel) : Int := if t.length > 64 then 6 else if errs t = 0 then (if segN t 1 = some [] then 0 else 3) else errs t

theorem segN_zero (l : List Cel) : segN l 0 = some l := by cases l <;> rfl
theorem segN_add : ∀ (l : List Cel) (a b : Nat), segN l (a + b) = (segN l a).bind fun r => segN r b
  | l, 0, b => by rw [segN_zero]; simp
  | [], a + 1, b => by rw [show a + 1 + b = (a + b) + 1 by omega]; rfl
  | c :: l, a + 1, b => by
    rw [show a + 1 + b = (a + b) + 1 by omega]
    show segN l (a + b + ar c) = (segN l (a + ar c)).bind _
    rw [show a + b + ar c = (a + ar c) + b by omega]
    exact segN_add l (a + ar c) b
theorem segN_len : ∀ {l r : List Cel} {n : Nat}, segN l n = some r → r.length ≤ l.length ∧ (0 < n → r.length < l.length)
  | l, r, 0, h => by
    rw [segN_zero] at h
    injection h with h
    subst h
    exact ⟨Nat.le_refl _, fun h => absurd h (by omega)⟩
  | [], r, n + 1, h => by cases h
  | c :: l, r, n + 1, h => by
    have := (segN_len (l := l) (r := r) (n := n + ar c) h).1
    simp only [List.length_cons]
    exact ⟨by omega, fun _ => by omega⟩
theorem segN_suffix : ∀ {l r : List Cel} {n : Nat}, segN l n = some r → ∃ m, m ≤ l.length ∧ l.drop m = r
  | l, r, 0, h => by
    rw [segN_zero] at h
    injection h with h
    exact ⟨0, by omega, h⟩
  | [], r, n + 1, h => by cases h
  | c :: l, r, n + 1, h => by
    obtain ⟨m, h1, h2⟩ := segN_suffix (l := l) (r := r) (n := n + ar c) h
    exact ⟨m + 1, by simp; omega, h2⟩

/-- What the cells of a term that is right are. -/
structure Okc (c : Cel) : Prop where
  kind : kindS c.f0 ≠ 0
  lo : 0 ≤ c.f1
  hi : c.f1 ≤ 4
  var : kindS c.f0 = 2 → c.f1 = 0
theorem okc_of {c : Cel} (h : cellErr c = 0) : Okc c := by
  unfold cellErr at h
  by_cases h1 : kindS c.f0 = 0
  · rw [if_pos h1] at h; cases h
  · rw [if_neg h1] at h
    by_cases h2 : c.f1 < 0
    · rw [if_pos h2] at h; cases h
    · rw [if_neg h2] at h
      by_cases h3 : c.f1 > 4
      · rw [if_pos h3] at h; cases h
      · rw [if_neg h3] at h
        refine ⟨h1, by omega, by omega, fun hk => ?_⟩
        rw [if_pos hk] at h
        by_cases h4 : c.f1 > 0
        · rw [if_pos h4] at h; cases h
        · omega
theorem errs_ok : ∀ {l : List Cel}, errs l = 0 → ∀ c ∈ l, Okc c
  | [], _, _, h => by cases h
  | a :: l, h, c, hc => by
    unfold errs at h
    by_cases h1 : cellErr a = 0
    · rw [if_pos h1] at h
      rcases List.mem_cons.1 hc with rfl | hc
      · exact okc_of h1
      · exact errs_ok h c hc
    · rw [if_neg h1] at h
      exact absurd h h1
/-! ### the program's: behind, Check -/
theorem ev_cell (c : Cel) : Ev (fun k => term_cell.f k c.f0 c.f1) (cellErr c) := by
  unfold term_cell.f
  refine Ev.bind (ev_kind c.f0) ?_
  refine Ev.congr (f := fun _ => some (cellErr c)) (fun k => ?_) (Ev.now _)
  unfold cellErr
  simp only [apply_ite some]
/-- The place behind n terms that begin at 'at'; -1: they have no end. -/
def behS (t : List Cel) (a n : Nat) : Int := match segN (t.drop a) n with
  | none => -1
  | some r => ((t.length - r.length : Nat) : Int)
theorem ev_behind_loop (t : List Cel) (ht : t.length ≤ 64) (hok : ∀ c ∈ t, Okc c) : ∀ (s : List Cel) (a n : Nat), a ≤ t.length → t.drop a = s → n ≤ 1 + 4 * a →
    Ev (fun k => term_behind.l0 k t (a : Int) (n : Int)) (behS t a n)
  | s, a, 0, ha, hs, hn => by
    refine Ev.step (f := fun _ => some (a : Int)) (fun k => by simp only [term_behind.l0]; rw [if_neg (by omega)]) ?_
    have : behS t a 0 = (a : Int) := by
      unfold behS
      rw [segN_zero]
      simp only [List.length_drop]
      omega
    rw [this]
    exact Ev.now _
  | [], a, n + 1, ha, hs, hn => by
    have hl := drop_nil_len ha hs
    refine Ev.step (f := fun _ => some (-1 : Int)) (fun k => by simp only [term_behind.l0]; rw [if_pos (by omega), if_pos (by omega)]) ?_
    have : behS t a (n + 1) = -1 := by
      unfold behS
      rw [hs]
      rfl
    rw [this]
    exact Ev.now _
  | c :: s, a, n + 1, ha, hs, hn => by
    obtain ⟨h1, h2, h3⟩ := drop_cons hs
    have hc : Okc c := hok c (List.mem_of_mem_drop (hs ▸ List.mem_cons_self ..))
    have har : (ar c : Int) = c.f1 := by unfold ar; have := hc.lo; omega
    have hh := hc.hi
    have hl0 := hc.lo
    refine Ev.step (f := fun k => term_behind.l0 k t ((a + 1 : Nat) : Int) ((n + ar c : Nat) : Int)) (fun k => ?_) ?_
    · simp only [term_behind.l0]
      rw [if_pos (by omega), if_neg (by omega), if_pos (by omega), if_pos (by omega), rd_cel hs, wrap_up (by omega) (by omega)]
      have e : wrap64 (((n + 1 : Nat) : Int) + wrap64 (c.f1 - 1)) = ((n + ar c : Nat) : Int) := by
        rw [wrap_id (i := c.f1 - 1) (by omega) (by omega), wrap_id (by omega) (by omega)]
        omega
      rw [e]
      rfl
    · have : behS t a (n + 1) = behS t (a + 1) (n + ar c) := by
        unfold behS
        rw [hs, h3]
        rfl
      rw [this]
      exact ev_behind_loop t ht hok s (a + 1) (n + ar c) (by omega) h3 (by omega)
theorem ev_behind (t : List Cel) (ht : t.length ≤ 64) (hok : ∀ c ∈ t, Okc c) (a : Nat) (ha : a ≤ t.length) : Ev (fun k => term_behind.f k t (a : Int)) (behS t a 1) := by
  unfold term_behind.f
  exact ev_behind_loop t ht hok _ a 1 ha rfl (by omega)
theorem behS_whole (t : List Cel) : (behS t 0 1 = (t.length : Int)) ↔ segN t 1 = some [] := by
  unfold behS
  rw [List.drop_zero]
  cases h : segN t 1 with
  | none => simp
  | some r =>
    have := segN_len h
    simp only [Option.some.injEq]
    constructor
    · intro h1
      apply List.eq_nil_of_length_eq_zero
      omega
    · rintro rfl
      simp
theorem ev_check_loop (t : List Cel) (ht : t.length ≤ 64) : ∀ (s : List Cel) (a : Nat), a ≤ t.length → t.drop a = s → (∀ c ∈ t.take a, Okc c) →
    Ev (fun k => term_Check.l0 k t t (t.length : Int) (a : Int)) (if errs s = 0 then (if segN t 1 = some [] then 0 else 3) else errs s)
  | [], a, ha, hs, hok => by
    have hl := drop_nil_len ha hs
    rw [hl, List.take_length] at hok
    refine Ev.step (f := fun k => (term_behind.f k t 0).bind fun r => (if r = (t.length : Int) then (some 0) else (some 3))) (fun k => by simp only [term_Check.l0]; rw [if_neg (by omega)]) ?_
    refine Ev.bind (ev_behind t ht hok 0 (by omega)) ?_
    refine Ev.congr (f := fun _ => some (if segN t 1 = some [] then 0 else 3)) (fun k => ?_) (Ev.now _)
    by_cases h : segN t 1 = some []
    · rw [if_pos ((behS_whole t).2 h), if_pos h]
    · rw [if_neg (fun h' => h ((behS_whole t).1 h')), if_neg h]
  | c :: s, a, ha, hs, hok => by
    obtain ⟨h1, h2, h3⟩ := drop_cons hs
    refine Ev.step (f := fun k => (term_cell.f k c.f0 c.f1).bind fun e => (if e = 0 then (term_Check.l0 k t t (t.length : Int) ((a + 1 : Nat) : Int)) else (some e))) (fun k => ?_) ?_
    · simp only [term_Check.l0]
      rw [if_pos (by omega), if_pos (by omega), if_pos (by omega), rd_cel hs, wrap_up (by omega) (by omega)]
      rfl
    · refine Ev.bind (ev_cell c) ?_
      by_cases he : cellErr c = 0
      · refine Ev.congr (f := fun k => term_Check.l0 k t t (t.length : Int) ((a + 1 : Nat) : Int)) (fun k => by rw [if_pos he]) ?_
        have : errs (c :: s) = errs s := by simp only [errs]; rw [if_pos he]
        rw [this]
        refine ev_check_loop t ht s (a + 1) (by omega) h3 (fun x hx => ?_)
        rw [List.take_succ_eq_append_getElem h1] at hx
        rcases List.mem_append.1 hx with hx | hx
        · exact hok x hx
        · have hce : t[a] = c := by have := h2 c; rw [List.getD_eq_getElem?_getD, List.getElem?_eq_getElem h1] at this; exact this
          rw [List.mem_singleton.1 hx, hce]
          exact okc_of he
      · refine Ev.congr (f := fun _ => some (cellErr c)) (fun k => by rw [if_neg he]) ?_
        have : errs (c :: s) = cellErr c := by simp only [errs]; rw [if_neg he]
        rw [this, if_neg he]
        exact Ev.now _
theorem ev_check (t : List Cel) : Ev (fun k => term_Check.f k t) (checkS t) := by
  unfold term_Check.f checkS
  by_cases h : t.length > 64
  · rw [if_pos h]
    exact Ev.congr (f := fun _ => some 6) (fun k => if_pos (by omega)) (Ev.now _)
  · rw [if_neg h]
    exact Ev.congr (f := fun k => term_Check.l0 k t t (t.length : Int) ((0 : Nat) : Int)) (fun k => if_neg (by omega)) (ev_check_loop t (by omega) t 0 (by omega) rfl (by simp))

/-! ### the document's: Behind, Check -/
theorem ev_refBehind_at : ∀ (d : Nat) (t : List Cel) (ht : t.length ≤ 64) (hok : ∀ c ∈ t, Okc c) (a : Nat), t.length - a = d → a ≤ t.length → Ev (fun k => aumbryref04_Behind.f k t (a : Int)) (behS t a 1) := by
  intro d
  induction d using Nat.strongRecOn with
  | _ d ih =>
  intro t ht hok a hd ha
  rcases hs : t.drop a with _ | ⟨c, s⟩
  · have hl := drop_nil_len ha hs
    refine Ev.step (f := fun k => aumbryref04_Behind.j0 k t (a : Int) true) (fun k => by simp only [aumbryref04_Behind.f]; rw [if_neg (by omega)]; congr 1; simp; omega) ?_
    refine Ev.step (f := fun k => some (-1)) (fun k => by simp only [aumbryref04_Behind.j0]; rfl) ?_
    have : behS t a 1 = -1 := by
      unfold behS
      rw [hs]
      rfl
    rw [this]
    exact Ev.now _
  · obtain ⟨h1, h2, h3⟩ := drop_cons hs
    have hc : Okc c := hok c (List.mem_of_mem_drop (hs ▸ List.mem_cons_self ..))
    have har : (ar c : Int) = c.f1 := by unfold ar; have := hc.lo; omega
    have hh := hc.hi
    have hl0 := hc.lo
    refine Ev.step (f := fun k => aumbryref04_Behind.j0 k t (a : Int) false) (fun k => by simp only [aumbryref04_Behind.f]; rw [if_neg (by omega)]; congr 1; simp; omega) ?_
    refine Ev.step (f := fun k => aumbryref04_Behind.l0 k t ((a + 1 : Nat) : Int) (ar c : Int) 0) (fun k => by
      simp only [aumbryref04_Behind.j0]
      rw [if_neg (by simp), if_pos (by omega), if_pos (by omega), rd_cel hs, wrap_up (by omega) (by omega), har]
      rfl) ?_
    have loop : ∀ (m : Nat) (b i : Nat), t.length - b < d → b ≤ t.length → i + m = ar c → Ev (fun k => aumbryref04_Behind.l0 k t (b : Int) (ar c : Int) (i : Int)) (behS t b m) := by
      intro m
      induction m with
      | zero =>
        intro b i hb hbl hi
        refine Ev.step (f := fun _ => some (b : Int)) (fun k => by simp only [aumbryref04_Behind.l0]; rw [if_neg (by omega)]) ?_
        have : behS t b 0 = (b : Int) := by
          unfold behS
          rw [segN_zero]
          simp only [List.length_drop]
          omega
        rw [this]
        exact Ev.now _
      | succ m ihm =>
        intro b i hb hbl hi
        refine Ev.step (f := fun k => (aumbryref04_Behind.f k t (b : Int)).bind fun r => aumbryref04_Behind.l0 k t r (ar c : Int) ((i + 1 : Nat) : Int)) (fun k => by
          simp only [aumbryref04_Behind.l0]
          rw [if_pos (by omega), if_pos (by omega), wrap_up (by omega) (by omega)]
          rfl) ?_
        refine Ev.bind (ih _ hb t ht hok b rfl hbl) ?_
        have hadd : segN (t.drop b) (m + 1) = (segN (t.drop b) 1).bind fun r => segN r m := by rw [show m + 1 = 1 + m by omega]; exact segN_add _ _ _
        cases hr : segN (t.drop b) 1 with
        | none =>
          have e1 : behS t b 1 = -1 := by unfold behS; rw [hr]
          have e2 : behS t b (m + 1) = -1 := by unfold behS; rw [hadd, hr]; rfl
          rw [e1, e2]
          refine Ev.step (f := fun _ => some (-1 : Int)) (fun k => ?_) (Ev.now _)
          simp only [aumbryref04_Behind.l0]
          split <;> simp
        | some r =>
          obtain ⟨q, hq1, hq2⟩ := segN_suffix hr
          rw [List.drop_drop] at hq2
          have hlen := segN_len hr
          simp only [List.length_drop] at hlen hq1
          have hrl : r.length = t.length - (b + q) := by rw [← hq2, List.length_drop]
          have e1 : behS t b 1 = ((b + q : Nat) : Int) := by unfold behS; rw [hr]; simp only; omega
          have e2 : behS t b (m + 1) = behS t (b + q) m := by unfold behS; rw [hadd, hr, hq2]; rfl
          rw [e1, e2]
          exact ihm (b + q) (i + 1) (by omega) (by omega) (by omega)
    have : behS t a 1 = behS t (a + 1) (ar c) := by
      unfold behS
      rw [hs, h3]
      show (match segN s (0 + ar c) with | none => (-1 : Int) | some r => _) = _
      rw [Nat.zero_add]
    rw [this]
    exact loop (ar c) (a + 1) 0 (by omega) (by omega) (by omega)
theorem ev_refBehind (t : List Cel) (ht : t.length ≤ 64) (hok : ∀ c ∈ t, Okc c) (a : Nat) (ha : a ≤ t.length) : Ev (fun k => aumbryref04_Behind.f k t (a : Int)) (behS t a 1) := ev_refBehind_at _ t ht hok a rfl ha
theorem ev_refCheck_loop (t : List Cel) (ht : t.length ≤ 64) : ∀ (s : List Cel) (a : Nat), a ≤ t.length → t.drop a = s → (∀ c ∈ t.take a, Okc c) →
    Ev (fun k => aumbryref04_Check.l0 k t (t.length : Int) (a : Int)) (if errs s = 0 then (if segN t 1 = some [] then 0 else 3) else errs s)
  | [], a, ha, hs, hok => by
    have hl := drop_nil_len ha hs
    rw [hl, List.take_length] at hok
    refine Ev.step (f := fun k => (aumbryref04_Behind.f k t 0).bind fun r => (if r = (t.length : Int) then (some 0) else (some 3))) (fun k => by simp only [aumbryref04_Check.l0]; rw [if_neg (by omega)]) ?_
    refine Ev.bind (ev_refBehind t ht hok 0 (by omega)) ?_
    refine Ev.congr (f := fun _ => some (if segN t 1 = some [] then 0 else 3)) (fun k => ?_) (Ev.now _)
    by_cases h : segN t 1 = some []
    · rw [if_pos ((behS_whole t).2 h), if_pos h]
    · rw [if_neg (fun h' => h ((behS_whole t).1 h')), if_neg h]
  | c :: s, a, ha, hs, hok => by
    obtain ⟨h1, h2, h3⟩ := drop_cons hs
    refine Ev.step (f := fun k => (aumbryref03_Kind.f k c.f0).bind fun e => (if e = 0 then (some 4) else (if c.f1 < 0 then (some 5) else (if c.f1 > 4 then (some 5) else (if e = 2 then (if c.f1 = 0 then (aumbryref04_Check.l0 k t (t.length : Int) ((a + 1 : Nat) : Int)) else (some 5)) else (aumbryref04_Check.l0 k t (t.length : Int) ((a + 1 : Nat) : Int))))))) (fun k => ?_) ?_
    · simp only [aumbryref04_Check.l0]
      rw [if_pos (by omega), if_pos (by omega), if_pos (by omega), rd_cel hs, wrap_up (by omega) (by omega)]
      rfl
    · refine Ev.bind (ev_refKind c.f0) ?_
      by_cases he : cellErr c = 0
      · have ho := okc_of he
        have h4 := ho.hi
        have h0 := ho.lo
        refine Ev.congr (f := fun k => aumbryref04_Check.l0 k t (t.length : Int) ((a + 1 : Nat) : Int)) (fun k => ?_) ?_
        · rw [if_neg ho.kind, if_neg (by omega), if_neg (by omega)]
          by_cases hv : kindS c.f0 = 2
          · rw [if_pos hv, if_pos (ho.var hv)]
          · rw [if_neg hv]
        have : errs (c :: s) = errs s := by simp only [errs]; rw [if_pos he]
        rw [this]
        refine ev_refCheck_loop t ht s (a + 1) (by omega) h3 (fun x hx => ?_)
        rw [List.take_succ_eq_append_getElem h1] at hx
        rcases List.mem_append.1 hx with hx | hx
        · exact hok x hx
        · have hce : t[a] = c := by have := h2 c; rw [List.getD_eq_getElem?_getD, List.getElem?_eq_getElem h1] at this; exact this
          rw [List.mem_singleton.1 hx, hce]
          exact ho
      · refine Ev.congr (f := fun _ => some (cellErr c)) (fun k => ?_) ?_
        · unfold cellErr at he ⊢
          by_cases e1 : kindS c.f0 = 0
          · rw [if_pos e1, if_pos e1]
          · rw [if_neg e1] at he
            rw [if_neg e1, if_neg e1]
            by_cases e2 : c.f1 < 0
            · rw [if_pos e2, if_pos e2]
            · rw [if_neg e2] at he
              rw [if_neg e2, if_neg e2]
              by_cases e3 : c.f1 > 4
              · rw [if_pos e3, if_pos e3]
              · rw [if_neg e3] at he
                rw [if_neg e3, if_neg e3]
                by_cases e4 : kindS c.f0 = 2
                · rw [if_pos e4] at he
                  rw [if_pos e4, if_pos e4]
                  by_cases e5 : c.f1 > 0
                  · rw [if_pos e5, if_neg (by omega)]
                  · rw [if_neg e5] at he
                    exact absurd rfl he
                · rw [if_neg e4] at he
                  exact absurd rfl he
        · have : errs (c :: s) = cellErr c := by simp only [errs]; rw [if_neg he]
          rw [this, if_neg he]
          exact Ev.now _
theorem ev_refCheck (t : List Cel) : Ev (fun k => aumbryref04_Check.f k t) (checkS t) := by
  unfold aumbryref04_Check.f checkS
  by_cases h : t.length > 64
  · rw [if_pos h]
    exact Ev.congr (f := fun _ => some 6) (fun k => if_pos (by omega)) (Ev.now _)
  · rw [if_neg h]
    exact Ev.congr (f := fun k => aumbryref04_Check.l0 k t (t.length : Int) ((0 : Nat) : Int)) (fun k => if_neg (by omega)) (ev_refCheck_loop t (by omega) t 0 (by omega) rfl (by simp))
end Go.Proofs.YtpnamhplhdaphaaDoor.P

-- ==== PE0
namespace Go.Proofs.YtpnamhplhdaphaaDoor.P
open Go.RowKit Go.Proofs.YtpnamhplhdaphaaDoorW.PrintWords Go.Proofs.YtpnamhplhdaphaaDoorW.PrintLast Go.Proofs.YtpnamhplhdaphaaDoorW.PrintMore
attribute [local go_sem] max2_int min2_int max_two min_two max_three min_three max_four min_four   -- for this text's walks alone
set_option linter.unusedVariables false
set_option linter.unusedSimpArgs false

theorem eqA33 (d : Nat) (w : World) (x0 y0 : ByteArray) (x1 y1 : Int) :
    (Op.equalIn (d + 2) 33 (.agg #[.string x0, .int .i64 x1]) (.agg #[.string y0, .int .i64 y1])).run Tryd.prog w = .ok (x0.toList == y0.toList && (x1 == y1)) w := by
  refine eqA_of Tryd.underlying33 (by kernel_rfl) ?_
  refine eqf_cons (by rfl) (by go_simp; rfl) (by go_simp; rfl) (by go_simp) ?_
  exact eqf_last (by rfl) (by go_simp; rfl) (by go_simp; rfl) (by go_simp)
end Go.Proofs.YtpnamhplhdaphaaDoor.P

-- ==== PF25
namespace Go.Proofs.YtpnamhplhdaphaaDoor.P
open Go.RowKit Go.Proofs.YtpnamhplhdaphaaDoorW.PrintWords Go.Proofs.YtpnamhplhdaphaaDoorW.PrintLast Go.Proofs.YtpnamhplhdaphaaDoorW.PrintMore
attribute [local go_sem] max2_int min2_int max_two min_two max_three min_three max_four min_four   -- for this text's walks alone
set_option linter.unusedVariables false
set_option linter.unusedSimpArgs false

attribute [local go_sem high] eqA33
/-! ### aumbryref04_Same: function 25 -/
def aumbryref04_Same.l0 : Nat → List (S33) → List (S33) → Int → Int → Option (Bool)
  | 0, _, _, _, _ => none
  | k + 1, x0, x1, x12, x13 => if x13 < x12 then (if 0 ≤ x13 then (if x13 < (x0.length : Int) then (if x13 < (x1.length : Int) then (if (!((((rd_T33 x0 x13).f0).toList) == (((rd_T33 x1 x13).f0).toList)) || (!(((rd_T33 x0 x13).f1) == ((rd_T33 x1 x13).f1)))) = true then (some false) else (aumbryref04_Same.l0 k x0 x1 x12 (wrap64 (x13 + 1)))) else (none)) else (none)) else (none)) else (some true)
def aumbryref04_Same.f (k : Nat) (l0 : List (S33)) (l1 : List (S33)) : Option (Bool) := if (l0.length : Int) = (l1.length : Int) then (aumbryref04_Same.l0 k l0 l1 (l0.length : Int) 0) else (some false)
end Go.Proofs.YtpnamhplhdaphaaDoor.P

-- ==== PLs
/- Plain laws: lists of cells as terms, taken apart (for chapters without match). -/
namespace Go.Proofs.YtpnamhplhdaphaaDoor.P
open Go.RowKit Go.Proofs.YtpnamhplhdaphaaDoorW.PrintWords
set_option linter.unusedVariables false
set_option linter.unusedSimpArgs false

/-- The first term of a list. -/
def fstT (t r : List Cel) : List Cel := t.take (t.length - r.length)
theorem segN_append : ∀ {l r : List Cel} {n : Nat} (q : List Cel), segN l n = some r → segN (l ++ q) n = some (r ++ q)
  | l, r, 0, q, h => by
    rw [segN_zero] at h ⊢
    injection h with h
    rw [h]
  | [], r, n + 1, q, h => by cases h
  | c :: l, r, n + 1, q, h => segN_append (l := l) (r := r) (n := n + ar c) q h
theorem segN_nil_pos {n : Nat} (h : segN [] n = some []) : n = 0 := by
  cases n with
  | zero => rfl
  | succ n => cases h
theorem segN_fst {t r : List Cel} {n : Nat} (h : segN t n = some r) : t = fstT t r ++ r ∧ segN (fstT t r) n = some [] := by
  obtain ⟨m, hm, hd⟩ := segN_suffix h
  have hl : r.length = t.length - m := by rw [← hd, List.length_drop]
  have he : fstT t r = t.take m := by unfold fstT; rw [show t.length - r.length = m by omega]
  rw [he]
  refine ⟨by rw [← hd]; exact (List.take_append_drop m t).symm, ?_⟩
  have : ∀ (l : List Cel) (n m : Nat), m ≤ l.length → segN l n = some (l.drop m) → segN (l.take m) n = some [] := by
    intro l
    induction l with
    | nil =>
      intro n m hm h
      have hm0 : m = 0 := by simpa using hm
      subst hm0
      simpa using h
    | cons c l ih =>
      intro n m hm h
      cases n with
      | zero =>
        rw [segN_zero] at h ⊢
        injection h with h
        have := congrArg List.length h
        simp only [List.length_cons, List.length_drop] at this
        have hm0 : m = 0 := by simp at hm; omega
        rw [hm0]
        rfl
      | succ n =>
        cases m with
        | zero =>
          have := segN_len h
          simp at this
        | succ m =>
          simp only [List.drop_succ_cons] at h
          exact ih (n + ar c) m (by simpa using hm) h
  rw [← hd] at h
  exact this t n m hm h

theorem bytes_eq (a b : ByteArray) : a.toList = b.toList ↔ a = b := by
  rw [ByteArray.toList_eq, ByteArray.toList_eq]
  constructor
  · intro h
    cases a; cases b
    simp only [ByteArray.mk.injEq]
    exact Array.toList_inj.1 h
  · intro h
    rw [h]
theorem copy_at (x : List Cel) (h : x.length < 5864062014805) : aumbryref04_Copy.f x = some x := by
  unfold aumbryref04_Copy.f
  rw [if_pos (by simpa using h)]
  rfl

theorem checkS_ok {t : List Cel} (h : checkS t = 0) : t.length ≤ 64 ∧ (∀ c ∈ t, Okc c) ∧ segN t 1 = some [] := by
  unfold checkS at h
  by_cases h1 : t.length > 64
  · rw [if_pos h1] at h
    cases h
  · rw [if_neg h1] at h
    by_cases h2 : errs t = 0
    · rw [if_pos h2] at h
      by_cases h3 : segN t 1 = some []
      · exact ⟨by omega, errs_ok h2, h3⟩
      · rw [if_neg h3] at h
        cases h
    · rw [if_neg h2] at h
      exact absurd h h2
end Go.Proofs.YtpnamhplhdaphaaDoor.P

-- ==== PLz
/- Plain laws: places in lists, sizes that came in. -/
namespace Go.Proofs.YtpnamhplhdaphaaDoor.P
open Go.RowKit Go.Proofs.YtpnamhplhdaphaaDoorW.PrintWords
set_option linter.unusedVariables false
set_option linter.unusedSimpArgs false
theorem sz_len {l : List Cel} (h : sz23 l) : l.length < 5864062014805 := by
  have := h.1
  omega
theorem up_cast (a : Nat) (h : a < 9223372036854775807) : wrap64 ((a : Int) + 1) = ((a + 1 : Nat) : Int) := by rw [wrap_up (by omega) (by omega)]; rfl
theorem checkS_len {t : List Cel} (h : checkS t = 0) : t.length ≤ 64 := (checkS_ok h).1
end Go.Proofs.YtpnamhplhdaphaaDoor.P

-- ==== PF82
namespace Go.Proofs.YtpnamhplhdaphaaDoor.P
open Go.RowKit Go.Proofs.YtpnamhplhdaphaaDoorW.PrintWords Go.Proofs.YtpnamhplhdaphaaDoorW.PrintLast Go.Proofs.YtpnamhplhdaphaaDoorW.PrintMore
attribute [local go_sem] max2_int min2_int max_two min_two max_three min_three max_four min_four   -- for this text's walks alone
set_option linter.unusedVariables false
set_option linter.unusedSimpArgs false

/-! ### aumbryref04_sign: function 82 -/
def aumbryref04_sign.f (a0 : Int) : Option (Bool) := if a0 ≥ 97 then (if a0 ≤ 122 then (some true) else (if a0 ≥ 65 then (if a0 ≤ 90 then (some true) else (if a0 ≥ 48 then (some (decide (a0 ≤ 57))) else (some false))) else (if a0 ≥ 48 then (some (decide (a0 ≤ 57))) else (some false)))) else (if a0 ≥ 65 then (if a0 ≤ 90 then (some true) else (if a0 ≥ 48 then (some (decide (a0 ≤ 57))) else (some false))) else (if a0 ≥ 48 then (some (decide (a0 ≤ 57))) else (some false)))
end Go.Proofs.YtpnamhplhdaphaaDoor.P

-- ==== PL4x
/- Plain laws of chapter 4: a text's signs, its words. -/
namespace Go.Proofs.YtpnamhplhdaphaaDoor.P
open Go.RowKit Go.Proofs.YtpnamhplhdaphaaDoorW.PrintWords
set_option linter.unusedVariables false
set_option linter.unusedSimpArgs false
abbrev bl (s : ByteArray) : List UInt8 := s.data.toList
end Go.Proofs.YtpnamhplhdaphaaDoor.P

-- ==== PL4t
/- Plain laws of chapter 4: a term's text. -/
namespace Go.Proofs.YtpnamhplhdaphaaDoor.P
open Go.RowKit Go.Proofs.YtpnamhplhdaphaaDoorW.PrintWords
set_option linter.unusedVariables false
set_option linter.unusedSimpArgs false
def closeB (n : Nat) : List UInt8 := if n = 0 then [] else [41]
def sepB (i : Nat) : UInt8 := if i = 0 then 40 else 44
/-- The arguments i, .., n - 1 of a cell with n, their text, their depth. -/
inductive Tx : Nat → Nat → List Cel → List UInt8 → Nat → Prop
  | done (n : Nat) : Tx n n [] [] 0
  | arg {i n : Nat} {c : Cel} {l1 l2 : List Cel} {b1 b2 : List UInt8} {d1 d2 : Nat} (h : i < n) (h1 : Tx 0 (ar c) l1 b1 d1) (h2 : Tx (i + 1) n l2 b2 d2) :
      Tx i n (c :: (l1 ++ l2)) (sepB i :: (bl c.f0 ++ b1 ++ closeB (ar c) ++ b2)) (max (d1 + 1) d2)
theorem tx_seg {i n : Nat} {l : List Cel} {b : List UInt8} {d : Nat} (h : Tx i n l b d) : segN l (n - i) = some [] := by
  induction h with
  | done n => rw [Nat.sub_self]; rfl
  | @arg i n c l1 l2 b1 b2 d1 d2 h h1 h2 ih1 ih2 =>
    rw [show n - i = (n - (i + 1)) + 1 by omega]
    show segN (l1 ++ l2) (n - (i + 1) + ar c) = some []
    rw [Nat.add_comm, segN_add]
    have := segN_append l2 ih1
    rw [Nat.sub_zero] at this
    rw [this]
    exact ih2
theorem tx_of : ∀ (m : Nat) (l : List Cel) (i n : Nat), l.length ≤ m → i ≤ n → segN l (n - i) = some [] → ∃ b d, Tx i n l b d := by
  intro m
  induction m with
  | zero =>
    intro l i n hl hi h
    have : l = [] := List.eq_nil_of_length_eq_zero (by omega)
    subst this
    have := segN_nil_pos h
    have : i = n := by omega
    subst this
    exact ⟨[], 0, .done i⟩
  | succ m ih =>
    intro l i n hl hi h
    cases l with
    | nil =>
      have := segN_nil_pos h
      have : i = n := by omega
      subst this
      exact ⟨[], 0, .done i⟩
    | cons c l =>
      have hin : i < n := by
        rcases Nat.lt_or_ge i n with h1 | h1
        · exact h1
        · rw [show n - i = 0 by omega] at h
          cases h
      rw [show n - i = (n - (i + 1)) + 1 by omega] at h
      have h' : segN l (n - (i + 1) + ar c) = some [] := h
      rw [Nat.add_comm, segN_add] at h'
      cases hr : segN l (ar c) with
      | none => rw [hr] at h'; cases h'
      | some r =>
        rw [hr] at h'
        obtain ⟨e, hs⟩ := segN_fst hr
        have hrl := (segN_len hr).1
        simp at hl
        obtain ⟨b1, d1, t1⟩ := ih (fstT l r) 0 (ar c) (by unfold fstT; rw [List.length_take]; omega) (Nat.zero_le _) (by rw [Nat.sub_zero]; exact hs)
        obtain ⟨b2, d2, t2⟩ := ih r (i + 1) n (by omega) (by omega) h'
        have ht := Tx.arg (c := c) hin t1 t2
        rw [← e] at ht
        exact ⟨_, _, ht⟩
/-! ### writing -/
/-- A term that is right, taken apart. -/
theorem tx_term {t : List Cel} (h : checkS t = 0) : ∃ c l b d, t = c :: l ∧ Tx 0 (ar c) l b d ∧ (∀ x ∈ c :: l, Okc x) ∧ (c :: l).length ≤ 64 := by
  obtain ⟨h1, h2, h3⟩ := checkS_ok h
  rcases t with _ | ⟨c, l⟩
  · cases h3
  have h4 : segN l (0 + ar c) = some [] := h3
  rw [Nat.zero_add] at h4
  obtain ⟨b, d, ht⟩ := tx_of l.length l 0 (ar c) (Nat.le_refl _) (Nat.zero_le _) h4
  exact ⟨c, l, b, d, rfl, ht, h2, h1⟩
end Go.Proofs.YtpnamhplhdaphaaDoor.P

-- ==== PF70
namespace Go.Proofs.YtpnamhplhdaphaaDoor.P
open Go.RowKit Go.Proofs.YtpnamhplhdaphaaDoorW.PrintWords Go.Proofs.YtpnamhplhdaphaaDoorW.PrintLast Go.Proofs.YtpnamhplhdaphaaDoorW.PrintMore
attribute [local go_sem] max2_int min2_int max_two min_two max_three min_three max_four min_four   -- for this text's walks alone
set_option linter.unusedVariables false
set_option linter.unusedSimpArgs false

/-! ### aumbryref04_Kids: function 70 -/
def aumbryref04_Kids.l0 : Nat → List (S33) → List (List (S33)) → Int → Option ((List (List (S33))))
  | 0, _, _, _ => none
  | k + 1, x0, x3, x4 => if x4 < (x0.length : Int) then ((aumbryref04_Behind.f k x0 x4).bind fun t101 => (if 0 ≤ x4 then (if x4 ≤ t101 then (if t101 ≤ (x0.length : Int) then ((aumbryref04_Copy.f ((x0.take (t101 : Int).toNat).drop (x4 : Int).toNat)).bind fun t106 => (if x3.length < 5864062014805 then ((aumbryref04_Behind.f k x0 x4).bind fun t112 => (aumbryref04_Kids.l0 k x0 (x3 ++ [t106]) t112)) else (none))) else (none)) else (none)) else (none))) else (some x3)
def aumbryref04_Kids.f (k : Nat) (l0 : List (S33)) : Option ((List (List (S33)))) := aumbryref04_Kids.l0 k l0 ([] : List (List (S33))) 1
end Go.Proofs.YtpnamhplhdaphaaDoor.P

-- ==== PF49
namespace Go.Proofs.YtpnamhplhdaphaaDoor.P
open Go.RowKit Go.Proofs.YtpnamhplhdaphaaDoorW.PrintWords Go.Proofs.YtpnamhplhdaphaaDoorW.PrintLast Go.Proofs.YtpnamhplhdaphaaDoorW.PrintMore
attribute [local go_sem] max2_int min2_int max_two min_two max_three min_three max_four min_four   -- for this text's walks alone
set_option linter.unusedVariables false
set_option linter.unusedSimpArgs false

/-! ### aumbryref04_Text: function 49 -/
mutual
def aumbryref04_Text.l0 : Nat → ByteArray → List (List (S33)) → Int → Int → Option (ByteArray)
  | 0, _, _, _, _ => none
  | k + 1, x3, x4, x13, x14 => if x14 < x13 then (if x14 = 0 then (if x3.size + 1 ≤ 9223372036854775807 then (if 0 ≤ x14 then (if x14 < (x4.length : Int) then ((aumbryref04_Text.f k (rd_L3 x4 x14)).bind fun t106 => (if (x3 ++ (⟨#[40]⟩ : ByteArray)).size + t106.size ≤ 9223372036854775807 then (aumbryref04_Text.l0 k ((x3 ++ (⟨#[40]⟩ : ByteArray)) ++ t106) x4 x13 (wrap64 (x14 + 1))) else (none))) else (none)) else (none)) else (none)) else (if x3.size + 1 ≤ 9223372036854775807 then (if 0 ≤ x14 then (if x14 < (x4.length : Int) then ((aumbryref04_Text.f k (rd_L3 x4 x14)).bind fun t108 => (if (x3 ++ (⟨#[44]⟩ : ByteArray)).size + t108.size ≤ 9223372036854775807 then (aumbryref04_Text.l0 k ((x3 ++ (⟨#[44]⟩ : ByteArray)) ++ t108) x4 x13 (wrap64 (x14 + 1))) else (none))) else (none)) else (none)) else (none))) else (if (x4.length : Int) > 0 then (if x3.size + 1 ≤ 9223372036854775807 then (some (x3 ++ (⟨#[41]⟩ : ByteArray))) else (none)) else (some x3))
def aumbryref04_Text.f : Nat → List (S33) → Option (ByteArray)
  | 0, _ => none
  | k + 1, l0 => if 0 < (l0.length : Int) then ((aumbryref04_Kids.f k l0).bind fun t102 => (aumbryref04_Text.l0 k ((rd_T33 l0 0).f0) t102 (t102.length : Int) 0)) else (none)
end
end Go.Proofs.YtpnamhplhdaphaaDoor.P

-- ==== PLv
/- Plain laws: a term's variables, its arguments and its text: the program's answers and the document's. -/
namespace Go.Proofs.YtpnamhplhdaphaaDoor.P
open Go.RowKit Go.Proofs.YtpnamhplhdaphaaDoorW.PrintWords
set_option linter.unusedVariables false
set_option linter.unusedSimpArgs false
/-! ### lists of texts -/
instance txtMem (a : ByteArray) (l : List ByteArray) : Decidable (a ∈ l) :=
  if h : l.any (fun b => decide (a = b)) = true then isTrue (by obtain ⟨b, h1, h2⟩ := List.any_eq_true.1 h; rw [of_decide_eq_true h2]; exact h1) else isFalse (fun h1 => h (List.any_eq_true.2 ⟨a, h1, decide_eq_true rfl⟩))
theorem rd_txt {t : List ByteArray} {n : Nat} {c : ByteArray} {s : List ByteArray} (h : t.drop n = c :: s) : rdOf ByteArray.empty t (n : Int) = c := by
  unfold rdOf
  exact (drop_cons h).2.1 _
theorem ev_index_loop (l : List ByteArray) (a : ByteArray) (hl : l.length ≤ 9223372036854775806) : ∀ (u : List ByteArray) (i : Nat), i ≤ l.length → l.drop i = u →
    ∃ r, Ev (fun k => slices_Index_string_string.l0 k l a (l.length : Int) (i : Int)) r ∧ decide (r ≥ 0) = decide (a ∈ u)
  | [], i, hi, hu => by
    have h1 := drop_nil_len hi hu
    refine ⟨-1, Ev.step (fun k => (show slices_Index_string_string.l0 (k + 1) l a (l.length : Int) (i : Int) = _ from by rw [slices_Index_string_string.l0])) ?_, by simp⟩
    exact evIfn (by omega) (Ev.now _)
  | b :: u, i, hi, hu => by
    obtain ⟨h1, _, h3⟩ := drop_cons hu
    by_cases hab : a.toList = b.toList
    · refine ⟨(i : Int), Ev.step (fun k => (show slices_Index_string_string.l0 (k + 1) l a (l.length : Int) (i : Int) = _ from by rw [slices_Index_string_string.l0])) ?_, ?_⟩
      · refine evIfp (by omega) (evIfp (by omega) (evIfp (by omega) ?_))
        rw [rd_txt hu]
        exact evIfp hab (Ev.now _)
      · rw [(bytes_eq a b).1 hab]
        simp
    · obtain ⟨r, hr, he⟩ := ev_index_loop l a hl u (i + 1) (by omega) h3
      refine ⟨r, Ev.step (fun k => (show slices_Index_string_string.l0 (k + 1) l a (l.length : Int) (i : Int) = _ from by rw [slices_Index_string_string.l0])) ?_, ?_⟩
      · refine evIfp (by omega) (evIfp (by omega) (evIfp (by omega) ?_))
        rw [rd_txt hu]
        refine evIfn hab ?_
        rw [up_cast i (by omega)]
        exact hr
      · rw [he]
        have : a ≠ b := fun h => hab (by rw [h])
        simp [this]
theorem ev_contains (l : List ByteArray) (a : ByteArray) (hl : l.length ≤ 9223372036854775806) : Ev (fun k => slices_Contains_string_string.f k l a) (decide (a ∈ l)) := by
  unfold slices_Contains_string_string.f slices_Index_string_string.f
  obtain ⟨r, hr, he⟩ := ev_index_loop l a hl l 0 (by omega) rfl
  refine Ev.bind hr ?_
  rw [he]
  exact Ev.now _
theorem ev_has_loop (l : List ByteArray) (a : ByteArray) (hl : l.length ≤ 9223372036854775806) : ∀ (u : List ByteArray) (i : Nat), i ≤ l.length → l.drop i = u →
    Ev (fun k => aumbryref03_Has.l0 k l a (l.length : Int) (i : Int)) (decide (a ∈ u))
  | [], i, hi, hu => by
    have h1 := drop_nil_len hi hu
    refine Ev.step (fun k => (show aumbryref03_Has.l0 (k + 1) l a (l.length : Int) (i : Int) = _ from by rw [aumbryref03_Has.l0])) ?_
    exact evIfn (by omega) (Ev.now _)
  | b :: u, i, hi, hu => by
    obtain ⟨h1, _, h3⟩ := drop_cons hu
    refine Ev.step (fun k => (show aumbryref03_Has.l0 (k + 1) l a (l.length : Int) (i : Int) = _ from by rw [aumbryref03_Has.l0])) ?_
    refine evIfp (by omega) (evIfp (by omega) (evIfp (by omega) ?_))
    rw [rd_txt hu]
    by_cases hab : b.toList = a.toList
    · have : decide (a ∈ b :: u) = true := by rw [(bytes_eq b a).1 hab]; simp
      rw [this]
      exact evIfp hab (Ev.now _)
    · have : decide (a ∈ b :: u) = decide (a ∈ u) := by
        have : a ≠ b := fun h => hab (by rw [h])
        simp [this]
      rw [this]
      refine evIfn hab ?_
      rw [up_cast i (by omega)]
      exact ev_has_loop l a hl u (i + 1) (by omega) h3
theorem ev_has (l : List ByteArray) (a : ByteArray) (hl : l.length ≤ 9223372036854775806) : Ev (fun k => aumbryref03_Has.f k l a) (decide (a ∈ l)) := by
  unfold aumbryref03_Has.f
  exact ev_has_loop l a hl l 0 (by omega) rfl
/-! ### variables -/
def varsS : List ByteArray → List Cel → List ByteArray
  | out, [] => out
  | out, c :: l => if kindS c.f0 = 2 then (if c.f0 ∈ out then varsS out l else varsS (out ++ [c.f0]) l) else varsS out l
theorem ev_vars_loop (t : List Cel) (ht : t.length ≤ 1000) : ∀ (u : List Cel) (i : Nat) (out : List ByteArray), i ≤ t.length → t.drop i = u → out.length ≤ i →
    Ev (fun k => term_Vars.l0 k out t (t.length : Int) (i : Int)) (varsS out u, 0)
  | [], i, out, hi, hu, ho => by
    have h1 := drop_nil_len hi hu
    refine Ev.step (fun k => (show term_Vars.l0 (k + 1) out t (t.length : Int) (i : Int) = _ from by rw [term_Vars.l0])) ?_
    exact evIfn (by omega) (Ev.now _)
  | c :: u, i, out, hi, hu, ho => by
    obtain ⟨h1, _, h3⟩ := drop_cons hu
    refine Ev.step (fun k => (show term_Vars.l0 (k + 1) out t (t.length : Int) (i : Int) = _ from by rw [term_Vars.l0])) ?_
    refine evIfp (by omega) (evIfp (by omega) (evIfp (by omega) ?_))
    simp only [rd_cel hu, up_cast i (by omega)]
    refine Ev.bind (ev_kind c.f0) ?_
    have hv : varsS out (c :: u) = if kindS c.f0 = 2 then (if c.f0 ∈ out then varsS out u else varsS (out ++ [c.f0]) u) else varsS out u := rfl
    by_cases hk : kindS c.f0 = 2
    · refine evIfp hk ?_
      rw [hv, if_pos hk]
      refine Ev.bind (ev_contains out c.f0 (by omega)) ?_
      by_cases hm : c.f0 ∈ out
      · rw [if_pos hm]
        exact evIfp (decide_eq_true hm) (ev_vars_loop t ht u (i + 1) out (by omega) h3 (by omega))
      · rw [if_neg hm]
        exact evIfn (by simpa using hm) (evIfp (by omega) (ev_vars_loop t ht u (i + 1) (out ++ [c.f0]) (by omega) h3 (by simp; omega)))
    · refine evIfn hk ?_
      rw [hv, if_neg hk]
      exact ev_vars_loop t ht u (i + 1) out (by omega) h3 (by omega)
theorem ev_rvars_loop (t : List Cel) (ht : t.length ≤ 1000) : ∀ (u : List Cel) (i : Nat) (out : List ByteArray), i ≤ t.length → t.drop i = u → out.length ≤ i →
    Ev (fun k => aumbryref04_Vars.l0 k t out (t.length : Int) (i : Int)) (varsS out u)
  | [], i, out, hi, hu, ho => by
    have h1 := drop_nil_len hi hu
    refine Ev.step (fun k => (show aumbryref04_Vars.l0 (k + 1) t out (t.length : Int) (i : Int) = _ from by rw [aumbryref04_Vars.l0])) ?_
    exact evIfn (by omega) (Ev.now _)
  | c :: u, i, out, hi, hu, ho => by
    obtain ⟨h1, _, h3⟩ := drop_cons hu
    refine Ev.step (fun k => (show aumbryref04_Vars.l0 (k + 1) t out (t.length : Int) (i : Int) = _ from by rw [aumbryref04_Vars.l0])) ?_
    refine evIfp (by omega) (evIfp (by omega) (evIfp (by omega) ?_))
    simp only [rd_cel hu, up_cast i (by omega)]
    refine Ev.bind (ev_refKind c.f0) ?_
    have hv : varsS out (c :: u) = if kindS c.f0 = 2 then (if c.f0 ∈ out then varsS out u else varsS (out ++ [c.f0]) u) else varsS out u := rfl
    by_cases hk : kindS c.f0 = 2
    · refine evIfp hk ?_
      rw [hv, if_pos hk]
      refine Ev.bind (ev_has out c.f0 (by omega)) ?_
      by_cases hm : c.f0 ∈ out
      · rw [if_pos hm]
        exact evIfp (decide_eq_true hm) (ev_rvars_loop t ht u (i + 1) out (by omega) h3 (by omega))
      · rw [if_neg hm]
        exact evIfn (by simpa using hm) (evIfp (by omega) (ev_rvars_loop t ht u (i + 1) (out ++ [c.f0]) (by omega) h3 (by simp; omega)))
    · refine evIfn hk ?_
      rw [hv, if_neg hk]
      exact ev_rvars_loop t ht u (i + 1) out (by omega) h3 (by omega)
theorem ev_vars {t : List Cel} (h : checkS t = 0) : Ev (fun k => term_Vars.f k t) (varsS [] t, 0) := by
  have := checkS_len h
  unfold term_Vars.f
  refine Ev.bind (ev_check t) (evIfp h ?_)
  exact ev_vars_loop t (by omega) t 0 [] (by omega) rfl (by simp)
theorem ev_rvars {t : List Cel} (h : t.length ≤ 1000) : Ev (fun k => aumbryref04_Vars.f k t) (varsS [] t) := by
  unfold aumbryref04_Vars.f
  exact ev_rvars_loop t h t 0 [] (by omega) rfl (by simp)
theorem varsS_len : ∀ (u : List Cel) (out : List ByteArray), (varsS out u).length ≤ out.length + u.length
  | [], out => by simp [varsS]
  | c :: u, out => by
    have hv : varsS out (c :: u) = if kindS c.f0 = 2 then (if c.f0 ∈ out then varsS out u else varsS (out ++ [c.f0]) u) else varsS out u := rfl
    have h1 := varsS_len u out
    have h2 := varsS_len u (out ++ [c.f0])
    rw [hv]
    simp only [List.length_append, List.length_cons, List.length_nil] at h2 ⊢
    split
    · split <;> omega
    · omega
/-! ### the document's arguments -/
/-! ### the document's text -/
end Go.Proofs.YtpnamhplhdaphaaDoor.P

-- ==== PF17
namespace Go.Proofs.YtpnamhplhdaphaaDoor.P
open Go.RowKit Go.Proofs.YtpnamhplhdaphaaDoorW.PrintWords Go.Proofs.YtpnamhplhdaphaaDoorW.PrintLast Go.Proofs.YtpnamhplhdaphaaDoorW.PrintMore
attribute [local go_sem] max2_int min2_int max_two min_two max_three min_three max_four min_four   -- for this text's walks alone
set_option linter.unusedVariables false
set_option linter.unusedSimpArgs false

/-! ### aumbryref06_Same: function 17 -/
def aumbryref06_Same.f (k : Nat) (a0_0 : Int) (l0_1 : List (S33)) (l0_2 : List (S33)) (a1_0 : Int) (l1_1 : List (S33)) (l1_2 : List (S33)) : Option (Bool) := if a0_0 = a1_0 then ((aumbryref04_Same.f k l0_1 l1_1).bind fun t103 => (if t103 = true then ((aumbryref04_Same.f k l0_2 l1_2).bind fun t104 => (some t104)) else (some false))) else (some false)
end Go.Proofs.YtpnamhplhdaphaaDoor.P

-- ==== PL6
/- Plain laws of chapter 6: whether a rule may be: the program's answer and the document's come to one function. -/
namespace Go.Proofs.YtpnamhplhdaphaaDoor.P
open Go.RowKit Go.Proofs.YtpnamhplhdaphaaDoorW.PrintWords
set_option linter.unusedVariables false
set_option linter.unusedSimpArgs false
abbrev zc : Cel := z33
def ruleS (id : Int) (l r : List Cel) : Int := if id < 0 then 1 else if id > 65535 then 1 else if checkS l = 0 then (if checkS r = 0 then (if l.length > 8 then 6 else if r.length > 8 then 6 else
  if kindS (l.getD 0 zc).f0 = 2 then 20 else if (varsS [] r).all (fun v => decide (v ∈ varsS [] l)) = true then 0 else 7) else checkS r) else checkS l
theorem ev_strF (vl : List ByteArray) (hl : vl.length ≤ 9223372036854775806) : ∀ vr : List ByteArray, Ev (fun k => strF k vl vr) (!(vr.all (fun v => decide (v ∈ vl))))
  | [] => Ev.now _
  | v :: u => by
    have e : (fun k => strF k vl (v :: u)) = (fun k => (slices_Contains_string_string.f k vl v).bind fun b => if b = true then strF k vl u else some true) := rfl
    rw [e]
    refine Ev.bind (ev_contains vl v hl) ?_
    by_cases hv : v ∈ vl
    · refine evIfp (decide_eq_true hv) ?_
      have : (v :: u).all (fun v => decide (v ∈ vl)) = u.all (fun v => decide (v ∈ vl)) := by simp [hv]
      rw [this]
      exact ev_strF vl hl u
    · refine evIfn (by simpa using hv) ?_
      have : (v :: u).all (fun v => decide (v ∈ vl)) = false := by simp [hv]
      rw [this]
      exact Ev.now _
theorem ok_pos {l : List Cel} (h : checkS l = 0) : 0 < l.length := by
  obtain ⟨c, u, _, _, rfl, _⟩ := tx_term h
  simp
theorem vars_len {l : List Cel} (h : checkS l = 0) : (varsS [] l).length ≤ 64 := by
  have := varsS_len l []
  have := checkS_len h
  simp only [List.length_nil] at *
  omega
theorem ev_rch (id : Int) (l r : List Cel) : Ev (fun k => rule_Check.f k id l r) (ruleS id l r) := by
  unfold rule_Check.f rchF ruleS
  by_cases h1 : id < 0
  · simp only [if_pos h1]; exact Ev.now _
  simp only [if_neg h1]
  by_cases h2 : id > 65535
  · simp only [if_pos h2]; exact Ev.now _
  simp only [if_neg h2]
  refine Ev.bind (ev_check l) ?_
  by_cases h3 : checkS l = 0
  case neg =>
    refine evIfn h3 ?_
    rw [if_neg h3]
    exact Ev.now _
  refine evIfp h3 ?_
  rw [if_pos h3]
  refine Ev.bind (ev_check r) ?_
  by_cases h4 : checkS r = 0
  case neg =>
    refine evIfn h4 ?_
    rw [if_neg h4]
    exact Ev.now _
  refine evIfp h4 ?_
  rw [if_pos h4]
  by_cases h5 : l.length > 8
  · simp only [if_pos h5]; exact Ev.now _
  simp only [if_neg h5]
  by_cases h6 : r.length > 8
  · simp only [if_pos h6]; exact Ev.now _
  simp only [if_neg h6]
  refine evIfp (ok_pos h3) ?_
  refine Ev.bind (ev_kind _) ?_
  have e : rd_T33 l 0 = l.getD 0 zc := rfl
  rw [e]
  by_cases h7 : kindS (l.getD 0 zc).f0 = 2
  · refine evIfp h7 ?_
    rw [if_pos h7]
    exact Ev.now _
  refine evIfn h7 ?_
  rw [if_neg h7]
  refine Ev.bind (ev_vars h3) (Ev.bind (ev_vars h4) ?_)
  refine Ev.bind (ev_strF (varsS [] l) (by have := vars_len h3; omega) (varsS [] r)) ?_
  by_cases h8 : (varsS [] r).all (fun v => decide (v ∈ varsS [] l)) = true
  · rw [if_pos h8, h8]
    exact Ev.now _
  · have h9 : (varsS [] r).all (fun v => decide (v ∈ varsS [] l)) = false := by simpa using h8
    rw [if_neg h8, h9]
    exact Ev.now _
/-! ### the document's -/
theorem one_var {l : List Cel} (h : checkS l = 0) (hk : kindS (l.getD 0 zc).f0 = 2) : l.length = 1 := by
  obtain ⟨c, u, b, d, rfl, h1, h2, _⟩ := tx_term h
  have hc := h2 c (List.mem_cons_self ..)
  have ha : ar c = 0 := by unfold ar; rw [hc.var hk]; rfl
  rw [ha] at h1
  have := tx_seg h1
  rw [Nat.sub_zero, segN_zero] at this
  injection this with this
  rw [this]
  rfl
theorem ev_rcheck_loop (vl vr : List ByteArray) (hl : vl.length ≤ 9223372036854775806) (hr : vr.length ≤ 9223372036854775806) : ∀ (u : List ByteArray) (i : Nat), i ≤ vr.length → vr.drop i = u →
    Ev (fun k => aumbryref06_Check.l0 k vl vr (vr.length : Int) (i : Int)) (if u.all (fun v => decide (v ∈ vl)) = true then 0 else 7)
  | [], i, hi, hu => by
    have h1 := drop_nil_len hi hu
    refine Ev.step (fun k => (show aumbryref06_Check.l0 (k + 1) vl vr (vr.length : Int) (i : Int) = _ from by rw [aumbryref06_Check.l0])) ?_
    exact evIfn (by omega) (Ev.now _)
  | v :: u, i, hi, hu => by
    obtain ⟨h1, _, h3⟩ := drop_cons hu
    refine Ev.step (fun k => (show aumbryref06_Check.l0 (k + 1) vl vr (vr.length : Int) (i : Int) = _ from by rw [aumbryref06_Check.l0])) ?_
    refine evIfp (by omega) (evIfp (by omega) (evIfp (by omega) ?_))
    rw [rd_txt hu, up_cast i (by omega)]
    refine Ev.bind (ev_has vl v hl) ?_
    by_cases hv : v ∈ vl
    · refine evIfp (decide_eq_true hv) ?_
      have : (v :: u).all (fun v => decide (v ∈ vl)) = u.all (fun v => decide (v ∈ vl)) := by simp [hv]
      rw [this]
      exact ev_rcheck_loop vl vr hl hr u (i + 1) (by omega) h3
    · refine evIfn (by simpa using hv) ?_
      have : (v :: u).all (fun v => decide (v ∈ vl)) = false := by simp [hv]
      rw [this]
      exact Ev.now _
theorem ev_rcheck (id : Int) (l r : List Cel) : Ev (fun k => aumbryref06_Check.f k id l r) (ruleS id l r) := by
  have hj0t : ∀ q : Int, q = 1 → Ev (fun k => aumbryref06_Check.j0 k true id l r) q := fun q hq => by
    subst hq
    refine Ev.step (fun k => (show aumbryref06_Check.j0 (k + 1) true id l r = _ from by rw [aumbryref06_Check.j0])) ?_
    exact evIfp rfl (Ev.now _)
  have hj1t : ∀ q : Int, q = 6 → Ev (fun k => aumbryref06_Check.j1 k true id l r) q := fun q hq => by
    subst hq
    refine Ev.step (fun k => (show aumbryref06_Check.j1 (k + 1) true id l r = _ from by rw [aumbryref06_Check.j1])) ?_
    exact evIfp rfl (Ev.now _)
  unfold aumbryref06_Check.f ruleS
  by_cases h1 : id < 0
  · rw [if_pos h1]
    exact evIfp h1 (hj0t _ rfl)
  rw [if_neg h1]
  refine evIfn h1 ?_
  by_cases h2 : id > 65535
  · rw [if_pos h2, decide_eq_true h2]
    exact hj0t _ rfl
  rw [if_neg h2, decide_eq_false h2]
  refine Ev.step (fun k => (show aumbryref06_Check.j0 (k + 1) false id l r = _ from by rw [aumbryref06_Check.j0])) ?_
  refine evIfn (by simp) ?_
  refine Ev.bind (ev_refCheck l) ?_
  by_cases h3 : checkS l = 0
  case neg =>
    refine evIfn h3 ?_
    rw [if_neg h3]
    exact Ev.now _
  refine evIfp h3 ?_
  rw [if_pos h3]
  refine Ev.bind (ev_refCheck r) ?_
  by_cases h4 : checkS r = 0
  case neg =>
    refine evIfn h4 ?_
    rw [if_neg h4]
    exact Ev.now _
  refine evIfp h4 ?_
  rw [if_pos h4]
  have hl64 := checkS_len h3
  have hr64 := checkS_len h4
  by_cases h5 : l.length > 8
  · rw [if_pos h5]
    exact evIfp (by omega) (hj1t _ rfl)
  rw [if_neg h5]
  refine evIfn (by omega) ?_
  by_cases h6 : r.length > 8
  · rw [if_pos h6, decide_eq_true (show (r.length : Int) > 8 by omega)]
    exact hj1t _ rfl
  rw [if_neg h6, decide_eq_false (show ¬ (r.length : Int) > 8 by omega)]
  refine Ev.step (fun k => (show aumbryref06_Check.j1 (k + 1) false id l r = _ from by rw [aumbryref06_Check.j1])) ?_
  refine evIfn (by simp) ?_
  have hvar : Ev (fun k => aumbryref05_Var.f k l) (decide (kindS (l.getD 0 zc).f0 = 2)) := by
    unfold aumbryref05_Var.f
    by_cases h7 : (l.length : Int) = 1
    · refine evIfp h7 (evIfp (by omega) ?_)
      refine Ev.bind (ev_refKind _) ?_
      have e : rd_T33 l 0 = l.getD 0 zc := rfl
      rw [e]
      exact Ev.now _
    · refine evIfn h7 ?_
      have : ¬ kindS (l.getD 0 zc).f0 = 2 := fun hk => h7 (by have := one_var h3 hk; omega)
      rw [decide_eq_false this]
      exact Ev.now _
  refine Ev.bind hvar ?_
  by_cases h7 : kindS (l.getD 0 zc).f0 = 2
  · rw [if_pos h7]
    exact evIfp (decide_eq_true h7) (Ev.now _)
  rw [if_neg h7]
  refine evIfn (by simpa using h7) ?_
  refine Ev.bind (ev_rvars (by omega)) (Ev.bind (ev_rvars (by omega)) ?_)
  exact ev_rcheck_loop _ _ (by have := vars_len h3; omega) (by have := vars_len h4; omega) _ 0 (by omega) rfl
theorem ruleS_ok {id : Int} {l r : List Cel} (h : ruleS id l r = 0) : checkS l = 0 ∧ checkS r = 0 ∧ l.length ≤ 8 ∧ r.length ≤ 8 ∧ kindS (l.getD 0 zc).f0 ≠ 2 ∧ (∀ v ∈ varsS [] r, v ∈ varsS [] l) ∧ 0 ≤ id ∧ id ≤ 65535 := by
  unfold ruleS at h
  by_cases h1 : id < 0
  · rw [if_pos h1] at h; cases h
  rw [if_neg h1] at h
  by_cases h2 : id > 65535
  · rw [if_pos h2] at h; cases h
  rw [if_neg h2] at h
  by_cases h3 : checkS l = 0
  case neg => rw [if_neg h3] at h; exact absurd h h3
  rw [if_pos h3] at h
  by_cases h4 : checkS r = 0
  case neg => rw [if_neg h4] at h; exact absurd h h4
  rw [if_pos h4] at h
  by_cases h5 : l.length > 8
  · rw [if_pos h5] at h; cases h
  rw [if_neg h5] at h
  by_cases h6 : r.length > 8
  · rw [if_pos h6] at h; cases h
  rw [if_neg h6] at h
  by_cases h7 : kindS (l.getD 0 zc).f0 = 2
  · rw [if_pos h7] at h; cases h
  rw [if_neg h7] at h
  by_cases h8 : (varsS [] r).all (fun v => decide (v ∈ varsS [] l)) = true
  case neg => rw [if_neg h8] at h; cases h
  exact ⟨h3, h4, by omega, by omega, h7, fun v hv => of_decide_eq_true (List.all_eq_true.1 h8 v hv), by omega, by omega⟩
theorem ev_head (id : Int) (l r : List Cel) : Ev (fun k => rule_Head.f k id l r) (if ruleS id l r = 0 then (l.getD 0 zc).f0 else ⟨#[]⟩) := by
  unfold rule_Head.f
  refine Ev.bind (ev_rch id l r) ?_
  by_cases h : ruleS id l r = 0
  · refine evIfp h (evIfp (by have := ok_pos (ruleS_ok h).1; omega) ?_)
    rw [if_pos h]
    exact Ev.now _
  · refine evIfn h ?_
    rw [if_neg h]
    exact Ev.now _
theorem rcopy_at (id : Int) (l r : List Cel) (hl : l.length < 5864062014805) (hr : r.length < 5864062014805) : aumbryref06_Copy.f id l r = some (id, l, r) := by
  unfold aumbryref06_Copy.f
  rw [copy_at l hl]
  simp only [Option.bind_some]
  rw [copy_at r hr]
  rfl
end Go.Proofs.YtpnamhplhdaphaaDoor.P

-- ==== PL6w
/- Plain laws of chapter 6: what the statements ask ahead (wakes); sizes of what came in. -/
namespace Go.Proofs.YtpnamhplhdaphaaDoor.P
open Go.RowKit Go.Proofs.YtpnamhplhdaphaaDoorW.PrintWords
set_option linter.unusedVariables false
set_option maxRecDepth 100000 in
theorem ev_wakes6 : Ev (fun k => aumbrylaw06_wakes.f k) true := Ev.of (g := fun k => aumbrylaw06_wakes.f k) aumbrylaw06_wakes.mono (k := 40) (by kernel_rfl)
theorem sz_rule {x : S25} (h : sz25 x) : x.f1.length < 5864062014805 ∧ x.f2.length < 5864062014805 := ⟨sz_len h.2.1, sz_len h.2.2⟩
end Go.Proofs.YtpnamhplhdaphaaDoor.P

-- ==== PureRuleChecks
/- Whether anything is a rule, or why not, and its head, as the document says: for every rule, the law answers true. -/
namespace Go.Proofs.YtpnamhplhdaphaaDoor.Pure
open Go.RowKit Go.Proofs.YtpnamhplhdaphaaDoor.P Go.Proofs.YtpnamhplhdaphaaDoorW.PrintWords
set_option linter.unusedVariables false
theorem RuleChecks : aumbrylaw06_RuleChecks.Pure := by
  intro x hx
  obtain ⟨h1, h2⟩ := sz_rule hx
  refine Ev.rounds ?_
  unfold aumbrylaw06_RuleChecks.f
  refine Ev.bind ev_wakes6 (evIfp rfl ?_)
  refine Ev.bind (evIs (rcopy_at x.f0 x.f1 x.f2 h1 h2)) ?_
  refine Ev.bind (ev_rch x.f0 x.f1 x.f2) (Ev.bind (ev_rcheck x.f0 x.f1 x.f2) ?_)
  have hf : (ruleS x.f0 x.f1 x.f2 != ruleS x.f0 x.f1 x.f2) = false := by simp
  rw [hf]
  refine Ev.step (fun k => (show aumbrylaw06_RuleChecks.j0 (k + 1) false x.f0 x.f1 x.f2 = _ from by rw [aumbrylaw06_RuleChecks.j0])) ?_
  refine evIfn (by simp) ?_
  refine Ev.bind (evIs (rcopy_at x.f0 x.f1 x.f2 h1 h2)) ?_
  refine Ev.bind (ev_head x.f0 x.f1 x.f2) (Ev.bind (ev_rcheck x.f0 x.f1 x.f2) ?_)
  by_cases h : ruleS x.f0 x.f1 x.f2 = 0
  · refine evIfp h (Ev.bind (ev_rcheck x.f0 x.f1 x.f2) (evIfp h (evIfp (by have := ok_pos (ruleS_ok h).1; omega) ?_)))
    rw [if_pos h]
    have : (((x.f1.getD 0 zc).f0).toList == ((rd_T33 x.f1 0).f0).toList) = true := by
      have e : rd_T33 x.f1 0 = x.f1.getD 0 zc := rfl
      rw [e]
      simp
    rw [this]
    exact Ev.now _
  · refine evIfn h (evIfp ?_ (Ev.now _))
    rw [if_neg h]
    exact (toList_nil _).2 rfl
end Go.Proofs.YtpnamhplhdaphaaDoor.Pure

-- ==== RowRuleChecks
namespace Go.Proofs.YtpnamhplhdaphaaDoor.ruleChecks
open Go.ChangeShapes Go.WideShapes Go.ChangeAt Go.RowKit Go.Proofs.YtpnamhplhdaphaaDoorW.PrintWords Go.Proofs.YtpnamhplhdaphaaDoor.P Go.Proofs.YtpnamhplhdaphaaDoor.Open
open Go.ChangeMaps (open_string shut_string)
set_option linter.unusedVariables false
theorem own : ownKnob Tryd.prog.godebug = none := by kernel_rfl
theorem laidOut : laidOutB Tryd.prog = true := by kernel_rfl
set_option maxRecDepth 100000 in
theorem core {H : Type} {enc : TypeId × Value → H} (W : World) (base : Nat) (args : Array Value) (ds gs : List (DataW H)) (before : List MemPlace)
    (hval : ∀ (j : Nat) t v, Tryd.f3.params[j]? = some t → args[j]? = some v → Value.okWide Tryd.prog W .any base t v)
    (hW : DataW.Whole enc Tryd.prog Tryd.f3.params.toList Rows.ruleChecksSpec.vars false W args.toList ds gs before)
    (hsz : (DataW.weightsEach Tryd.prog (Tryd.f3.params.toList ++ Rows.ruleChecksSpec.plain.varTypes Tryd.prog) (ds ++ gs)).all (· ≤ reachBytes) = true)
    :
    Calls Tryd.prog 3 args W fun e W' => ∃ v, e = .returned v ∧ Rows.ruleChecksSpec.post enc Tryd.prog Tryd.f3 false true false false W args v W' := by
  have hW' := hW
  obtain ⟨p, q, hA, hV, rfl, hfz, hnd⟩ := hW
  rw [Tryd.params3] at hA hval hsz
  obtain ⟨v0, vs0, d0, ds0, p0, q0, hargs, rfl, rfl, h0, r0⟩ := trodAll_cons hA
  obtain ⟨rfl, rfl, rfl⟩ := trodAll_nil r0
  obtain rfl : args = #[v0] := by cases args; simp_all
  obtain ⟨rfl, rfl⟩ := trodVars_none hV
  have k0 := h0
  obtain ⟨n0, hf0⟩ := h0
  obtain ⟨x0, hK0, hS0, hB0⟩ := op25.go hf0 (fun m hm => by have := List.all_eq_true.1 hsz m (DataW.weights_mem_each (j := 0) rfl rfl m hm); simpa using this)
  have lt0 : ∀ z ∈ p0, z.block < W.heap.size := by obtain ⟨m, hm⟩ := k0; exact DataW.trod_lt m _ _ _ hm
  obtain ⟨cs0, rfl, hz0⟩ := okWide_struct Tryd.underlying25 (hval 0 25 v0 rfl rfl)
  obtain ⟨A0_1, c0_1, A0_2, c0_2, hcs0, hc0_1, hr0_1, hc0_2, hr0_2⟩ := k25_open hK0
  have hcs0' : cs0.toList = _ := hcs0
  obtain rfl : cs0 = #[.int .i64 ((x0).f0), .slice A0_1 (x0).f1.length c0_1, .slice A0_2 (x0).f2.length c0_2] := by apply Array.toList_inj.1; exact hcs0'
  obtain ⟨k, h⟩ := Pure.RuleChecks x0 hS0
  refine (aumbrylaw06_RuleChecks.calls k (x0).f0 _ _ (x0).f1 _ _ (x0).f2 true W hr0_1 hc0_1 hr0_2 hc0_2 h).mono ?_
  rintro e W' ⟨rfl, hd⟩
  have bel : Below W.heap.size W W' := hd
  exact ⟨_, rfl, _, _, _, [], _, [], hW', trodAll_mk1 (shut_bool Tryd.underlying4 _), (trodAll_cons_mk (Below.trod laidOut (by kernel_rfl) (of_decide_eq_true (by kernel_rfl)) k0 bel lt0) trodAll_mk0), rfl, bel.frame _, fun h => by cases h⟩
set_option maxRecDepth 100000 in
theorem laid_met (os : Os) : laidMet Tryd.prog Rows.ruleChecksRow.laid ((World.laidAll Tryd.prog os Rows.ruleChecksRow.laid).forCall (fun _ _ => 0) ⟨#[], #[.agg #[.int .i64 0, .slice none 0 0, .slice none 0 0]], []⟩).memory :=
  laidMet_laidAll _ (by kernel_rfl) (by kernel_rfl)
set_option maxRecDepth 100000 in
theorem reads (os : Os) {H : Type} (enc : TypeId × Value → H) : (DataW.whole enc Tryd.prog ((World.laidAll Tryd.prog os Rows.ruleChecksRow.laid).forCall (fun _ _ => 0) ⟨#[], #[.agg #[.int .i64 0, .slice none 0 0, .slice none 0 0]], []⟩).memory Tryd.f3.params.toList Rows.ruleChecksSpec.vars false (#[.agg #[.int .i64 0, .slice none 0 0, .slice none 0 0]] : Array Value).toList 8).isSome = true := by kernel_rfl
set_option maxRecDepth 100000 in
theorem lifted (os : Os) (started : os.Started) (H : Type) (enc : TypeId × Value → H) (F : Stop.Interp) :
    ReturnsInHanded {} Tryd.checked os 3 .any ((OpenSpec.ofChange Rows.ruleChecksSpec).preRow enc Tryd.prog Tryd.f3 Rows.ruleChecksRow.domain false Rows.ruleChecksRow.laid) (((OpenSpec.ofChange Rows.ruleChecksSpec).at F).post enc Tryd.prog Tryd.f3 false true false false) := by
  obtain ⟨x, hx⟩ := Option.isSome_iff_exists.1 (reads os enc)
  refine returnsInHanded_of_row (C := Tryd.checked) (s := OpenSpec.ofChange Rows.ruleChecksSpec) own started (by kernel_rfl) Tryd.func3
    (witness_row_at (enc := enc) (C := Tryd.checked) false (World.laidAll Tryd.prog os Rows.ruleChecksRow.laid) #[.agg #[.int .i64 0, .slice none 0 0, .slice none 0 0]] rfl (by kernel_rfl) (by kernel_rfl) (by kernel_rfl)
      (OpenSpec.preRow_of_cond 8 hx rfl (fun k hk => by cases hk) (by kernel_rfl) (laid_met os))) ?_
  intro W base args ds gs before hval0 hW _ _ hsz0 _ _ _
  exact core W base args ds gs before hval0 hW hsz0
theorem said : Rows.RuleChecksSaid :=
  OpenClaim.holds_of_cond 3 Tryd.f3 rfl rfl rfl rfl rfl rfl rfl ⟨rfl, rfl, rfl, rfl, rfl⟩ rfl rfl rfl rfl rfl (by kernel_rfl) Tryd.func3 (by kernel_rfl)
    (of_decide_eq_true (by kernel_rfl)) (by unfold Func.isWrapper; first | (rw [if_pos (by decide +kernel)]; kernel_rfl) | (rw [if_neg (by decide +kernel)]; exact ⟨rfl, rfl⟩))
    (fun os started H enc _ F => by rw [OpenClaim.pre_eq_preRow]; exact lifted os started H enc F)
theorem plain (f : FuncId) (fn : Func) (hf : Tryd.pinned.checked.prog.funcNamed "aumbry/aumbrylaw06.RuleChecks" = some f) (hfn : Tryd.pinned.checked.prog.funcs[f]? = some fn) :
    true = Tryd.pinned.checked.prog.looks [] ∧ ∀ (j : Nat) t, fn.params[j]? = some t → Tryd.pinned.checked.prog.wantsStandIn t = false := by
  obtain rfl : f = 3 := Option.some.inj ((show Tryd.prog.funcNamed "aumbry/aumbrylaw06.RuleChecks" = some 3 by kernel_rfl).symm.trans hf) |>.symm
  obtain rfl : fn = Tryd.f3 := (Option.some.inj (Tryd.func3.symm.trans hfn)).symm
  refine ⟨by kernel_rfl, fun j t ht => ?_⟩
  rw [Tryd.params3] at ht
  have hm := Array.mem_of_getElem? ht
  obtain rfl : t = 25 := by simpa using hm
  exact (show Tryd.prog.wantsStandIn 25 = false by kernel_rfl)
theorem card : Rows.RuleChecksCardSaid :=
  Claim7.holds_tied_plain_at .later [] _ _ _ _ said (fun _ h => by cases h) (by kernel_rfl) (fun _ h => by cases h) ruleChecks_row_tie rfl ⟨rfl, rfl⟩ (by kernel_rfl) rfl plain (by kernel_rfl)
end Go.Proofs.YtpnamhplhdaphaaDoor.ruleChecks
namespace Go.Proofs.YtpnamhplhdaphaaDoor
/-- The card, under a short name, for the claim. -/
theorem ruleChecks_holds : Rows.RuleChecksCardSaid := ruleChecks.card
#print axioms ruleChecks_holds
end Go.Proofs.YtpnamhplhdaphaaDoor
