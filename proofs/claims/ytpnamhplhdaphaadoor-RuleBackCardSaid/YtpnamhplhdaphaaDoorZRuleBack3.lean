/- RuleBack: the law answers true at every input that the given row speaks of. Conditions: those of the given row, none besides. (Part 4 of 4; written by programs of this session, which drive the kit's print, and by hand.) -/
import Derived.Test.YtpnamhplhdaphaaDoorRows
import Derived.Test.YtpnamhplhdaphaaDoorZRuleBackWWords
import Derived.Deep.Slices
import Derived.SizedLaws
import Derived.ChangeSame
import Derived.ChangeArms
import Derived.KernelRfl
import Derived.Test.YtpnamhplhdaphaaDoorCards
import Derived.Test.YtpnamhplhdaphaaDoorTie
import Derived.Deep.DeepHandedRow
import Derived.Lay
import Derived.SevenTiedAt
import Derived.WalkKit
import Derived.ProofKit
import Derived.OpenShut
import Derived.ShutString
import Derived.ChangeOld
import Derived.Below
import Derived.Carry
import Derived.Test.YtpnamhplhdaphaaDoorZRuleBack0
import Derived.Test.YtpnamhplhdaphaaDoorZRuleBack1
import Derived.Test.YtpnamhplhdaphaaDoorZRuleBack2
-- ==== PF6
namespace Go.Proofs.YtpnamhplhdaphaaDoor.P
open Go.RowKit Go.Proofs.YtpnamhplhdaphaaDoorW.PrintWords Go.Proofs.YtpnamhplhdaphaaDoorW.PrintLast Go.Proofs.YtpnamhplhdaphaaDoorW.PrintMore
attribute [local go_sem] max2_int min2_int max_two min_two max_three min_three max_four min_four   -- for this text's walks alone
set_option linter.unusedVariables false
set_option linter.unusedSimpArgs false

/-! ### aumbrylaw06_RuleBack: function 6 -/
def aumbrylaw06_RuleBack.f (k : Nat) (a0 : ByteArray) (a1 : ByteArray) : Option (Bool) := (aumbrylaw06_wakes.f k).bind fun t101 => (if t101 = true then ((rule_Parse.f k a0 a1).bind fun bt102 => (if bt102.2.2.2 = 0 then ((rule_Print.f k bt102.1 bt102.2.1 bt102.2.2.1).bind fun bt111 => (if bt111.2 = 0 then (if a0.size + 4 ≤ 9223372036854775807 then (if (a0 ++ (⟨#[32, 45, 62, 32]⟩ : ByteArray)).size + a1.size ≤ 9223372036854775807 then (if bt111.1.toList = ((a0 ++ (⟨#[32, 45, 62, 32]⟩ : ByteArray)) ++ a1).toList then ((rule_Check.f k bt102.1 bt102.2.1 bt102.2.2.1).bind fun t113 => (some (t113 == 0))) else (some false)) else (none)) else (none)) else (some false))) else ((aumbryref06_Same.f k bt102.1 bt102.2.1 bt102.2.2.1 0 ([] : List (S33)) ([] : List (S33))).bind fun t114 => (some t114)))) else (some false))
set_option maxHeartbeats 8000000 in
set_option maxRecDepth 100000 in
theorem aumbrylaw06_RuleBack.calls (k : Nat) (a0 : ByteArray) (a1 : ByteArray) (r : Bool) (w : World) (h : aumbrylaw06_RuleBack.f k a0 a1 = some r) :
    Calls Tryd.prog 6 #[.string a0, .string a1] w fun e w' => e = .returned (.bool r) ∧ Below w.heap.size w w' := by
  have hu25 := Tryd.underlying25
  have HB := Aside0.mk (Below.refl w.heap.size w)
  have H : ((aumbrylaw06_wakes.f k).bind fun t101 => (if t101 = true then ((rule_Parse.f k a0 a1).bind fun bt102 => (if bt102.2.2.2 = 0 then ((rule_Print.f k bt102.1 bt102.2.1 bt102.2.2.1).bind fun bt111 => (if bt111.2 = 0 then (if a0.size + 4 ≤ 9223372036854775807 then (if (a0 ++ (⟨#[32, 45, 62, 32]⟩ : ByteArray)).size + a1.size ≤ 9223372036854775807 then (if bt111.1.toList = ((a0 ++ (⟨#[32, 45, 62, 32]⟩ : ByteArray)) ++ a1).toList then ((rule_Check.f k bt102.1 bt102.2.1 bt102.2.2.1).bind fun t113 => (some (t113 == 0))) else (some false)) else (none)) else (none)) else (some false))) else ((aumbryref06_Same.f k bt102.1 bt102.2.1 bt102.2.2.1 0 ([] : List (S33)) ([] : List (S33))).bind fun t114 => (some t114)))) else (some false))) = some r := h
  clear h
  replace H := Option.bind_eq_some_iff.mp H
  obtain ⟨t101, A30, H⟩ := H
  replace H : (if t101 = true then ((rule_Parse.f k a0 a1).bind fun bt102 => (if bt102.2.2.2 = 0 then ((rule_Print.f k bt102.1 bt102.2.1 bt102.2.2.1).bind fun bt111 => (if bt111.2 = 0 then (if a0.size + 4 ≤ 9223372036854775807 then (if (a0 ++ (⟨#[32, 45, 62, 32]⟩ : ByteArray)).size + a1.size ≤ 9223372036854775807 then (if bt111.1.toList = ((a0 ++ (⟨#[32, 45, 62, 32]⟩ : ByteArray)) ++ a1).toList then ((rule_Check.f k bt102.1 bt102.2.1 bt102.2.2.1).bind fun t113 => (some (t113 == 0))) else (some false)) else (none)) else (none)) else (some false))) else ((aumbryref06_Same.f k bt102.1 bt102.2.1 bt102.2.2.1 0 ([] : List (S33)) ([] : List (S33))).bind fun t114 => (some t114)))) else (some false)) = some r := H
  have A3 := Aside0.mk A30
  clear A30
  by_cases c4 : t101 = true
  · subst c4
    have H1 : ((rule_Parse.f k a0 a1).bind fun bt102 => (if bt102.2.2.2 = 0 then ((rule_Print.f k bt102.1 bt102.2.1 bt102.2.2.1).bind fun bt111 => (if bt111.2 = 0 then (if a0.size + 4 ≤ 9223372036854775807 then (if (a0 ++ (⟨#[32, 45, 62, 32]⟩ : ByteArray)).size + a1.size ≤ 9223372036854775807 then (if bt111.1.toList = ((a0 ++ (⟨#[32, 45, 62, 32]⟩ : ByteArray)) ++ a1).toList then ((rule_Check.f k bt102.1 bt102.2.1 bt102.2.2.1).bind fun t113 => (some (t113 == 0))) else (some false)) else (none)) else (none)) else (some false))) else ((aumbryref06_Same.f k bt102.1 bt102.2.1 bt102.2.2.1 0 ([] : List (S33)) ([] : List (S33))).bind fun t114 => (some t114)))) = some r := by rw [if_pos rfl] at H; exact H
    clear H
    have H := H1
    clear H1
    replace H := Option.bind_eq_some_iff.mp H
    obtain ⟨⟨t102, t103, t106, t109⟩, A50, H⟩ := H
    replace H : (if t109 = 0 then ((rule_Print.f k t102 t103 t106).bind fun bt111 => (if bt111.2 = 0 then (if a0.size + 4 ≤ 9223372036854775807 then (if (a0 ++ (⟨#[32, 45, 62, 32]⟩ : ByteArray)).size + a1.size ≤ 9223372036854775807 then (if bt111.1.toList = ((a0 ++ (⟨#[32, 45, 62, 32]⟩ : ByteArray)) ++ a1).toList then ((rule_Check.f k t102 t103 t106).bind fun t113 => (some (t113 == 0))) else (some false)) else (none)) else (none)) else (some false))) else ((aumbryref06_Same.f k t102 t103 t106 0 ([] : List (S33)) ([] : List (S33))).bind fun t114 => (some t114))) = some r := H
    have A5 := Aside0.mk A50
    clear A50
    by_cases c6 : t109 = 0
    · rw [if_pos c6] at H
      have c6b0 : (t109 == 0) = true := beq_iff_eq.mpr c6
      have c6b1 : (t109 != 0) = false := bne_eq_false_iff_eq.mpr c6
      clear c6
      replace H := Option.bind_eq_some_iff.mp H
      obtain ⟨⟨t111, t112⟩, A70, H⟩ := H
      replace H : (if t112 = 0 then (if a0.size + 4 ≤ 9223372036854775807 then (if (a0 ++ (⟨#[32, 45, 62, 32]⟩ : ByteArray)).size + a1.size ≤ 9223372036854775807 then (if t111.toList = ((a0 ++ (⟨#[32, 45, 62, 32]⟩ : ByteArray)) ++ a1).toList then ((rule_Check.f k t102 t103 t106).bind fun t113 => (some (t113 == 0))) else (some false)) else (none)) else (none)) else (some false)) = some r := H
      have A7 := Aside0.mk A70
      clear A70
      by_cases c8 : t112 = 0
      · rw [if_pos c8] at H
        have c8b0 : (t112 == 0) = true := beq_iff_eq.mpr c8
        have c8b1 : (t112 != 0) = false := bne_eq_false_iff_eq.mpr c8
        clear c8
        by_cases c9 : a0.size + 4 ≤ 9223372036854775807
        · rw [if_pos c9] at H
          have c9b0 := eq_true c9
          have c9b1 : decide (a0.size + 4 ≤ 9223372036854775807) = true := decide_eq_true c9
          try have c9b2 : (9223372036854775807 < a0.size + 4) = False := eq_false (Nat.not_lt.2 c9)
          by_cases c10 : (a0 ++ (⟨#[32, 45, 62, 32]⟩ : ByteArray)).size + a1.size ≤ 9223372036854775807
          · rw [if_pos c10] at H
            have c10b0 := eq_true c10
            have c10b1 : decide ((a0 ++ (⟨#[32, 45, 62, 32]⟩ : ByteArray)).size + a1.size ≤ 9223372036854775807) = true := decide_eq_true c10
            try have c10b2 : (9223372036854775807 < (a0 ++ (⟨#[32, 45, 62, 32]⟩ : ByteArray)).size + a1.size) = False := eq_false (Nat.not_lt.2 c10)
            try have c10b3 : (9223372036854775807 < a0.size + 4 + a1.size) = False := eq_false (Nat.not_lt.2 (by have h_ := c10; rw [ByteArray.size_append] at h_; exact h_))
            by_cases c11 : t111.toList = ((a0 ++ (⟨#[32, 45, 62, 32]⟩ : ByteArray)) ++ a1).toList
            · rw [if_pos c11] at H
              have c11b0 : (t111.toList == ((a0 ++ (⟨#[32, 45, 62, 32]⟩ : ByteArray)) ++ a1).toList) = true := beq_iff_eq.mpr c11
              have c11b1 : (t111.toList != ((a0 ++ (⟨#[32, 45, 62, 32]⟩ : ByteArray)) ++ a1).toList) = false := bne_eq_false_iff_eq.mpr c11
              clear c11
              replace H := Option.bind_eq_some_iff.mp H
              obtain ⟨t113, A120, H⟩ := H
              replace H : (some (t113 == 0)) = some r := H
              have A12 := Aside0.mk A120
              clear A120
              obtain rfl := Option.some.inj H
              go_enter Tryd.func6, Tryd.ntmps6
              go_wp2_with (first | ((with_reducible refine gate_callee (f := 10) rfl ?_); refine goesL_ (some 9) rfl rfl Tryd.func10 (by kernel_rfl) rfl #[] rfl (by (try simp only [List.map_toArray, List.map_cons, List.map_nil]); first | done | rfl | (simp only [List.length_drop, List.length_take]; rfl)) ?_; (with_reducible refine (aumbrylaw06_wakes.calls k  true _ A3.out).mono ?_); rintro e w13 ⟨rfl, hb⟩; refine ⟨_, rfl, ?_⟩; have n0_ := Aside0.mk (below_step (by repeat (first | (with_reducible first | exact HB.out | apply below_alloc | apply pw_below_drewN | apply below_drew1) | exact HB.out)) hb); clear HB; have HB := n0_; clear n0_; (try clear hb); (try clear hb2); (try clear hk); (try clear hi)) | ((with_reducible refine gate_callee (f := 15) rfl ?_); refine goesL_ (some 14) rfl rfl Tryd.func15 (by kernel_rfl) rfl #[.string a0, .string a1] rfl (by (try simp only [List.map_toArray, List.map_cons, List.map_nil]); first | done | rfl | (simp only [List.length_drop, List.length_take]; rfl)) ?_; (with_reducible refine (rule_Parse.calls k a0 a1 t102 t103 t106 t109 _ A5.out).mono ?_); rintro e w14 ⟨v104, v107, rfl, ho0, ho1, hb⟩; refine ⟨_, rfl, ?_⟩; have n0_ := Aside0.mk (Kd.R_lower ho0 (below_size (by repeat (first | (with_reducible first | exact HB.out | apply below_alloc | apply pw_below_drewN | apply below_drew1) | exact HB.out)))); have n1_ := Aside0.mk (Kd.R_lower ho1 (below_size (by repeat (first | (with_reducible first | exact HB.out | apply below_alloc | apply pw_below_drewN | apply below_drew1) | exact HB.out)))); have n2_ := Aside0.mk (below_step (by repeat (first | (with_reducible first | exact HB.out | apply below_alloc | apply pw_below_drewN | apply below_drew1) | exact HB.out)) hb); clear HB; have HO105 := n0_; have HO108 := n1_; have HB := n2_; clear n0_ n1_ n2_; (try clear hb); (try clear hb2); (try clear hk); (try clear hi); (try clear ho0); (try clear ho1)) | ((with_reducible refine gate_dst (N := 5) rfl ?_); refine box_event ?hg (N := 5) ?hd (cs := #[.int .i64 0, .slice none 0 0, .slice none 0 0]) (t := 25) ?hr ?_; (case hd => rfl); (case hg => rfl); (case hr => first | (go_simp; done) | (go_simp; rfl)); intro gb110 hg w15 hbox hb; have n0_ := Aside0.mk (Kd.R_below (by (with_reducible repeat (first | apply Kd.R_alloc | apply Kd.R_drewN | apply Kd.R_drew)); exact HO105.out) hb); have n1_ := Aside0.mk (Kd.R_below (by (with_reducible repeat (first | apply Kd.R_alloc | apply Kd.R_drewN | apply Kd.R_drew)); exact HO108.out) hb); have n2_ := Aside0.mk (below_step (by repeat (first | (with_reducible first | exact HB.out | apply below_alloc | apply pw_below_drewN | apply below_drew1) | exact HB.out)) hb); have n3_ := Aside0.mk (hbox); have n4_ := Aside0.mk ((by rw [hg]; exact (below_size (by repeat (first | (with_reducible first | exact HB.out | apply below_alloc | apply pw_below_drewN | apply below_drew1) | exact HB.out))) : w.heap.size ≤ gb110)); have n5_ := Aside0.mk ((by rw [hg]; exact (below_size (by repeat (first | (with_reducible first | exact HB.out | apply below_alloc | apply pw_below_drewN | apply below_drew1) | exact HB.out))) : w.heap.size ≤ gb110)); clear HO105; clear HO108; clear HB; have HO105 := n0_; have HO108 := n1_; have HB := n2_; have BK110 := n3_; have GW110 := n4_; have GE110 := n5_; clear n0_ n1_ n2_ n3_ n4_ n5_; clear hb hbox hg; have hcz16_0 : w15.cell? ⟨gb110, 0, none⟩ = some (.int .i64 0) := (blk_cell BK110.out 0).trans rfl; have hcz16_1 : w15.cell? ⟨gb110, 1, none⟩ = some (.slice none 0 0) := (blk_cell BK110.out 1).trans rfl; have hcz16_2 : w15.cell? ⟨gb110, 2, none⟩ = some (.slice none 0 0) := (blk_cell BK110.out 2).trans rfl; have hfz16_0 := blk_frozen BK110.out 0; have hfz16_1 := blk_frozen BK110.out 1; have hfz16_2 := blk_frozen BK110.out 2; obtain ⟨Ao17, co17, eo17⟩ := Kd.R_slice HO105.out; subst eo17; obtain ⟨Ao18, co18, eo18⟩ := Kd.R_slice HO108.out; subst eo18) | ((with_reducible refine gate_callee (f := 18) rfl ?_); refine goesL_ (some 24) rfl rfl Tryd.func18 (by kernel_rfl) rfl #[.agg #[.int .i64 t102, .slice Ao17 t103.length co17, .slice Ao18 t106.length co18]] rfl (by (try simp only [List.map_toArray, List.map_cons, List.map_nil]); first | done | rfl | (simp only [List.length_drop, List.length_take]; rfl)) ?_; (with_reducible refine (rule_Print.calls k t102 _ _ t103 _ _ t106 t111 t112 _ ?side1 ?side2 ?side3 ?side4 A7.out).mono ?_); (case side1 => refine (Kd.R_reads' (e := 33) (base := w.heap.size) (ok := fun k_ => some k_ ≠ (.slice Ao18 t106.length co18 : Value).ownBlock) (n := t103.length) (c := co17) ?_).2.2; exact (by (with_reducible repeat (first | apply Kd.R_alloc | apply Kd.R_drewN | apply Kd.R_drew)); exact (Kd.R_mono (Kd.R_far (p := ⟨gb110, 2, none⟩) (Kd.R_far (p := ⟨gb110, 1, none⟩) (Kd.R_far (p := ⟨gb110, 0, none⟩) (Kd.R_types HO105.out BK110.out (by decide)) (fun _ hk => hk.2) (.int .i64 t102)) (fun _ hk => hk.2) (.slice Ao17 t103.length co17)) (fun _ hk => hk.2) (.slice Ao18 t106.length co18)) (fun _ h_ => h_.1)))); (case side2 => exact (Kd.R_reads' HO105.out).2.1); (case side3 => refine (Kd.R_reads' (e := 33) (base := w.heap.size) (ok := fun k_ => some k_ ≠ (.slice Ao17 t103.length co17 : Value).ownBlock) (n := t106.length) (c := co18) ?_).2.2; exact (by (with_reducible repeat (first | apply Kd.R_alloc | apply Kd.R_drewN | apply Kd.R_drew)); exact (Kd.R_mono (Kd.R_far (p := ⟨gb110, 2, none⟩) (Kd.R_far (p := ⟨gb110, 1, none⟩) (Kd.R_far (p := ⟨gb110, 0, none⟩) (Kd.R_types HO108.out BK110.out (by decide)) (fun _ hk => hk.2) (.int .i64 t102)) (fun _ hk => hk.2) (.slice Ao17 t103.length co17)) (fun _ hk => hk.2) (.slice Ao18 t106.length co18)) (fun _ h_ => h_.1)))); (case side4 => exact (Kd.R_reads' HO108.out).2.1); rintro e w19 ⟨rfl, hb⟩; refine ⟨_, rfl, ?_⟩; have n0_ := Aside0.mk (Kd.R_below (by (with_reducible repeat (first | apply Kd.R_alloc | apply Kd.R_drewN | apply Kd.R_drew)); exact (Kd.R_mono (Kd.R_far (p := ⟨gb110, 2, none⟩) (Kd.R_far (p := ⟨gb110, 1, none⟩) (Kd.R_far (p := ⟨gb110, 0, none⟩) (Kd.R_types HO105.out BK110.out (by decide)) (fun _ hk => hk.2) (.int .i64 t102)) (fun _ hk => hk.2) (.slice Ao17 t103.length co17)) (fun _ hk => hk.2) (.slice Ao18 t106.length co18)) (fun _ h_ => h_.1))) hb); have n1_ := Aside0.mk (Kd.R_below (by (with_reducible repeat (first | apply Kd.R_alloc | apply Kd.R_drewN | apply Kd.R_drew)); exact (Kd.R_mono (Kd.R_far (p := ⟨gb110, 2, none⟩) (Kd.R_far (p := ⟨gb110, 1, none⟩) (Kd.R_far (p := ⟨gb110, 0, none⟩) (Kd.R_types HO108.out BK110.out (by decide)) (fun _ hk => hk.2) (.int .i64 t102)) (fun _ hk => hk.2) (.slice Ao17 t103.length co17)) (fun _ hk => hk.2) (.slice Ao18 t106.length co18)) (fun _ h_ => h_.1))) hb); have n2_ := Aside0.mk (blk_below (g := gb110) (o := .cells #[.int .i64 t102, .slice Ao17 t103.length co17, .slice Ao18 t106.length co18] 25 (0, 0)) (by (with_reducible repeat (first | refine blk_drewN ?_ _ | refine blk_drew ?_ | refine blk_alloc ?_ _)); refine blk_put (cs := #[.int .i64 t102, .slice Ao17 t103.length co17, .slice none 0 0]) ?_ 2 _ rfl; (with_reducible repeat (first | refine blk_drewN ?_ _ | refine blk_drew ?_ | refine blk_alloc ?_ _)); refine blk_put (cs := #[.int .i64 t102, .slice none 0 0, .slice none 0 0]) ?_ 1 _ rfl; (with_reducible repeat (first | refine blk_drewN ?_ _ | refine blk_drew ?_ | refine blk_alloc ?_ _)); refine blk_put (cs := #[.int .i64 0, .slice none 0 0, .slice none 0 0]) ?_ 0 _ rfl; (with_reducible repeat (first | refine blk_drewN ?_ _ | refine blk_drew ?_ | refine blk_alloc ?_ _)); exact BK110.out) hb); have n3_ := Aside0.mk (below_step (by repeat (first | (with_reducible first | exact HB.out | apply below_alloc | apply pw_below_drewN | apply below_drew1 | refine below_set ?_ GE110.out) | exact HB.out)) hb); clear HO105; clear HO108; clear BK110; clear HB; have HO105 := n0_; have HO108 := n1_; have BK110 := n2_; have HB := n3_; clear n0_ n1_ n2_ n3_; (try clear hb); (try clear hb2); (try clear hk); (try clear hi); have hcz20_0 : w19.cell? ⟨gb110, 0, none⟩ = some (.int .i64 t102) := (blk_cell BK110.out 0).trans rfl; have hcz20_1 : w19.cell? ⟨gb110, 1, none⟩ = some (.slice Ao17 t103.length co17) := (blk_cell BK110.out 1).trans rfl; have hcz20_2 : w19.cell? ⟨gb110, 2, none⟩ = some (.slice Ao18 t106.length co18) := (blk_cell BK110.out 2).trans rfl; have hfz20_0 := blk_frozen BK110.out 0; have hfz20_1 := blk_frozen BK110.out 1; have hfz20_2 := blk_frozen BK110.out 2) | (go_at_call 11; (with_reducible refine (rule_Check.calls k t102 _ _ t103 _ _ t106 t113 _ ?side1 ?side2 ?side3 ?side4 A12.out).mono ?_); (case side1 => repeat (first | exact (Kd.R_reads' HO105.out).2.2 | (with_reducible refine Kd.C_alloc ?_ _) | (with_reducible refine Kd.C_drewN ?_ _) | (with_reducible refine Kd.C_drew ?_))); (case side2 => exact (Kd.R_reads' HO105.out).2.1); (case side3 => repeat (first | exact (Kd.R_reads' HO108.out).2.2 | (with_reducible refine Kd.C_alloc ?_ _) | (with_reducible refine Kd.C_drewN ?_ _) | (with_reducible refine Kd.C_drew ?_))); (case side4 => exact (Kd.R_reads' HO108.out).2.1); rintro e w21 ⟨rfl, hb⟩; have n0_ := Aside0.mk (Kd.R_below (by (with_reducible repeat (first | apply Kd.R_alloc | apply Kd.R_drewN | apply Kd.R_drew)); exact HO105.out) hb); have n1_ := Aside0.mk (Kd.R_below (by (with_reducible repeat (first | apply Kd.R_alloc | apply Kd.R_drewN | apply Kd.R_drew)); exact HO108.out) hb); have n2_ := Aside0.mk (blk_below (g := gb110) (o := .cells #[.int .i64 t102, .slice Ao17 t103.length co17, .slice Ao18 t106.length co18] 25 (0, 0)) (by (with_reducible repeat (first | refine blk_drewN ?_ _ | refine blk_drew ?_ | refine blk_alloc ?_ _)); exact BK110.out) hb); have n3_ := Aside0.mk (below_step (by repeat (first | (with_reducible first | exact HB.out | apply below_alloc | apply pw_below_drewN | apply below_drew1 | refine below_set ?_ GE110.out) | exact HB.out)) hb); clear HO105; clear HO108; clear BK110; clear HB; have HO105 := n0_; have HO108 := n1_; have BK110 := n2_; have HB := n3_; clear n0_ n1_ n2_ n3_; (try clear hb); (try clear hb2); (try clear hk); (try clear hi)))
              go_ret
              exact ⟨by first | rfl | (simp [errW_none, errW_some] <;> rfl) | (simp [*, errW_none, errW_some] <;> rfl), by repeat (first | (with_reducible first | exact HB.out | apply below_alloc | apply pw_below_drewN | apply below_drew1 | refine below_set ?_ GE110.out) | exact HB.out)⟩
            · rw [if_neg c11] at H
              have c11b0 : (t111.toList == ((a0 ++ (⟨#[32, 45, 62, 32]⟩ : ByteArray)) ++ a1).toList) = false := beq_eq_false_iff_ne.mpr c11
              have c11b1 : (t111.toList != ((a0 ++ (⟨#[32, 45, 62, 32]⟩ : ByteArray)) ++ a1).toList) = true := bne_iff_ne.mpr c11
              obtain rfl := Option.some.inj H
              go_enter Tryd.func6, Tryd.ntmps6
              go_wp2_with (first | ((with_reducible refine gate_callee (f := 10) rfl ?_); refine goesL_ (some 9) rfl rfl Tryd.func10 (by kernel_rfl) rfl #[] rfl (by (try simp only [List.map_toArray, List.map_cons, List.map_nil]); first | done | rfl | (simp only [List.length_drop, List.length_take]; rfl)) ?_; (with_reducible refine (aumbrylaw06_wakes.calls k  true _ A3.out).mono ?_); rintro e w22 ⟨rfl, hb⟩; refine ⟨_, rfl, ?_⟩; have n0_ := Aside0.mk (below_step (by repeat (first | (with_reducible first | exact HB.out | apply below_alloc | apply pw_below_drewN | apply below_drew1) | exact HB.out)) hb); clear HB; have HB := n0_; clear n0_; (try clear hb); (try clear hb2); (try clear hk); (try clear hi)) | ((with_reducible refine gate_callee (f := 15) rfl ?_); refine goesL_ (some 14) rfl rfl Tryd.func15 (by kernel_rfl) rfl #[.string a0, .string a1] rfl (by (try simp only [List.map_toArray, List.map_cons, List.map_nil]); first | done | rfl | (simp only [List.length_drop, List.length_take]; rfl)) ?_; (with_reducible refine (rule_Parse.calls k a0 a1 t102 t103 t106 t109 _ A5.out).mono ?_); rintro e w23 ⟨v104, v107, rfl, ho0, ho1, hb⟩; refine ⟨_, rfl, ?_⟩; have n0_ := Aside0.mk (Kd.R_lower ho0 (below_size (by repeat (first | (with_reducible first | exact HB.out | apply below_alloc | apply pw_below_drewN | apply below_drew1) | exact HB.out)))); have n1_ := Aside0.mk (Kd.R_lower ho1 (below_size (by repeat (first | (with_reducible first | exact HB.out | apply below_alloc | apply pw_below_drewN | apply below_drew1) | exact HB.out)))); have n2_ := Aside0.mk (below_step (by repeat (first | (with_reducible first | exact HB.out | apply below_alloc | apply pw_below_drewN | apply below_drew1) | exact HB.out)) hb); clear HB; have HO105 := n0_; have HO108 := n1_; have HB := n2_; clear n0_ n1_ n2_; (try clear hb); (try clear hb2); (try clear hk); (try clear hi); (try clear ho0); (try clear ho1)) | ((with_reducible refine gate_dst (N := 5) rfl ?_); refine box_event ?hg (N := 5) ?hd (cs := #[.int .i64 0, .slice none 0 0, .slice none 0 0]) (t := 25) ?hr ?_; (case hd => rfl); (case hg => rfl); (case hr => first | (go_simp; done) | (go_simp; rfl)); intro gb110 hg w24 hbox hb; have n0_ := Aside0.mk (Kd.R_below (by (with_reducible repeat (first | apply Kd.R_alloc | apply Kd.R_drewN | apply Kd.R_drew)); exact HO105.out) hb); have n1_ := Aside0.mk (Kd.R_below (by (with_reducible repeat (first | apply Kd.R_alloc | apply Kd.R_drewN | apply Kd.R_drew)); exact HO108.out) hb); have n2_ := Aside0.mk (below_step (by repeat (first | (with_reducible first | exact HB.out | apply below_alloc | apply pw_below_drewN | apply below_drew1) | exact HB.out)) hb); have n3_ := Aside0.mk (hbox); have n4_ := Aside0.mk ((by rw [hg]; exact (below_size (by repeat (first | (with_reducible first | exact HB.out | apply below_alloc | apply pw_below_drewN | apply below_drew1) | exact HB.out))) : w.heap.size ≤ gb110)); have n5_ := Aside0.mk ((by rw [hg]; exact (below_size (by repeat (first | (with_reducible first | exact HB.out | apply below_alloc | apply pw_below_drewN | apply below_drew1) | exact HB.out))) : w.heap.size ≤ gb110)); clear HO105; clear HO108; clear HB; have HO105 := n0_; have HO108 := n1_; have HB := n2_; have BK110 := n3_; have GW110 := n4_; have GE110 := n5_; clear n0_ n1_ n2_ n3_ n4_ n5_; clear hb hbox hg; have hcz25_0 : w24.cell? ⟨gb110, 0, none⟩ = some (.int .i64 0) := (blk_cell BK110.out 0).trans rfl; have hcz25_1 : w24.cell? ⟨gb110, 1, none⟩ = some (.slice none 0 0) := (blk_cell BK110.out 1).trans rfl; have hcz25_2 : w24.cell? ⟨gb110, 2, none⟩ = some (.slice none 0 0) := (blk_cell BK110.out 2).trans rfl; have hfz25_0 := blk_frozen BK110.out 0; have hfz25_1 := blk_frozen BK110.out 1; have hfz25_2 := blk_frozen BK110.out 2; obtain ⟨Ao26, co26, eo26⟩ := Kd.R_slice HO105.out; subst eo26; obtain ⟨Ao27, co27, eo27⟩ := Kd.R_slice HO108.out; subst eo27) | ((with_reducible refine gate_callee (f := 18) rfl ?_); refine goesL_ (some 24) rfl rfl Tryd.func18 (by kernel_rfl) rfl #[.agg #[.int .i64 t102, .slice Ao26 t103.length co26, .slice Ao27 t106.length co27]] rfl (by (try simp only [List.map_toArray, List.map_cons, List.map_nil]); first | done | rfl | (simp only [List.length_drop, List.length_take]; rfl)) ?_; (with_reducible refine (rule_Print.calls k t102 _ _ t103 _ _ t106 t111 t112 _ ?side1 ?side2 ?side3 ?side4 A7.out).mono ?_); (case side1 => refine (Kd.R_reads' (e := 33) (base := w.heap.size) (ok := fun k_ => some k_ ≠ (.slice Ao27 t106.length co27 : Value).ownBlock) (n := t103.length) (c := co26) ?_).2.2; exact (by (with_reducible repeat (first | apply Kd.R_alloc | apply Kd.R_drewN | apply Kd.R_drew)); exact (Kd.R_mono (Kd.R_far (p := ⟨gb110, 2, none⟩) (Kd.R_far (p := ⟨gb110, 1, none⟩) (Kd.R_far (p := ⟨gb110, 0, none⟩) (Kd.R_types HO105.out BK110.out (by decide)) (fun _ hk => hk.2) (.int .i64 t102)) (fun _ hk => hk.2) (.slice Ao26 t103.length co26)) (fun _ hk => hk.2) (.slice Ao27 t106.length co27)) (fun _ h_ => h_.1)))); (case side2 => exact (Kd.R_reads' HO105.out).2.1); (case side3 => refine (Kd.R_reads' (e := 33) (base := w.heap.size) (ok := fun k_ => some k_ ≠ (.slice Ao26 t103.length co26 : Value).ownBlock) (n := t106.length) (c := co27) ?_).2.2; exact (by (with_reducible repeat (first | apply Kd.R_alloc | apply Kd.R_drewN | apply Kd.R_drew)); exact (Kd.R_mono (Kd.R_far (p := ⟨gb110, 2, none⟩) (Kd.R_far (p := ⟨gb110, 1, none⟩) (Kd.R_far (p := ⟨gb110, 0, none⟩) (Kd.R_types HO108.out BK110.out (by decide)) (fun _ hk => hk.2) (.int .i64 t102)) (fun _ hk => hk.2) (.slice Ao26 t103.length co26)) (fun _ hk => hk.2) (.slice Ao27 t106.length co27)) (fun _ h_ => h_.1)))); (case side4 => exact (Kd.R_reads' HO108.out).2.1); rintro e w28 ⟨rfl, hb⟩; refine ⟨_, rfl, ?_⟩; have n0_ := Aside0.mk (Kd.R_below (by (with_reducible repeat (first | apply Kd.R_alloc | apply Kd.R_drewN | apply Kd.R_drew)); exact (Kd.R_mono (Kd.R_far (p := ⟨gb110, 2, none⟩) (Kd.R_far (p := ⟨gb110, 1, none⟩) (Kd.R_far (p := ⟨gb110, 0, none⟩) (Kd.R_types HO105.out BK110.out (by decide)) (fun _ hk => hk.2) (.int .i64 t102)) (fun _ hk => hk.2) (.slice Ao26 t103.length co26)) (fun _ hk => hk.2) (.slice Ao27 t106.length co27)) (fun _ h_ => h_.1))) hb); have n1_ := Aside0.mk (Kd.R_below (by (with_reducible repeat (first | apply Kd.R_alloc | apply Kd.R_drewN | apply Kd.R_drew)); exact (Kd.R_mono (Kd.R_far (p := ⟨gb110, 2, none⟩) (Kd.R_far (p := ⟨gb110, 1, none⟩) (Kd.R_far (p := ⟨gb110, 0, none⟩) (Kd.R_types HO108.out BK110.out (by decide)) (fun _ hk => hk.2) (.int .i64 t102)) (fun _ hk => hk.2) (.slice Ao26 t103.length co26)) (fun _ hk => hk.2) (.slice Ao27 t106.length co27)) (fun _ h_ => h_.1))) hb); have n2_ := Aside0.mk (blk_below (g := gb110) (o := .cells #[.int .i64 t102, .slice Ao26 t103.length co26, .slice Ao27 t106.length co27] 25 (0, 0)) (by (with_reducible repeat (first | refine blk_drewN ?_ _ | refine blk_drew ?_ | refine blk_alloc ?_ _)); refine blk_put (cs := #[.int .i64 t102, .slice Ao26 t103.length co26, .slice none 0 0]) ?_ 2 _ rfl; (with_reducible repeat (first | refine blk_drewN ?_ _ | refine blk_drew ?_ | refine blk_alloc ?_ _)); refine blk_put (cs := #[.int .i64 t102, .slice none 0 0, .slice none 0 0]) ?_ 1 _ rfl; (with_reducible repeat (first | refine blk_drewN ?_ _ | refine blk_drew ?_ | refine blk_alloc ?_ _)); refine blk_put (cs := #[.int .i64 0, .slice none 0 0, .slice none 0 0]) ?_ 0 _ rfl; (with_reducible repeat (first | refine blk_drewN ?_ _ | refine blk_drew ?_ | refine blk_alloc ?_ _)); exact BK110.out) hb); have n3_ := Aside0.mk (below_step (by repeat (first | (with_reducible first | exact HB.out | apply below_alloc | apply pw_below_drewN | apply below_drew1 | refine below_set ?_ GE110.out) | exact HB.out)) hb); clear HO105; clear HO108; clear BK110; clear HB; have HO105 := n0_; have HO108 := n1_; have BK110 := n2_; have HB := n3_; clear n0_ n1_ n2_ n3_; (try clear hb); (try clear hb2); (try clear hk); (try clear hi)))
              go_ret
              exact ⟨by first | rfl | (simp [errW_none, errW_some] <;> rfl) | (simp [*, errW_none, errW_some] <;> rfl), by repeat (first | (with_reducible first | exact HB.out | apply below_alloc | apply pw_below_drewN | apply below_drew1 | refine below_set ?_ GE110.out) | exact HB.out)⟩
          · rw [if_neg c10] at H
            exact absurd H (by simp)
        · rw [if_neg c9] at H
          exact absurd H (by simp)
      · rw [if_neg c8] at H
        have c8b0 : (t112 == 0) = false := beq_eq_false_iff_ne.mpr c8
        have c8b1 : (t112 != 0) = true := bne_iff_ne.mpr c8
        obtain rfl := Option.some.inj H
        go_enter Tryd.func6, Tryd.ntmps6
        go_wp2_with (first | ((with_reducible refine gate_callee (f := 10) rfl ?_); refine goesL_ (some 9) rfl rfl Tryd.func10 (by kernel_rfl) rfl #[] rfl (by (try simp only [List.map_toArray, List.map_cons, List.map_nil]); first | done | rfl | (simp only [List.length_drop, List.length_take]; rfl)) ?_; (with_reducible refine (aumbrylaw06_wakes.calls k  true _ A3.out).mono ?_); rintro e w29 ⟨rfl, hb⟩; refine ⟨_, rfl, ?_⟩; have n0_ := Aside0.mk (below_step (by repeat (first | (with_reducible first | exact HB.out | apply below_alloc | apply pw_below_drewN | apply below_drew1) | exact HB.out)) hb); clear HB; have HB := n0_; clear n0_; (try clear hb); (try clear hb2); (try clear hk); (try clear hi)) | ((with_reducible refine gate_callee (f := 15) rfl ?_); refine goesL_ (some 14) rfl rfl Tryd.func15 (by kernel_rfl) rfl #[.string a0, .string a1] rfl (by (try simp only [List.map_toArray, List.map_cons, List.map_nil]); first | done | rfl | (simp only [List.length_drop, List.length_take]; rfl)) ?_; (with_reducible refine (rule_Parse.calls k a0 a1 t102 t103 t106 t109 _ A5.out).mono ?_); rintro e w30 ⟨v104, v107, rfl, ho0, ho1, hb⟩; refine ⟨_, rfl, ?_⟩; have n0_ := Aside0.mk (Kd.R_lower ho0 (below_size (by repeat (first | (with_reducible first | exact HB.out | apply below_alloc | apply pw_below_drewN | apply below_drew1) | exact HB.out)))); have n1_ := Aside0.mk (Kd.R_lower ho1 (below_size (by repeat (first | (with_reducible first | exact HB.out | apply below_alloc | apply pw_below_drewN | apply below_drew1) | exact HB.out)))); have n2_ := Aside0.mk (below_step (by repeat (first | (with_reducible first | exact HB.out | apply below_alloc | apply pw_below_drewN | apply below_drew1) | exact HB.out)) hb); clear HB; have HO105 := n0_; have HO108 := n1_; have HB := n2_; clear n0_ n1_ n2_; (try clear hb); (try clear hb2); (try clear hk); (try clear hi); (try clear ho0); (try clear ho1)) | ((with_reducible refine gate_dst (N := 5) rfl ?_); refine box_event ?hg (N := 5) ?hd (cs := #[.int .i64 0, .slice none 0 0, .slice none 0 0]) (t := 25) ?hr ?_; (case hd => rfl); (case hg => rfl); (case hr => first | (go_simp; done) | (go_simp; rfl)); intro gb110 hg w31 hbox hb; have n0_ := Aside0.mk (Kd.R_below (by (with_reducible repeat (first | apply Kd.R_alloc | apply Kd.R_drewN | apply Kd.R_drew)); exact HO105.out) hb); have n1_ := Aside0.mk (Kd.R_below (by (with_reducible repeat (first | apply Kd.R_alloc | apply Kd.R_drewN | apply Kd.R_drew)); exact HO108.out) hb); have n2_ := Aside0.mk (below_step (by repeat (first | (with_reducible first | exact HB.out | apply below_alloc | apply pw_below_drewN | apply below_drew1) | exact HB.out)) hb); have n3_ := Aside0.mk (hbox); have n4_ := Aside0.mk ((by rw [hg]; exact (below_size (by repeat (first | (with_reducible first | exact HB.out | apply below_alloc | apply pw_below_drewN | apply below_drew1) | exact HB.out))) : w.heap.size ≤ gb110)); have n5_ := Aside0.mk ((by rw [hg]; exact (below_size (by repeat (first | (with_reducible first | exact HB.out | apply below_alloc | apply pw_below_drewN | apply below_drew1) | exact HB.out))) : w.heap.size ≤ gb110)); clear HO105; clear HO108; clear HB; have HO105 := n0_; have HO108 := n1_; have HB := n2_; have BK110 := n3_; have GW110 := n4_; have GE110 := n5_; clear n0_ n1_ n2_ n3_ n4_ n5_; clear hb hbox hg; have hcz32_0 : w31.cell? ⟨gb110, 0, none⟩ = some (.int .i64 0) := (blk_cell BK110.out 0).trans rfl; have hcz32_1 : w31.cell? ⟨gb110, 1, none⟩ = some (.slice none 0 0) := (blk_cell BK110.out 1).trans rfl; have hcz32_2 : w31.cell? ⟨gb110, 2, none⟩ = some (.slice none 0 0) := (blk_cell BK110.out 2).trans rfl; have hfz32_0 := blk_frozen BK110.out 0; have hfz32_1 := blk_frozen BK110.out 1; have hfz32_2 := blk_frozen BK110.out 2; obtain ⟨Ao33, co33, eo33⟩ := Kd.R_slice HO105.out; subst eo33; obtain ⟨Ao34, co34, eo34⟩ := Kd.R_slice HO108.out; subst eo34) | ((with_reducible refine gate_callee (f := 18) rfl ?_); refine goesL_ (some 24) rfl rfl Tryd.func18 (by kernel_rfl) rfl #[.agg #[.int .i64 t102, .slice Ao33 t103.length co33, .slice Ao34 t106.length co34]] rfl (by (try simp only [List.map_toArray, List.map_cons, List.map_nil]); first | done | rfl | (simp only [List.length_drop, List.length_take]; rfl)) ?_; (with_reducible refine (rule_Print.calls k t102 _ _ t103 _ _ t106 t111 t112 _ ?side1 ?side2 ?side3 ?side4 A7.out).mono ?_); (case side1 => refine (Kd.R_reads' (e := 33) (base := w.heap.size) (ok := fun k_ => some k_ ≠ (.slice Ao34 t106.length co34 : Value).ownBlock) (n := t103.length) (c := co33) ?_).2.2; exact (by (with_reducible repeat (first | apply Kd.R_alloc | apply Kd.R_drewN | apply Kd.R_drew)); exact (Kd.R_mono (Kd.R_far (p := ⟨gb110, 2, none⟩) (Kd.R_far (p := ⟨gb110, 1, none⟩) (Kd.R_far (p := ⟨gb110, 0, none⟩) (Kd.R_types HO105.out BK110.out (by decide)) (fun _ hk => hk.2) (.int .i64 t102)) (fun _ hk => hk.2) (.slice Ao33 t103.length co33)) (fun _ hk => hk.2) (.slice Ao34 t106.length co34)) (fun _ h_ => h_.1)))); (case side2 => exact (Kd.R_reads' HO105.out).2.1); (case side3 => refine (Kd.R_reads' (e := 33) (base := w.heap.size) (ok := fun k_ => some k_ ≠ (.slice Ao33 t103.length co33 : Value).ownBlock) (n := t106.length) (c := co34) ?_).2.2; exact (by (with_reducible repeat (first | apply Kd.R_alloc | apply Kd.R_drewN | apply Kd.R_drew)); exact (Kd.R_mono (Kd.R_far (p := ⟨gb110, 2, none⟩) (Kd.R_far (p := ⟨gb110, 1, none⟩) (Kd.R_far (p := ⟨gb110, 0, none⟩) (Kd.R_types HO108.out BK110.out (by decide)) (fun _ hk => hk.2) (.int .i64 t102)) (fun _ hk => hk.2) (.slice Ao33 t103.length co33)) (fun _ hk => hk.2) (.slice Ao34 t106.length co34)) (fun _ h_ => h_.1)))); (case side4 => exact (Kd.R_reads' HO108.out).2.1); rintro e w35 ⟨rfl, hb⟩; refine ⟨_, rfl, ?_⟩; have n0_ := Aside0.mk (Kd.R_below (by (with_reducible repeat (first | apply Kd.R_alloc | apply Kd.R_drewN | apply Kd.R_drew)); exact (Kd.R_mono (Kd.R_far (p := ⟨gb110, 2, none⟩) (Kd.R_far (p := ⟨gb110, 1, none⟩) (Kd.R_far (p := ⟨gb110, 0, none⟩) (Kd.R_types HO105.out BK110.out (by decide)) (fun _ hk => hk.2) (.int .i64 t102)) (fun _ hk => hk.2) (.slice Ao33 t103.length co33)) (fun _ hk => hk.2) (.slice Ao34 t106.length co34)) (fun _ h_ => h_.1))) hb); have n1_ := Aside0.mk (Kd.R_below (by (with_reducible repeat (first | apply Kd.R_alloc | apply Kd.R_drewN | apply Kd.R_drew)); exact (Kd.R_mono (Kd.R_far (p := ⟨gb110, 2, none⟩) (Kd.R_far (p := ⟨gb110, 1, none⟩) (Kd.R_far (p := ⟨gb110, 0, none⟩) (Kd.R_types HO108.out BK110.out (by decide)) (fun _ hk => hk.2) (.int .i64 t102)) (fun _ hk => hk.2) (.slice Ao33 t103.length co33)) (fun _ hk => hk.2) (.slice Ao34 t106.length co34)) (fun _ h_ => h_.1))) hb); have n2_ := Aside0.mk (blk_below (g := gb110) (o := .cells #[.int .i64 t102, .slice Ao33 t103.length co33, .slice Ao34 t106.length co34] 25 (0, 0)) (by (with_reducible repeat (first | refine blk_drewN ?_ _ | refine blk_drew ?_ | refine blk_alloc ?_ _)); refine blk_put (cs := #[.int .i64 t102, .slice Ao33 t103.length co33, .slice none 0 0]) ?_ 2 _ rfl; (with_reducible repeat (first | refine blk_drewN ?_ _ | refine blk_drew ?_ | refine blk_alloc ?_ _)); refine blk_put (cs := #[.int .i64 t102, .slice none 0 0, .slice none 0 0]) ?_ 1 _ rfl; (with_reducible repeat (first | refine blk_drewN ?_ _ | refine blk_drew ?_ | refine blk_alloc ?_ _)); refine blk_put (cs := #[.int .i64 0, .slice none 0 0, .slice none 0 0]) ?_ 0 _ rfl; (with_reducible repeat (first | refine blk_drewN ?_ _ | refine blk_drew ?_ | refine blk_alloc ?_ _)); exact BK110.out) hb); have n3_ := Aside0.mk (below_step (by repeat (first | (with_reducible first | exact HB.out | apply below_alloc | apply pw_below_drewN | apply below_drew1 | refine below_set ?_ GE110.out) | exact HB.out)) hb); clear HO105; clear HO108; clear BK110; clear HB; have HO105 := n0_; have HO108 := n1_; have BK110 := n2_; have HB := n3_; clear n0_ n1_ n2_ n3_; (try clear hb); (try clear hb2); (try clear hk); (try clear hi)))
        go_ret
        exact ⟨by first | rfl | (simp [errW_none, errW_some] <;> rfl) | (simp [*, errW_none, errW_some] <;> rfl), by repeat (first | (with_reducible first | exact HB.out | apply below_alloc | apply pw_below_drewN | apply below_drew1 | refine below_set ?_ GE110.out) | exact HB.out)⟩
    · rw [if_neg c6] at H
      have c6b0 : (t109 == 0) = false := beq_eq_false_iff_ne.mpr c6
      have c6b1 : (t109 != 0) = true := bne_iff_ne.mpr c6
      replace H := Option.bind_eq_some_iff.mp H
      obtain ⟨t114, A360, H⟩ := H
      replace H : (some t114) = some r := H
      have A36 := Aside0.mk A360
      clear A360
      obtain rfl := Option.some.inj H
      go_enter Tryd.func6, Tryd.ntmps6
      go_wp2_with (first | ((with_reducible refine gate_callee (f := 10) rfl ?_); refine goesL_ (some 9) rfl rfl Tryd.func10 (by kernel_rfl) rfl #[] rfl (by (try simp only [List.map_toArray, List.map_cons, List.map_nil]); first | done | rfl | (simp only [List.length_drop, List.length_take]; rfl)) ?_; (with_reducible refine (aumbrylaw06_wakes.calls k  true _ A3.out).mono ?_); rintro e w37 ⟨rfl, hb⟩; refine ⟨_, rfl, ?_⟩; have n0_ := Aside0.mk (below_step (by repeat (first | (with_reducible first | exact HB.out | apply below_alloc | apply pw_below_drewN | apply below_drew1) | exact HB.out)) hb); clear HB; have HB := n0_; clear n0_; (try clear hb); (try clear hb2); (try clear hk); (try clear hi)) | ((with_reducible refine gate_callee (f := 15) rfl ?_); refine goesL_ (some 14) rfl rfl Tryd.func15 (by kernel_rfl) rfl #[.string a0, .string a1] rfl (by (try simp only [List.map_toArray, List.map_cons, List.map_nil]); first | done | rfl | (simp only [List.length_drop, List.length_take]; rfl)) ?_; (with_reducible refine (rule_Parse.calls k a0 a1 t102 t103 t106 t109 _ A5.out).mono ?_); rintro e w38 ⟨v104, v107, rfl, ho0, ho1, hb⟩; refine ⟨_, rfl, ?_⟩; have n0_ := Aside0.mk (Kd.R_lower ho0 (below_size (by repeat (first | (with_reducible first | exact HB.out | apply below_alloc | apply pw_below_drewN | apply below_drew1) | exact HB.out)))); have n1_ := Aside0.mk (Kd.R_lower ho1 (below_size (by repeat (first | (with_reducible first | exact HB.out | apply below_alloc | apply pw_below_drewN | apply below_drew1) | exact HB.out)))); have n2_ := Aside0.mk (below_step (by repeat (first | (with_reducible first | exact HB.out | apply below_alloc | apply pw_below_drewN | apply below_drew1) | exact HB.out)) hb); clear HB; have HO105 := n0_; have HO108 := n1_; have HB := n2_; clear n0_ n1_ n2_; (try clear hb); (try clear hb2); (try clear hk); (try clear hi); (try clear ho0); (try clear ho1)) | ((with_reducible refine gate_dst (N := 5) rfl ?_); refine box_event ?hg (N := 5) ?hd (cs := #[.int .i64 0, .slice none 0 0, .slice none 0 0]) (t := 25) ?hr ?_; (case hd => rfl); (case hg => rfl); (case hr => first | (go_simp; done) | (go_simp; rfl)); intro gb110 hg w39 hbox hb; have n0_ := Aside0.mk (Kd.R_below (by (with_reducible repeat (first | apply Kd.R_alloc | apply Kd.R_drewN | apply Kd.R_drew)); exact HO105.out) hb); have n1_ := Aside0.mk (Kd.R_below (by (with_reducible repeat (first | apply Kd.R_alloc | apply Kd.R_drewN | apply Kd.R_drew)); exact HO108.out) hb); have n2_ := Aside0.mk (below_step (by repeat (first | (with_reducible first | exact HB.out | apply below_alloc | apply pw_below_drewN | apply below_drew1) | exact HB.out)) hb); have n3_ := Aside0.mk (hbox); have n4_ := Aside0.mk ((by rw [hg]; exact (below_size (by repeat (first | (with_reducible first | exact HB.out | apply below_alloc | apply pw_below_drewN | apply below_drew1) | exact HB.out))) : w.heap.size ≤ gb110)); have n5_ := Aside0.mk ((by rw [hg]; exact (below_size (by repeat (first | (with_reducible first | exact HB.out | apply below_alloc | apply pw_below_drewN | apply below_drew1) | exact HB.out))) : w.heap.size ≤ gb110)); clear HO105; clear HO108; clear HB; have HO105 := n0_; have HO108 := n1_; have HB := n2_; have BK110 := n3_; have GW110 := n4_; have GE110 := n5_; clear n0_ n1_ n2_ n3_ n4_ n5_; clear hb hbox hg; have hcz40_0 : w39.cell? ⟨gb110, 0, none⟩ = some (.int .i64 0) := (blk_cell BK110.out 0).trans rfl; have hcz40_1 : w39.cell? ⟨gb110, 1, none⟩ = some (.slice none 0 0) := (blk_cell BK110.out 1).trans rfl; have hcz40_2 : w39.cell? ⟨gb110, 2, none⟩ = some (.slice none 0 0) := (blk_cell BK110.out 2).trans rfl; have hfz40_0 := blk_frozen BK110.out 0; have hfz40_1 := blk_frozen BK110.out 1; have hfz40_2 := blk_frozen BK110.out 2; obtain ⟨Ao41, co41, eo41⟩ := Kd.R_slice HO105.out; subst eo41; obtain ⟨Ao42, co42, eo42⟩ := Kd.R_slice HO108.out; subst eo42) | ((with_reducible refine gate_callee (f := 17) rfl ?_); refine goesL_ (some 21) rfl rfl Tryd.func17 (by kernel_rfl) rfl #[.agg #[.int .i64 t102, .slice Ao41 t103.length co41, .slice Ao42 t106.length co42], .agg #[.int .i64 0, .slice none 0 0, .slice none 0 0]] rfl (by (try simp only [List.map_toArray, List.map_cons, List.map_nil]); first | done | rfl | (simp only [List.length_drop, List.length_take]; rfl)) ?_; (refine (aumbryref06_Same.calls k t102 _ _ t103 _ _ t106 0 _ _ ([] : List (S33)) _ _ ([] : List (S33)) t114 _ ?side1 ?side2 ?side3 ?side4 ?side5 ?side6 ?side7 ?side8 A36.out).mono ?_); (case side1 => refine (Kd.R_reads' (e := 33) (base := w.heap.size) (ok := fun k_ => some k_ ≠ (.slice Ao42 t106.length co42 : Value).ownBlock) (n := t103.length) (c := co41) ?_).2.2; exact (by (with_reducible repeat (first | apply Kd.R_alloc | apply Kd.R_drewN | apply Kd.R_drew)); exact (Kd.R_mono (Kd.R_far (p := ⟨gb110, 2, none⟩) (Kd.R_far (p := ⟨gb110, 1, none⟩) (Kd.R_far (p := ⟨gb110, 0, none⟩) (Kd.R_types HO105.out BK110.out (by decide)) (fun _ hk => hk.2) (.int .i64 t102)) (fun _ hk => hk.2) (.slice Ao41 t103.length co41)) (fun _ hk => hk.2) (.slice Ao42 t106.length co42)) (fun _ h_ => h_.1)))); (case side2 => exact (Kd.R_reads' HO105.out).2.1); (case side3 => refine (Kd.R_reads' (e := 33) (base := w.heap.size) (ok := fun k_ => some k_ ≠ (.slice Ao41 t103.length co41 : Value).ownBlock) (n := t106.length) (c := co42) ?_).2.2; exact (by (with_reducible repeat (first | apply Kd.R_alloc | apply Kd.R_drewN | apply Kd.R_drew)); exact (Kd.R_mono (Kd.R_far (p := ⟨gb110, 2, none⟩) (Kd.R_far (p := ⟨gb110, 1, none⟩) (Kd.R_far (p := ⟨gb110, 0, none⟩) (Kd.R_types HO108.out BK110.out (by decide)) (fun _ hk => hk.2) (.int .i64 t102)) (fun _ hk => hk.2) (.slice Ao41 t103.length co41)) (fun _ hk => hk.2) (.slice Ao42 t106.length co42)) (fun _ h_ => h_.1)))); (case side4 => exact (Kd.R_reads' HO108.out).2.1); (case side5 => exact Kd.C_nil _ _); (case side6 => exact Nat.le_refl _); (case side7 => exact Kd.C_nil _ _); (case side8 => exact Nat.le_refl _); rintro e w43 ⟨rfl, hb⟩; refine ⟨_, rfl, ?_⟩; have n0_ := Aside0.mk (Kd.R_below (by (with_reducible repeat (first | apply Kd.R_alloc | apply Kd.R_drewN | apply Kd.R_drew)); exact (Kd.R_mono (Kd.R_far (p := ⟨gb110, 2, none⟩) (Kd.R_far (p := ⟨gb110, 1, none⟩) (Kd.R_far (p := ⟨gb110, 0, none⟩) (Kd.R_types HO105.out BK110.out (by decide)) (fun _ hk => hk.2) (.int .i64 t102)) (fun _ hk => hk.2) (.slice Ao41 t103.length co41)) (fun _ hk => hk.2) (.slice Ao42 t106.length co42)) (fun _ h_ => h_.1))) hb); have n1_ := Aside0.mk (Kd.R_below (by (with_reducible repeat (first | apply Kd.R_alloc | apply Kd.R_drewN | apply Kd.R_drew)); exact (Kd.R_mono (Kd.R_far (p := ⟨gb110, 2, none⟩) (Kd.R_far (p := ⟨gb110, 1, none⟩) (Kd.R_far (p := ⟨gb110, 0, none⟩) (Kd.R_types HO108.out BK110.out (by decide)) (fun _ hk => hk.2) (.int .i64 t102)) (fun _ hk => hk.2) (.slice Ao41 t103.length co41)) (fun _ hk => hk.2) (.slice Ao42 t106.length co42)) (fun _ h_ => h_.1))) hb); have n2_ := Aside0.mk (blk_below (g := gb110) (o := .cells #[.int .i64 t102, .slice Ao41 t103.length co41, .slice Ao42 t106.length co42] 25 (0, 0)) (by (with_reducible repeat (first | refine blk_drewN ?_ _ | refine blk_drew ?_ | refine blk_alloc ?_ _)); refine blk_put (cs := #[.int .i64 t102, .slice Ao41 t103.length co41, .slice none 0 0]) ?_ 2 _ rfl; (with_reducible repeat (first | refine blk_drewN ?_ _ | refine blk_drew ?_ | refine blk_alloc ?_ _)); refine blk_put (cs := #[.int .i64 t102, .slice none 0 0, .slice none 0 0]) ?_ 1 _ rfl; (with_reducible repeat (first | refine blk_drewN ?_ _ | refine blk_drew ?_ | refine blk_alloc ?_ _)); refine blk_put (cs := #[.int .i64 0, .slice none 0 0, .slice none 0 0]) ?_ 0 _ rfl; (with_reducible repeat (first | refine blk_drewN ?_ _ | refine blk_drew ?_ | refine blk_alloc ?_ _)); exact BK110.out) hb); have n3_ := Aside0.mk (below_step (by repeat (first | (with_reducible first | exact HB.out | apply below_alloc | apply pw_below_drewN | apply below_drew1 | refine below_set ?_ GE110.out) | exact HB.out)) hb); clear HO105; clear HO108; clear BK110; clear HB; have HO105 := n0_; have HO108 := n1_; have BK110 := n2_; have HB := n3_; clear n0_ n1_ n2_ n3_; (try clear hb); (try clear hb2); (try clear hk); (try clear hi)))
      go_ret
      exact ⟨by first | rfl | (simp [errW_none, errW_some] <;> rfl) | (simp [*, errW_none, errW_some] <;> rfl), by repeat (first | (with_reducible first | exact HB.out | apply below_alloc | apply pw_below_drewN | apply below_drew1 | refine below_set ?_ GE110.out) | exact HB.out)⟩
  · replace c4 := Bool.eq_false_iff.mpr c4
    subst c4
    have H1 : (some false) = some r := by rw [if_neg (show ¬ (false = true) by decide)] at H; exact H
    clear H
    have H := H1
    clear H1
    obtain rfl := Option.some.inj H
    go_enter Tryd.func6, Tryd.ntmps6
    go_wp2_with (first | ((with_reducible refine gate_callee (f := 10) rfl ?_); refine goesL_ (some 9) rfl rfl Tryd.func10 (by kernel_rfl) rfl #[] rfl (by (try simp only [List.map_toArray, List.map_cons, List.map_nil]); first | done | rfl | (simp only [List.length_drop, List.length_take]; rfl)) ?_; (with_reducible refine (aumbrylaw06_wakes.calls k  false _ A3.out).mono ?_); rintro e w44 ⟨rfl, hb⟩; refine ⟨_, rfl, ?_⟩; have n0_ := Aside0.mk (below_step (by repeat (first | (with_reducible first | exact HB.out | apply below_alloc | apply pw_below_drewN | apply below_drew1) | exact HB.out)) hb); clear HB; have HB := n0_; clear n0_; (try clear hb); (try clear hb2); (try clear hk); (try clear hi)))
    go_ret
    exact ⟨by first | rfl | (simp [errW_none, errW_some] <;> rfl) | (simp [*, errW_none, errW_some] <;> rfl), by repeat (first | (with_reducible first | exact HB.out | apply below_alloc | apply pw_below_drewN | apply below_drew1) | exact HB.out)⟩


end Go.Proofs.YtpnamhplhdaphaaDoor.P

-- ==== Open
/- What came in and can be read as data, read as the print's kinds: for each kind one fact, put together by the types' shapes. -/
set_option linter.unusedVariables false
namespace Go.Proofs.YtpnamhplhdaphaaDoor.Open
open Go.RowKit Go.Proofs.YtpnamhplhdaphaaDoorW.PrintWords Go.Proofs.YtpnamhplhdaphaaDoor.Rows

structure Opens {α : Type} (P : Program) (t : TypeId) (d : Kd α) (Sz : α → Prop) (Bk : α → Nat) : Prop where
  cells : P.cellsOf t = d.sz
  go : ∀ {H : Type} {enc : TypeId × Value → H} {w : World} {base : Nat} {spare : Nat → Bool} {held : Bool} {n : Nat} {cs : List Value} {x : DataW H × List MemPlace},
    DataW.trod enc P w base spare held n t cs = some x → (∀ m ∈ x.1.weights P t, m ≤ reachBytes) → ∃ v : α, d.K w v cs ∧ Sz v ∧ Bk v ≤ uptoBulk x.1

theorem opens_string {P : Program} {t : TypeId} (ht : P.underlying t = some .string) (hc : P.cellsOf t = 1) : Opens P t Kd.string (fun s => s.size ≤ 140737488351232) (fun s => s.size + 1) := by
  refine ⟨hc, fun h hw => ?_⟩
  obtain ⟨a, rfl, rfl, hs⟩ := DataW.trod_string ht h
  have hl : a.data.toList.length = a.size := data_length a
  refine ⟨a, rfl, ?_, ?_⟩
  · have := hw a.data.toList.length (by simp [DataW.weights])
    rw [hl] at this
    exact this
  · simp only [uptoBulk]
    omega

/-! Structs: the fields, one behind the other. -/
def offs (P : Program) : List TypeId → Nat → Nat
  | [], _ => 0
  | _, 0 => 0
  | t :: ts, i + 1 => P.cellsOf t + offs P ts i

structure OpensF {α : Type} (P : Program) (ts : List TypeId) (d : Kd α) (Sz : α → Prop) (Bk : α → Nat) : Prop where
  cells : (ts.map P.cellsOf).sum = d.sz
  go : ∀ {H : Type} {enc : TypeId × Value → H} {w : World} {base : Nat} {spare : Nat → Bool} {held : Bool} {n : Nat} {cs : List Value} {xs : List (DataW H × List MemPlace)},
    cs.length = d.sz → xs.length = ts.length → (∀ (i : Nat) t, ts[i]? = some t → DataW.trod enc P w base spare held n t ((cs.drop (offs P ts i)).take (P.cellsOf t)) = xs[i]?) →
    (∀ m ∈ DataW.weightsEach P ts (xs.map (·.1)), m ≤ reachBytes) → ∃ v : α, d.K w v cs ∧ Sz v ∧ Bk v ≤ uptoBulkAll (xs.map (·.1))

end Go.Proofs.YtpnamhplhdaphaaDoor.Open

-- ==== PO
set_option linter.unusedVariables false
namespace Go.Proofs.YtpnamhplhdaphaaDoor.P
open Go.RowKit Go.Proofs.YtpnamhplhdaphaaDoorW.PrintWords Go.Proofs.YtpnamhplhdaphaaDoor.Open
def sz9 (s : ByteArray) : Prop := s.size ≤ 140737488351232
def bk9 (s : ByteArray) : Nat := s.size + 1
theorem op9 : Opens Tryd.prog 9 Kd.string sz9 bk9 := opens_string Tryd.underlying9 (by kernel_rfl)
end Go.Proofs.YtpnamhplhdaphaaDoor.P

-- ==== PS6
namespace Go.Proofs.YtpnamhplhdaphaaDoor.P
open Go.RowKit Go.Proofs.YtpnamhplhdaphaaDoorW.PrintWords
def aumbrylaw06_RuleBack.Pure : Prop := ∀ (a0 : ByteArray) (a1 : ByteArray), sz9 a0 → sz9 a1 → ∃ k, aumbrylaw06_RuleBack.f k a0 a1 = some true
end Go.Proofs.YtpnamhplhdaphaaDoor.P

-- ==== PF61
namespace Go.Proofs.YtpnamhplhdaphaaDoor.P
open Go.RowKit Go.Proofs.YtpnamhplhdaphaaDoorW.PrintWords Go.Proofs.YtpnamhplhdaphaaDoorW.PrintLast Go.Proofs.YtpnamhplhdaphaaDoorW.PrintMore
attribute [local go_sem] max2_int min2_int max_two min_two max_three min_three max_four min_four   -- for this text's walks alone
set_option linter.unusedVariables false
set_option linter.unusedSimpArgs false

/-! ### aumbryref03_Kind: function 61 -/
mutual
def aumbryref03_Kind.j0 : Nat → ByteArray → Bool → Option (Int)
  | 0, _, _ => none
  | k + 1, x0, x15 => if x15 = true then (some 0) else (aumbryref03_Kind.l0 k x0 true true 0)
def aumbryref03_Kind.l0 : Nat → ByteArray → Bool → Bool → Int → Option (Int)
  | 0, _, _, _, _ => none
  | k + 1, x0, x3, x4, x5 => if x5 < (x0.size : Int) then (if 0 ≤ x5 then (if (bt x0 x5) ≥ 48 then (if (bt x0 x5) ≤ 57 then (if x3 = true then (if (bt x0 x5) ≥ 97 then (if (bt x0 x5) ≤ 122 then (if x4 = true then (if (bt x0 x5) ≥ 65 then (if (bt x0 x5) ≤ 90 then (aumbryref03_Kind.l0 k x0 true true (wrap64 (x5 + 1))) else (aumbryref03_Kind.l0 k x0 true (decide (x5 > 0)) (wrap64 (x5 + 1)))) else (aumbryref03_Kind.l0 k x0 true (decide (x5 > 0)) (wrap64 (x5 + 1)))) else (aumbryref03_Kind.l0 k x0 true false (wrap64 (x5 + 1)))) else (if x4 = true then (if (bt x0 x5) ≥ 65 then (if (bt x0 x5) ≤ 90 then (aumbryref03_Kind.l0 k x0 (decide (x5 > 0)) true (wrap64 (x5 + 1))) else (aumbryref03_Kind.l0 k x0 (decide (x5 > 0)) (decide (x5 > 0)) (wrap64 (x5 + 1)))) else (aumbryref03_Kind.l0 k x0 (decide (x5 > 0)) (decide (x5 > 0)) (wrap64 (x5 + 1)))) else (aumbryref03_Kind.l0 k x0 (decide (x5 > 0)) false (wrap64 (x5 + 1))))) else (if x4 = true then (if (bt x0 x5) ≥ 65 then (if (bt x0 x5) ≤ 90 then (aumbryref03_Kind.l0 k x0 (decide (x5 > 0)) true (wrap64 (x5 + 1))) else (aumbryref03_Kind.l0 k x0 (decide (x5 > 0)) (decide (x5 > 0)) (wrap64 (x5 + 1)))) else (aumbryref03_Kind.l0 k x0 (decide (x5 > 0)) (decide (x5 > 0)) (wrap64 (x5 + 1)))) else (aumbryref03_Kind.l0 k x0 (decide (x5 > 0)) false (wrap64 (x5 + 1))))) else (if x4 = true then (if (bt x0 x5) ≥ 65 then (if (bt x0 x5) ≤ 90 then (aumbryref03_Kind.l0 k x0 false true (wrap64 (x5 + 1))) else (aumbryref03_Kind.l0 k x0 false (decide (x5 > 0)) (wrap64 (x5 + 1)))) else (aumbryref03_Kind.l0 k x0 false (decide (x5 > 0)) (wrap64 (x5 + 1)))) else (aumbryref03_Kind.l0 k x0 false false (wrap64 (x5 + 1))))) else (if x3 = true then (if (bt x0 x5) ≥ 97 then (if (bt x0 x5) ≤ 122 then (if x4 = true then (if (bt x0 x5) ≥ 65 then (if (bt x0 x5) ≤ 90 then (aumbryref03_Kind.l0 k x0 true true (wrap64 (x5 + 1))) else (aumbryref03_Kind.l0 k x0 true false (wrap64 (x5 + 1)))) else (aumbryref03_Kind.l0 k x0 true false (wrap64 (x5 + 1)))) else (aumbryref03_Kind.l0 k x0 true false (wrap64 (x5 + 1)))) else (if x4 = true then (if (bt x0 x5) ≥ 65 then (if (bt x0 x5) ≤ 90 then (aumbryref03_Kind.l0 k x0 false true (wrap64 (x5 + 1))) else (aumbryref03_Kind.l0 k x0 false false (wrap64 (x5 + 1)))) else (aumbryref03_Kind.l0 k x0 false false (wrap64 (x5 + 1)))) else (aumbryref03_Kind.l0 k x0 false false (wrap64 (x5 + 1))))) else (if x4 = true then (if (bt x0 x5) ≥ 65 then (if (bt x0 x5) ≤ 90 then (aumbryref03_Kind.l0 k x0 false true (wrap64 (x5 + 1))) else (aumbryref03_Kind.l0 k x0 false false (wrap64 (x5 + 1)))) else (aumbryref03_Kind.l0 k x0 false false (wrap64 (x5 + 1)))) else (aumbryref03_Kind.l0 k x0 false false (wrap64 (x5 + 1))))) else (if x4 = true then (if (bt x0 x5) ≥ 65 then (if (bt x0 x5) ≤ 90 then (aumbryref03_Kind.l0 k x0 false true (wrap64 (x5 + 1))) else (aumbryref03_Kind.l0 k x0 false false (wrap64 (x5 + 1)))) else (aumbryref03_Kind.l0 k x0 false false (wrap64 (x5 + 1)))) else (aumbryref03_Kind.l0 k x0 false false (wrap64 (x5 + 1)))))) else (if x3 = true then (if (bt x0 x5) ≥ 97 then (if (bt x0 x5) ≤ 122 then (if x4 = true then (if (bt x0 x5) ≥ 65 then (if (bt x0 x5) ≤ 90 then (aumbryref03_Kind.l0 k x0 true true (wrap64 (x5 + 1))) else (aumbryref03_Kind.l0 k x0 true false (wrap64 (x5 + 1)))) else (aumbryref03_Kind.l0 k x0 true false (wrap64 (x5 + 1)))) else (aumbryref03_Kind.l0 k x0 true false (wrap64 (x5 + 1)))) else (if x4 = true then (if (bt x0 x5) ≥ 65 then (if (bt x0 x5) ≤ 90 then (aumbryref03_Kind.l0 k x0 false true (wrap64 (x5 + 1))) else (aumbryref03_Kind.l0 k x0 false false (wrap64 (x5 + 1)))) else (aumbryref03_Kind.l0 k x0 false false (wrap64 (x5 + 1)))) else (aumbryref03_Kind.l0 k x0 false false (wrap64 (x5 + 1))))) else (if x4 = true then (if (bt x0 x5) ≥ 65 then (if (bt x0 x5) ≤ 90 then (aumbryref03_Kind.l0 k x0 false true (wrap64 (x5 + 1))) else (aumbryref03_Kind.l0 k x0 false false (wrap64 (x5 + 1)))) else (aumbryref03_Kind.l0 k x0 false false (wrap64 (x5 + 1)))) else (aumbryref03_Kind.l0 k x0 false false (wrap64 (x5 + 1))))) else (if x4 = true then (if (bt x0 x5) ≥ 65 then (if (bt x0 x5) ≤ 90 then (aumbryref03_Kind.l0 k x0 false true (wrap64 (x5 + 1))) else (aumbryref03_Kind.l0 k x0 false false (wrap64 (x5 + 1)))) else (aumbryref03_Kind.l0 k x0 false false (wrap64 (x5 + 1)))) else (aumbryref03_Kind.l0 k x0 false false (wrap64 (x5 + 1)))))) else (none)) else (if x3 = true then (some 1) else (if x4 = true then (some 2) else (some 0)))
end
def aumbryref03_Kind.f (k : Nat) (a0 : ByteArray) : Option (Int) := if (a0.size : Int) < 1 then (aumbryref03_Kind.j0 k a0 true) else (aumbryref03_Kind.j0 k a0 (decide ((a0.size : Int) > 8)))
end Go.Proofs.YtpnamhplhdaphaaDoor.P

-- ==== PLa
/- Plain laws, part a: what kind a text is: the program's way and the document's way come to one function. -/
namespace Go.Proofs.YtpnamhplhdaphaaDoor.P
open Go.RowKit Go.Proofs.YtpnamhplhdaphaaDoorW.PrintWords
set_option linter.unusedVariables false
set_option linter.unusedSimpArgs false

theorem wrap_up {i : Int} (h0 : 0 ≤ i) (h : i < 9223372036854775807) : wrap64 (i + 1) = i + 1 := by
  unfold wrap64
  omega
theorem wrap_id {i : Int} (h0 : -9223372036854775808 ≤ i) (h : i ≤ 9223372036854775807) : wrap64 i = i := by
  unfold wrap64
  omega

theorem evIfp {α : Type} {c : Prop} [Decidable c] {f g : Nat → Option α} {r : α} (h : c) (hf : Ev f r) : Ev (fun k => if c then f k else g k) r :=
  Ev.congr (fun _ => if_pos h) hf
theorem evIfn {α : Type} {c : Prop} [Decidable c] {f g : Nat → Option α} {r : α} (h : ¬ c) (hf : Ev g r) : Ev (fun k => if c then f k else g k) r :=
  Ev.congr (fun _ => if_neg h) hf
theorem evIs {α : Type} {x : Option α} {a : α} (h : x = some a) : Ev (fun _ => x) a := ⟨0, fun _ _ => h⟩

def lowB (s : ByteArray) (i : Int) : Bool := (decide (97 ≤ bt s i) && decide (bt s i ≤ 122)) || (decide (48 ≤ bt s i) && decide (bt s i ≤ 57) && decide (0 < i))
def upB (s : ByteArray) (i : Int) : Bool := (decide (65 ≤ bt s i) && decide (bt s i ≤ 90)) || (decide (48 ≤ bt s i) && decide (bt s i ≤ 57) && decide (0 < i))
/-- p holds at i, i + 1, .. (d places). -/
def allN (p : Int → Bool) : Nat → Int → Bool
  | 0, _ => true
  | d + 1, i => p i && allN p d (i + 1)
theorem allN_congr {p q : Int → Bool} : ∀ (d : Nat) (i : Int), (∀ j, i ≤ j → j < i + d → p j = q j) → allN p d i = allN q d i
  | 0, _, _ => rfl
  | d + 1, i, h => by
    simp only [allN]
    rw [h i (Int.le_refl _) (by omega), allN_congr d (i + 1) (fun j h1 h2 => h j (by omega) (by omega))]
def kindS (s : ByteArray) : Int :=
  if s.size < 1 ∨ 8 < s.size then 0 else if allN (lowB s) s.size 0 = true then 1 else if allN (upB s) s.size 0 = true then 2 else 0

theorem kindS_bad {s : ByteArray} (h : s.size < 1 ∨ 8 < s.size) : kindS s = 0 := by
  unfold kindS
  exact if_pos h
theorem kindS_good {s : ByteArray} (h1 : 1 ≤ s.size) (h8 : s.size ≤ 8) : kindS s = (if allN (lowB s) s.size 0 = true then 1 else if allN (upB s) s.size 0 = true then 2 else 0) := by
  unfold kindS
  exact if_neg (by omega)
theorem kindS_size {s : ByteArray} (h : kindS s ≠ 0) : 1 ≤ s.size ∧ s.size ≤ 8 := by
  unfold kindS at h
  split at h
  · exact absurd rfl h
  · omega

/-! ### the document's -/
theorem refKind_step (k : Nat) (s : ByteArray) (a b : Bool) (i : Int) (h0 : 0 ≤ i) (h1 : i < (s.size : Int)) :
    aumbryref03_Kind.l0 (k + 1) s a b i = aumbryref03_Kind.l0 k s (a && lowB s i) (b && upB s i) (wrap64 (i + 1)) := by
  simp only [aumbryref03_Kind.l0]
  rw [if_pos h1, if_pos h0]
  unfold lowB upB
  generalize bt s i = c
  by_cases c1 : c ≥ 48 <;> by_cases c2 : c ≤ 57 <;> by_cases c3 : c ≥ 97 <;> by_cases c4 : c ≤ 122 <;> by_cases c5 : c ≥ 65 <;> by_cases c6 : c ≤ 90 <;> first | (exfalso; omega) | (cases a <;> cases b <;> simp [c1, c2, c3, c4, c5, c6])
theorem refKind_end (k : Nat) (s : ByteArray) (a b : Bool) (i : Int) (h1 : ¬ i < (s.size : Int)) :
    aumbryref03_Kind.l0 (k + 1) s a b i = some (if a = true then 1 else if b = true then 2 else 0) := by
  simp only [aumbryref03_Kind.l0]
  rw [if_neg h1]
  cases a <;> cases b <;> rfl
theorem refKind_loop (s : ByteArray) (hs : s.size ≤ 8) : ∀ (d : Nat) (k : Nat) (a b : Bool) (i : Int), 0 ≤ i → (s.size : Int) - i = d → d < k →
    aumbryref03_Kind.l0 k s a b i = some (if (a && allN (lowB s) d i) = true then 1 else if (b && allN (upB s) d i) = true then 2 else 0)
  | 0, k, a, b, i, h0, hd, hk => by
    obtain ⟨k, rfl⟩ : ∃ m, k = m + 1 := ⟨k - 1, by omega⟩
    rw [refKind_end k s a b i (by omega)]
    simp [allN]
  | d + 1, k, a, b, i, h0, hd, hk => by
    obtain ⟨k, rfl⟩ : ∃ m, k = m + 1 := ⟨k - 1, by omega⟩
    rw [refKind_step k s a b i h0 (by omega), wrap_up h0 (by omega), refKind_loop s hs d k _ _ (i + 1) (by omega) (by omega) (by omega)]
    simp [allN, Bool.and_assoc]
theorem ev_refKind (s : ByteArray) : Ev (fun k => aumbryref03_Kind.f k s) (kindS s) := by
  refine ⟨12, fun k hk => ?_⟩
  show aumbryref03_Kind.f k s = _
  unfold aumbryref03_Kind.f
  obtain ⟨k, rfl⟩ : ∃ m, k = m + 1 := ⟨k - 1, by omega⟩
  by_cases h1 : (s.size : Int) < 1
  · rw [if_pos h1]
    simp [aumbryref03_Kind.j0, kindS_bad (s := s) (.inl (by omega))]
  · rw [if_neg h1]
    simp only [aumbryref03_Kind.j0]
    by_cases h2 : (s.size : Int) > 8
    · rw [if_pos (by simpa using h2), kindS_bad (s := s) (.inr (by omega))]
    · rw [kindS_good (s := s) (by omega) (by omega), if_neg (by simpa using h2), refKind_loop s (by omega) s.size k true true 0 (by omega) (by omega) (by omega)]
      simp

/-! ### the program's -/
def signS (c : Int) : Int × Int := if 97 ≤ c ∧ c ≤ 122 then (1, 1) else if 65 ≤ c ∧ c ≤ 90 then (2, 2) else if 48 ≤ c ∧ c ≤ 57 then (0, 3) else (0, 0)
theorem sign_at (c : Int) (k : Nat) (hk : 2 ≤ k) : name_sign.f k c = some (signS c) := by
  obtain ⟨k, rfl⟩ : ∃ m, k = m + 2 := ⟨k - 2, by omega⟩
  unfold name_sign.f signS
  by_cases c1 : c ≥ 48 <;> by_cases c2 : c ≤ 57 <;> by_cases c3 : c ≥ 97 <;> by_cases c4 : c ≤ 122 <;> by_cases c5 : c ≥ 65 <;> by_cases c6 : c ≤ 90 <;> first | (exfalso; omega) | (simp [name_sign.j0, name_sign.j1, c1, c2, c3, c4, c5, c6])
theorem bits_and_ (a b : Int) (ha : a = 0 ∨ a = 1 ∨ a = 2 ∨ a = 3) (hb : b = 0 ∨ b = 1 ∨ b = 2) : (Go.bits .and .i64 a b = 0) ↔ (b = 0 ∨ (b = 1 ∧ (a = 0 ∨ a = 2)) ∨ (b = 2 ∧ (a = 0 ∨ a = 1))) := by
  rcases ha with rfl | rfl | rfl | rfl <;> rcases hb with rfl | rfl | rfl <;> decide
def goesB (s : ByteArray) (b : Int) (i : Int) : Bool := decide (¬ (Go.bits .and .i64 (signS (bt s i)).2 b = 0))
theorem kind_loop (s : ByteArray) (b : Int) (hs : s.size ≤ 8) : ∀ (d : Nat) (k : Nat) (i : Int), 0 ≤ i → (s.size : Int) - i = d → d + 2 < k →
    name_Kind.l0 k s b (s.size : Int) i = some (if allN (goesB s b) d i = true then b else 0)
  | 0, k, i, h0, hd, hk => by
    obtain ⟨k, rfl⟩ : ∃ m, k = m + 1 := ⟨k - 1, by omega⟩
    simp only [name_Kind.l0]
    rw [if_neg (by omega)]
    simp [allN]
  | d + 1, k, i, h0, hd, hk => by
    obtain ⟨k, rfl⟩ : ∃ m, k = m + 1 := ⟨k - 1, by omega⟩
    simp only [name_Kind.l0]
    rw [if_pos (by omega), if_pos h0, if_pos (by omega), sign_at _ _ (by omega)]
    simp only [Option.bind_some]
    by_cases hg : Go.bits .and .i64 (signS (bt s i)).2 b = 0
    · rw [if_pos hg]
      simp [allN, goesB, hg]
    · rw [if_neg hg, wrap_up h0 (by omega), kind_loop s b hs d k (i + 1) (by omega) (by omega) (by omega)]
      simp [allN, goesB, hg]
theorem signS_two (c : Int) : (signS c).2 = 0 ∨ (signS c).2 = 1 ∨ (signS c).2 = 2 ∨ (signS c).2 = 3 := by
  unfold signS
  repeat' split
  all_goals simp
theorem goes_one (s : ByteArray) (i : Int) (hi : 0 < i) : goesB s 1 i = lowB s i := by
  have h := bits_and_ (signS (bt s i)).2 1 (signS_two _) (by simp)
  unfold goesB lowB
  rw [Bool.eq_iff_iff]
  simp only [decide_eq_true_eq, h, Bool.or_eq_true, Bool.and_eq_true]
  unfold signS
  repeat' split
  all_goals simp
  all_goals omega
theorem goes_two (s : ByteArray) (i : Int) (hi : 0 < i) : goesB s 2 i = upB s i := by
  have h := bits_and_ (signS (bt s i)).2 2 (signS_two _) (by simp)
  unfold goesB upB
  rw [Bool.eq_iff_iff]
  simp only [decide_eq_true_eq, h, Bool.or_eq_true, Bool.and_eq_true]
  unfold signS
  repeat' split
  all_goals simp
  all_goals omega
theorem kind_eq (s : ByteArray) (h1 : 1 ≤ s.size) (h8 : s.size ≤ 8) : (if allN (goesB s (signS (bt s 0)).1) s.size 0 = true then (signS (bt s 0)).1 else 0) = kindS s := by
  rw [kindS_good h1 h8]
  obtain ⟨n, hn⟩ : ∃ n, s.size = n + 1 := ⟨s.size - 1, by omega⟩
  have e1 : allN (goesB s 1) n (0 + 1) = allN (lowB s) n (0 + 1) := allN_congr _ _ (fun j h1 _ => goes_one s j (by omega))
  have e2 : allN (goesB s 2) n (0 + 1) = allN (upB s) n (0 + 1) := allN_congr _ _ (fun j h1 _ => goes_two s j (by omega))
  by_cases hl : 97 ≤ bt s 0 ∧ bt s 0 ≤ 122
  · have hs : signS (bt s 0) = (1, 1) := by unfold signS; rw [if_pos hl]
    have g0 : goesB s 1 0 = true := by unfold goesB; rw [hs]; decide
    have l0 : lowB s 0 = true := by unfold lowB; simp [hl]
    have u0 : upB s 0 = false := by unfold upB; simp; omega
    simp only [hn, hs, allN, e1, g0, l0, u0, Bool.true_and, Bool.false_and]
    split <;> simp
  · by_cases hu : 65 ≤ bt s 0 ∧ bt s 0 ≤ 90
    · have hs : signS (bt s 0) = (2, 2) := by unfold signS; rw [if_neg hl, if_pos hu]
      have g0 : goesB s 2 0 = true := by unfold goesB; rw [hs]; decide
      have l0 : lowB s 0 = false := by unfold lowB; simp; omega
      have u0 : upB s 0 = true := by unfold upB; simp [hu]
      simp only [hn, hs, allN, e2, g0, l0, u0, Bool.true_and, Bool.false_and]
      simp
    · have hs : (signS (bt s 0)).1 = 0 := by unfold signS; rw [if_neg hl, if_neg hu]; split <;> rfl
      have l0 : lowB s 0 = false := by unfold lowB; simp; omega
      have u0 : upB s 0 = false := by unfold upB; simp; omega
      simp only [hn, hs, allN, l0, u0, Bool.true_and, Bool.false_and]
      simp
theorem toList_nil (s : ByteArray) : s.toList = ([] : List UInt8) ↔ s.size = 0 := by
  rw [ByteArray.toList_eq]
  constructor
  · intro h
    have := congrArg List.length h
    simpa [data_length] using this
  · intro h
    apply List.eq_nil_of_length_eq_zero
    rw [data_length]
    exact h
theorem ev_kind (s : ByteArray) : Ev (fun k => name_Kind.f k s) (kindS s) := by
  refine ⟨16, fun k hk => ?_⟩
  show name_Kind.f k s = _
  unfold name_Kind.f
  obtain ⟨k, rfl⟩ : ∃ m, k = m + 1 := ⟨k - 1, by omega⟩
  by_cases h1 : s.toList = ([] : List UInt8)
  · rw [if_pos h1]
    have := (toList_nil s).1 h1
    simp [name_Kind.j0, kindS_bad (s := s) (.inl (by omega))]
  · have h1' : s.size ≠ 0 := fun h => h1 ((toList_nil s).2 h)
    rw [if_neg h1]
    simp only [name_Kind.j0]
    by_cases h2 : (s.size : Int) > 8
    · rw [if_pos (by simpa using h2), kindS_bad (s := s) (.inr (by omega))]
    · rw [if_neg (by simpa using h2), if_pos (by omega), sign_at _ _ (by omega)]
      simp only [Option.bind_some]
      rw [kind_loop s _ (by omega) s.size k 0 (by omega) (by omega) (by omega), kind_eq s (by omega) (by omega)]
end Go.Proofs.YtpnamhplhdaphaaDoor.P

-- ==== PF62
namespace Go.Proofs.YtpnamhplhdaphaaDoor.P
open Go.RowKit Go.Proofs.YtpnamhplhdaphaaDoorW.PrintWords Go.Proofs.YtpnamhplhdaphaaDoorW.PrintLast Go.Proofs.YtpnamhplhdaphaaDoorW.PrintMore
attribute [local go_sem] max2_int min2_int max_two min_two max_three min_three max_four min_four   -- for this text's walks alone
set_option linter.unusedVariables false
set_option linter.unusedSimpArgs false

/-! ### aumbryref04_Behind: function 62 -/
mutual
def aumbryref04_Behind.j0 : Nat → List (S33) → Int → Bool → Option (Int)
  | 0, _, _, _ => none
  | k + 1, x0, x1, x14 => if x14 = true then (some (-1)) else (if 0 ≤ x1 then (if x1 < (x0.length : Int) then (aumbryref04_Behind.l0 k x0 (wrap64 (x1 + 1)) ((rd_T33 x0 x1).f1) 0) else (none)) else (none))
def aumbryref04_Behind.l0 : Nat → List (S33) → Int → Int → Int → Option (Int)
  | 0, _, _, _, _ => none
  | k + 1, x0, x1, x5, x6 => if x6 < x5 then (if x1 ≥ 0 then ((aumbryref04_Behind.f k x0 x1).bind fun t102 => (aumbryref04_Behind.l0 k x0 t102 x5 (wrap64 (x6 + 1)))) else (some x1)) else (some x1)
def aumbryref04_Behind.f : Nat → List (S33) → Int → Option (Int)
  | 0, _, _ => none
  | k + 1, l0, a1 => if a1 < 0 then (aumbryref04_Behind.j0 k l0 a1 true) else (aumbryref04_Behind.j0 k l0 a1 (decide (a1 ≥ (l0.length : Int))))
end
end Go.Proofs.YtpnamhplhdaphaaDoor.P

-- ==== PF37
namespace Go.Proofs.YtpnamhplhdaphaaDoor.P
open Go.RowKit Go.Proofs.YtpnamhplhdaphaaDoorW.PrintWords Go.Proofs.YtpnamhplhdaphaaDoorW.PrintLast Go.Proofs.YtpnamhplhdaphaaDoorW.PrintMore
attribute [local go_sem] max2_int min2_int max_two min_two max_three min_three max_four min_four   -- for this text's walks alone
set_option linter.unusedVariables false
set_option linter.unusedSimpArgs false

/-! ### aumbryref04_Check: function 37 -/
def aumbryref04_Check.l0 : Nat → List (S33) → Int → Int → Option (Int)
  | 0, _, _, _ => none
  | k + 1, x0, x9, x10 => if x10 < x9 then (if 0 ≤ x10 then (if x10 < (x0.length : Int) then ((aumbryref03_Kind.f k ((rd_T33 x0 x10).f0)).bind fun t103 => (if t103 = 0 then (some 4) else (if ((rd_T33 x0 x10).f1) < 0 then (some 5) else (if ((rd_T33 x0 x10).f1) > 4 then (some 5) else (if t103 = 2 then (if ((rd_T33 x0 x10).f1) = 0 then (aumbryref04_Check.l0 k x0 x9 (wrap64 (x10 + 1))) else (some 5)) else (aumbryref04_Check.l0 k x0 x9 (wrap64 (x10 + 1)))))))) else (none)) else (none)) else ((aumbryref04_Behind.f k x0 0).bind fun t101 => (if t101 = (x0.length : Int) then (some 0) else (some 3)))
def aumbryref04_Check.f (k : Nat) (l0 : List (S33)) : Option (Int) := if (l0.length : Int) > 64 then (some 6) else (aumbryref04_Check.l0 k l0 (l0.length : Int) 0)
end Go.Proofs.YtpnamhplhdaphaaDoor.P

-- ==== PLb
/- Plain laws, part b: a list of cells as terms one behind the other; whether it is a term (both ways come to one function). -/
namespace Go.Proofs.YtpnamhplhdaphaaDoor.P
open Go.RowKit Go.Proofs.YtpnamhplhdaphaaDoorW.PrintWords
set_option linter.unusedVariables false
set_option linter.unusedSimpArgs false

abbrev Cel := S33
instance celEq : DecidableEq Cel := fun a b =>
  if h : a.f0 = b.f0 ∧ a.f1 = b.f1 then isTrue (by cases a; cases b; simp only at h; rw [h.1, h.2]) else isFalse (fun e => h (by rw [e]; exact ⟨rfl, rfl⟩))
theorem drop_cons {α : Type} {t : List α} {n : Nat} {c : α} {s : List α} (h : t.drop n = c :: s) : n < t.length ∧ (∀ d, t.getD n d = c) ∧ t.drop (n + 1) = s := by
  have h1 : n < t.length := by
    rcases Nat.lt_or_ge n t.length with h1 | h1
    · exact h1
    · rw [List.drop_eq_nil_of_le h1] at h
      cases h
  rw [List.drop_eq_getElem_cons h1] at h
  injection h with h2 h3
  exact ⟨h1, fun d => by rw [List.getD_eq_getElem?_getD, List.getElem?_eq_getElem h1]; exact h2, h3⟩
theorem drop_nil_len {α : Type} {t : List α} {n : Nat} (hn : n ≤ t.length) (h : t.drop n = []) : n = t.length := by
  have := congrArg List.length h
  simp at this
  omega
theorem rd_cel {t : List Cel} {n : Nat} {c : Cel} {s : List Cel} (h : t.drop n = c :: s) : rd_T33 t (n : Int) = c := by
  unfold rd_T33
  exact (drop_cons h).2.1 _

def ar (c : Cel) : Nat := c.f1.toNat
def cellErr (c : Cel) : Int := if kindS c.f0 = 0 then 4 else if c.f1 < 0 then 5 else if c.f1 > 4 then 5 else if kindS c.f0 = 2 then (if c.f1 > 0 then 5 else 0) else 0
def errs : List Cel → Int
  | [] => 0
  | c :: l => if cellErr c = 0 then errs l else cellErr c
/-- What is left behind the first n terms. -/
def segN : List Cel → Nat → Option (List Cel)
  | l, 0 => some l
  | [], _ + 1 => none
  | c :: l, n + 1 => segN l (n + ar c)
def checkS (t : List Cel) : Int := if t.length > 64 then 6 else if errs t = 0 then (if segN t 1 = some [] then 0 else 3) else errs t

theorem segN_zero (l : List Cel) : segN l 0 = some l := by cases l <;> rfl
theorem segN_add : ∀ (l : List Cel) (a b : Nat), segN l (a + b) = (segN l a).bind fun r => segN r b
  | l, 0, b => by rw [segN_zero]; simp
  | [], a + 1, b => by rw [show a + 1 + b = (a + b) + 1 by omega]; rfl
  | c :: l, a + 1, b => by
    rw [show a + 1 + b = (a + b) + 1 by omega]
    show segN l (a + b + ar c) = (segN l (a + ar c)).bind _
    rw [show a + b + ar c = (a + ar c) + b by omega]
    exact segN_add l (a + ar c) b
theorem segN_len : ∀ {l r : List Cel} {n : Nat}, segN l n = some r → r.length ≤ l.length ∧ (0 < n → r.length < l.length)
  | l, r, 0, h => by
    rw [segN_zero] at h
    injection h with h
    subst h
    exact ⟨Nat.le_refl _, fun h => absurd h (by omega)⟩
  | [], r, n + 1, h => by cases h
  | c :: l, r, n + 1, h => by
    have := (segN_len (l := l) (r := r) (n := n + ar c) h).1
    simp only [List.length_cons]
    exact ⟨by omega, fun _ => by omega⟩
theorem segN_suffix : ∀ {l r : List Cel} {n : Nat}, segN l n = some r → ∃ m, m ≤ l.length ∧ l.drop m = r
  | l, r, 0, h => by
    rw [segN_zero] at h
    injection h with h
    exact ⟨0, by omega, h⟩
  | [], r, n + 1, h => by cases h
  | c :: l, r, n + 1, h => by
    obtain ⟨m, h1, h2⟩ := segN_suffix (l := l) (r := r) (n := n + ar c) h
    exact ⟨m + 1, by simp; omega, h2⟩

/-- What the cells of a term that is right are. -/
structure Okc (c : Cel) : Prop where
  kind : kindS c.f0 ≠ 0
  lo : 0 ≤ c.f1
  hi : c.f1 ≤ 4
  var : kindS c.f0 = 2 → c.f1 = 0
theorem okc_of {c : Cel} (h : cellErr c = 0) : Okc c := by
  unfold cellErr at h
  by_cases h1 : kindS c.f0 = 0
  · rw [if_pos h1] at h; cases h
  · rw [if_neg h1] at h
    by_cases h2 : c.f1 < 0
    · rw [if_pos h2] at h; cases h
    · rw [if_neg h2] at h
      by_cases h3 : c.f1 > 4
      · rw [if_pos h3] at h; cases h
      · rw [if_neg h3] at h
        refine ⟨h1, by omega, by omega, fun hk => ?_⟩
        rw [if_pos hk] at h
        by_cases h4 : c.f1 > 0
        · rw [if_pos h4] at h; cases h
        · omega
theorem errs_ok : ∀ {l : List Cel}, errs l = 0 → ∀ c ∈ l, Okc c
  | [], _, _, h => by cases h
  | a :: l, h, c, hc => by
    unfold errs at h
    by_cases h1 : cellErr a = 0
    · rw [if_pos h1] at h
      rcases List.mem_cons.1 hc with rfl | hc
      · exact okc_of h1
      · exact errs_ok h c hc
    · rw [if_neg h1] at h
      exact absurd h h1
/-! ### the program's: behind, Check -/
theorem ev_cell (c : Cel) : Ev (fun k => term_cell.f k c.f0 c.f1) (cellErr c) := by
  unfold term_cell.f
  refine Ev.bind (ev_kind c.f0) ?_
  refine Ev.congr (f := fun _ => some (cellErr c)) (fun k => ?_) (Ev.now _)
  unfold cellErr
  simp only [apply_ite some]
/-- The place behind n terms that begin at 'at'; -1: they have no end. -/
def behS (t : List Cel) (a n : Nat) : Int := match segN (t.drop a) n with
  | none => -1
  | some r => ((t.length - r.length : Nat) : Int)
theorem ev_behind_loop (t : List Cel) (ht : t.length ≤ 64) (hok : ∀ c ∈ t, Okc c) : ∀ (s : List Cel) (a n : Nat), a ≤ t.length → t.drop a = s → n ≤ 1 + 4 * a →
    Ev (fun k => term_behind.l0 k t (a : Int) (n : Int)) (behS t a n)
  | s, a, 0, ha, hs, hn => by
    refine Ev.step (f := fun _ => some (a : Int)) (fun k => by simp only [term_behind.l0]; rw [if_neg (by omega)]) ?_
    have : behS t a 0 = (a : Int) := by
      unfold behS
      rw [segN_zero]
      simp only [List.length_drop]
      omega
    rw [this]
    exact Ev.now _
  | [], a, n + 1, ha, hs, hn => by
    have hl := drop_nil_len ha hs
    refine Ev.step (f := fun _ => some (-1 : Int)) (fun k => by simp only [term_behind.l0]; rw [if_pos (by omega), if_pos (by omega)]) ?_
    have : behS t a (n + 1) = -1 := by
      unfold behS
      rw [hs]
      rfl
    rw [this]
    exact Ev.now _
  | c :: s, a, n + 1, ha, hs, hn => by
    obtain ⟨h1, h2, h3⟩ := drop_cons hs
    have hc : Okc c := hok c (List.mem_of_mem_drop (hs ▸ List.mem_cons_self ..))
    have har : (ar c : Int) = c.f1 := by unfold ar; have := hc.lo; omega
    have hh := hc.hi
    have hl0 := hc.lo
    refine Ev.step (f := fun k => term_behind.l0 k t ((a + 1 : Nat) : Int) ((n + ar c : Nat) : Int)) (fun k => ?_) ?_
    · simp only [term_behind.l0]
      rw [if_pos (by omega), if_neg (by omega), if_pos (by omega), if_pos (by omega), rd_cel hs, wrap_up (by omega) (by omega)]
      have e : wrap64 (((n + 1 : Nat) : Int) + wrap64 (c.f1 - 1)) = ((n + ar c : Nat) : Int) := by
        rw [wrap_id (i := c.f1 - 1) (by omega) (by omega), wrap_id (by omega) (by omega)]
        omega
      rw [e]
      rfl
    · have : behS t a (n + 1) = behS t (a + 1) (n + ar c) := by
        unfold behS
        rw [hs, h3]
        rfl
      rw [this]
      exact ev_behind_loop t ht hok s (a + 1) (n + ar c) (by omega) h3 (by omega)
theorem ev_behind (t : List Cel) (ht : t.length ≤ 64) (hok : ∀ c ∈ t, Okc c) (a : Nat) (ha : a ≤ t.length) : Ev (fun k => term_behind.f k t (a : Int)) (behS t a 1) := by
  unfold term_behind.f
  exact ev_behind_loop t ht hok _ a 1 ha rfl (by omega)
theorem behS_whole (t : List Cel) : (behS t 0 1 = (t.length : Int)) ↔ segN t 1 = some [] := by
  unfold behS
  rw [List.drop_zero]
  cases h : segN t 1 with
  | none => simp
  | some r =>
    have := segN_len h
    simp only [Option.some.injEq]
    constructor
    · intro h1
      apply List.eq_nil_of_length_eq_zero
      omega
    · rintro rfl
      simp
theorem ev_check_loop (t : List Cel) (ht : t.length ≤ 64) : ∀ (s : List Cel) (a : Nat), a ≤ t.length → t.drop a = s → (∀ c ∈ t.take a, Okc c) →
    Ev (fun k => term_Check.l0 k t t (t.length : Int) (a : Int)) (if errs s = 0 then (if segN t 1 = some [] then 0 else 3) else errs s)
  | [], a, ha, hs, hok => by
    have hl := drop_nil_len ha hs
    rw [hl, List.take_length] at hok
    refine Ev.step (f := fun k => (term_behind.f k t 0).bind fun r => (if r = (t.length : Int) then (some 0) else (some 3))) (fun k => by simp only [term_Check.l0]; rw [if_neg (by omega)]) ?_
    refine Ev.bind (ev_behind t ht hok 0 (by omega)) ?_
    refine Ev.congr (f := fun _ => some (if segN t 1 = some [] then 0 else 3)) (fun k => ?_) (Ev.now _)
    by_cases h : segN t 1 = some []
    · rw [if_pos ((behS_whole t).2 h), if_pos h]
    · rw [if_neg (fun h' => h ((behS_whole t).1 h')), if_neg h]
  | c :: s, a, ha, hs, hok => by
    obtain ⟨h1, h2, h3⟩ := drop_cons hs
    refine Ev.step (f := fun k => (term_cell.f k c.f0 c.f1).bind fun e => (if e = 0 then (term_Check.l0 k t t (t.length : Int) ((a + 1 : Nat) : Int)) else (some e))) (fun k => ?_) ?_
    · simp only [term_Check.l0]
      rw [if_pos (by omega), if_pos (by omega), if_pos (by omega), rd_cel hs, wrap_up (by omega) (by omega)]
      rfl
    · refine Ev.bind (ev_cell c) ?_
      by_cases he : cellErr c = 0
      · refine Ev.congr (f := fun k => term_Check.l0 k t t (t.length : Int) ((a + 1 : Nat) : Int)) (fun k => by rw [if_pos he]) ?_
        have : errs (c :: s) = errs s := by simp only [errs]; rw [if_pos he]
        rw [this]
        refine ev_check_loop t ht s (a + 1) (by omega) h3 (fun x hx => ?_)
        rw [List.take_succ_eq_append_getElem h1] at hx
        rcases List.mem_append.1 hx with hx | hx
        · exact hok x hx
        · have hce : t[a] = c := by have := h2 c; rw [List.getD_eq_getElem?_getD, List.getElem?_eq_getElem h1] at this; exact this
          rw [List.mem_singleton.1 hx, hce]
          exact okc_of he
      · refine Ev.congr (f := fun _ => some (cellErr c)) (fun k => by rw [if_neg he]) ?_
        have : errs (c :: s) = cellErr c := by simp only [errs]; rw [if_neg he]
        rw [this, if_neg he]
        exact Ev.now _
theorem ev_check (t : List Cel) : Ev (fun k => term_Check.f k t) (checkS t) := by
  unfold term_Check.f checkS
  by_cases h : t.length > 64
  · rw [if_pos h]
    exact Ev.congr (f := fun _ => some 6) (fun k => if_pos (by omega)) (Ev.now _)
  · rw [if_neg h]
    exact Ev.congr (f := fun k => term_Check.l0 k t t (t.length : Int) ((0 : Nat) : Int)) (fun k => if_neg (by omega)) (ev_check_loop t (by omega) t 0 (by omega) rfl (by simp))

/-! ### the document's: Behind, Check -/
theorem ev_refBehind_at : ∀ (d : Nat) (t : List Cel) (ht : t.length ≤ 64) (hok : ∀ c ∈ t, Okc c) (a : Nat), t.length - a = d → a ≤ t.length → Ev (fun k => aumbryref04_Behind.f k t (a : Int)) (behS t a 1) := by
  intro d
  induction d using Nat.strongRecOn with
  | _ d ih =>
  intro t ht hok a hd ha
  rcases hs : t.drop a with _ | ⟨c, s⟩
  · have hl := drop_nil_len ha hs
    refine Ev.step (f := fun k => aumbryref04_Behind.j0 k t (a : Int) true) (fun k => by simp only [aumbryref04_Behind.f]; rw [if_neg (by omega)]; congr 1; simp; omega) ?_
    refine Ev.step (f := fun k => some (-1)) (fun k => by simp only [aumbryref04_Behind.j0]; rfl) ?_
    have : behS t a 1 = -1 := by
      unfold behS
      rw [hs]
      rfl
    rw [this]
    exact Ev.now _
  · obtain ⟨h1, h2, h3⟩ := drop_cons hs
    have hc : Okc c := hok c (List.mem_of_mem_drop (hs ▸ List.mem_cons_self ..))
    have har : (ar c : Int) = c.f1 := by unfold ar; have := hc.lo; omega
    have hh := hc.hi
    have hl0 := hc.lo
    refine Ev.step (f := fun k => aumbryref04_Behind.j0 k t (a : Int) false) (fun k => by simp only [aumbryref04_Behind.f]; rw [if_neg (by omega)]; congr 1; simp; omega) ?_
    refine Ev.step (f := fun k => aumbryref04_Behind.l0 k t ((a + 1 : Nat) : Int) (ar c : Int) 0) (fun k => by
      simp only [aumbryref04_Behind.j0]
      rw [if_neg (by simp), if_pos (by omega), if_pos (by omega), rd_cel hs, wrap_up (by omega) (by omega), har]
      rfl) ?_
    have loop : ∀ (m : Nat) (b i : Nat), t.length - b < d → b ≤ t.length → i + m = ar c → Ev (fun k => aumbryref04_Behind.l0 k t (b : Int) (ar c : Int) (i : Int)) (behS t b m) := by
      intro m
      induction m with
      | zero =>
        intro b i hb hbl hi
        refine Ev.step (f := fun _ => some (b : Int)) (fun k => by simp only [aumbryref04_Behind.l0]; rw [if_neg (by omega)]) ?_
        have : behS t b 0 = (b : Int) := by
          unfold behS
          rw [segN_zero]
          simp only [List.length_drop]
          omega
        rw [this]
        exact Ev.now _
      | succ m ihm =>
        intro b i hb hbl hi
        refine Ev.step (f := fun k => (aumbryref04_Behind.f k t (b : Int)).bind fun r => aumbryref04_Behind.l0 k t r (ar c : Int) ((i + 1 : Nat) : Int)) (fun k => by
          simp only [aumbryref04_Behind.l0]
          rw [if_pos (by omega), if_pos (by omega), wrap_up (by omega) (by omega)]
          rfl) ?_
        refine Ev.bind (ih _ hb t ht hok b rfl hbl) ?_
        have hadd : segN (t.drop b) (m + 1) = (segN (t.drop b) 1).bind fun r => segN r m := by rw [show m + 1 = 1 + m by omega]; exact segN_add _ _ _
        cases hr : segN (t.drop b) 1 with
        | none =>
          have e1 : behS t b 1 = -1 := by unfold behS; rw [hr]
          have e2 : behS t b (m + 1) = -1 := by unfold behS; rw [hadd, hr]; rfl
          rw [e1, e2]
          refine Ev.step (f := fun _ => some (-1 : Int)) (fun k => ?_) (Ev.now _)
          simp only [aumbryref04_Behind.l0]
          split <;> simp
        | some r =>
          obtain ⟨q, hq1, hq2⟩ := segN_suffix hr
          rw [List.drop_drop] at hq2
          have hlen := segN_len hr
          simp only [List.length_drop] at hlen hq1
          have hrl : r.length = t.length - (b + q) := by rw [← hq2, List.length_drop]
          have e1 : behS t b 1 = ((b + q : Nat) : Int) := by unfold behS; rw [hr]; simp only; omega
          have e2 : behS t b (m + 1) = behS t (b + q) m := by unfold behS; rw [hadd, hr, hq2]; rfl
          rw [e1, e2]
          exact ihm (b + q) (i + 1) (by omega) (by omega) (by omega)
    have : behS t a 1 = behS t (a + 1) (ar c) := by
      unfold behS
      rw [hs, h3]
      show (match segN s (0 + ar c) with | none => (-1 : Int) | some r => _) = _
      rw [Nat.zero_add]
    rw [this]
    exact loop (ar c) (a + 1) 0 (by omega) (by omega) (by omega)
theorem ev_refBehind (t : List Cel) (ht : t.length ≤ 64) (hok : ∀ c ∈ t, Okc c) (a : Nat) (ha : a ≤ t.length) : Ev (fun k => aumbryref04_Behind.f k t (a : Int)) (behS t a 1) := ev_refBehind_at _ t ht hok a rfl ha
theorem ev_refCheck_loop (t : List Cel) (ht : t.length ≤ 64) : ∀ (s : List Cel) (a : Nat), a ≤ t.length → t.drop a = s → (∀ c ∈ t.take a, Okc c) →
    Ev (fun k => aumbryref04_Check.l0 k t (t.length : Int) (a : Int)) (if errs s = 0 then (if segN t 1 = some [] then 0 else 3) else errs s)
  | [], a, ha, hs, hok => by
    have hl := drop_nil_len ha hs
    rw [hl, List.take_length] at hok
    refine Ev.step (f := fun k => (aumbryref04_Behind.f k t 0).bind fun r => (if r = (t.length : Int) then (some 0) else (some 3))) (fun k => by simp only [aumbryref04_Check.l0]; rw [if_neg (by omega)]) ?_
    refine Ev.bind (ev_refBehind t ht hok 0 (by omega)) ?_
    refine Ev.congr (f := fun _ => some (if segN t 1 = some [] then 0 else 3)) (fun k => ?_) (Ev.now _)
    by_cases h : segN t 1 = some []
    · rw [if_pos ((behS_whole t).2 h), if_pos h]
    · rw [if_neg (fun h' => h ((behS_whole t).1 h')), if_neg h]
  | c :: s, a, ha, hs, hok => by
    obtain ⟨h1, h2, h3⟩ := drop_cons hs
    refine Ev.step (f := fun k => (aumbryref03_Kind.f k c.f0).bind fun e => (if e = 0 then (some 4) else (if c.f1 < 0 then (some 5) else (if c.f1 > 4 then (some 5) else (if e = 2 then (if c.f1 = 0 then (aumbryref04_Check.l0 k t (t.length : Int) ((a + 1 : Nat) : Int)) else (some 5)) else (aumbryref04_Check.l0 k t (t.length : Int) ((a + 1 : Nat) : Int))))))) (fun k => ?_) ?_
    · simp only [aumbryref04_Check.l0]
      rw [if_pos (by omega), if_pos (by omega), if_pos (by omega), rd_cel hs, wrap_up (by omega) (by omega)]
      rfl
    · refine Ev.bind (ev_refKind c.f0) ?_
      by_cases he : cellErr c = 0
      · have ho := okc_of he
        have h4 := ho.hi
        have h0 := ho.lo
        refine Ev.congr (f := fun k => aumbryref04_Check.l0 k t (t.length : Int) ((a + 1 : Nat) : Int)) (fun k => ?_) ?_
        · rw [if_neg ho.kind, if_neg (by omega), if_neg (by omega)]
          by_cases hv : kindS c.f0 = 2
          · rw [if_pos hv, if_pos (ho.var hv)]
          · rw [if_neg hv]
        have : errs (c :: s) = errs s := by simp only [errs]; rw [if_pos he]
        rw [this]
        refine ev_refCheck_loop t ht s (a + 1) (by omega) h3 (fun x hx => ?_)
        rw [List.take_succ_eq_append_getElem h1] at hx
        rcases List.mem_append.1 hx with hx | hx
        · exact hok x hx
        · have hce : t[a] = c := by have := h2 c; rw [List.getD_eq_getElem?_getD, List.getElem?_eq_getElem h1] at this; exact this
          rw [List.mem_singleton.1 hx, hce]
          exact ho
      · refine Ev.congr (f := fun _ => some (cellErr c)) (fun k => ?_) ?_
        · unfold cellErr at he ⊢
          by_cases e1 : kindS c.f0 = 0
          · rw [if_pos e1, if_pos e1]
          · rw [if_neg e1] at he
            rw [if_neg e1, if_neg e1]
            by_cases e2 : c.f1 < 0
            · rw [if_pos e2, if_pos e2]
            · rw [if_neg e2] at he
              rw [if_neg e2, if_neg e2]
              by_cases e3 : c.f1 > 4
              · rw [if_pos e3, if_pos e3]
              · rw [if_neg e3] at he
                rw [if_neg e3, if_neg e3]
                by_cases e4 : kindS c.f0 = 2
                · rw [if_pos e4] at he
                  rw [if_pos e4, if_pos e4]
                  by_cases e5 : c.f1 > 0
                  · rw [if_pos e5, if_neg (by omega)]
                  · rw [if_neg e5] at he
                    exact absurd rfl he
                · rw [if_neg e4] at he
                  exact absurd rfl he
        · have : errs (c :: s) = cellErr c := by simp only [errs]; rw [if_neg he]
          rw [this, if_neg he]
          exact Ev.now _
theorem ev_refCheck (t : List Cel) : Ev (fun k => aumbryref04_Check.f k t) (checkS t) := by
  unfold aumbryref04_Check.f checkS
  by_cases h : t.length > 64
  · rw [if_pos h]
    exact Ev.congr (f := fun _ => some 6) (fun k => if_pos (by omega)) (Ev.now _)
  · rw [if_neg h]
    exact Ev.congr (f := fun k => aumbryref04_Check.l0 k t (t.length : Int) ((0 : Nat) : Int)) (fun k => if_neg (by omega)) (ev_refCheck_loop t (by omega) t 0 (by omega) rfl (by simp))
end Go.Proofs.YtpnamhplhdaphaaDoor.P

-- ==== PF23
namespace Go.Proofs.YtpnamhplhdaphaaDoor.P
open Go.RowKit Go.Proofs.YtpnamhplhdaphaaDoorW.PrintWords Go.Proofs.YtpnamhplhdaphaaDoorW.PrintLast Go.Proofs.YtpnamhplhdaphaaDoorW.PrintMore
attribute [local go_sem] max2_int min2_int max_two min_two max_three min_three max_four min_four   -- for this text's walks alone
set_option linter.unusedVariables false
set_option linter.unusedSimpArgs false

/-! ### aumbryref04_Copy: function 23 -/
def aumbryref04_Copy.f (l0 : List (S33)) : Option ((List (S33))) := if ([] : List (S33)).length + l0.length < 5864062014805 then (some (([] : List (S33)) ++ l0)) else (none)
end Go.Proofs.YtpnamhplhdaphaaDoor.P

-- ==== PLs
/- Plain laws: lists of cells as terms, taken apart (for chapters without match). -/
namespace Go.Proofs.YtpnamhplhdaphaaDoor.P
open Go.RowKit Go.Proofs.YtpnamhplhdaphaaDoorW.PrintWords
set_option linter.unusedVariables false
set_option linter.unusedSimpArgs false

/-- The first term of a list. -/
def fstT (t r : List Cel) : List Cel := t.take (t.length - r.length)
theorem segN_append : ∀ {l r : List Cel} {n : Nat} (q : List Cel), segN l n = some r → segN (l ++ q) n = some (r ++ q)
  | l, r, 0, q, h => by
    rw [segN_zero] at h ⊢
    injection h with h
    rw [h]
  | [], r, n + 1, q, h => by cases h
  | c :: l, r, n + 1, q, h => segN_append (l := l) (r := r) (n := n + ar c) q h
theorem segN_nil_pos {n : Nat} (h : segN [] n = some []) : n = 0 := by
  cases n with
  | zero => rfl
  | succ n => cases h
theorem segN_fst {t r : List Cel} {n : Nat} (h : segN t n = some r) : t = fstT t r ++ r ∧ segN (fstT t r) n = some [] := by
  obtain ⟨m, hm, hd⟩ := segN_suffix h
  have hl : r.length = t.length - m := by rw [← hd, List.length_drop]
  have he : fstT t r = t.take m := by unfold fstT; rw [show t.length - r.length = m by omega]
  rw [he]
  refine ⟨by rw [← hd]; exact (List.take_append_drop m t).symm, ?_⟩
  have : ∀ (l : List Cel) (n m : Nat), m ≤ l.length → segN l n = some (l.drop m) → segN (l.take m) n = some [] := by
    intro l
    induction l with
    | nil =>
      intro n m hm h
      have hm0 : m = 0 := by simpa using hm
      subst hm0
      simpa using h
    | cons c l ih =>
      intro n m hm h
      cases n with
      | zero =>
        rw [segN_zero] at h ⊢
        injection h with h
        have := congrArg List.length h
        simp only [List.length_cons, List.length_drop] at this
        have hm0 : m = 0 := by simp at hm; omega
        rw [hm0]
        rfl
      | succ n =>
        cases m with
        | zero =>
          have := segN_len h
          simp at this
        | succ m =>
          simp only [List.drop_succ_cons] at h
          exact ih (n + ar c) m (by simpa using hm) h
  rw [← hd] at h
  exact this t n m hm h

theorem bytes_eq (a b : ByteArray) : a.toList = b.toList ↔ a = b := by
  rw [ByteArray.toList_eq, ByteArray.toList_eq]
  constructor
  · intro h
    cases a; cases b
    simp only [ByteArray.mk.injEq]
    exact Array.toList_inj.1 h
  · intro h
    rw [h]
theorem cel_ne (c d : Cel) : ((!((c.f0.toList) == (d.f0.toList)) || (!(c.f1 == d.f1))) = true) ↔ c ≠ d := by
  cases c with | mk a b => cases d with | mk a' b' =>
  simp only [Bool.or_eq_true, Bool.not_eq_true', beq_eq_false_iff_ne, ne_eq, bytes_eq, S33.mk.injEq]
  by_cases h : a = a' <;> simp [h]
theorem ev_cels_loop (F : Nat → List Cel → List Cel → Int → Int → Option Bool)
    (hF : ∀ k x y n i, F (k + 1) x y n i = if i < n then (if 0 ≤ i then (if i < (x.length : Int) then (if i < (y.length : Int) then (if (!((((rd_T33 x i).f0).toList) == (((rd_T33 y i).f0).toList)) || (!(((rd_T33 x i).f1) == ((rd_T33 y i).f1)))) = true then (some false) else (F k x y n (wrap64 (i + 1)))) else (none)) else (none)) else (none)) else (some true))
    (x y : List Cel) (hl : x.length = y.length) (hb : x.length ≤ 9223372036854775806) : ∀ (s u : List Cel) (a : Nat), a ≤ x.length → x.drop a = s → y.drop a = u → Ev (fun k => F k x y (x.length : Int) (a : Int)) (decide (s = u))
  | [], u, a, ha, hs, hu => by
    have h1 := drop_nil_len ha hs
    have h2 : u = [] := by rw [← hu]; exact List.drop_eq_nil_of_le (by omega)
    refine Ev.step (f := fun _ => some true) (fun k => by rw [hF, if_neg (by omega)]) ?_
    rw [h2]
    exact Ev.now _
  | c :: s, u, a, ha, hs, hu => by
    obtain ⟨h1, _, h3⟩ := drop_cons hs
    rcases u with _ | ⟨d, u⟩
    · have := drop_nil_len (by omega) hu
      omega
    obtain ⟨_, _, h4⟩ := drop_cons hu
    by_cases hcd : c = d
    · refine Ev.step (f := fun k => F k x y (x.length : Int) ((a + 1 : Nat) : Int)) (fun k => by
        rw [hF, if_pos (by omega), if_pos (by omega), if_pos (by omega), if_pos (by omega), rd_cel hs, rd_cel hu, if_neg (fun h => (cel_ne c d).1 h hcd), wrap_up (by omega) (by omega)]
        rfl) ?_
      have : decide (c :: s = d :: u) = decide (s = u) := by subst hcd; simp
      rw [this]
      exact ev_cels_loop F hF x y hl hb s u (a + 1) (by omega) h3 h4
    · refine Ev.step (f := fun _ => some false) (fun k => by
        rw [hF, if_pos (by omega), if_pos (by omega), if_pos (by omega), if_pos (by omega), rd_cel hs, rd_cel hu, if_pos ((cel_ne c d).2 hcd)]) ?_
      have : decide (c :: s = d :: u) = false := by simp [hcd]
      rw [this]
      exact Ev.now _
theorem ev_refSame4 (x y : List Cel) (hb : x.length ≤ 9223372036854775806 ∨ y.length ≤ 9223372036854775806) : Ev (fun k => aumbryref04_Same.f k x y) (decide (x = y)) := by
  unfold aumbryref04_Same.f
  by_cases h : (x.length : Int) = (y.length : Int)
  · exact Ev.congr (f := fun k => aumbryref04_Same.l0 k x y (x.length : Int) ((0 : Nat) : Int)) (fun k => by rw [if_pos h]; rfl) (ev_cels_loop _ (fun k x y n i => rfl) x y (by omega) (by omega) x y 0 (by omega) rfl rfl)
  · refine Ev.congr (f := fun _ => some (decide (x = y))) (fun k => ?_) (Ev.now _)
    rw [if_neg h]
    congr 1
    rw [Eq.comm, decide_eq_false_iff_not]
    rintro rfl
    exact h rfl
theorem checkS_ok {t : List Cel} (h : checkS t = 0) : t.length ≤ 64 ∧ (∀ c ∈ t, Okc c) ∧ segN t 1 = some [] := by
  unfold checkS at h
  by_cases h1 : t.length > 64
  · rw [if_pos h1] at h
    cases h
  · rw [if_neg h1] at h
    by_cases h2 : errs t = 0
    · rw [if_pos h2] at h
      by_cases h3 : segN t 1 = some []
      · exact ⟨by omega, errs_ok h2, h3⟩
      · rw [if_neg h3] at h
        cases h
    · rw [if_neg h2] at h
      exact absurd h h2
theorem cellErr_okc {c : Cel} (h : Okc c) : cellErr c = 0 := by
  unfold cellErr
  have h1 := h.lo
  have h2 := h.hi
  rw [if_neg h.kind, if_neg (by omega), if_neg (by omega)]
  by_cases hk : kindS c.f0 = 2
  · rw [if_pos hk, if_neg (by have := h.var hk; omega)]
  · rw [if_neg hk]
theorem ok_errs : ∀ {l : List Cel}, (∀ c ∈ l, Okc c) → errs l = 0
  | [], _ => rfl
  | a :: l, h => by
    unfold errs
    rw [if_pos (cellErr_okc (h a (List.mem_cons_self ..)))]
    exact ok_errs fun c hc => h c (List.mem_cons_of_mem _ hc)
theorem checkS_of {t : List Cel} (h1 : t.length ≤ 64) (h2 : ∀ c ∈ t, Okc c) (h3 : segN t 1 = some []) : checkS t = 0 := by
  unfold checkS
  rw [if_neg (by omega), if_pos (ok_errs h2), if_pos h3]
end Go.Proofs.YtpnamhplhdaphaaDoor.P

-- ==== PLz
/- Plain laws: places in lists, sizes that came in. -/
namespace Go.Proofs.YtpnamhplhdaphaaDoor.P
open Go.RowKit Go.Proofs.YtpnamhplhdaphaaDoorW.PrintWords
set_option linter.unusedVariables false
set_option linter.unusedSimpArgs false
theorem up_cast (a : Nat) (h : a < 9223372036854775807) : wrap64 ((a : Int) + 1) = ((a + 1 : Nat) : Int) := by rw [wrap_up (by omega) (by omega)]; rfl
theorem checkS_len {t : List Cel} (h : checkS t = 0) : t.length ≤ 64 := (checkS_ok h).1
end Go.Proofs.YtpnamhplhdaphaaDoor.P

-- ==== PF82
namespace Go.Proofs.YtpnamhplhdaphaaDoor.P
open Go.RowKit Go.Proofs.YtpnamhplhdaphaaDoorW.PrintWords Go.Proofs.YtpnamhplhdaphaaDoorW.PrintLast Go.Proofs.YtpnamhplhdaphaaDoorW.PrintMore
attribute [local go_sem] max2_int min2_int max_two min_two max_three min_three max_four min_four   -- for this text's walks alone
set_option linter.unusedVariables false
set_option linter.unusedSimpArgs false

/-! ### aumbryref04_sign: function 82 -/
def aumbryref04_sign.f (a0 : Int) : Option (Bool) := if a0 ≥ 97 then (if a0 ≤ 122 then (some true) else (if a0 ≥ 65 then (if a0 ≤ 90 then (some true) else (if a0 ≥ 48 then (some (decide (a0 ≤ 57))) else (some false))) else (if a0 ≥ 48 then (some (decide (a0 ≤ 57))) else (some false)))) else (if a0 ≥ 65 then (if a0 ≤ 90 then (some true) else (if a0 ≥ 48 then (some (decide (a0 ≤ 57))) else (some false))) else (if a0 ≥ 48 then (some (decide (a0 ≤ 57))) else (some false)))
end Go.Proofs.YtpnamhplhdaphaaDoor.P

-- ==== PL4x
/- Plain laws of chapter 4: a text's signs, its words. -/
namespace Go.Proofs.YtpnamhplhdaphaaDoor.P
open Go.RowKit Go.Proofs.YtpnamhplhdaphaaDoorW.PrintWords
set_option linter.unusedVariables false
set_option linter.unusedSimpArgs false
def signI (c : Int) : Bool := (decide (97 ≤ c) && decide (c ≤ 122)) || (decide (65 ≤ c) && decide (c ≤ 90)) || (decide (48 ≤ c) && decide (c ≤ 57))
def signU (x : UInt8) : Bool := signI (x.toNat : Int)
abbrev bl (s : ByteArray) : List UInt8 := s.data.toList
theorem bl_len (s : ByteArray) : (bl s).length = s.size := data_length s
theorem bl_inj {a b : ByteArray} (h : bl a = bl b) : a = b := by
  cases a; cases b
  simp only [ByteArray.mk.injEq]
  exact Array.toList_inj.1 h
theorem bt_drop {s : ByteArray} {j : Nat} {x : UInt8} {r : List UInt8} (h : (bl s).drop j = x :: r) : j < s.size ∧ bt s (j : Int) = (x.toNat : Int) ∧ (bl s).drop (j + 1) = r := by
  obtain ⟨h1, h2, h3⟩ := drop_cons h
  rw [bl_len] at h1
  refine ⟨h1, ?_, h3⟩
  unfold bt
  simp only [Int.toNat_natCast]
  rw [dif_pos h1]
  have := h2 0
  rw [List.getD_eq_getElem?_getD, List.getElem?_eq_getElem (by rw [bl_len]; exact h1)] at this
  simp only [Option.getD_some] at this
  rw [← this]
  simp [bl, ByteArray.getElem_eq_getElem_data]
theorem bl_drop_nil {s : ByteArray} {j : Nat} (h : j ≤ s.size) (h1 : (bl s).drop j = []) : j = s.size := by
  have := drop_nil_len (by rw [bl_len]; exact h) h1
  rw [bl_len] at this
  exact this
theorem bl_extract (s : ByteArray) (i j : Nat) : bl (s.extract i j) = ((bl s).drop i).take (j - i) := by
  unfold bl
  rw [ByteArray.data_extract, Array.toList_extract]
theorem sign_eq (c : Int) : aumbryref04_sign.f c = some (signI c) := by
  unfold aumbryref04_sign.f signI
  by_cases c1 : c ≥ 48 <;> by_cases c2 : c ≤ 57 <;> by_cases c3 : c ≥ 97 <;> by_cases c4 : c ≤ 122 <;> by_cases c5 : c ≥ 65 <;> by_cases c6 : c ≤ 90 <;> first | (exfalso; omega) | (simp [c1, c2, c3, c4, c5, c6])
/-- The word that begins at a place. -/
def wdL (s : ByteArray) (i : Nat) : List UInt8 := ((bl s).drop i).takeWhile signU
theorem wdL_cons {s : ByteArray} {j : Nat} {x : UInt8} {r : List UInt8} (h : (bl s).drop j = x :: r) (hx : signU x = true) : wdL s j = x :: wdL s (j + 1) := by
  unfold wdL
  rw [h, List.takeWhile_cons_of_pos hx, (bt_drop h).2.2]
theorem wdL_stop {s : ByteArray} {j : Nat} {x : UInt8} {r : List UInt8} (h : (bl s).drop j = x :: r) (hx : ¬ signU x = true) : wdL s j = [] := by
  unfold wdL
  rw [h, List.takeWhile_cons_of_neg hx]
theorem wdL_end {s : ByteArray} {j : Nat} (h : (bl s).drop j = []) : wdL s j = [] := by
  unfold wdL
  rw [h]
  rfl
theorem wdL_bound {s : ByteArray} {j : Nat} (h : j ≤ s.size) : j + (wdL s j).length ≤ s.size := by
  have h1 : (wdL s j).length ≤ ((bl s).drop j).length := by
    unfold wdL
    exact (List.takeWhile_sublist _).length_le
  rw [List.length_drop, bl_len] at h1
  omega
/-- The word, as a text. -/
def wdT (s : ByteArray) (i : Nat) : ByteArray := s.extract i (i + (wdL s i).length)
theorem wdT_bl (s : ByteArray) (i : Nat) : bl (wdT s i) = wdL s i := by
  unfold wdT
  rw [bl_extract, show i + (wdL s i).length - i = (wdL s i).length by omega]
  have : wdL s i <+: (bl s).drop i := List.takeWhile_prefix _
  exact (List.prefix_iff_eq_take.1 this).symm
/-- Behind the word no sign stands. -/
theorem wd_behind (s : ByteArray) (i : Nat) : (bl s).drop (i + (wdL s i).length) = ((bl s).drop i).dropWhile signU := by
  rw [← List.drop_drop]
  have : ∀ l : List UInt8, l.drop (l.takeWhile signU).length = l.dropWhile signU := by
    intro l
    induction l with
    | nil => rfl
    | cons x l ih =>
      by_cases hx : signU x = true
      · rw [List.takeWhile_cons_of_pos hx, List.dropWhile_cons_of_pos hx]
        simpa using ih
      · rw [List.takeWhile_cons_of_neg hx, List.dropWhile_cons_of_neg hx]
        rfl
  exact this _
def nxL (s : ByteArray) (i : Nat) : Int := match (bl s).drop i with
  | [] => 0
  | x :: _ => (x.toNat : Int)
theorem nxS_eq (s : ByteArray) (i : Nat) (h : i ≤ s.size) : nxS s (i : Int) = nxL s i := by
  unfold nxS nxL
  cases hd : (bl s).drop i with
  | nil =>
    have := bl_drop_nil h hd
    rw [if_neg (by omega)]
  | cons x r =>
    have := bt_drop hd
    rw [if_pos (by omega), this.2.1]
theorem word_step (k : Nat) (from_ c : Int) (s : ByteArray) (i : Int) (v : Value) : term_reader_word.l0 (k + 1) from_ c s i v =
    if signI c = true then ((term_reader_next.f s (wrap64 (i + 1)) v).bind fun b => term_reader_word.l0 k from_ b.1 b.2.1 b.2.2 v)
    else (if 0 ≤ from_ then (if from_ ≤ i then (if i ≤ (s.size : Int) then some (s.extract from_.toNat i.toNat, s, i) else none) else none) else none) := by
  rw [term_reader_word.l0]
  unfold signI
  by_cases c1 : c ≥ 48 <;> by_cases c2 : c ≤ 57 <;> by_cases c3 : c ≥ 97 <;> by_cases c4 : c ≤ 122 <;> by_cases c5 : c ≥ 65 <;> by_cases c6 : c ≤ 90 <;> first | (exfalso; omega) | (simp [c1, c2, c3, c4, c5, c6])
theorem ev_word_loop (s : ByteArray) (v : Value) (hs : s.size ≤ 100000) (from_ : Nat) : ∀ (l : List UInt8) (j : Nat), from_ ≤ j → j ≤ s.size → (bl s).drop j = l →
    Ev (fun k => term_reader_word.l0 k (from_ : Int) (nxL s j) s (j : Int) v) (s.extract from_ (j + (wdL s j).length), s, ((j + (wdL s j).length : Nat) : Int))
  | [], j, hf, hj, hd => by
    have h0 : nxL s j = 0 := by unfold nxL; rw [hd]
    refine Ev.step (fun k => word_step k _ _ s _ v) ?_
    rw [h0, wdL_end hd]
    refine evIfn (by decide) (evIfp (by omega) (evIfp (by omega) (evIfp (by omega) ?_)))
    simp only [Int.toNat_natCast, List.length_nil, Nat.add_zero]
    exact Ev.now _
  | x :: r, j, hf, hj, hd => by
    obtain ⟨h1, h2, h3⟩ := bt_drop hd
    have h0 : nxL s j = (x.toNat : Int) := by unfold nxL; rw [hd]
    refine Ev.step (fun k => word_step k _ _ s _ v) ?_
    rw [h0]
    by_cases hx : signU x = true
    · refine evIfp hx ?_
      rw [wrap_up (by omega) (by omega)]
      have hn : term_reader_next.f s ((j : Int) + 1) v = some (nxL s (j + 1), s, ((j + 1 : Nat) : Int)) := by
        rw [next_at s _ v (by omega), show (j : Int) + 1 = ((j + 1 : Nat) : Int) by omega, nxS_eq s (j + 1) (by omega)]
      refine Ev.bind (evIs hn) ?_
      rw [wdL_cons hd hx]
      have := ev_word_loop s v hs from_ r (j + 1) (by omega) (by omega) h3
      simp only [List.length_cons]
      rw [show j + ((wdL s (j + 1)).length + 1) = j + 1 + (wdL s (j + 1)).length by omega]
      exact this
    · refine evIfn hx (evIfp (by omega) (evIfp (by omega) (evIfp (by omega) ?_)))
      rw [wdL_stop hd hx]
      simp only [Int.toNat_natCast, List.length_nil, Nat.add_zero]
      exact Ev.now _
theorem ev_word (s : ByteArray) (v : Value) (hs : s.size ≤ 100000) (i : Nat) (hi : i ≤ s.size) : Ev (fun k => term_reader_word.f k s (i : Int) v) (wdT s i, s, ((i + (wdL s i).length : Nat) : Int)) := by
  unfold term_reader_word.f
  have hn : term_reader_next.f s (i : Int) v = some (nxL s i, s, (i : Int)) := by
    rw [next_at s _ v (by omega), nxS_eq s i hi]
  refine Ev.bind (evIs hn) ?_
  exact ev_word_loop s v hs i _ i (by omega) hi rfl
end Go.Proofs.YtpnamhplhdaphaaDoor.P

-- ==== PL4t
/- Plain laws of chapter 4: a term's text. -/
namespace Go.Proofs.YtpnamhplhdaphaaDoor.P
open Go.RowKit Go.Proofs.YtpnamhplhdaphaaDoorW.PrintWords
set_option linter.unusedVariables false
set_option linter.unusedSimpArgs false
def closeB (n : Nat) : List UInt8 := if n = 0 then [] else [41]
def sepB (i : Nat) : UInt8 := if i = 0 then 40 else 44
/-- The arguments i, .., n - 1 of a cell with n, their text, their depth. -/
inductive Tx : Nat → Nat → List Cel → List UInt8 → Nat → Prop
  | done (n : Nat) : Tx n n [] [] 0
  | arg {i n : Nat} {c : Cel} {l1 l2 : List Cel} {b1 b2 : List UInt8} {d1 d2 : Nat} (h : i < n) (h1 : Tx 0 (ar c) l1 b1 d1) (h2 : Tx (i + 1) n l2 b2 d2) :
      Tx i n (c :: (l1 ++ l2)) (sepB i :: (bl c.f0 ++ b1 ++ closeB (ar c) ++ b2)) (max (d1 + 1) d2)
theorem tx_seg {i n : Nat} {l : List Cel} {b : List UInt8} {d : Nat} (h : Tx i n l b d) : segN l (n - i) = some [] := by
  induction h with
  | done n => rw [Nat.sub_self]; rfl
  | @arg i n c l1 l2 b1 b2 d1 d2 h h1 h2 ih1 ih2 =>
    rw [show n - i = (n - (i + 1)) + 1 by omega]
    show segN (l1 ++ l2) (n - (i + 1) + ar c) = some []
    rw [Nat.add_comm, segN_add]
    have := segN_append l2 ih1
    rw [Nat.sub_zero] at this
    rw [this]
    exact ih2
theorem tx_of : ∀ (m : Nat) (l : List Cel) (i n : Nat), l.length ≤ m → i ≤ n → segN l (n - i) = some [] → ∃ b d, Tx i n l b d := by
  intro m
  induction m with
  | zero =>
    intro l i n hl hi h
    have : l = [] := List.eq_nil_of_length_eq_zero (by omega)
    subst this
    have := segN_nil_pos h
    have : i = n := by omega
    subst this
    exact ⟨[], 0, .done i⟩
  | succ m ih =>
    intro l i n hl hi h
    cases l with
    | nil =>
      have := segN_nil_pos h
      have : i = n := by omega
      subst this
      exact ⟨[], 0, .done i⟩
    | cons c l =>
      have hin : i < n := by
        rcases Nat.lt_or_ge i n with h1 | h1
        · exact h1
        · rw [show n - i = 0 by omega] at h
          cases h
      rw [show n - i = (n - (i + 1)) + 1 by omega] at h
      have h' : segN l (n - (i + 1) + ar c) = some [] := h
      rw [Nat.add_comm, segN_add] at h'
      cases hr : segN l (ar c) with
      | none => rw [hr] at h'; cases h'
      | some r =>
        rw [hr] at h'
        obtain ⟨e, hs⟩ := segN_fst hr
        have hrl := (segN_len hr).1
        simp at hl
        obtain ⟨b1, d1, t1⟩ := ih (fstT l r) 0 (ar c) (by unfold fstT; rw [List.length_take]; omega) (Nat.zero_le _) (by rw [Nat.sub_zero]; exact hs)
        obtain ⟨b2, d2, t2⟩ := ih r (i + 1) n (by omega) (by omega) h'
        have ht := Tx.arg (c := c) hin t1 t2
        rw [← e] at ht
        exact ⟨_, _, ht⟩
theorem tx_len {i n : Nat} {l : List Cel} {b : List UInt8} {d : Nat} (h : Tx i n l b d) (hc : ∀ c ∈ l, Okc c) : b.length ≤ 10 * l.length ∧ d ≤ l.length := by
  induction h with
  | done n => simp
  | @arg i n c l1 l2 b1 b2 d1 d2 h h1 h2 ih1 ih2 =>
    have i1 := ih1 fun x hx => hc x (List.mem_cons_of_mem _ (List.mem_append_left _ hx))
    have i2 := ih2 fun x hx => hc x (List.mem_cons_of_mem _ (List.mem_append_right _ hx))
    have hk := kindS_size (hc c (List.mem_cons_self ..)).kind
    have hb : (bl c.f0).length ≤ 8 := by rw [bl_len]; exact hk.2
    have hcl : (closeB (ar c)).length ≤ 1 := by unfold closeB; split <;> simp
    simp only [List.length_cons, List.length_append]
    omega
theorem ar_eq {c : Cel} (h : Okc c) : c.f1 = ((ar c : Nat) : Int) := by
  have := h.lo
  unfold ar
  omega
theorem ar_le {c : Cel} (h : Okc c) : ar c ≤ 4 := by
  have := h.hi
  unfold ar
  omega
/-! ### writing -/
theorem ev_wrL (t : List Cel) (ht : t.length ≤ 64) {i n : Nat} {l : List Cel} {b : List UInt8} {d : Nat} (h : Tx i n l b d) : ∀ (pos : Nat) (q : List Cel) (acc : List UInt8), n ≤ 4 → pos ≤ t.length → t.drop pos = l ++ q → (∀ c ∈ l, Okc c) → acc.length + b.length + 1 ≤ 4000 →
    Ev (fun k => wrL k t (n : Int) (i : Int) (pos : Int) acc) (acc ++ b, ((pos + l.length : Nat) : Int)) := by
  induction h with
  | done n =>
    intro pos q acc hn hp hd hc hl
    refine Ev.step (fun k => (show wrL (k + 1) t (n : Int) (n : Int) (pos : Int) acc = _ from by rw [wrL])) ?_
    refine evIfn (by omega) ?_
    rw [List.append_nil]
    exact Ev.now _
  | @arg i n c l1 l2 b1 b2 d1 d2 h h1 h2 ih1 ih2 =>
    intro pos q acc hn hp hd hc hl
    have hcc := hc c (List.mem_cons_self ..)
    obtain ⟨p1, p2, p3⟩ := drop_cons (show t.drop pos = c :: (l1 ++ l2 ++ q) from hd)
    simp only [List.length_cons, List.length_append] at hl
    have hsz := bl_len c.f0
    refine Ev.step (fun k => (show wrL (k + 1) t (n : Int) (i : Int) (pos : Int) acc = _ from by rw [wrL])) ?_
    refine evIfp (by omega) (evIfp (by omega) (evIfp (by omega) ?_))
    have hsep : (if (i : Int) = 0 then (40 : UInt8) else 44) = sepB i := by
      unfold sepB
      by_cases hi : i = 0
      · rw [if_pos (by omega), if_pos hi]
      · rw [if_neg (by omega), if_neg hi]
    rw [hsep]
    have hr : Ev (fun k => wrT k t (pos : Int) (acc ++ [sepB i])) (acc ++ (sepB i :: (bl c.f0 ++ b1 ++ closeB (ar c))), ((pos + 1 + l1.length : Nat) : Int)) := by
      refine Ev.step (fun k => (show wrT (k + 1) t (pos : Int) (acc ++ [sepB i]) = _ from by rw [wrT])) ?_
      simp only [rd_cel hd]
      refine evIfp (by omega) (evIfp (by omega) (evIfp (by simp only [List.length_append, List.length_cons, List.length_nil]; omega) ?_))
      have e1 := ih1 (pos + 1) (l2 ++ q) (acc ++ [sepB i] ++ bl c.f0) (ar_le hcc) (by omega) (by rw [p3]; simp) (fun x hx => hc x (List.mem_cons_of_mem _ (List.mem_append_left _ hx))) (by simp only [List.length_append, List.length_cons, List.length_nil]; omega)
      rw [ar_eq hcc]
      rw [wrap_up (i := (pos : Int)) (by omega) (by omega)]
      refine Ev.bind e1 ?_
      by_cases ha : ar c = 0
      · refine evIfn (by omega) ?_
        have : closeB (ar c) = [] := by unfold closeB; exact if_pos ha
        rw [this]
        simp only [List.append_assoc, List.cons_append, List.nil_append, List.append_nil]
        exact Ev.now _
      · have hcl : closeB (ar c) = [41] := by unfold closeB; exact if_neg ha
        rw [hcl] at hl ⊢
        refine evIfp (by omega) (evIfp (by simp only [List.length_append, List.length_cons, List.length_nil] at hl ⊢; omega) ?_)
        simp only [List.append_assoc, List.cons_append, List.nil_append, List.append_nil]
        exact Ev.now _
    refine Ev.bind hr ?_
    rw [wrap_up (i := (i : Int)) (by omega) (by omega)]
    have hpl : t.drop (pos + 1 + l1.length) = l2 ++ q := by
      rw [← List.drop_drop, p3, List.append_assoc, List.drop_left]
    have hpn : pos + 1 + l1.length ≤ t.length := by
      have := congrArg List.length p3
      simp only [List.length_drop, List.length_append] at this
      omega
    have e2 := ih2 (pos + 1 + l1.length) q (acc ++ (sepB i :: (bl c.f0 ++ b1 ++ closeB (ar c)))) hn hpn hpl (fun x hx => hc x (List.mem_cons_of_mem _ (List.mem_append_right _ hx))) (by simp only [List.length_append, List.length_cons]; omega)
    have g1 : acc ++ sepB i :: (bl c.f0 ++ b1 ++ closeB (ar c) ++ b2) = acc ++ sepB i :: (bl c.f0 ++ b1 ++ closeB (ar c)) ++ b2 := by simp
    have g2 : pos + (c :: (l1 ++ l2)).length = pos + 1 + l1.length + l2.length := by simp; omega
    rw [g1, g2]
    exact e2
/-- A term that is right, taken apart. -/
theorem tx_term {t : List Cel} (h : checkS t = 0) : ∃ c l b d, t = c :: l ∧ Tx 0 (ar c) l b d ∧ (∀ x ∈ c :: l, Okc x) ∧ (c :: l).length ≤ 64 := by
  obtain ⟨h1, h2, h3⟩ := checkS_ok h
  rcases t with _ | ⟨c, l⟩
  · cases h3
  have h4 : segN l (0 + ar c) = some [] := h3
  rw [Nat.zero_add] at h4
  obtain ⟨b, d, ht⟩ := tx_of l.length l 0 (ar c) (Nat.le_refl _) (Nat.zero_le _) h4
  exact ⟨c, l, b, d, rfl, ht, h2, h1⟩
def txtL (c : Cel) (b : List UInt8) : List UInt8 := bl c.f0 ++ b ++ closeB (ar c)
def txtB (c : Cel) (b : List UInt8) : ByteArray := ⟨(txtL c b).toArray⟩
theorem txt_bl (c : Cel) (b : List UInt8) : bl (txtB c b) = txtL c b := rfl
theorem txt_len {c : Cel} {l : List Cel} {b : List UInt8} {d : Nat} (h : Tx 0 (ar c) l b d) (ho : ∀ x ∈ c :: l, Okc x) (hl : (c :: l).length ≤ 64) : (txtL c b).length ≤ 640 ∧ txtL c b ≠ [] := by
  have h1 := tx_len h fun x hx => ho x (List.mem_cons_of_mem _ hx)
  have hk := kindS_size (ho c (List.mem_cons_self ..)).kind
  have hb := bl_len c.f0
  have hcl : (closeB (ar c)).length ≤ 1 := by unfold closeB; split <;> simp
  unfold txtL
  simp only [List.length_cons] at hl
  refine ⟨by simp only [List.length_append]; omega, fun he => ?_⟩
  have := congrArg List.length he
  simp only [List.length_append, List.length_nil] at this
  omega
theorem ev_print {c : Cel} {l : List Cel} {b : List UInt8} {d : Nat} (h : Tx 0 (ar c) l b d) (ho : ∀ x ∈ c :: l, Okc x) (hl : (c :: l).length ≤ 64) : Ev (fun k => term_Print.f k (c :: l)) (txtB c b, 0) := by
  have hck : checkS (c :: l) = 0 := by
    refine checkS_of hl ho ?_
    show segN l (0 + ar c) = some []
    have := tx_seg h
    rw [Nat.zero_add]
    exact this
  have hlen := txt_len h ho hl
  have hcc := ho c (List.mem_cons_self ..)
  have h1 := tx_len h fun x hx => ho x (List.mem_cons_of_mem _ hx)
  have hk := kindS_size hcc.kind
  have hb := bl_len c.f0
  simp only [List.length_cons] at hl
  unfold term_Print.f printF
  refine Ev.bind (ev_check _) ?_
  refine evIfp hck ?_
  have hr : Ev (fun k => wrT k (c :: l) 0 []) (txtL c b, ((1 + l.length : Nat) : Int)) := by
    refine Ev.step (fun k => (show wrT (k + 1) (c :: l) 0 [] = _ from by rw [wrT])) ?_
    have hrd : rd_T33 (c :: l) 0 = c := rd_cel (t := c :: l) (n := 0) (c := c) (s := l) rfl
    simp only [hrd]
    refine evIfp (by omega) (evIfp (by simp) (evIfp (by simp only [List.length_nil]; omega) ?_))
    have e1 := ev_wrL (c :: l) (by simp; omega) h 1 [] ([] ++ bl c.f0) (ar_le hcc) (by simp) (by simp) (fun x hx => ho x (List.mem_cons_of_mem _ hx)) (by simp only [List.length_append, List.length_nil]; omega)
    rw [ar_eq hcc, show wrap64 (0 + 1) = ((1 : Nat) : Int) from up_cast 0 (by omega)]
    refine Ev.bind e1 ?_
    by_cases ha : ar c = 0
    · refine evIfn (by omega) ?_
      have : closeB (ar c) = [] := by unfold closeB; exact if_pos ha
      unfold txtL
      rw [this]
      simp only [List.nil_append, List.append_nil]
      exact Ev.now _
    · have hcl : closeB (ar c) = [41] := by unfold closeB; exact if_neg ha
      refine evIfp (by omega) (evIfp (by simp only [List.length_append, List.length_nil]; omega) ?_)
      unfold txtL
      rw [hcl]
      simp only [List.nil_append]
      exact Ev.now _
  refine Ev.bind hr ?_
  refine evIfn hlen.2 (evIfp (by simp only; omega) ?_)
  exact Ev.now _
end Go.Proofs.YtpnamhplhdaphaaDoor.P

-- ==== PF70
namespace Go.Proofs.YtpnamhplhdaphaaDoor.P
open Go.RowKit Go.Proofs.YtpnamhplhdaphaaDoorW.PrintWords Go.Proofs.YtpnamhplhdaphaaDoorW.PrintLast Go.Proofs.YtpnamhplhdaphaaDoorW.PrintMore
attribute [local go_sem] max2_int min2_int max_two min_two max_three min_three max_four min_four   -- for this text's walks alone
set_option linter.unusedVariables false
set_option linter.unusedSimpArgs false

/-! ### aumbryref04_Kids: function 70 -/
def aumbryref04_Kids.l0 : Nat → List (S33) → List (List (S33)) → Int → Option ((List (List (S33))))
  | 0, _, _, _ => none
  | k + 1, x0, x3, x4 => if x4 < (x0.length : Int) then ((aumbryref04_Behind.f k x0 x4).bind fun t101 => (if 0 ≤ x4 then (if x4 ≤ t101 then (if t101 ≤ (x0.length : Int) then ((aumbryref04_Copy.f ((x0.take (t101 : Int).toNat).drop (x4 : Int).toNat)).bind fun t106 => (if x3.length < 5864062014805 then ((aumbryref04_Behind.f k x0 x4).bind fun t112 => (aumbryref04_Kids.l0 k x0 (x3 ++ [t106]) t112)) else (none))) else (none)) else (none)) else (none))) else (some x3)
def aumbryref04_Kids.f (k : Nat) (l0 : List (S33)) : Option ((List (List (S33)))) := aumbryref04_Kids.l0 k l0 ([] : List (List (S33))) 1
end Go.Proofs.YtpnamhplhdaphaaDoor.P

-- ==== PF49
namespace Go.Proofs.YtpnamhplhdaphaaDoor.P
open Go.RowKit Go.Proofs.YtpnamhplhdaphaaDoorW.PrintWords Go.Proofs.YtpnamhplhdaphaaDoorW.PrintLast Go.Proofs.YtpnamhplhdaphaaDoorW.PrintMore
attribute [local go_sem] max2_int min2_int max_two min_two max_three min_three max_four min_four   -- for this text's walks alone
set_option linter.unusedVariables false
set_option linter.unusedSimpArgs false

/-! ### aumbryref04_Text: function 49 -/
mutual
def aumbryref04_Text.l0 : Nat → ByteArray → List (List (S33)) → Int → Int → Option (ByteArray)
  | 0, _, _, _, _ => none
  | k + 1, x3, x4, x13, x14 => if x14 < x13 then (if x14 = 0 then (if x3.size + 1 ≤ 9223372036854775807 then (if 0 ≤ x14 then (if x14 < (x4.length : Int) then ((aumbryref04_Text.f k (rd_L3 x4 x14)).bind fun t106 => (if (x3 ++ (⟨#[40]⟩ : ByteArray)).size + t106.size ≤ 9223372036854775807 then (aumbryref04_Text.l0 k ((x3 ++ (⟨#[40]⟩ : ByteArray)) ++ t106) x4 x13 (wrap64 (x14 + 1))) else (none))) else (none)) else (none)) else (none)) else (if x3.size + 1 ≤ 9223372036854775807 then (if 0 ≤ x14 then (if x14 < (x4.length : Int) then ((aumbryref04_Text.f k (rd_L3 x4 x14)).bind fun t108 => (if (x3 ++ (⟨#[44]⟩ : ByteArray)).size + t108.size ≤ 9223372036854775807 then (aumbryref04_Text.l0 k ((x3 ++ (⟨#[44]⟩ : ByteArray)) ++ t108) x4 x13 (wrap64 (x14 + 1))) else (none))) else (none)) else (none)) else (none))) else (if (x4.length : Int) > 0 then (if x3.size + 1 ≤ 9223372036854775807 then (some (x3 ++ (⟨#[41]⟩ : ByteArray))) else (none)) else (some x3))
def aumbryref04_Text.f : Nat → List (S33) → Option (ByteArray)
  | 0, _ => none
  | k + 1, l0 => if 0 < (l0.length : Int) then ((aumbryref04_Kids.f k l0).bind fun t102 => (aumbryref04_Text.l0 k ((rd_T33 l0 0).f0) t102 (t102.length : Int) 0)) else (none)
end
end Go.Proofs.YtpnamhplhdaphaaDoor.P

-- ==== PF40
namespace Go.Proofs.YtpnamhplhdaphaaDoor.P
open Go.RowKit Go.Proofs.YtpnamhplhdaphaaDoorW.PrintWords Go.Proofs.YtpnamhplhdaphaaDoorW.PrintLast Go.Proofs.YtpnamhplhdaphaaDoorW.PrintMore
attribute [local go_sem] max2_int min2_int max_two min_two max_three min_three max_four min_four   -- for this text's walks alone
set_option linter.unusedVariables false
set_option linter.unusedSimpArgs false

/-! ### aumbryref03_Has: function 40 -/
def aumbryref03_Has.l0 : Nat → List ByteArray → ByteArray → Int → Int → Option (Bool)
  | 0, _, _, _, _ => none
  | k + 1, x0, x1, x7, x8 => if x8 < x7 then (if 0 ≤ x8 then (if x8 < (x0.length : Int) then (if (rdOf ByteArray.empty x0 x8).toList = x1.toList then (some true) else (aumbryref03_Has.l0 k x0 x1 x7 (wrap64 (x8 + 1)))) else (none)) else (none)) else (some false)
def aumbryref03_Has.f (k : Nat) (l0 : List ByteArray) (a1 : ByteArray) : Option (Bool) := aumbryref03_Has.l0 k l0 a1 (l0.length : Int) 0
end Go.Proofs.YtpnamhplhdaphaaDoor.P

-- ==== PF39
namespace Go.Proofs.YtpnamhplhdaphaaDoor.P
open Go.RowKit Go.Proofs.YtpnamhplhdaphaaDoorW.PrintWords Go.Proofs.YtpnamhplhdaphaaDoorW.PrintLast Go.Proofs.YtpnamhplhdaphaaDoorW.PrintMore
attribute [local go_sem] max2_int min2_int max_two min_two max_three min_three max_four min_four   -- for this text's walks alone
set_option linter.unusedVariables false
set_option linter.unusedSimpArgs false

/-! ### aumbryref04_Vars: function 39 -/
def aumbryref04_Vars.l0 : Nat → List (S33) → List ByteArray → Int → Int → Option (List ByteArray)
  | 0, _, _, _, _ => none
  | k + 1, x0, x3, x6, x7 => if x7 < x6 then (if 0 ≤ x7 then (if x7 < (x0.length : Int) then ((aumbryref03_Kind.f k ((rd_T33 x0 x7).f0)).bind fun t102 => (if t102 = 2 then ((aumbryref03_Has.f k x3 ((rd_T33 x0 x7).f0)).bind fun t104 => (if t104 = true then (aumbryref04_Vars.l0 k x0 x3 x6 (wrap64 (x7 + 1))) else (if x3.length < 8796093022208 then (aumbryref04_Vars.l0 k x0 (x3 ++ [(rd_T33 x0 x7).f0]) x6 (wrap64 (x7 + 1))) else (none)))) else (aumbryref04_Vars.l0 k x0 x3 x6 (wrap64 (x7 + 1))))) else (none)) else (none)) else (some x3)
def aumbryref04_Vars.f (k : Nat) (l0 : List (S33)) : Option (List ByteArray) := aumbryref04_Vars.l0 k l0 ([] : List ByteArray) (l0.length : Int) 0
end Go.Proofs.YtpnamhplhdaphaaDoor.P

-- ==== PLv
/- Plain laws: a term's variables, its arguments and its text: the program's answers and the document's. -/
namespace Go.Proofs.YtpnamhplhdaphaaDoor.P
open Go.RowKit Go.Proofs.YtpnamhplhdaphaaDoorW.PrintWords
set_option linter.unusedVariables false
set_option linter.unusedSimpArgs false
/-! ### lists of texts -/
instance txtMem (a : ByteArray) (l : List ByteArray) : Decidable (a ∈ l) :=
  if h : l.any (fun b => decide (a = b)) = true then isTrue (by obtain ⟨b, h1, h2⟩ := List.any_eq_true.1 h; rw [of_decide_eq_true h2]; exact h1) else isFalse (fun h1 => h (List.any_eq_true.2 ⟨a, h1, decide_eq_true rfl⟩))
theorem rd_txt {t : List ByteArray} {n : Nat} {c : ByteArray} {s : List ByteArray} (h : t.drop n = c :: s) : rdOf ByteArray.empty t (n : Int) = c := by
  unfold rdOf
  exact (drop_cons h).2.1 _
theorem ev_index_loop (l : List ByteArray) (a : ByteArray) (hl : l.length ≤ 9223372036854775806) : ∀ (u : List ByteArray) (i : Nat), i ≤ l.length → l.drop i = u →
    ∃ r, Ev (fun k => slices_Index_string_string.l0 k l a (l.length : Int) (i : Int)) r ∧ decide (r ≥ 0) = decide (a ∈ u)
  | [], i, hi, hu => by
    have h1 := drop_nil_len hi hu
    refine ⟨-1, Ev.step (fun k => (show slices_Index_string_string.l0 (k + 1) l a (l.length : Int) (i : Int) = _ from by rw [slices_Index_string_string.l0])) ?_, by simp⟩
    exact evIfn (by omega) (Ev.now _)
  | b :: u, i, hi, hu => by
    obtain ⟨h1, _, h3⟩ := drop_cons hu
    by_cases hab : a.toList = b.toList
    · refine ⟨(i : Int), Ev.step (fun k => (show slices_Index_string_string.l0 (k + 1) l a (l.length : Int) (i : Int) = _ from by rw [slices_Index_string_string.l0])) ?_, ?_⟩
      · refine evIfp (by omega) (evIfp (by omega) (evIfp (by omega) ?_))
        rw [rd_txt hu]
        exact evIfp hab (Ev.now _)
      · rw [(bytes_eq a b).1 hab]
        simp
    · obtain ⟨r, hr, he⟩ := ev_index_loop l a hl u (i + 1) (by omega) h3
      refine ⟨r, Ev.step (fun k => (show slices_Index_string_string.l0 (k + 1) l a (l.length : Int) (i : Int) = _ from by rw [slices_Index_string_string.l0])) ?_, ?_⟩
      · refine evIfp (by omega) (evIfp (by omega) (evIfp (by omega) ?_))
        rw [rd_txt hu]
        refine evIfn hab ?_
        rw [up_cast i (by omega)]
        exact hr
      · rw [he]
        have : a ≠ b := fun h => hab (by rw [h])
        simp [this]
theorem ev_contains (l : List ByteArray) (a : ByteArray) (hl : l.length ≤ 9223372036854775806) : Ev (fun k => slices_Contains_string_string.f k l a) (decide (a ∈ l)) := by
  unfold slices_Contains_string_string.f slices_Index_string_string.f
  obtain ⟨r, hr, he⟩ := ev_index_loop l a hl l 0 (by omega) rfl
  refine Ev.bind hr ?_
  rw [he]
  exact Ev.now _
theorem ev_has_loop (l : List ByteArray) (a : ByteArray) (hl : l.length ≤ 9223372036854775806) : ∀ (u : List ByteArray) (i : Nat), i ≤ l.length → l.drop i = u →
    Ev (fun k => aumbryref03_Has.l0 k l a (l.length : Int) (i : Int)) (decide (a ∈ u))
  | [], i, hi, hu => by
    have h1 := drop_nil_len hi hu
    refine Ev.step (fun k => (show aumbryref03_Has.l0 (k + 1) l a (l.length : Int) (i : Int) = _ from by rw [aumbryref03_Has.l0])) ?_
    exact evIfn (by omega) (Ev.now _)
  | b :: u, i, hi, hu => by
    obtain ⟨h1, _, h3⟩ := drop_cons hu
    refine Ev.step (fun k => (show aumbryref03_Has.l0 (k + 1) l a (l.length : Int) (i : Int) = _ from by rw [aumbryref03_Has.l0])) ?_
    refine evIfp (by omega) (evIfp (by omega) (evIfp (by omega) ?_))
    rw [rd_txt hu]
    by_cases hab : b.toList = a.toList
    · have : decide (a ∈ b :: u) = true := by rw [(bytes_eq b a).1 hab]; simp
      rw [this]
      exact evIfp hab (Ev.now _)
    · have : decide (a ∈ b :: u) = decide (a ∈ u) := by
        have : a ≠ b := fun h => hab (by rw [h])
        simp [this]
      rw [this]
      refine evIfn hab ?_
      rw [up_cast i (by omega)]
      exact ev_has_loop l a hl u (i + 1) (by omega) h3
theorem ev_has (l : List ByteArray) (a : ByteArray) (hl : l.length ≤ 9223372036854775806) : Ev (fun k => aumbryref03_Has.f k l a) (decide (a ∈ l)) := by
  unfold aumbryref03_Has.f
  exact ev_has_loop l a hl l 0 (by omega) rfl
/-! ### variables -/
def varsS : List ByteArray → List Cel → List ByteArray
  | out, [] => out
  | out, c :: l => if kindS c.f0 = 2 then (if c.f0 ∈ out then varsS out l else varsS (out ++ [c.f0]) l) else varsS out l
theorem ev_vars_loop (t : List Cel) (ht : t.length ≤ 1000) : ∀ (u : List Cel) (i : Nat) (out : List ByteArray), i ≤ t.length → t.drop i = u → out.length ≤ i →
    Ev (fun k => term_Vars.l0 k out t (t.length : Int) (i : Int)) (varsS out u, 0)
  | [], i, out, hi, hu, ho => by
    have h1 := drop_nil_len hi hu
    refine Ev.step (fun k => (show term_Vars.l0 (k + 1) out t (t.length : Int) (i : Int) = _ from by rw [term_Vars.l0])) ?_
    exact evIfn (by omega) (Ev.now _)
  | c :: u, i, out, hi, hu, ho => by
    obtain ⟨h1, _, h3⟩ := drop_cons hu
    refine Ev.step (fun k => (show term_Vars.l0 (k + 1) out t (t.length : Int) (i : Int) = _ from by rw [term_Vars.l0])) ?_
    refine evIfp (by omega) (evIfp (by omega) (evIfp (by omega) ?_))
    simp only [rd_cel hu, up_cast i (by omega)]
    refine Ev.bind (ev_kind c.f0) ?_
    have hv : varsS out (c :: u) = if kindS c.f0 = 2 then (if c.f0 ∈ out then varsS out u else varsS (out ++ [c.f0]) u) else varsS out u := rfl
    by_cases hk : kindS c.f0 = 2
    · refine evIfp hk ?_
      rw [hv, if_pos hk]
      refine Ev.bind (ev_contains out c.f0 (by omega)) ?_
      by_cases hm : c.f0 ∈ out
      · rw [if_pos hm]
        exact evIfp (decide_eq_true hm) (ev_vars_loop t ht u (i + 1) out (by omega) h3 (by omega))
      · rw [if_neg hm]
        exact evIfn (by simpa using hm) (evIfp (by omega) (ev_vars_loop t ht u (i + 1) (out ++ [c.f0]) (by omega) h3 (by simp; omega)))
    · refine evIfn hk ?_
      rw [hv, if_neg hk]
      exact ev_vars_loop t ht u (i + 1) out (by omega) h3 (by omega)
theorem ev_rvars_loop (t : List Cel) (ht : t.length ≤ 1000) : ∀ (u : List Cel) (i : Nat) (out : List ByteArray), i ≤ t.length → t.drop i = u → out.length ≤ i →
    Ev (fun k => aumbryref04_Vars.l0 k t out (t.length : Int) (i : Int)) (varsS out u)
  | [], i, out, hi, hu, ho => by
    have h1 := drop_nil_len hi hu
    refine Ev.step (fun k => (show aumbryref04_Vars.l0 (k + 1) t out (t.length : Int) (i : Int) = _ from by rw [aumbryref04_Vars.l0])) ?_
    exact evIfn (by omega) (Ev.now _)
  | c :: u, i, out, hi, hu, ho => by
    obtain ⟨h1, _, h3⟩ := drop_cons hu
    refine Ev.step (fun k => (show aumbryref04_Vars.l0 (k + 1) t out (t.length : Int) (i : Int) = _ from by rw [aumbryref04_Vars.l0])) ?_
    refine evIfp (by omega) (evIfp (by omega) (evIfp (by omega) ?_))
    simp only [rd_cel hu, up_cast i (by omega)]
    refine Ev.bind (ev_refKind c.f0) ?_
    have hv : varsS out (c :: u) = if kindS c.f0 = 2 then (if c.f0 ∈ out then varsS out u else varsS (out ++ [c.f0]) u) else varsS out u := rfl
    by_cases hk : kindS c.f0 = 2
    · refine evIfp hk ?_
      rw [hv, if_pos hk]
      refine Ev.bind (ev_has out c.f0 (by omega)) ?_
      by_cases hm : c.f0 ∈ out
      · rw [if_pos hm]
        exact evIfp (decide_eq_true hm) (ev_rvars_loop t ht u (i + 1) out (by omega) h3 (by omega))
      · rw [if_neg hm]
        exact evIfn (by simpa using hm) (evIfp (by omega) (ev_rvars_loop t ht u (i + 1) (out ++ [c.f0]) (by omega) h3 (by simp; omega)))
    · refine evIfn hk ?_
      rw [hv, if_neg hk]
      exact ev_rvars_loop t ht u (i + 1) out (by omega) h3 (by omega)
theorem ev_vars {t : List Cel} (h : checkS t = 0) : Ev (fun k => term_Vars.f k t) (varsS [] t, 0) := by
  have := checkS_len h
  unfold term_Vars.f
  refine Ev.bind (ev_check t) (evIfp h ?_)
  exact ev_vars_loop t (by omega) t 0 [] (by omega) rfl (by simp)
theorem ev_rvars {t : List Cel} (h : t.length ≤ 1000) : Ev (fun k => aumbryref04_Vars.f k t) (varsS [] t) := by
  unfold aumbryref04_Vars.f
  exact ev_rvars_loop t h t 0 [] (by omega) rfl (by simp)
theorem varsS_len : ∀ (u : List Cel) (out : List ByteArray), (varsS out u).length ≤ out.length + u.length
  | [], out => by simp [varsS]
  | c :: u, out => by
    have hv : varsS out (c :: u) = if kindS c.f0 = 2 then (if c.f0 ∈ out then varsS out u else varsS (out ++ [c.f0]) u) else varsS out u := rfl
    have h1 := varsS_len u out
    have h2 := varsS_len u (out ++ [c.f0])
    rw [hv]
    simp only [List.length_append, List.length_cons, List.length_nil] at h2 ⊢
    split
    · split <;> omega
    · omega
/-! ### the document's arguments -/
/-! ### the document's text -/
end Go.Proofs.YtpnamhplhdaphaaDoor.P

-- ==== PF38
namespace Go.Proofs.YtpnamhplhdaphaaDoor.P
open Go.RowKit Go.Proofs.YtpnamhplhdaphaaDoorW.PrintWords Go.Proofs.YtpnamhplhdaphaaDoorW.PrintLast Go.Proofs.YtpnamhplhdaphaaDoorW.PrintMore
attribute [local go_sem] max2_int min2_int max_two min_two max_three min_three max_four min_four   -- for this text's walks alone
set_option linter.unusedVariables false
set_option linter.unusedSimpArgs false

/-! ### aumbryref05_Var: function 38 -/
def aumbryref05_Var.f (k : Nat) (l0 : List (S33)) : Option (Bool) := if (l0.length : Int) = 1 then (if 0 < (l0.length : Int) then ((aumbryref03_Kind.f k ((rd_T33 l0 0).f0)).bind fun t102 => (some (t102 == 2))) else (none)) else (some false)
end Go.Proofs.YtpnamhplhdaphaaDoor.P

-- ==== PF13
namespace Go.Proofs.YtpnamhplhdaphaaDoor.P
open Go.RowKit Go.Proofs.YtpnamhplhdaphaaDoorW.PrintWords Go.Proofs.YtpnamhplhdaphaaDoorW.PrintLast Go.Proofs.YtpnamhplhdaphaaDoorW.PrintMore
attribute [local go_sem] max2_int min2_int max_two min_two max_three min_three max_four min_four   -- for this text's walks alone
set_option linter.unusedVariables false
set_option linter.unusedSimpArgs false

/-! ### aumbryref06_Check: function 13 -/
mutual
def aumbryref06_Check.j0 : Nat → Bool → Int → List (S33) → List (S33) → Option (Int)
  | 0, _, _, _, _ => none
  | k + 1, x15, x102000, x102001, x102002 => if x15 = true then (some 1) else ((aumbryref04_Check.f k x102001).bind fun t102 => (if t102 = 0 then ((aumbryref04_Check.f k x102002).bind fun t103 => (if t103 = 0 then (if (x102001.length : Int) > 8 then (aumbryref06_Check.j1 k true x102000 x102001 x102002) else (aumbryref06_Check.j1 k (decide ((x102002.length : Int) > 8)) x102000 x102001 x102002)) else (some t103))) else (some t102)))
def aumbryref06_Check.j1 : Nat → Bool → Int → List (S33) → List (S33) → Option (Int)
  | 0, _, _, _, _ => none
  | k + 1, x37, x102000, x102001, x102002 => if x37 = true then (some 6) else ((aumbryref05_Var.f k x102001).bind fun t104 => (if t104 = true then (some 20) else ((aumbryref04_Vars.f k x102001).bind fun t105 => ((aumbryref04_Vars.f k x102002).bind fun t108 => (aumbryref06_Check.l0 k t105 t108 (t108.length : Int) 0)))))
def aumbryref06_Check.l0 : Nat → List ByteArray → List ByteArray → Int → Int → Option (Int)
  | 0, _, _, _, _ => none
  | k + 1, x5, x6, x48, x49 => if x49 < x48 then (if 0 ≤ x49 then (if x49 < (x6.length : Int) then ((aumbryref03_Has.f k x5 (rdOf ByteArray.empty x6 x49)).bind fun t112 => (if t112 = true then (aumbryref06_Check.l0 k x5 x6 x48 (wrap64 (x49 + 1))) else (some 7))) else (none)) else (none)) else (some 0)
end
def aumbryref06_Check.f (k : Nat) (a0_0 : Int) (l0_1 : List (S33)) (l0_2 : List (S33)) : Option (Int) := if a0_0 < 0 then (aumbryref06_Check.j0 k true a0_0 l0_1 l0_2) else (aumbryref06_Check.j0 k (decide (a0_0 > 65535)) a0_0 l0_1 l0_2)
end Go.Proofs.YtpnamhplhdaphaaDoor.P

-- ==== PF12
namespace Go.Proofs.YtpnamhplhdaphaaDoor.P
open Go.RowKit Go.Proofs.YtpnamhplhdaphaaDoorW.PrintWords Go.Proofs.YtpnamhplhdaphaaDoorW.PrintLast Go.Proofs.YtpnamhplhdaphaaDoorW.PrintMore
attribute [local go_sem] max2_int min2_int max_two min_two max_three min_three max_four min_four   -- for this text's walks alone
set_option linter.unusedVariables false
set_option linter.unusedSimpArgs false

/-! ### aumbryref06_Copy: function 12 -/
def aumbryref06_Copy.f (a0_0 : Int) (l0_1 : List (S33)) (l0_2 : List (S33)) : Option (Int × (List (S33)) × (List (S33))) := (aumbryref04_Copy.f l0_1).bind fun t103 => ((aumbryref04_Copy.f l0_2).bind fun t106 => (some (a0_0, t103, t106)))
def aumbryref06_Copy.T1 : Bool × List (List Nat × List Nat) := (true, [([], []), ([0], [0]), ([], []), ([2], [2]), ([3], [3]), ([], []), ([5], [5]), ([6, 4], [6]), ([1, 4, 7], [1, 4, 7]), ([8, 7, 0, 1, 2, 3, 4, 5, 6, 7, 8], [8])])
end Go.Proofs.YtpnamhplhdaphaaDoor.P

-- ==== PL6
/- Plain laws of chapter 6: whether a rule may be: the program's answer and the document's come to one function. -/
namespace Go.Proofs.YtpnamhplhdaphaaDoor.P
open Go.RowKit Go.Proofs.YtpnamhplhdaphaaDoorW.PrintWords
set_option linter.unusedVariables false
set_option linter.unusedSimpArgs false
abbrev zc : Cel := z33
def ruleS (id : Int) (l r : List Cel) : Int := if id < 0 then 1 else if id > 65535 then 1 else if checkS l = 0 then (if checkS r = 0 then (if l.length > 8 then 6 else if r.length > 8 then 6 else
  if kindS (l.getD 0 zc).f0 = 2 then 20 else if (varsS [] r).all (fun v => decide (v ∈ varsS [] l)) = true then 0 else 7) else checkS r) else checkS l
theorem ev_strF (vl : List ByteArray) (hl : vl.length ≤ 9223372036854775806) : ∀ vr : List ByteArray, Ev (fun k => strF k vl vr) (!(vr.all (fun v => decide (v ∈ vl))))
  | [] => Ev.now _
  | v :: u => by
    have e : (fun k => strF k vl (v :: u)) = (fun k => (slices_Contains_string_string.f k vl v).bind fun b => if b = true then strF k vl u else some true) := rfl
    rw [e]
    refine Ev.bind (ev_contains vl v hl) ?_
    by_cases hv : v ∈ vl
    · refine evIfp (decide_eq_true hv) ?_
      have : (v :: u).all (fun v => decide (v ∈ vl)) = u.all (fun v => decide (v ∈ vl)) := by simp [hv]
      rw [this]
      exact ev_strF vl hl u
    · refine evIfn (by simpa using hv) ?_
      have : (v :: u).all (fun v => decide (v ∈ vl)) = false := by simp [hv]
      rw [this]
      exact Ev.now _
theorem ok_pos {l : List Cel} (h : checkS l = 0) : 0 < l.length := by
  obtain ⟨c, u, _, _, rfl, _⟩ := tx_term h
  simp
theorem vars_len {l : List Cel} (h : checkS l = 0) : (varsS [] l).length ≤ 64 := by
  have := varsS_len l []
  have := checkS_len h
  simp only [List.length_nil] at *
  omega
theorem ev_rch (id : Int) (l r : List Cel) : Ev (fun k => rule_Check.f k id l r) (ruleS id l r) := by
  unfold rule_Check.f rchF ruleS
  by_cases h1 : id < 0
  · simp only [if_pos h1]; exact Ev.now _
  simp only [if_neg h1]
  by_cases h2 : id > 65535
  · simp only [if_pos h2]; exact Ev.now _
  simp only [if_neg h2]
  refine Ev.bind (ev_check l) ?_
  by_cases h3 : checkS l = 0
  case neg =>
    refine evIfn h3 ?_
    rw [if_neg h3]
    exact Ev.now _
  refine evIfp h3 ?_
  rw [if_pos h3]
  refine Ev.bind (ev_check r) ?_
  by_cases h4 : checkS r = 0
  case neg =>
    refine evIfn h4 ?_
    rw [if_neg h4]
    exact Ev.now _
  refine evIfp h4 ?_
  rw [if_pos h4]
  by_cases h5 : l.length > 8
  · simp only [if_pos h5]; exact Ev.now _
  simp only [if_neg h5]
  by_cases h6 : r.length > 8
  · simp only [if_pos h6]; exact Ev.now _
  simp only [if_neg h6]
  refine evIfp (ok_pos h3) ?_
  refine Ev.bind (ev_kind _) ?_
  have e : rd_T33 l 0 = l.getD 0 zc := rfl
  rw [e]
  by_cases h7 : kindS (l.getD 0 zc).f0 = 2
  · refine evIfp h7 ?_
    rw [if_pos h7]
    exact Ev.now _
  refine evIfn h7 ?_
  rw [if_neg h7]
  refine Ev.bind (ev_vars h3) (Ev.bind (ev_vars h4) ?_)
  refine Ev.bind (ev_strF (varsS [] l) (by have := vars_len h3; omega) (varsS [] r)) ?_
  by_cases h8 : (varsS [] r).all (fun v => decide (v ∈ varsS [] l)) = true
  · rw [if_pos h8, h8]
    exact Ev.now _
  · have h9 : (varsS [] r).all (fun v => decide (v ∈ varsS [] l)) = false := by simpa using h8
    rw [if_neg h8, h9]
    exact Ev.now _
/-! ### the document's -/
theorem one_var {l : List Cel} (h : checkS l = 0) (hk : kindS (l.getD 0 zc).f0 = 2) : l.length = 1 := by
  obtain ⟨c, u, b, d, rfl, h1, h2, _⟩ := tx_term h
  have hc := h2 c (List.mem_cons_self ..)
  have ha : ar c = 0 := by unfold ar; rw [hc.var hk]; rfl
  rw [ha] at h1
  have := tx_seg h1
  rw [Nat.sub_zero, segN_zero] at this
  injection this with this
  rw [this]
  rfl
theorem ev_rcheck_loop (vl vr : List ByteArray) (hl : vl.length ≤ 9223372036854775806) (hr : vr.length ≤ 9223372036854775806) : ∀ (u : List ByteArray) (i : Nat), i ≤ vr.length → vr.drop i = u →
    Ev (fun k => aumbryref06_Check.l0 k vl vr (vr.length : Int) (i : Int)) (if u.all (fun v => decide (v ∈ vl)) = true then 0 else 7)
  | [], i, hi, hu => by
    have h1 := drop_nil_len hi hu
    refine Ev.step (fun k => (show aumbryref06_Check.l0 (k + 1) vl vr (vr.length : Int) (i : Int) = _ from by rw [aumbryref06_Check.l0])) ?_
    exact evIfn (by omega) (Ev.now _)
  | v :: u, i, hi, hu => by
    obtain ⟨h1, _, h3⟩ := drop_cons hu
    refine Ev.step (fun k => (show aumbryref06_Check.l0 (k + 1) vl vr (vr.length : Int) (i : Int) = _ from by rw [aumbryref06_Check.l0])) ?_
    refine evIfp (by omega) (evIfp (by omega) (evIfp (by omega) ?_))
    rw [rd_txt hu, up_cast i (by omega)]
    refine Ev.bind (ev_has vl v hl) ?_
    by_cases hv : v ∈ vl
    · refine evIfp (decide_eq_true hv) ?_
      have : (v :: u).all (fun v => decide (v ∈ vl)) = u.all (fun v => decide (v ∈ vl)) := by simp [hv]
      rw [this]
      exact ev_rcheck_loop vl vr hl hr u (i + 1) (by omega) h3
    · refine evIfn (by simpa using hv) ?_
      have : (v :: u).all (fun v => decide (v ∈ vl)) = false := by simp [hv]
      rw [this]
      exact Ev.now _
theorem ev_rcheck (id : Int) (l r : List Cel) : Ev (fun k => aumbryref06_Check.f k id l r) (ruleS id l r) := by
  have hj0t : ∀ q : Int, q = 1 → Ev (fun k => aumbryref06_Check.j0 k true id l r) q := fun q hq => by
    subst hq
    refine Ev.step (fun k => (show aumbryref06_Check.j0 (k + 1) true id l r = _ from by rw [aumbryref06_Check.j0])) ?_
    exact evIfp rfl (Ev.now _)
  have hj1t : ∀ q : Int, q = 6 → Ev (fun k => aumbryref06_Check.j1 k true id l r) q := fun q hq => by
    subst hq
    refine Ev.step (fun k => (show aumbryref06_Check.j1 (k + 1) true id l r = _ from by rw [aumbryref06_Check.j1])) ?_
    exact evIfp rfl (Ev.now _)
  unfold aumbryref06_Check.f ruleS
  by_cases h1 : id < 0
  · rw [if_pos h1]
    exact evIfp h1 (hj0t _ rfl)
  rw [if_neg h1]
  refine evIfn h1 ?_
  by_cases h2 : id > 65535
  · rw [if_pos h2, decide_eq_true h2]
    exact hj0t _ rfl
  rw [if_neg h2, decide_eq_false h2]
  refine Ev.step (fun k => (show aumbryref06_Check.j0 (k + 1) false id l r = _ from by rw [aumbryref06_Check.j0])) ?_
  refine evIfn (by simp) ?_
  refine Ev.bind (ev_refCheck l) ?_
  by_cases h3 : checkS l = 0
  case neg =>
    refine evIfn h3 ?_
    rw [if_neg h3]
    exact Ev.now _
  refine evIfp h3 ?_
  rw [if_pos h3]
  refine Ev.bind (ev_refCheck r) ?_
  by_cases h4 : checkS r = 0
  case neg =>
    refine evIfn h4 ?_
    rw [if_neg h4]
    exact Ev.now _
  refine evIfp h4 ?_
  rw [if_pos h4]
  have hl64 := checkS_len h3
  have hr64 := checkS_len h4
  by_cases h5 : l.length > 8
  · rw [if_pos h5]
    exact evIfp (by omega) (hj1t _ rfl)
  rw [if_neg h5]
  refine evIfn (by omega) ?_
  by_cases h6 : r.length > 8
  · rw [if_pos h6, decide_eq_true (show (r.length : Int) > 8 by omega)]
    exact hj1t _ rfl
  rw [if_neg h6, decide_eq_false (show ¬ (r.length : Int) > 8 by omega)]
  refine Ev.step (fun k => (show aumbryref06_Check.j1 (k + 1) false id l r = _ from by rw [aumbryref06_Check.j1])) ?_
  refine evIfn (by simp) ?_
  have hvar : Ev (fun k => aumbryref05_Var.f k l) (decide (kindS (l.getD 0 zc).f0 = 2)) := by
    unfold aumbryref05_Var.f
    by_cases h7 : (l.length : Int) = 1
    · refine evIfp h7 (evIfp (by omega) ?_)
      refine Ev.bind (ev_refKind _) ?_
      have e : rd_T33 l 0 = l.getD 0 zc := rfl
      rw [e]
      exact Ev.now _
    · refine evIfn h7 ?_
      have : ¬ kindS (l.getD 0 zc).f0 = 2 := fun hk => h7 (by have := one_var h3 hk; omega)
      rw [decide_eq_false this]
      exact Ev.now _
  refine Ev.bind hvar ?_
  by_cases h7 : kindS (l.getD 0 zc).f0 = 2
  · rw [if_pos h7]
    exact evIfp (decide_eq_true h7) (Ev.now _)
  rw [if_neg h7]
  refine evIfn (by simpa using h7) ?_
  refine Ev.bind (ev_rvars (by omega)) (Ev.bind (ev_rvars (by omega)) ?_)
  exact ev_rcheck_loop _ _ (by have := vars_len h3; omega) (by have := vars_len h4; omega) _ 0 (by omega) rfl
theorem ruleS_ok {id : Int} {l r : List Cel} (h : ruleS id l r = 0) : checkS l = 0 ∧ checkS r = 0 ∧ l.length ≤ 8 ∧ r.length ≤ 8 ∧ kindS (l.getD 0 zc).f0 ≠ 2 ∧ (∀ v ∈ varsS [] r, v ∈ varsS [] l) ∧ 0 ≤ id ∧ id ≤ 65535 := by
  unfold ruleS at h
  by_cases h1 : id < 0
  · rw [if_pos h1] at h; cases h
  rw [if_neg h1] at h
  by_cases h2 : id > 65535
  · rw [if_pos h2] at h; cases h
  rw [if_neg h2] at h
  by_cases h3 : checkS l = 0
  case neg => rw [if_neg h3] at h; exact absurd h h3
  rw [if_pos h3] at h
  by_cases h4 : checkS r = 0
  case neg => rw [if_neg h4] at h; exact absurd h h4
  rw [if_pos h4] at h
  by_cases h5 : l.length > 8
  · rw [if_pos h5] at h; cases h
  rw [if_neg h5] at h
  by_cases h6 : r.length > 8
  · rw [if_pos h6] at h; cases h
  rw [if_neg h6] at h
  by_cases h7 : kindS (l.getD 0 zc).f0 = 2
  · rw [if_pos h7] at h; cases h
  rw [if_neg h7] at h
  by_cases h8 : (varsS [] r).all (fun v => decide (v ∈ varsS [] l)) = true
  case neg => rw [if_neg h8] at h; cases h
  exact ⟨h3, h4, by omega, by omega, h7, fun v hv => of_decide_eq_true (List.all_eq_true.1 h8 v hv), by omega, by omega⟩
theorem ev_rsame (id : Int) (l r : List Cel) (hl : l.length ≤ 9223372036854775806) (hr : r.length ≤ 9223372036854775806) : Ev (fun k => aumbryref06_Same.f k id l r id l r) true := by
  unfold aumbryref06_Same.f
  refine evIfp rfl ?_
  refine Ev.bind (ev_refSame4 l l (.inl hl)) (evIfp (decide_eq_true rfl) ?_)
  refine Ev.bind (ev_refSame4 r r (.inl hr)) ?_
  rw [decide_eq_true (p := r = r) rfl]
  exact Ev.now _
end Go.Proofs.YtpnamhplhdaphaaDoor.P

-- ==== PL6w
/- Plain laws of chapter 6: what the statements ask ahead (wakes); sizes of what came in. -/
namespace Go.Proofs.YtpnamhplhdaphaaDoor.P
open Go.RowKit Go.Proofs.YtpnamhplhdaphaaDoorW.PrintWords
set_option linter.unusedVariables false
set_option maxRecDepth 100000 in
theorem ev_wakes6 : Ev (fun k => aumbrylaw06_wakes.f k) true := Ev.of (g := fun k => aumbrylaw06_wakes.f k) aumbrylaw06_wakes.mono (k := 40) (by kernel_rfl)
end Go.Proofs.YtpnamhplhdaphaaDoor.P

-- ==== PF66
namespace Go.Proofs.YtpnamhplhdaphaaDoor.P
open Go.RowKit Go.Proofs.YtpnamhplhdaphaaDoorW.PrintWords Go.Proofs.YtpnamhplhdaphaaDoorW.PrintLast Go.Proofs.YtpnamhplhdaphaaDoorW.PrintMore
attribute [local go_sem] max2_int min2_int max_two min_two max_three min_three max_four min_four   -- for this text's walks alone
set_option linter.unusedVariables false
set_option linter.unusedSimpArgs false

/-! ### aumbryref04_Read: function 66 -/
mutual
def aumbryref04_Read.j1 : Nat → ByteArray → Int → List (S33) → Int → Option ((List (S33)) × Int × Int)
  | 0, _, _, _, _ => none
  | k + 1, x0, x1, x2, x9 => if 0 ≤ x1 then (if x1 ≤ x9 then (if x9 ≤ (x0.size : Int) then (if (x0.extract (x1 : Int).toNat (x9 : Int).toNat).toList = ([] : List UInt8) then (some (([] : List (S33)), x1, 3)) else ((aumbryref03_Kind.f k (x0.extract (x1 : Int).toNat (x9 : Int).toNat)).bind fun t102 => (if t102 = 0 then (some (([] : List (S33)), x1, 4)) else (if (x2.length : Int) = 64 then (some (([] : List (S33)), x1, 6)) else (if x2.length < 5864062014805 then ((some (x2 ++ [(⟨x0.extract (x1 : Int).toNat (x9 : Int).toNat, 0⟩ : S33)] : List (S33))).bind fun y103 => (if x9 = (x0.size : Int) then (aumbryref04_Read.j2 k x0 y103 x9 t102 (x2.length : Int) true) else (if 0 ≤ x9 then (if x9 < (x0.size : Int) then (aumbryref04_Read.j2 k x0 y103 x9 t102 (x2.length : Int) ((bt x0 x9) != 40)) else (none)) else (none)))) else (none)))))) else (none)) else (none)) else (none)
def aumbryref04_Read.j2 : Nat → ByteArray → List (S33) → Int → Int → Int → Bool → Option ((List (S33)) × Int × Int)
  | 0, _, _, _, _, _, _ => none
  | k + 1, x0, x2, x9, x11, x12, x62 => if x62 = true then (some (x2, x9, 0)) else (if x11 = 2 then (some (([] : List (S33)), x9, 5)) else (aumbryref04_Read.l1 k x0 x2 x9 x12 1))
def aumbryref04_Read.l1 : Nat → ByteArray → List (S33) → Int → Int → Int → Option ((List (S33)) × Int × Int)
  | 0, _, _, _, _, _ => none
  | k + 1, x0, x2, x9, x12, x13 => (aumbryref04_Read.f k x0 (wrap64 (x9 + 1)) x2).bind fun bt106 => (if bt106.2.2 = 0 then (if 0 ≤ x12 then (if x12 < (bt106.1.length : Int) then ((some (bt106.1.set (x12 : Int).toNat (⟨(rd_T33 bt106.1 x12).f0, x13⟩ : S33) : List (S33))).bind fun y111 => (if bt106.2.1 < (x0.size : Int) then (if 0 ≤ bt106.2.1 then (aumbryref04_Read.j4 k x0 y111 bt106.2.1 x12 x13 ((bt x0 bt106.2.1) == 41)) else (none)) else (aumbryref04_Read.j4 k x0 y111 bt106.2.1 x12 x13 false))) else (none)) else (none)) else (some (([] : List (S33)), bt106.2.1, bt106.2.2)))
def aumbryref04_Read.j4 : Nat → ByteArray → List (S33) → Int → Int → Int → Bool → Option ((List (S33)) × Int × Int)
  | 0, _, _, _, _, _, _ => none
  | k + 1, x0, x2, x9, x12, x13, x99 => if x99 = true then (some (x2, wrap64 (x9 + 1), 0)) else (if x9 = (x0.size : Int) then (aumbryref04_Read.j5 k x0 x2 x9 x12 x13 true) else (if 0 ≤ x9 then (if x9 < (x0.size : Int) then (aumbryref04_Read.j5 k x0 x2 x9 x12 x13 ((bt x0 x9) != 44)) else (none)) else (none)))
def aumbryref04_Read.j5 : Nat → ByteArray → List (S33) → Int → Int → Int → Bool → Option ((List (S33)) × Int × Int)
  | 0, _, _, _, _, _, _ => none
  | k + 1, x0, x2, x9, x12, x13, x112 => if x112 = true then (some (([] : List (S33)), x9, 3)) else (if x13 = 4 then (some (([] : List (S33)), x9, 5)) else (aumbryref04_Read.l1 k x0 x2 x9 x12 (wrap64 (x13 + 1))))
def aumbryref04_Read.l0 : Nat → ByteArray → Int → List (S33) → Int → Option ((List (S33)) × Int × Int)
  | 0, _, _, _, _ => none
  | k + 1, x0, x1, x2, x9 => if x9 < (x0.size : Int) then (if 0 ≤ x9 then ((aumbryref04_sign.f (bt x0 x9)).bind fun t101 => (if t101 = true then (aumbryref04_Read.l0 k x0 x1 x2 (wrap64 (x9 + 1))) else (aumbryref04_Read.j1 k x0 x1 x2 x9))) else (none)) else (aumbryref04_Read.j1 k x0 x1 x2 x9)
def aumbryref04_Read.f : Nat → ByteArray → Int → List (S33) → Option ((List (S33)) × Int × Int)
  | 0, _, _, _ => none
  | k + 1, a0, a1, l2 => aumbryref04_Read.l0 k a0 a1 l2 a1
end
end Go.Proofs.YtpnamhplhdaphaaDoor.P

-- ==== PF42
namespace Go.Proofs.YtpnamhplhdaphaaDoor.P
open Go.RowKit Go.Proofs.YtpnamhplhdaphaaDoorW.PrintWords Go.Proofs.YtpnamhplhdaphaaDoorW.PrintLast Go.Proofs.YtpnamhplhdaphaaDoorW.PrintMore
attribute [local go_sem] max2_int min2_int max_two min_two max_three min_three max_four min_four   -- for this text's walks alone
set_option linter.unusedVariables false
set_option linter.unusedSimpArgs false

/-! ### aumbryref04_Parse: function 42 -/
def aumbryref04_Parse.j0 : Nat → List (S33) → Int → Int → Bool → Option ((List (S33)) × Int × Int)
  | 0, _, _, _, _ => none
  | k + 1, x5, x6, x7, x24 => if x24 = true then (some (([] : List (S33)), x6, 3)) else (if x7 = 0 then (some (x5, 0, 0)) else (some (([] : List (S33)), x6, x7)))
def aumbryref04_Parse.f (k : Nat) (a0 : ByteArray) : Option ((List (S33)) × Int × Int) := if (a0.size : Int) > 1024 then (some (([] : List (S33)), 0, 2)) else ((aumbryref04_Read.f k a0 0 ([] : List (S33))).bind fun bt101 => (if bt101.2.2 = 0 then (aumbryref04_Parse.j0 k bt101.1 bt101.2.1 bt101.2.2 (decide (bt101.2.1 < (a0.size : Int)))) else (aumbryref04_Parse.j0 k bt101.1 bt101.2.1 bt101.2.2 false)))
end Go.Proofs.YtpnamhplhdaphaaDoor.P

-- ==== PL4r
/- Plain laws of chapter 4: reading: what the program's reader and the document's come to, for every text; a term's text is read as the term. -/
namespace Go.Proofs.YtpnamhplhdaphaaDoor.P
open Go.RowKit Go.Proofs.YtpnamhplhdaphaaDoorW.PrintWords
set_option linter.unusedVariables false
set_option linter.unusedSimpArgs false
abbrev RdR := Sum (Int × Int) (Int × List Cel)
theorem nxL_cons {s : ByteArray} {j : Nat} {x : UInt8} {r : List UInt8} (h : (bl s).drop j = x :: r) : nxL s j = (x.toNat : Int) := by
  unfold nxL
  rw [h]
theorem nxL_pos {s : ByteArray} {j : Nat} {c : Int} (h : nxL s j = c) (hc : c ≠ 0) : ∃ x r, (bl s).drop j = x :: r ∧ (x.toNat : Int) = c := by
  unfold nxL at h
  cases hd : (bl s).drop j with
  | nil => rw [hd] at h; exact absurd h.symm hc
  | cons x r => rw [hd] at h; exact ⟨x, r, rfl, h⟩
theorem u8_of {x : UInt8} {n : Nat} (h : (x.toNat : Int) = (n : Int)) (hn : n < 256) : x = UInt8.ofNat n := by
  apply UInt8.toNat_inj.1
  rw [UInt8.toNat_ofNat']
  omega
theorem wdT_empty (s : ByteArray) (i : Nat) : (wdT s i).toList = [] ↔ wdL s i = [] := by
  rw [toList_nil, ← bl_len, wdT_bl]
  exact List.length_eq_zero_iff
theorem drop_word (s : ByteArray) (i : Nat) : (bl s).drop i = wdL s i ++ (bl s).drop (i + (wdL s i).length) := by
  rw [wd_behind]
  exact (List.takeWhile_append_dropWhile).symm
/-! ### the program's steps -/
theorem ev_rdTerm_at {s : ByteArray} {l : List Cel} {i : Nat} {r : RdR} (hs : s.size ≤ 100000) (hi : i ≤ s.size)
    (h : Ev (fun k => if (wdT s i).toList = [] then some (.inl ((i : Int), (3 : Int))) else if kindS (wdT s i) = 0 then some (.inl ((i : Int), (4 : Int))) else if (l.length : Int) = 64 then some (.inl ((i : Int), (6 : Int)))
      else if nxL s (i + (wdL s i).length) = 40 then (if kindS (wdT s i) = 2 then some (.inl (((i + (wdL s i).length : Nat) : Int), (5 : Int))) else rdArgs k s ((i + (wdL s i).length : Nat) : Int) (l ++ [⟨wdT s i, 0⟩]) l.length 1) else some (.inr (((i + (wdL s i).length : Nat) : Int), l ++ [⟨wdT s i, 0⟩]))) r) :
    Ev (fun k => rdTerm k s (i : Int) l) r := by
  refine Ev.step (fun k => (show rdTerm (k + 1) s (i : Int) l = _ from by rw [rdTerm])) ?_
  refine Ev.bind (ev_word s .nilIface hs i hi) ?_
  refine Ev.bind (ev_kind (wdT s i)) ?_
  simp only [nxS_eq s (i + (wdL s i).length) (wdL_bound hi)]
  exact h
theorem ev_rdArgs_inl {s : ByteArray} {l : List Cel} {i c : Nat} {n : Int} {x : Int × Int} (hi : i < 100000) (h : Ev (fun k => rdTerm k s ((i + 1 : Nat) : Int) l) (.inl x)) : Ev (fun k => rdArgs k s (i : Int) l c n) (.inl x) := by
  refine Ev.step (fun k => (show rdArgs (k + 1) s (i : Int) l c n = _ from by rw [rdArgs])) ?_
  rw [up_cast i (by omega)]
  exact Ev.bind h (Ev.now _)
theorem ev_rdArgs_inr {s : ByteArray} {l m : List Cel} {i c j : Nat} {n : Int} {r : RdR} (hi : i < 100000) (hj : j ≤ s.size) (hs : s.size ≤ 100000) (h : Ev (fun k => rdTerm k s ((i + 1 : Nat) : Int) l) (.inr ((j : Int), m))) (hc : c < m.length)
    (h2 : Ev (fun k => if nxL s j = 41 then some (.inr (((j + 1 : Nat) : Int), m.set c ⟨(rd_T33 m (c : Int)).f0, n⟩))
        else if nxL s j = 44 then (if n = 4 then some (.inl ((j : Int), (5 : Int))) else rdArgs k s (j : Int) (m.set c ⟨(rd_T33 m (c : Int)).f0, n⟩) c (wrap64 (n + 1))) else some (.inl ((j : Int), (3 : Int)))) r) :
    Ev (fun k => rdArgs k s (i : Int) l c n) r := by
  refine Ev.step (fun k => (show rdArgs (k + 1) s (i : Int) l c n = _ from by rw [rdArgs])) ?_
  rw [up_cast i (by omega)]
  refine Ev.bind h ?_
  refine evIfp hc ?_
  simp only [nxS_eq s j hj, up_cast j (by omega)]
  exact h2
/-! ### the document's steps -/
theorem ev_read_scan {s : ByteArray} {l : List Cel} {i : Nat} {r : List Cel × Int × Int} (hs : s.size ≤ 100000) : ∀ (q : List UInt8) (j : Nat), j ≤ s.size → (bl s).drop j = q →
    Ev (fun k => aumbryref04_Read.j1 k s (i : Int) l ((j + (wdL s j).length : Nat) : Int)) r → Ev (fun k => aumbryref04_Read.l0 k s (i : Int) l (j : Int)) r
  | [], j, hj, hd, h => by
    have := bl_drop_nil hj hd
    rw [wdL_end hd] at h
    refine Ev.step (fun k => (show aumbryref04_Read.l0 (k + 1) s (i : Int) l (j : Int) = _ from by rw [aumbryref04_Read.l0])) ?_
    exact evIfn (by omega) h
  | x :: q, j, hj, hd, h => by
    obtain ⟨h1, h2, h3⟩ := bt_drop hd
    refine Ev.step (fun k => (show aumbryref04_Read.l0 (k + 1) s (i : Int) l (j : Int) = _ from by rw [aumbryref04_Read.l0])) ?_
    refine evIfp (by omega) (evIfp (by omega) ?_)
    refine Ev.bind (evIs (sign_eq _)) ?_
    rw [h2, up_cast j (by omega)]
    by_cases hx : signU x = true
    · refine evIfp hx ?_
      rw [wdL_cons hd hx] at h
      refine ev_read_scan hs q (j + 1) (by omega) h3 ?_
      simp only [List.length_cons] at h
      rw [show j + 1 + (wdL s (j + 1)).length = j + ((wdL s (j + 1)).length + 1) by omega]
      exact h
    · refine evIfn hx ?_
      rw [wdL_stop hd hx] at h
      exact h
theorem ev_Read_at {s : ByteArray} {l : List Cel} {i : Nat} {r : List Cel × Int × Int} (hs : s.size ≤ 100000) (hi : i ≤ s.size) (hl : l.length ≤ 64)
    (h : Ev (fun k => if (wdT s i).toList = [] then some (([] : List Cel), (i : Int), (3 : Int)) else if kindS (wdT s i) = 0 then some (([] : List Cel), (i : Int), (4 : Int)) else if (l.length : Int) = 64 then some (([] : List Cel), (i : Int), (6 : Int))
      else if nxL s (i + (wdL s i).length) = 40 then (if kindS (wdT s i) = 2 then some (([] : List Cel), ((i + (wdL s i).length : Nat) : Int), (5 : Int)) else aumbryref04_Read.l1 k s (l ++ [⟨wdT s i, 0⟩]) ((i + (wdL s i).length : Nat) : Int) (l.length : Int) 1) else some (l ++ [⟨wdT s i, 0⟩], ((i + (wdL s i).length : Nat) : Int), (0 : Int))) r) :
    Ev (fun k => aumbryref04_Read.f k s (i : Int) l) r := by
  have hb := wdL_bound (s := s) hi
  refine Ev.step (fun k => (show aumbryref04_Read.f (k + 1) s (i : Int) l = _ from by rw [aumbryref04_Read.f])) ?_
  refine ev_read_scan hs _ i hi rfl ?_
  refine Ev.step (fun k => (show aumbryref04_Read.j1 (k + 1) s (i : Int) l ((i + (wdL s i).length : Nat) : Int) = _ from by rw [aumbryref04_Read.j1])) ?_
  refine evIfp (by omega) (evIfp (by omega) (evIfp (by omega) ?_))
  have hw : s.extract ((i : Int)).toNat (((i + (wdL s i).length : Nat) : Int)).toNat = wdT s i := rfl
  simp only [hw]
  by_cases h1 : (wdT s i).toList = []
  · simp only [if_pos h1] at h ⊢
    exact h
  · simp only [if_neg h1] at h ⊢
    refine Ev.bind (ev_refKind _) ?_
    by_cases h2 : kindS (wdT s i) = 0
    · simp only [if_pos h2] at h ⊢
      exact h
    · simp only [if_neg h2] at h ⊢
      by_cases h3 : (l.length : Int) = 64
      · simp only [if_pos h3] at h ⊢
        exact h
      · simp only [if_neg h3] at h ⊢
        refine evIfp (by omega) ?_
        simp only [Option.bind_some]
        have hj2 : ∀ fl : Bool, Ev (fun k => if fl = true then some (l ++ [(⟨wdT s i, 0⟩ : Cel)], ((i + (wdL s i).length : Nat) : Int), (0 : Int)) else (if kindS (wdT s i) = 2 then some (([] : List Cel), ((i + (wdL s i).length : Nat) : Int), (5 : Int)) else aumbryref04_Read.l1 k s (l ++ [⟨wdT s i, 0⟩]) ((i + (wdL s i).length : Nat) : Int) (l.length : Int) 1)) r →
            Ev (fun k => aumbryref04_Read.j2 k s (l ++ [⟨wdT s i, 0⟩]) ((i + (wdL s i).length : Nat) : Int) (kindS (wdT s i)) (l.length : Int) fl) r := by
          intro fl hf
          refine Ev.step (fun k => (show aumbryref04_Read.j2 (k + 1) s (l ++ [⟨wdT s i, 0⟩]) ((i + (wdL s i).length : Nat) : Int) (kindS (wdT s i)) (l.length : Int) fl = _ from by rw [aumbryref04_Read.j2])) ?_
          exact hf
        cases hd : (bl s).drop (i + (wdL s i).length) with
        | nil =>
          have := bl_drop_nil hb hd
          have hn : nxL s (i + (wdL s i).length) = 0 := by unfold nxL; rw [hd]
          rw [hn] at h
          refine evIfp (by omega) (hj2 true ?_)
          simp only [if_true]
          simpa using h
        | cons x q =>
          obtain ⟨g1, g2, g3⟩ := bt_drop hd
          have hn := nxL_cons hd
          rw [hn] at h
          refine evIfn (by omega) (evIfp (by omega) (evIfp (by omega) ?_))
          rw [g2]
          refine hj2 _ ?_
          by_cases hx : (x.toNat : Int) = 40
          · have e : ((x.toNat : Int) != 40) = false := by simp [hx]
            simp only [if_pos hx] at h
            rw [e]
            simpa using h
          · have e : ((x.toNat : Int) != 40) = true := by simpa using hx
            simp only [if_neg hx] at h
            rw [e]
            simpa using h
theorem ev_Readl1_inl {s : ByteArray} {l : List Cel} {i c : Nat} {n p e : Int} (hi : i < 100000) (he : e ≠ 0) (h : Ev (fun k => aumbryref04_Read.f k s ((i + 1 : Nat) : Int) l) ([], p, e)) : Ev (fun k => aumbryref04_Read.l1 k s l (i : Int) (c : Int) n) ([], p, e) := by
  refine Ev.step (fun k => (show aumbryref04_Read.l1 (k + 1) s l (i : Int) (c : Int) n = _ from by rw [aumbryref04_Read.l1])) ?_
  rw [up_cast i (by omega)]
  refine Ev.bind h ?_
  exact evIfn he (Ev.now _)
theorem ev_Readl1_inr {s : ByteArray} {l m : List Cel} {i c j : Nat} {n : Int} {r : List Cel × Int × Int} (hi : i < 100000) (hj : j ≤ s.size) (hs : s.size ≤ 100000) (h : Ev (fun k => aumbryref04_Read.f k s ((i + 1 : Nat) : Int) l) (m, (j : Int), 0)) (hc : c < m.length)
    (h2 : Ev (fun k => if nxL s j = 41 then some (m.set c ⟨(rd_T33 m (c : Int)).f0, n⟩, ((j + 1 : Nat) : Int), (0 : Int))
        else if nxL s j = 44 then (if n = 4 then some (([] : List Cel), (j : Int), (5 : Int)) else aumbryref04_Read.l1 k s (m.set c ⟨(rd_T33 m (c : Int)).f0, n⟩) (j : Int) (c : Int) (wrap64 (n + 1))) else some (([] : List Cel), (j : Int), (3 : Int))) r) :
    Ev (fun k => aumbryref04_Read.l1 k s l (i : Int) (c : Int) n) r := by
  refine Ev.step (fun k => (show aumbryref04_Read.l1 (k + 1) s l (i : Int) (c : Int) n = _ from by rw [aumbryref04_Read.l1])) ?_
  rw [up_cast i (by omega)]
  refine Ev.bind h ?_
  refine evIfp rfl (evIfp (by omega) (evIfp (by simp only; omega) ?_))
  simp only [Option.bind_some, Int.toNat_natCast]
  generalize m.set c ⟨(rd_T33 m (c : Int)).f0, n⟩ = m' at h2 ⊢
  have hj5 : ∀ fl : Bool, Ev (fun k => if fl = true then some (([] : List Cel), (j : Int), (3 : Int)) else (if n = 4 then some (([] : List Cel), (j : Int), (5 : Int)) else aumbryref04_Read.l1 k s m' (j : Int) (c : Int) (wrap64 (n + 1)))) r →
      Ev (fun k => aumbryref04_Read.j5 k s m' (j : Int) (c : Int) n fl) r := by
    intro fl hf
    refine Ev.step (fun k => (show aumbryref04_Read.j5 (k + 1) s m' (j : Int) (c : Int) n fl = _ from by rw [aumbryref04_Read.j5])) ?_
    exact hf
  have hj4 : ∀ fl : Bool, Ev (fun k => if fl = true then some (m', ((j + 1 : Nat) : Int), (0 : Int)) else (if (j : Int) = (s.size : Int) then (aumbryref04_Read.j5 k s m' (j : Int) (c : Int) n true) else (if 0 ≤ (j : Int) then (if (j : Int) < (s.size : Int) then (aumbryref04_Read.j5 k s m' (j : Int) (c : Int) n ((bt s (j : Int)) != 44)) else none) else none))) r →
      Ev (fun k => aumbryref04_Read.j4 k s m' (j : Int) (c : Int) n fl) r := by
    intro fl hf
    refine Ev.step (fun k => (show aumbryref04_Read.j4 (k + 1) s m' (j : Int) (c : Int) n fl = _ from by rw [aumbryref04_Read.j4])) ?_
    rw [up_cast j (by omega)]
    exact hf
  cases hd : (bl s).drop j with
  | nil =>
    have := bl_drop_nil hj hd
    have hn : nxL s j = 0 := by unfold nxL; rw [hd]
    rw [hn] at h2
    refine evIfn (by omega) (hj4 false ?_)
    refine evIfn (by simp) (evIfp (by omega) (hj5 true ?_))
    simpa using h2
  | cons x q =>
    obtain ⟨g1, g2, g3⟩ := bt_drop hd
    have hn := nxL_cons hd
    rw [hn] at h2
    refine evIfp (by omega) (evIfp (by omega) ?_)
    rw [g2]
    refine hj4 _ ?_
    by_cases hx : (x.toNat : Int) = 41
    · have e : ((x.toNat : Int) == 41) = true := by simp [hx]
      simp only [if_pos hx] at h2
      rw [e]
      simpa using h2
    · have e : ((x.toNat : Int) == 41) = false := by simpa using hx
      simp only [if_neg hx] at h2
      rw [e]
      refine evIfn (by simp) (evIfn (by omega) (evIfp (by omega) (evIfp (by omega) ?_)))
      rw [g2]
      refine hj5 _ ?_
      by_cases hy : (x.toNat : Int) = 44
      · have e : ((x.toNat : Int) != 44) = false := by simp [hy]
        simp only [if_pos hy] at h2
        rw [e]
        simpa using h2
      · have e : ((x.toNat : Int) != 44) = true := by simpa using hy
        simp only [if_neg hy] at h2
        rw [e]
        simpa using h2
/-! ### what reading comes to, both ways -/
def cA : Sum (Nat × Int) (Nat × List Cel) → RdR
  | .inl x => .inl ((x.1 : Int), x.2)
  | .inr y => .inr ((y.1 : Int), y.2)
def cR : Sum (Nat × Int) (Nat × List Cel) → List Cel × Int × Int
  | .inl x => ([], (x.1 : Int), x.2)
  | .inr y => (y.2, (y.1 : Int), 0)
def RdOk (s : ByteArray) (pos : Nat) (acc : List Cel) : Sum (Nat × Int) (Nat × List Cel) → Prop
  | .inl x => x.1 ≤ s.size ∧ x.2 ≠ 0
  | .inr y => ∃ c l b d, y.2 = acc ++ c :: l ∧ Tx 0 (ar c) l b d ∧ (∀ x ∈ c :: l, Okc x) ∧ y.2.length ≤ 64 ∧ y.1 ≤ s.size ∧ pos < y.1 ∧ (bl s).drop pos = txtL c b ++ (bl s).drop y.1
def ArOk (s : ByteArray) (pos : Nat) (acc : List Cel) (cI i : Nat) : Sum (Nat × Int) (Nat × List Cel) → Prop
  | .inl x => x.1 ≤ s.size ∧ x.2 ≠ 0
  | .inr y => ∃ (N : Nat) (l : List Cel) (b : List UInt8) (d : Nat), i < N ∧ N ≤ 4 ∧ y.2 = acc.set cI ⟨(acc.getD cI z33).f0, (N : Int)⟩ ++ l ∧ Tx i N l b d ∧ (∀ x ∈ l, Okc x) ∧ y.2.length ≤ 64 ∧ y.1 ≤ s.size ∧ pos < y.1 ∧ (bl s).drop pos = b ++ 41 :: (bl s).drop y.1
theorem rd_getD (m : List Cel) (c : Nat) : rd_T33 m (c : Int) = m.getD c z33 := rfl
theorem getD_app {acc q : List Cel} {c : Nat} (h : c < acc.length) (z : Cel) : (acc ++ q).getD c z = acc.getD c z := by
  rw [List.getD_eq_getElem?_getD, List.getD_eq_getElem?_getD, List.getElem?_append_left h]
theorem getD_set {m : List Cel} {c : Nat} {x : Cel} (h : c < m.length) (z : Cel) : (m.set c x).getD c z = x := by
  rw [List.getD_eq_getElem?_getD, List.getElem?_set_self h]
  rfl
theorem set_app {acc q : List Cel} {c : Nat} {x : Cel} (h : c < acc.length) : (acc ++ q).set c x = acc.set c x ++ q := List.set_append_left c x h
theorem rd_sound (s : ByteArray) (hs : s.size ≤ 100000) : ∀ D : Nat,
    (∀ (pos : Nat) (acc : List Cel), s.size - pos < D → pos ≤ s.size → acc.length ≤ 64 → ∃ r, Ev (fun k => rdTerm k s (pos : Int) acc) (cA r) ∧ Ev (fun k => aumbryref04_Read.f k s (pos : Int) acc) (cR r) ∧ RdOk s pos acc r) ∧
    (∀ (pos : Nat) (acc : List Cel) (cI i : Nat) (q : List UInt8), s.size - pos < D → (bl s).drop pos = sepB i :: q → cI < acc.length → acc.length ≤ 64 → i < 4 → ∃ r, Ev (fun k => rdArgs k s (pos : Int) acc cI ((i + 1 : Nat) : Int)) (cA r) ∧ Ev (fun k => aumbryref04_Read.l1 k s acc (pos : Int) (cI : Int) ((i + 1 : Nat) : Int)) (cR r) ∧ ArOk s pos acc cI i r)
  | 0 => ⟨fun _ _ h => absurd h (Nat.not_lt_zero _), fun _ _ _ _ _ h => absurd h (Nat.not_lt_zero _)⟩
  | D + 1 => by
    obtain ⟨ihT, ihA⟩ := rd_sound s hs D
    constructor
    · intro pos acc hD hp hl
      have hb := wdL_bound (s := s) hp
      have hdw := drop_word s pos
      by_cases h1 : (wdT s pos).toList = []
      · refine ⟨.inl (pos, 3), ev_rdTerm_at hs hp (evIfp h1 (Ev.now _)), ev_Read_at hs hp hl (evIfp h1 (Ev.now _)), hp, show (3 : Int) ≠ 0 by decide⟩
      have h1' : wdL s pos ≠ [] := fun h => h1 ((wdT_empty s pos).2 h)
      have hw0 : 0 < (wdL s pos).length := List.length_pos_iff.2 h1'
      by_cases h2 : kindS (wdT s pos) = 0
      · refine ⟨.inl (pos, 4), ev_rdTerm_at hs hp (evIfn h1 (evIfp h2 (Ev.now _))), ev_Read_at hs hp hl (evIfn h1 (evIfp h2 (Ev.now _))), hp, show (4 : Int) ≠ 0 by decide⟩
      by_cases h3 : (acc.length : Int) = 64
      · refine ⟨.inl (pos, 6), ev_rdTerm_at hs hp (evIfn h1 (evIfn h2 (evIfp h3 (Ev.now _)))), ev_Read_at hs hp hl (evIfn h1 (evIfn h2 (evIfp h3 (Ev.now _)))), hp, show (6 : Int) ≠ 0 by decide⟩
      by_cases h4 : nxL s (pos + (wdL s pos).length) = 40
      · by_cases h5 : kindS (wdT s pos) = 2
        · refine ⟨.inl (pos + (wdL s pos).length, 5), ev_rdTerm_at hs hp (evIfn h1 (evIfn h2 (evIfn h3 (evIfp h4 (evIfp h5 (Ev.now _)))))), ev_Read_at hs hp hl (evIfn h1 (evIfn h2 (evIfn h3 (evIfp h4 (evIfp h5 (Ev.now _)))))), hb, show (5 : Int) ≠ 0 by decide⟩
        · obtain ⟨x, q, hq, hx⟩ := nxL_pos h4 (by decide)
          have hx' : x = sepB 0 := u8_of (n := 40) hx (by decide)
          rw [hx'] at hq
          obtain ⟨r, e1, e2, e3⟩ := ihA (pos + (wdL s pos).length) (acc ++ [⟨wdT s pos, 0⟩]) acc.length 0 q (by have := (bt_drop hq).1; omega) hq (by simp) (by simp; omega) (by decide)
          refine ⟨r, ev_rdTerm_at hs hp (evIfn h1 (evIfn h2 (evIfn h3 (evIfp h4 (evIfn h5 e1))))), ev_Read_at hs hp hl (evIfn h1 (evIfn h2 (evIfn h3 (evIfp h4 (evIfn h5 e2))))), ?_⟩
          rcases r with ⟨p, e⟩ | ⟨j, m⟩
          · exact e3
          · obtain ⟨N, l, b, d, g1, g2, g3, g4, g5, g6, g7, g8, g9⟩ := e3
            have hcell : (acc ++ [(⟨wdT s pos, 0⟩ : Cel)]).getD acc.length z33 = ⟨wdT s pos, 0⟩ := by
              rw [List.getD_eq_getElem?_getD, List.getElem?_append_right (Nat.le_refl _), Nat.sub_self]
              rfl
            rw [hcell] at g3
            have hset : (acc ++ [(⟨wdT s pos, 0⟩ : Cel)]).set acc.length ⟨wdT s pos, (N : Int)⟩ = acc ++ [⟨wdT s pos, (N : Int)⟩] := by
              rw [List.set_append_right _ _ (Nat.le_refl _), Nat.sub_self]
              rfl
            have harN : ar (⟨wdT s pos, (N : Int)⟩ : Cel) = N := by unfold ar; simp
            refine ⟨⟨wdT s pos, (N : Int)⟩, l, b, d, ?_, by rw [harN]; exact g4, ?_, g6, g7, by simp only at g8; omega, ?_⟩
            · rw [g3]
              simp only
              rw [hset]
              simp
            · intro y hy
              rcases List.mem_cons.1 hy with rfl | hy
              · exact ⟨h2, by simp only; omega, by simp only; omega, fun hk => absurd hk h5⟩
              · exact g5 y hy
            · rw [hdw, g9]
              unfold txtL closeB
              rw [harN, if_neg (by omega), wdT_bl]
              simp
      · refine ⟨.inr (pos + (wdL s pos).length, acc ++ [⟨wdT s pos, 0⟩]), ev_rdTerm_at hs hp (evIfn h1 (evIfn h2 (evIfn h3 (evIfn h4 (Ev.now _))))), ev_Read_at hs hp hl (evIfn h1 (evIfn h2 (evIfn h3 (evIfn h4 (Ev.now _))))), ?_⟩
        refine ⟨⟨wdT s pos, 0⟩, [], [], 0, rfl, .done 0, ?_, by simp; omega, hb, by simp only; omega, ?_⟩
        · intro y hy
          rw [List.mem_singleton.1 hy]
          exact ⟨h2, Int.le_refl _, show (0 : Int) ≤ 4 by decide, fun _ => rfl⟩
        · rw [hdw]
          unfold txtL closeB
          rw [show ar (⟨wdT s pos, 0⟩ : Cel) = 0 from rfl, if_pos rfl, wdT_bl]
          simp
    · intro pos acc cI i q hD hd hc hl hi
      obtain ⟨p1, p2, p3⟩ := bt_drop hd
      obtain ⟨r, e1, e2, e3⟩ := ihT (pos + 1) acc (by omega) (by omega) hl
      rcases r with ⟨p, e⟩ | ⟨j, m⟩
      · exact ⟨.inl (p, e), ev_rdArgs_inl (by omega) e1, ev_Readl1_inl (by omega) e3.2 e2, e3⟩
      · obtain ⟨c, l1, b1, d1, g1, g2, g3, g4, g5, g6, g7⟩ := e3
        simp only at g1 g4 g5 g6 g7
        have hcm : cI < m.length := by rw [g1, List.length_append]; omega
        have hnm : (rd_T33 m (cI : Int)).f0 = (acc.getD cI z33).f0 := by rw [rd_getD, g1, getD_app hc]
        have hset : ∀ N : Int, m.set cI ⟨(rd_T33 m (cI : Int)).f0, N⟩ = acc.set cI ⟨(acc.getD cI z33).f0, N⟩ ++ c :: l1 := by
          intro N
          rw [hnm, g1, set_app hc]
        have hdp : (bl s).drop pos = sepB i :: (txtL c b1 ++ (bl s).drop j) := by rw [hd, ← p3, g7]
        by_cases k1 : nxL s j = 41
        · obtain ⟨x, q', hq, hx⟩ := nxL_pos k1 (by decide)
          have hx' : x = 41 := u8_of (n := 41) hx (by decide)
          rw [hx'] at hq
          have hj := bt_drop hq
          refine ⟨.inr (j + 1, m.set cI ⟨(rd_T33 m (cI : Int)).f0, ((i + 1 : Nat) : Int)⟩), ev_rdArgs_inr (by omega) g5 hs e1 hcm (evIfp k1 (Ev.now _)), ev_Readl1_inr (by omega) g5 hs e2 hcm (evIfp k1 (Ev.now _)), ?_⟩
          refine ⟨i + 1, c :: (l1 ++ []), _, _, by omega, by omega, ?_, Tx.arg (by omega) g2 (.done _), ?_, ?_, by simp only; omega, by simp only; omega, ?_⟩
          · rw [hset]
            simp
          · rw [List.append_nil]
            exact g3
          · simp only [List.length_set]
            exact g4
          · rw [hdp, hq, hj.2.2]
            unfold txtL
            simp
        · by_cases k2 : nxL s j = 44
          · by_cases k3 : ((i + 1 : Nat) : Int) = 4
            · exact ⟨.inl (j, 5), ev_rdArgs_inr (by omega) g5 hs e1 hcm (evIfn k1 (evIfp k2 (evIfp k3 (Ev.now _)))), ev_Readl1_inr (by omega) g5 hs e2 hcm (evIfn k1 (evIfp k2 (evIfp k3 (Ev.now _)))), g5, show (5 : Int) ≠ 0 by decide⟩
            · obtain ⟨x, q', hq, hx⟩ := nxL_pos k2 (by decide)
              have hx' : x = sepB (i + 1) := u8_of (n := 44) hx (by decide)
              rw [hx'] at hq
              have hj := bt_drop hq
              obtain ⟨r2, f1, f2, f3⟩ := ihA j (m.set cI ⟨(rd_T33 m (cI : Int)).f0, ((i + 1 : Nat) : Int)⟩) cI (i + 1) q' (by omega) hq (by rw [List.length_set]; exact hcm) (by rw [List.length_set]; exact g4) (by omega)
              have hup : wrap64 (((i + 1 : Nat) : Int) + 1) = ((i + 1 + 1 : Nat) : Int) := up_cast (i + 1) (by omega)
              refine ⟨r2, ev_rdArgs_inr (by omega) g5 hs e1 hcm (evIfn k1 (evIfp k2 (evIfn k3 (by rw [hup]; exact f1)))), ev_Readl1_inr (by omega) g5 hs e2 hcm (evIfn k1 (evIfp k2 (evIfn k3 (by rw [hup]; exact f2)))), ?_⟩
              rcases r2 with ⟨p, e⟩ | ⟨j2, m2⟩
              · exact f3
              · obtain ⟨N, l2, b2, d2, u1, u2, u3, u4, u5, u6, u7, u8, u9⟩ := f3
                simp only at u3 u6 u7 u8 u9
                clear hup
                rw [getD_set hcm, List.set_set, hset] at u3
                refine ⟨N, c :: (l1 ++ l2), _, _, by omega, u2, ?_, Tx.arg (by omega) g2 u4, ?_, u6, u7, by simp only; omega, ?_⟩
                · rw [u3]
                  simp
                · intro y hy
                  rcases List.mem_cons.1 hy with rfl | hy
                  · exact g3 _ (List.mem_cons_self ..)
                  · rcases List.mem_append.1 hy with hy | hy
                    · exact g3 _ (List.mem_cons_of_mem _ hy)
                    · exact u5 y hy
                · rw [hdp, u9]
                  unfold txtL
                  simp
          · exact ⟨.inl (j, 3), ev_rdArgs_inr (by omega) g5 hs e1 hcm (evIfn k1 (evIfn k2 (Ev.now _))), ev_Readl1_inr (by omega) g5 hs e2 hcm (evIfn k1 (evIfn k2 (Ev.now _))), g5, show (3 : Int) ≠ 0 by decide⟩
/-- What Parse comes to, both ways. -/
theorem parse_sound (s : ByteArray) : ∃ u at_ e, Ev (fun k => term_Parse.f k s) (u, at_, e) ∧ Ev (fun k => aumbryref04_Parse.f k s) (u, at_, e) ∧ u.length ≤ 64 ∧
    ((e ≠ 0 ∧ u = [] ∧ 0 ≤ at_ ∧ at_ ≤ (s.size : Int)) ∨ (e = 0 ∧ at_ = 0 ∧ ∃ c l b d, u = c :: l ∧ Tx 0 (ar c) l b d ∧ (∀ x ∈ c :: l, Okc x) ∧ bl s = txtL c b)) := by
  have hj0 : ∀ (u : List Cel) (a e : Int) (fl : Bool), Ev (fun k => aumbryref04_Parse.j0 k u a e fl) (if fl = true then ([], a, 3) else if e = 0 then (u, 0, 0) else ([], a, e)) := by
    intro u a e fl
    refine Ev.step (fun k => (show aumbryref04_Parse.j0 (k + 1) u a e fl = _ from by rw [aumbryref04_Parse.j0])) ?_
    cases fl
    · refine evIfn (by simp) ?_
      by_cases he : e = 0
      · simp only [if_pos he]; exact Ev.now _
      · simp only [if_neg he]; exact Ev.now _
    · exact evIfp rfl (Ev.now _)
  by_cases hs : (s.size : Int) > 1024
  · refine ⟨[], 0, 2, ?_, ?_, by simp, .inl ⟨by decide, rfl, by decide, by omega⟩⟩
    · unfold term_Parse.f parseF
      exact evIfp hs (Ev.now _)
    · unfold aumbryref04_Parse.f
      exact evIfp hs (Ev.now _)
  · obtain ⟨r, e1, e2, e3⟩ := (rd_sound s (by omega) (s.size + 1)).1 0 [] (by omega) (by omega) (by simp)
    rcases r with ⟨p, e⟩ | ⟨j, m⟩
    · refine ⟨[], (p : Int), e, ?_, ?_, by simp, .inl ⟨e3.2, rfl, by omega, by have := e3.1; simp only at this; omega⟩⟩
      · unfold term_Parse.f parseF
        exact evIfn hs (Ev.bind e1 (Ev.now _))
      · unfold aumbryref04_Parse.f
        refine evIfn hs (Ev.bind e2 (evIfn e3.2 ?_))
        have := hj0 [] (p : Int) e false
        rw [if_neg (by simp), if_neg e3.2] at this
        exact this
    · obtain ⟨c, l, b, d, g1, g2, g3, g4, g5, g6, g7⟩ := e3
      simp only [List.nil_append] at g1 g4 g5 g6 g7
      by_cases hj : (j : Int) < (s.size : Int)
      · refine ⟨[], (j : Int), 3, ?_, ?_, by simp, .inl ⟨by decide, rfl, by omega, by omega⟩⟩
        · unfold term_Parse.f parseF
          exact evIfn hs (Ev.bind e1 (evIfp hj (Ev.now _)))
        · unfold aumbryref04_Parse.f
          refine evIfn hs (Ev.bind e2 (evIfp rfl ?_))
          have := hj0 m (j : Int) 0 true
          rw [if_pos rfl] at this
          have hdj : decide ((j : Int) < (s.size : Int)) = true := decide_eq_true hj
          rw [show (cR (.inr (j, m))).2.1 = (j : Int) from rfl, hdj]
          exact this
      · refine ⟨m, 0, 0, ?_, ?_, g4, .inr ⟨rfl, rfl, c, l, b, d, g1, g2, g3, ?_⟩⟩
        · unfold term_Parse.f parseF
          exact evIfn hs (Ev.bind e1 (evIfn hj (Ev.now _)))
        · unfold aumbryref04_Parse.f
          refine evIfn hs (Ev.bind e2 (evIfp rfl ?_))
          have := hj0 m (j : Int) 0 false
          rw [if_neg (by simp), if_pos rfl] at this
          have hdj : decide ((j : Int) < (s.size : Int)) = false := decide_eq_false hj
          rw [show (cR (.inr (j, m))).2.1 = (j : Int) from rfl, hdj]
          exact this
        · rw [List.drop_zero] at g7
          have : j = s.size := by omega
          rw [g7, this, List.drop_eq_nil_of_le (by rw [bl_len]; omega), List.append_nil]
/-! ### a term's text is read as the term -/
end Go.Proofs.YtpnamhplhdaphaaDoor.P

-- ==== PF16
namespace Go.Proofs.YtpnamhplhdaphaaDoor.P
open Go.RowKit Go.Proofs.YtpnamhplhdaphaaDoorW.PrintWords Go.Proofs.YtpnamhplhdaphaaDoorW.PrintLast Go.Proofs.YtpnamhplhdaphaaDoorW.PrintMore
attribute [local go_sem] max2_int min2_int max_two min_two max_three min_three max_four min_four   -- for this text's walks alone
set_option linter.unusedVariables false
set_option linter.unusedSimpArgs false

/-! ### aumbryref06_Parse: function 16 -/
def aumbryref06_Parse.f (k : Nat) (a0 : ByteArray) (a1 : ByteArray) : Option (Int × (List (S33)) × (List (S33)) × Int) := (aumbryref04_Parse.f k a0).bind fun bt102 => (if bt102.2.2 = 0 then ((aumbryref04_Parse.f k a1).bind fun bt107 => (if bt107.2.2 = 0 then ((aumbryref06_Check.f k 0 bt102.1 bt107.1).bind fun t113 => (if t113 = 0 then (some (0, bt102.1, bt107.1, 0)) else (some (0, ([] : List (S33)), ([] : List (S33)), t113)))) else (some (0, ([] : List (S33)), ([] : List (S33)), bt107.2.2)))) else (some (0, ([] : List (S33)), ([] : List (S33)), bt102.2.2)))
end Go.Proofs.YtpnamhplhdaphaaDoor.P

-- ==== PF20
namespace Go.Proofs.YtpnamhplhdaphaaDoor.P
open Go.RowKit Go.Proofs.YtpnamhplhdaphaaDoorW.PrintWords Go.Proofs.YtpnamhplhdaphaaDoorW.PrintLast Go.Proofs.YtpnamhplhdaphaaDoorW.PrintMore
attribute [local go_sem] max2_int min2_int max_two min_two max_three min_three max_four min_four   -- for this text's walks alone
set_option linter.unusedVariables false
set_option linter.unusedSimpArgs false

/-! ### aumbryref06_Text: function 20 -/
def aumbryref06_Text.f (k : Nat) (a0_0 : Int) (l0_1 : List (S33)) (l0_2 : List (S33)) : Option (ByteArray) := (aumbryref04_Text.f k l0_1).bind fun t102 => (if t102.size + 4 ≤ 9223372036854775807 then ((aumbryref04_Text.f k l0_2).bind fun t103 => (if (t102 ++ (⟨#[32, 45, 62, 32]⟩ : ByteArray)).size + t103.size ≤ 9223372036854775807 then (some ((t102 ++ (⟨#[32, 45, 62, 32]⟩ : ByteArray)) ++ t103)) else (none))) else (none))
def aumbryref06_Text.T1 : Bool × List (List Nat × List Nat) := (true, [([], []), ([0], [0]), ([1], [1]), ([2], [2]), ([], []), ([4], [4]), ([5, 2], [5]), ([3, 6], [3, 6]), ([7, 6, 0, 1, 2, 3, 4, 5, 6, 7], [7])])
end Go.Proofs.YtpnamhplhdaphaaDoor.P

-- ==== PL6r
/- Plain laws of chapter 6: reading two texts as a rule; writing a rule. -/
namespace Go.Proofs.YtpnamhplhdaphaaDoor.P
open Go.RowKit Go.Proofs.YtpnamhplhdaphaaDoorW.PrintWords
set_option linter.unusedVariables false
set_option linter.unusedSimpArgs false
theorem ev_rparse (s1 s2 : ByteArray) : ∃ l r e, Ev (fun k => rule_Parse.f k s1 s2) (0, l, r, e) ∧ Ev (fun k => aumbryref06_Parse.f k s1 s2) (0, l, r, e) ∧ l.length ≤ 64 ∧ r.length ≤ 64 ∧
    ((e ≠ 0 ∧ l = [] ∧ r = []) ∨ (e = 0 ∧ ruleS 0 l r = 0 ∧ ∃ c1 l1 b1 d1 c2 l2 b2 d2, l = c1 :: l1 ∧ r = c2 :: l2 ∧ Tx 0 (ar c1) l1 b1 d1 ∧ (∀ x ∈ c1 :: l1, Okc x) ∧ bl s1 = txtL c1 b1 ∧ Tx 0 (ar c2) l2 b2 d2 ∧ (∀ x ∈ c2 :: l2, Okc x) ∧ bl s2 = txtL c2 b2)) := by
  obtain ⟨u, a, e, h1, h1', h1l, h1c⟩ := parse_sound s1
  obtain ⟨v, b, f, h2, h2', h2l, h2c⟩ := parse_sound s2
  by_cases he : e = 0
  case neg =>
    refine ⟨[], [], e, ?_, ?_, by simp, by simp, .inl ⟨he, rfl, rfl⟩⟩
    · unfold rule_Parse.f
      exact Ev.bind h1 (evIfn he (Ev.now _))
    · unfold aumbryref06_Parse.f
      exact Ev.bind h1' (evIfn he (Ev.now _))
  by_cases hf : f = 0
  case neg =>
    refine ⟨[], [], f, ?_, ?_, by simp, by simp, .inl ⟨hf, rfl, rfl⟩⟩
    · unfold rule_Parse.f
      exact Ev.bind h1 (evIfp he (Ev.bind h2 (evIfn hf (Ev.now _))))
    · unfold aumbryref06_Parse.f
      exact Ev.bind h1' (evIfp he (Ev.bind h2' (evIfn hf (Ev.now _))))
  by_cases hr : ruleS 0 u v = 0
  case neg =>
    refine ⟨[], [], ruleS 0 u v, ?_, ?_, by simp, by simp, .inl ⟨hr, rfl, rfl⟩⟩
    · unfold rule_Parse.f
      exact Ev.bind h1 (evIfp he (Ev.bind h2 (evIfp hf (Ev.bind (ev_rch 0 u v) (evIfn hr (Ev.now _))))))
    · unfold aumbryref06_Parse.f
      exact Ev.bind h1' (evIfp he (Ev.bind h2' (evIfp hf (Ev.bind (ev_rcheck 0 u v) (evIfn hr (Ev.now _))))))
  refine ⟨u, v, 0, ?_, ?_, h1l, h2l, .inr ⟨rfl, hr, ?_⟩⟩
  · unfold rule_Parse.f
    exact Ev.bind h1 (evIfp he (Ev.bind h2 (evIfp hf (Ev.bind (ev_rch 0 u v) (evIfp hr (Ev.now _))))))
  · unfold aumbryref06_Parse.f
    exact Ev.bind h1' (evIfp he (Ev.bind h2' (evIfp hf (Ev.bind (ev_rcheck 0 u v) (evIfp hr (Ev.now _))))))
  rcases h1c with ⟨hx, _⟩ | ⟨_, _, c1, l1, b1, d1, e1, p1, p2, p3⟩
  · exact absurd he hx
  rcases h2c with ⟨hx, _⟩ | ⟨_, _, c2, l2, b2, d2, e2, q1, q2, q3⟩
  · exact absurd hf hx
  exact ⟨c1, l1, b1, d1, c2, l2, b2, d2, e1, e2, p1, p2, p3, q1, q2, q3⟩
def arrow : ByteArray := ⟨#[32, 45, 62, 32]⟩
theorem txtB_size {c : Cel} {l : List Cel} {b : List UInt8} {d : Nat} (h : Tx 0 (ar c) l b d) (ho : ∀ x ∈ c :: l, Okc x) (hl : (c :: l).length ≤ 64) : (txtB c b).size ≤ 640 := (txt_len h ho hl).1
section
variable {id : Int} {c1 c2 : Cel} {l1 l2 : List Cel} {b1 b2 : List UInt8} {d1 d2 : Nat} (h1 : Tx 0 (ar c1) l1 b1 d1) (o1 : ∀ x ∈ c1 :: l1, Okc x) (h2 : Tx 0 (ar c2) l2 b2 d2) (o2 : ∀ x ∈ c2 :: l2, Okc x)
include h1 o1 h2 o2
theorem ev_rprint (hr : ruleS id (c1 :: l1) (c2 :: l2) = 0) : Ev (fun k => rule_Print.f k id (c1 :: l1) (c2 :: l2)) ((txtB c1 b1 ++ arrow) ++ txtB c2 b2, 0) := by
  obtain ⟨_, _, p, q, _⟩ := ruleS_ok hr
  have s1 := txtB_size h1 o1 (by omega)
  have s2 := txtB_size h2 o2 (by omega)
  unfold rule_Print.f
  refine Ev.bind (ev_rch id _ _) (evIfp hr ?_)
  refine Ev.bind (ev_print h1 o1 (by omega)) (Ev.bind (ev_print h2 o2 (by omega)) ?_)
  refine evIfp (by show (txtB c1 b1).size + 4 ≤ _; omega) (evIfp ?_ (Ev.now _))
  show (txtB c1 b1 ++ arrow).size + (txtB c2 b2).size ≤ _
  rw [ByteArray.size_append]
  have : arrow.size = 4 := rfl
  omega
end
end Go.Proofs.YtpnamhplhdaphaaDoor.P

-- ==== PureRuleBack
/- A rule that is read is written as it was read, its sides with an arrow between: for all texts, the law answers true. -/
namespace Go.Proofs.YtpnamhplhdaphaaDoor.Pure
open Go.RowKit Go.Proofs.YtpnamhplhdaphaaDoor.P Go.Proofs.YtpnamhplhdaphaaDoorW.PrintWords
set_option linter.unusedVariables false
theorem RuleBack : aumbrylaw06_RuleBack.Pure := by
  intro s1 s2 _ _
  refine Ev.rounds ?_
  unfold aumbrylaw06_RuleBack.f
  refine Ev.bind ev_wakes6 (evIfp rfl ?_)
  obtain ⟨l, r, e, h1, _, h3, h4, h5⟩ := ev_rparse s1 s2
  refine Ev.bind h1 ?_
  rcases h5 with ⟨he, rfl, rfl⟩ | ⟨rfl, hr, c1, l1, b1, d1, c2, l2, b2, d2, rfl, rfl, p1, p2, p3, q1, q2, q3⟩
  · refine evIfn he ?_
    exact Ev.bind (ev_rsame 0 [] [] (by simp) (by simp)) (Ev.now _)
  · refine evIfp rfl ?_
    refine Ev.bind (ev_rprint p1 p2 q1 q2 hr) (evIfp rfl ?_)
    have e1 : s1 = txtB c1 b1 := bl_inj (by rw [txt_bl]; exact p3)
    have e2 : s2 = txtB c2 b2 := bl_inj (by rw [txt_bl]; exact q3)
    have z1 := txtB_size p1 p2 h3
    have z2 := txtB_size q1 q2 h4
    subst e1 e2
    refine evIfp (by omega) (evIfp ?_ ?_)
    · show (txtB c1 b1 ++ arrow).size + (txtB c2 b2).size ≤ _
      rw [ByteArray.size_append]
      have : arrow.size = 4 := rfl
      omega
    · refine evIfp rfl ?_
      refine Ev.bind (ev_rch 0 _ _) ?_
      have he : (ruleS 0 (c1 :: l1) (c2 :: l2) == 0) = true := by rw [hr]; rfl
      simp only [he]
      exact Ev.now _
end Go.Proofs.YtpnamhplhdaphaaDoor.Pure

-- ==== RowRuleBack
namespace Go.Proofs.YtpnamhplhdaphaaDoor.ruleBack
open Go.ChangeShapes Go.WideShapes Go.ChangeAt Go.RowKit Go.Proofs.YtpnamhplhdaphaaDoorW.PrintWords Go.Proofs.YtpnamhplhdaphaaDoor.P Go.Proofs.YtpnamhplhdaphaaDoor.Open
open Go.ChangeMaps (open_string shut_string)
set_option linter.unusedVariables false
theorem own : ownKnob Tryd.prog.godebug = none := by kernel_rfl
theorem laidOut : laidOutB Tryd.prog = true := by kernel_rfl
set_option maxRecDepth 100000 in
theorem core {H : Type} {enc : TypeId × Value → H} (W : World) (base : Nat) (args : Array Value) (ds gs : List (DataW H)) (before : List MemPlace)
    (hval : ∀ (j : Nat) t v, Tryd.f6.params[j]? = some t → args[j]? = some v → Value.okWide Tryd.prog W .any base t v)
    (hW : DataW.Whole enc Tryd.prog Tryd.f6.params.toList Rows.ruleBackSpec.vars false W args.toList ds gs before)
    (hsz : (DataW.weightsEach Tryd.prog (Tryd.f6.params.toList ++ Rows.ruleBackSpec.plain.varTypes Tryd.prog) (ds ++ gs)).all (· ≤ reachBytes) = true)
    :
    Calls Tryd.prog 6 args W fun e W' => ∃ v, e = .returned v ∧ Rows.ruleBackSpec.post enc Tryd.prog Tryd.f6 false true false false W args v W' := by
  have hW' := hW
  obtain ⟨p, q, hA, hV, rfl, hfz, hnd⟩ := hW
  rw [Tryd.params6] at hA hval hsz
  obtain ⟨v0, vs0, d0, ds0, p0, q0, hargs, rfl, rfl, h0, r0⟩ := trodAll_cons hA
  obtain ⟨v1, vs1, d1, ds1, p1, q1, rfl, rfl, rfl, h1, r1⟩ := trodAll_cons r0
  obtain ⟨rfl, rfl, rfl⟩ := trodAll_nil r1
  obtain rfl : args = #[v0, v1] := by cases args; simp_all
  obtain ⟨rfl, rfl⟩ := trodVars_none hV
  have k0 := h0
  obtain ⟨n0, hf0⟩ := h0
  obtain ⟨x0, hK0, hS0, hB0⟩ := op9.go hf0 (fun m hm => by have := List.all_eq_true.1 hsz m (DataW.weights_mem_each (j := 0) rfl rfl m hm); simpa using this)
  have lt0 : ∀ z ∈ p0, z.block < W.heap.size := by obtain ⟨m, hm⟩ := k0; exact DataW.trod_lt m _ _ _ hm
  obtain ⟨y0, rfl⟩ := okWide_string Tryd.underlying9 (hval 0 9 v0 rfl rfl)
  have hcs0' : [_] = [_] := hK0
  injection hcs0' with hcs0'
  injection hcs0' with hq0
  subst hq0
  have k1 := h1
  obtain ⟨n1, hf1⟩ := h1
  obtain ⟨x1, hK1, hS1, hB1⟩ := op9.go hf1 (fun m hm => by have := List.all_eq_true.1 hsz m (DataW.weights_mem_each (j := 1) rfl rfl m hm); simpa using this)
  have lt1 : ∀ z ∈ p1, z.block < W.heap.size := by obtain ⟨m, hm⟩ := k1; exact DataW.trod_lt m _ _ _ hm
  obtain ⟨y1, rfl⟩ := okWide_string Tryd.underlying9 (hval 1 9 v1 rfl rfl)
  have hcs1' : [_] = [_] := hK1
  injection hcs1' with hcs1'
  injection hcs1' with hq1
  subst hq1
  obtain ⟨k, h⟩ := Pure.RuleBack y0 y1 hS0 hS1
  refine (aumbrylaw06_RuleBack.calls k y0 y1 true W h).mono ?_
  rintro e W' ⟨rfl, hd⟩
  have bel : Below W.heap.size W W' := hd
  exact ⟨_, rfl, _, _, _, [], _, [], hW', trodAll_mk1 (shut_bool Tryd.underlying4 _), (trodAll_cons_mk (Below.trod laidOut (by kernel_rfl) (of_decide_eq_true (by kernel_rfl)) k0 bel lt0) (trodAll_cons_mk (Below.trod laidOut (by kernel_rfl) (of_decide_eq_true (by kernel_rfl)) k1 bel lt1) trodAll_mk0)), rfl, bel.frame _, fun h => by cases h⟩
set_option maxRecDepth 100000 in
theorem laid_met (os : Os) : laidMet Tryd.prog Rows.ruleBackRow.laid ((World.laidAll Tryd.prog os Rows.ruleBackRow.laid).forCall (fun _ _ => 0) ⟨#[], #[.string ByteArray.empty, .string ByteArray.empty], []⟩).memory :=
  laidMet_laidAll _ (by kernel_rfl) (by kernel_rfl)
set_option maxRecDepth 100000 in
theorem reads (os : Os) {H : Type} (enc : TypeId × Value → H) : (DataW.whole enc Tryd.prog ((World.laidAll Tryd.prog os Rows.ruleBackRow.laid).forCall (fun _ _ => 0) ⟨#[], #[.string ByteArray.empty, .string ByteArray.empty], []⟩).memory Tryd.f6.params.toList Rows.ruleBackSpec.vars false (#[.string ByteArray.empty, .string ByteArray.empty] : Array Value).toList 8).isSome = true := by kernel_rfl
set_option maxRecDepth 100000 in
theorem lifted (os : Os) (started : os.Started) (H : Type) (enc : TypeId × Value → H) (F : Stop.Interp) :
    ReturnsInHanded {} Tryd.checked os 6 .any ((OpenSpec.ofChange Rows.ruleBackSpec).preRow enc Tryd.prog Tryd.f6 Rows.ruleBackRow.domain false Rows.ruleBackRow.laid) (((OpenSpec.ofChange Rows.ruleBackSpec).at F).post enc Tryd.prog Tryd.f6 false true false false) := by
  obtain ⟨x, hx⟩ := Option.isSome_iff_exists.1 (reads os enc)
  refine returnsInHanded_of_row (C := Tryd.checked) (s := OpenSpec.ofChange Rows.ruleBackSpec) own started (by kernel_rfl) Tryd.func6
    (witness_row_at (enc := enc) (C := Tryd.checked) false (World.laidAll Tryd.prog os Rows.ruleBackRow.laid) #[.string ByteArray.empty, .string ByteArray.empty] rfl (by kernel_rfl) (by kernel_rfl) (by kernel_rfl)
      (OpenSpec.preRow_of_cond 8 hx rfl (fun k hk => by cases hk) (by kernel_rfl) (laid_met os))) ?_
  intro W base args ds gs before hval0 hW _ _ hsz0 _ _ _
  exact core W base args ds gs before hval0 hW hsz0
theorem said : Rows.RuleBackSaid :=
  OpenClaim.holds_of_cond 6 Tryd.f6 rfl rfl rfl rfl rfl rfl rfl ⟨rfl, rfl, rfl, rfl, rfl⟩ rfl rfl rfl rfl rfl (by kernel_rfl) Tryd.func6 (by kernel_rfl)
    (of_decide_eq_true (by kernel_rfl)) (by unfold Func.isWrapper; first | (rw [if_pos (by decide +kernel)]; kernel_rfl) | (rw [if_neg (by decide +kernel)]; exact ⟨rfl, rfl⟩))
    (fun os started H enc _ F => by rw [OpenClaim.pre_eq_preRow]; exact lifted os started H enc F)
theorem plain (f : FuncId) (fn : Func) (hf : Tryd.pinned.checked.prog.funcNamed "aumbry/aumbrylaw06.RuleBack" = some f) (hfn : Tryd.pinned.checked.prog.funcs[f]? = some fn) :
    true = Tryd.pinned.checked.prog.looks [] ∧ ∀ (j : Nat) t, fn.params[j]? = some t → Tryd.pinned.checked.prog.wantsStandIn t = false := by
  obtain rfl : f = 6 := Option.some.inj ((show Tryd.prog.funcNamed "aumbry/aumbrylaw06.RuleBack" = some 6 by kernel_rfl).symm.trans hf) |>.symm
  obtain rfl : fn = Tryd.f6 := (Option.some.inj (Tryd.func6.symm.trans hfn)).symm
  refine ⟨by kernel_rfl, fun j t ht => ?_⟩
  rw [Tryd.params6] at ht
  have hm := Array.mem_of_getElem? ht
  obtain rfl : t = 9 := by simpa using hm
  exact (show Tryd.prog.wantsStandIn 9 = false by kernel_rfl)
theorem card : Rows.RuleBackCardSaid :=
  Claim7.holds_tied_plain_at .later [] _ _ _ _ said (fun _ h => by cases h) (by kernel_rfl) (fun _ h => by cases h) ruleBack_row_tie rfl ⟨rfl, rfl⟩ (by kernel_rfl) rfl plain (by kernel_rfl)
end Go.Proofs.YtpnamhplhdaphaaDoor.ruleBack
namespace Go.Proofs.YtpnamhplhdaphaaDoor
/-- The card, under a short name, for the claim. -/
theorem ruleBack_holds : Rows.RuleBackCardSaid := ruleBack.card
#print axioms ruleBack_holds
end Go.Proofs.YtpnamhplhdaphaaDoor
