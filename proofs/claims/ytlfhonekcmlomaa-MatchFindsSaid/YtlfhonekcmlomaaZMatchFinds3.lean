/- MatchFinds: the law answers true at every input that the given row speaks of. Conditions: those of the given row, none besides. (Part 4 of 4; written by programs of this session, which drive the kit's print, and by hand.) -/
import Derived.Test.YtlfhonekcmlomaaRows
import Derived.Test.YtlfhonekcmlomaaWWords
import Derived.Deep.Slices
import Derived.SizedLaws
import Derived.ChangeSame
import Derived.ChangeArms
import Derived.KernelRfl
import Derived.WalkKit
import Derived.ProofKit
import Derived.OpenShut
import Derived.ShutString
import Derived.ChangeOld
import Derived.Below
import Derived.Carry
import Derived.Test.YtlfhonekcmlomaaZMatchFinds0
import Derived.Test.YtlfhonekcmlomaaZMatchFinds1
import Derived.Test.YtlfhonekcmlomaaZMatchFinds2
-- ==== PF9
namespace Go.Proofs.Ytlfhonekcmlomaa.P
open Go.RowKit Go.Proofs.YtlfhonekcmlomaaW.PrintWords Go.Proofs.YtlfhonekcmlomaaW.PrintLast Go.Proofs.YtlfhonekcmlomaaW.PrintMore
attribute [local go_sem] max2_int min2_int max_two min_two max_three min_three max_four min_four   -- for this text's walks alone
set_option linter.unusedVariables false
set_option linter.unusedSimpArgs false

/-! ### aumbrylaw05_wakes: function 9 -/
def aumbrylaw05_wakes.f (k : Nat)  : Option (Bool) := (match_Match.f k (([(⟨(⟨#[103]⟩ : ByteArray), 2⟩ : S47), (⟨(⟨#[88]⟩ : ByteArray), 0⟩ : S47), (⟨(⟨#[89]⟩ : ByteArray), 0⟩ : S47)] : List (S47))) (([(⟨(⟨#[103]⟩ : ByteArray), 2⟩ : S47), (⟨(⟨#[97]⟩ : ByteArray), 0⟩ : S47), (⟨(⟨#[98]⟩ : ByteArray), 0⟩ : S47)] : List (S47)))).bind fun bt107 => ((match_Fill.f k (([(⟨(⟨#[89]⟩ : ByteArray), 0⟩ : S47)] : List (S47))) bt107.1).bind fun bt115 => (if bt107.2.1 = true then (if bt107.2.2 = 0 then (if bt115.2 = 0 then (if (bt107.1.length : Int) = 2 then (if 0 < (bt107.1.length : Int) then (if ((rd_T44 bt107.1 0).f0).toList = ([88] : List UInt8) then (if (bt115.1.length : Int) = 1 then (if 0 < (bt115.1.length : Int) then (some (((rd_T47 bt115.1 0).f0).toList == ([98] : List UInt8))) else (none)) else (some false)) else (some false)) else (none)) else (some false)) else (some false)) else (some false)) else (some false)))
theorem aumbrylaw05_wakes.mono : ∀ k, LeO (aumbrylaw05_wakes.f k ) (aumbrylaw05_wakes.f (k + 1) ) := by
  intro  k
  unfold aumbrylaw05_wakes.f
  repeat' first
      | (with_reducible exact match_Fill.mono _ _ _)
      | (with_reducible exact match_Match.mono _ _ _)
      | (with_reducible exact LeO.refl _)
      | (with_reducible exact LeO.none _)
      | (with_reducible refine LeO.ite ?_ ?_)
      | (with_reducible refine LeO.bind ?_ (fun _ => ?_))
      | exact match_Fill.mono _ _ _
      | exact match_Match.mono _ _ _
      | exact LeO.none _
      | refine LeO.ite ?_ ?_
      | refine LeO.bind ?_ (fun _ => ?_)
set_option maxHeartbeats 8000000 in
set_option maxRecDepth 100000 in
theorem aumbrylaw05_wakes.calls (k : Nat)  (r : Bool) (w : World) (h : aumbrylaw05_wakes.f k  = some r) :
    Calls Try.prog 9 #[] w fun e w' => e = .returned (.bool r) ∧ Below w.heap.size w w' := by
  have hu47 := Try.underlying47
  have HB := Aside0.mk (Below.refl w.heap.size w)
  have H : ((match_Match.f k (([(⟨(⟨#[103]⟩ : ByteArray), 2⟩ : S47), (⟨(⟨#[88]⟩ : ByteArray), 0⟩ : S47), (⟨(⟨#[89]⟩ : ByteArray), 0⟩ : S47)] : List (S47))) (([(⟨(⟨#[103]⟩ : ByteArray), 2⟩ : S47), (⟨(⟨#[97]⟩ : ByteArray), 0⟩ : S47), (⟨(⟨#[98]⟩ : ByteArray), 0⟩ : S47)] : List (S47)))).bind fun bt107 => ((match_Fill.f k (([(⟨(⟨#[89]⟩ : ByteArray), 0⟩ : S47)] : List (S47))) bt107.1).bind fun bt115 => (if bt107.2.1 = true then (if bt107.2.2 = 0 then (if bt115.2 = 0 then (if (bt107.1.length : Int) = 2 then (if 0 < (bt107.1.length : Int) then (if ((rd_T44 bt107.1 0).f0).toList = ([88] : List UInt8) then (if (bt115.1.length : Int) = 1 then (if 0 < (bt115.1.length : Int) then (some (((rd_T47 bt115.1 0).f0).toList == ([98] : List UInt8))) else (none)) else (some false)) else (some false)) else (none)) else (some false)) else (some false)) else (some false)) else (some false)))) = some r := h
  clear h
  obtain ⟨y101, hy101⟩ : ∃ y_ : List (S47), y_ = (([(⟨(⟨#[103]⟩ : ByteArray), 2⟩ : S47), (⟨(⟨#[88]⟩ : ByteArray), 0⟩ : S47), (⟨(⟨#[89]⟩ : ByteArray), 0⟩ : S47)] : List (S47))) := ⟨_, rfl⟩
  replace H : ((match_Match.f k y101 (([(⟨(⟨#[103]⟩ : ByteArray), 2⟩ : S47), (⟨(⟨#[97]⟩ : ByteArray), 0⟩ : S47), (⟨(⟨#[98]⟩ : ByteArray), 0⟩ : S47)] : List (S47)))).bind fun bt107 => ((match_Fill.f k (([(⟨(⟨#[89]⟩ : ByteArray), 0⟩ : S47)] : List (S47))) bt107.1).bind fun bt115 => (if bt107.2.1 = true then (if bt107.2.2 = 0 then (if bt115.2 = 0 then (if (bt107.1.length : Int) = 2 then (if 0 < (bt107.1.length : Int) then (if ((rd_T44 bt107.1 0).f0).toList = ([88] : List UInt8) then (if (bt115.1.length : Int) = 1 then (if 0 < (bt115.1.length : Int) then (some (((rd_T47 bt115.1 0).f0).toList == ([98] : List UInt8))) else (none)) else (some false)) else (some false)) else (none)) else (some false)) else (some false)) else (some false)) else (some false)))) = some r := by first | (rw [hy101]; with_reducible exact H) | (have H2_ := (Option.bind_some _ _).symm.trans H; rw [hy101]; with_reducible exact H2_) | (have H2_ := (Option.bind_some _ _).symm.trans H; with_reducible exact H2_) | with_reducible exact H | (rw [hy101]; exact H) | exact H
  have Ny101 := Aside0.mk hy101
  clear hy101
  obtain ⟨y104, hy104⟩ : ∃ y_ : List (S47), y_ = (([(⟨(⟨#[103]⟩ : ByteArray), 2⟩ : S47), (⟨(⟨#[97]⟩ : ByteArray), 0⟩ : S47), (⟨(⟨#[98]⟩ : ByteArray), 0⟩ : S47)] : List (S47))) := ⟨_, rfl⟩
  replace H : ((match_Match.f k y101 y104).bind fun bt107 => ((match_Fill.f k (([(⟨(⟨#[89]⟩ : ByteArray), 0⟩ : S47)] : List (S47))) bt107.1).bind fun bt115 => (if bt107.2.1 = true then (if bt107.2.2 = 0 then (if bt115.2 = 0 then (if (bt107.1.length : Int) = 2 then (if 0 < (bt107.1.length : Int) then (if ((rd_T44 bt107.1 0).f0).toList = ([88] : List UInt8) then (if (bt115.1.length : Int) = 1 then (if 0 < (bt115.1.length : Int) then (some (((rd_T47 bt115.1 0).f0).toList == ([98] : List UInt8))) else (none)) else (some false)) else (some false)) else (none)) else (some false)) else (some false)) else (some false)) else (some false)))) = some r := by first | (rw [hy104]; with_reducible exact H) | (have H2_ := (Option.bind_some _ _).symm.trans H; rw [hy104]; with_reducible exact H2_) | (have H2_ := (Option.bind_some _ _).symm.trans H; with_reducible exact H2_) | with_reducible exact H | (rw [hy104]; exact H) | exact H
  have Ny104 := Aside0.mk hy104
  clear hy104
  replace H := Option.bind_eq_some_iff.mp H
  obtain ⟨⟨t107, t108, t109⟩, A10, H⟩ := H
  replace H : ((match_Fill.f k (([(⟨(⟨#[89]⟩ : ByteArray), 0⟩ : S47)] : List (S47))) t107).bind fun bt115 => (if t108 = true then (if t109 = 0 then (if bt115.2 = 0 then (if (t107.length : Int) = 2 then (if 0 < (t107.length : Int) then (if ((rd_T44 t107 0).f0).toList = ([88] : List UInt8) then (if (bt115.1.length : Int) = 1 then (if 0 < (bt115.1.length : Int) then (some (((rd_T47 bt115.1 0).f0).toList == ([98] : List UInt8))) else (none)) else (some false)) else (some false)) else (none)) else (some false)) else (some false)) else (some false)) else (some false))) = some r := H
  have A1 := Aside0.mk A10
  clear A10
  obtain ⟨y112, hy112⟩ : ∃ y_ : List (S47), y_ = (([(⟨(⟨#[89]⟩ : ByteArray), 0⟩ : S47)] : List (S47))) := ⟨_, rfl⟩
  replace H : ((match_Fill.f k y112 t107).bind fun bt115 => (if t108 = true then (if t109 = 0 then (if bt115.2 = 0 then (if (t107.length : Int) = 2 then (if 0 < (t107.length : Int) then (if ((rd_T44 t107 0).f0).toList = ([88] : List UInt8) then (if (bt115.1.length : Int) = 1 then (if 0 < (bt115.1.length : Int) then (some (((rd_T47 bt115.1 0).f0).toList == ([98] : List UInt8))) else (none)) else (some false)) else (some false)) else (none)) else (some false)) else (some false)) else (some false)) else (some false))) = some r := by first | (rw [hy112]; with_reducible exact H) | (have H2_ := (Option.bind_some _ _).symm.trans H; rw [hy112]; with_reducible exact H2_) | (have H2_ := (Option.bind_some _ _).symm.trans H; with_reducible exact H2_) | with_reducible exact H | (rw [hy112]; exact H) | exact H
  have Ny112 := Aside0.mk hy112
  clear hy112
  replace H := Option.bind_eq_some_iff.mp H
  obtain ⟨⟨t115, t116⟩, A20, H⟩ := H
  replace H : (if t108 = true then (if t109 = 0 then (if t116 = 0 then (if (t107.length : Int) = 2 then (if 0 < (t107.length : Int) then (if ((rd_T44 t107 0).f0).toList = ([88] : List UInt8) then (if (t115.length : Int) = 1 then (if 0 < (t115.length : Int) then (some (((rd_T47 t115 0).f0).toList == ([98] : List UInt8))) else (none)) else (some false)) else (some false)) else (none)) else (some false)) else (some false)) else (some false)) else (some false)) = some r := H
  have A2 := Aside0.mk A20
  clear A20
  by_cases c3 : t108 = true
  · subst c3
    have H1 : (if t109 = 0 then (if t116 = 0 then (if (t107.length : Int) = 2 then (if 0 < (t107.length : Int) then (if ((rd_T44 t107 0).f0).toList = ([88] : List UInt8) then (if (t115.length : Int) = 1 then (if 0 < (t115.length : Int) then (some (((rd_T47 t115 0).f0).toList == ([98] : List UInt8))) else (none)) else (some false)) else (some false)) else (none)) else (some false)) else (some false)) else (some false)) = some r := by rw [if_pos rfl] at H; exact H
    clear H
    have H := H1
    clear H1
    by_cases c4 : t109 = 0
    · rw [if_pos c4] at H
      have c4b0 : (t109 == 0) = true := beq_iff_eq.mpr c4
      have c4b1 : (t109 != 0) = false := bne_eq_false_iff_eq.mpr c4
      clear c4
      by_cases c5 : t116 = 0
      · rw [if_pos c5] at H
        have c5b0 : (t116 == 0) = true := beq_iff_eq.mpr c5
        have c5b1 : (t116 != 0) = false := bne_eq_false_iff_eq.mpr c5
        clear c5
        by_cases c6 : (t107.length : Int) = 2
        · rw [if_pos c6] at H
          have c6b0 : ((t107.length : Int) == 2) = true := beq_iff_eq.mpr c6
          have c6b1 : ((t107.length : Int) != 2) = false := bne_eq_false_iff_eq.mpr c6
          clear c6
          by_cases c7 : 0 < (t107.length : Int)
          · rw [if_pos c7] at H
            have c7b0 : decide (0 < (t107.length : Int)) = true := decide_eq_true c7
            have c7b1 : decide (0 < t107.length) = true := decide_eq_true (by omega)
            clear c7
            by_cases c8 : ((rd_T44 t107 0).f0).toList = ([88] : List UInt8)
            · rw [if_pos c8] at H
              have c8b0 : (((rd_T44 t107 0).f0).toList == ([88] : List UInt8)) = true := beq_iff_eq.mpr c8
              have c8b1 : (((rd_T44 t107 0).f0).toList != ([88] : List UInt8)) = false := bne_eq_false_iff_eq.mpr c8
              clear c8
              by_cases c9 : (t115.length : Int) = 1
              · rw [if_pos c9] at H
                have c9b0 : ((t115.length : Int) == 1) = true := beq_iff_eq.mpr c9
                have c9b1 : ((t115.length : Int) != 1) = false := bne_eq_false_iff_eq.mpr c9
                clear c9
                by_cases c10 : 0 < (t115.length : Int)
                · rw [if_pos c10] at H
                  have c10b0 : decide (0 < (t115.length : Int)) = true := decide_eq_true c10
                  have c10b1 : decide (0 < t115.length) = true := decide_eq_true (by omega)
                  clear c10
                  obtain rfl := Option.some.inj H
                  go_enter Try.func9, Try.ntmps9
                  go_wp2_with (first | ((with_reducible refine gate_dst (N := 11) rfl ?_); (try (refine gate_guard (by rfl) ?_; dsimp only)); refine Kd.R_lit k47 _ 47 ?hg (N := 11) ?hd (xs := ([(⟨(⟨#[103]⟩ : ByteArray), 2⟩ : S47), (⟨(⟨#[88]⟩ : ByteArray), 0⟩ : S47), (⟨(⟨#[89]⟩ : ByteArray), 0⟩ : S47)] : List (S47))) (inner := [.string (⟨#[103]⟩ : ByteArray), .int .i64 2, .string (⟨#[88]⟩ : ByteArray), .int .i64 0, .string (⟨#[89]⟩ : ByteArray), .int .i64 0]) (ok := fun _ => True) (okp := fun _ => True) ?hr ?hp (fun _ hk => hk) trivial (Below.refl _ _) (Nat.le_refl _) (by simp) ?_; (case hd => rfl); (case hg => rfl); (case hr => first | (go_simp; done) | (go_simp; rfl)); (case hp => exact (Reps.c2 (show Kd.M k47 _ _ _ (⟨(⟨#[103]⟩ : ByteArray), 2⟩ : S47) [.string (⟨#[103]⟩ : ByteArray), .int .i64 2] from (k47_mkM _ _ _ (⟨(⟨#[103]⟩ : ByteArray), 2⟩ : S47) )) (Reps.c2 (show Kd.M k47 _ _ _ (⟨(⟨#[88]⟩ : ByteArray), 0⟩ : S47) [.string (⟨#[88]⟩ : ByteArray), .int .i64 0] from (k47_mkM _ _ _ (⟨(⟨#[88]⟩ : ByteArray), 0⟩ : S47) )) (Reps.c2 (show Kd.M k47 _ _ _ (⟨(⟨#[89]⟩ : ByteArray), 0⟩ : S47) [.string (⟨#[89]⟩ : ByteArray), .int .i64 0] from (k47_mkM _ _ _ (⟨(⟨#[89]⟩ : ByteArray), 0⟩ : S47) )) (Reps.none _ _))))); intro v102 w11 ho12 hb hg_ hnew_; clear hg_ hnew_; (first | rw [← Ny101.out] at ho12 | (simp only [Int.reduceToNat] at ho12; rw [← Ny101.out] at ho12)); have n0_ := Aside0.mk (Kd.R_lower ho12 (below_size (by repeat (first | (with_reducible first | exact HB.out | apply below_alloc | apply pw_below_drewN | apply below_drew1) | exact HB.out)))); have n1_ := Aside0.mk (below_step (by repeat (first | (with_reducible first | exact HB.out | apply below_alloc | apply pw_below_drewN | apply below_drew1) | exact HB.out)) hb); clear HB; have HO103 := n0_; have HB := n1_; clear n0_ n1_; clear hb ho12) | ((with_reducible refine gate_dst (N := 15) rfl ?_); (try (refine gate_guard (by rfl) ?_; dsimp only)); refine Kd.R_lit k47 _ 47 ?hg (N := 15) ?hd (xs := ([(⟨(⟨#[103]⟩ : ByteArray), 2⟩ : S47), (⟨(⟨#[97]⟩ : ByteArray), 0⟩ : S47), (⟨(⟨#[98]⟩ : ByteArray), 0⟩ : S47)] : List (S47))) (inner := [.string (⟨#[103]⟩ : ByteArray), .int .i64 2, .string (⟨#[97]⟩ : ByteArray), .int .i64 0, .string (⟨#[98]⟩ : ByteArray), .int .i64 0]) (ok := fun _ => True) (okp := fun _ => True) ?hr ?hp (fun _ hk => hk) trivial (Below.refl _ _) (Nat.le_refl _) (by simp) ?_; (case hd => rfl); (case hg => rfl); (case hr => first | (go_simp; done) | (go_simp; rfl)); (case hp => exact (Reps.c2 (show Kd.M k47 _ _ _ (⟨(⟨#[103]⟩ : ByteArray), 2⟩ : S47) [.string (⟨#[103]⟩ : ByteArray), .int .i64 2] from (k47_mkM _ _ _ (⟨(⟨#[103]⟩ : ByteArray), 2⟩ : S47) )) (Reps.c2 (show Kd.M k47 _ _ _ (⟨(⟨#[97]⟩ : ByteArray), 0⟩ : S47) [.string (⟨#[97]⟩ : ByteArray), .int .i64 0] from (k47_mkM _ _ _ (⟨(⟨#[97]⟩ : ByteArray), 0⟩ : S47) )) (Reps.c2 (show Kd.M k47 _ _ _ (⟨(⟨#[98]⟩ : ByteArray), 0⟩ : S47) [.string (⟨#[98]⟩ : ByteArray), .int .i64 0] from (k47_mkM _ _ _ (⟨(⟨#[98]⟩ : ByteArray), 0⟩ : S47) )) (Reps.none _ _))))); intro v105 w13 ho14 hb hg_ hnew_; clear hg_ hnew_; (first | rw [← Ny104.out] at ho14 | (simp only [Int.reduceToNat] at ho14; rw [← Ny104.out] at ho14)); have n0_ := Aside0.mk (Kd.R_elder' (by (with_reducible repeat (first | apply Kd.R_alloc | apply Kd.R_drewN | apply Kd.R_drew)); exact HO103.out) (Kd.R_base ho14) hb); have n1_ := Aside0.mk (Kd.R_lower (Kd.R_new' ho14 (Kd.R_lt (by (with_reducible repeat (first | apply Kd.R_alloc | apply Kd.R_drewN | apply Kd.R_drew)); exact HO103.out))) (below_size (by repeat (first | (with_reducible first | exact HB.out | apply below_alloc | apply pw_below_drewN | apply below_drew1) | exact HB.out)))); have n2_ := Aside0.mk (below_step (by repeat (first | (with_reducible first | exact HB.out | apply below_alloc | apply pw_below_drewN | apply below_drew1) | exact HB.out)) hb); clear HO103; clear HB; have HO103 := n0_; have HO106 := n1_; have HB := n2_; clear n0_ n1_ n2_; clear hb ho14; obtain ⟨Ao15, co15, eo15⟩ := Kd.R_slice HO103.out; subst eo15; obtain ⟨Ao16, co16, eo16⟩ := Kd.R_slice HO106.out; subst eo16) | ((with_reducible refine gate_callee (f := 10) rfl ?_); refine goesL_ (some 19) rfl rfl Try.func10 (by kernel_rfl) rfl #[.slice Ao15 y101.length co15, .slice Ao16 y104.length co16] rfl (by (try simp only [List.map_toArray, List.map_cons, List.map_nil]); first | done | rfl | (simp only [List.length_drop, List.length_take]; rfl)) ?_; (with_reducible refine (match_Match.calls k _ _ y101 _ _ y104 t107 true t109 _ ?side1 ?side2 ?side3 ?side4 A1.out).mono ?_); (case side1 => repeat (first | exact (Kd.R_reads' HO103.out).2.2 | (with_reducible refine Kd.C_alloc ?_ _) | (with_reducible refine Kd.C_drewN ?_ _) | (with_reducible refine Kd.C_drew ?_))); (case side2 => exact (Kd.R_reads' HO103.out).2.1); (case side3 => repeat (first | exact (Kd.R_reads' HO106.out).2.2 | (with_reducible refine Kd.C_alloc ?_ _) | (with_reducible refine Kd.C_drewN ?_ _) | (with_reducible refine Kd.C_drew ?_))); (case side4 => exact (Kd.R_reads' HO106.out).2.1); rintro e w17 ⟨v110, rfl, ho0, hb⟩; refine ⟨_, rfl, ?_⟩; have n0_ := Aside0.mk (Kd.R_below (by (with_reducible repeat (first | apply Kd.R_alloc | apply Kd.R_drewN | apply Kd.R_drew)); exact HO103.out) hb); have n1_ := Aside0.mk (Kd.R_below (by (with_reducible repeat (first | apply Kd.R_alloc | apply Kd.R_drewN | apply Kd.R_drew)); exact HO106.out) hb); have n2_ := Aside0.mk (Kd.S_lower (Kd.S_new' (Kd.S_new' ho0 (Kd.R_lt (by (with_reducible repeat (first | apply Kd.R_alloc | apply Kd.R_drewN | apply Kd.R_drew)); exact HO103.out))) (Kd.R_lt (by (with_reducible repeat (first | apply Kd.R_alloc | apply Kd.R_drewN | apply Kd.R_drew)); exact HO106.out))) (below_size (by repeat (first | (with_reducible first | exact HB.out | apply below_alloc | apply pw_below_drewN | apply below_drew1) | exact HB.out)))); have n3_ := Aside0.mk (below_step (by repeat (first | (with_reducible first | exact HB.out | apply below_alloc | apply pw_below_drewN | apply below_drew1) | exact HB.out)) hb); clear HO103; clear HO106; clear HB; have HO103 := n0_; have HO106 := n1_; have HO111 := n2_; have HB := n3_; clear n0_ n1_ n2_ n3_; (try clear hb); (try clear hb2); (try clear hk); (try clear hi); (try clear ho0)) | ((with_reducible refine gate_dst (N := 25) rfl ?_); (try (refine gate_guard (by rfl) ?_; dsimp only)); refine Kd.R_lit k47 _ 47 ?hg (N := 25) ?hd (xs := ([(⟨(⟨#[89]⟩ : ByteArray), 0⟩ : S47)] : List (S47))) (inner := [.string (⟨#[89]⟩ : ByteArray), .int .i64 0]) (ok := fun _ => True) (okp := fun _ => True) ?hr ?hp (fun _ hk => hk) trivial (Below.refl _ _) (Nat.le_refl _) (by simp) ?_; (case hd => rfl); (case hg => rfl); (case hr => first | (go_simp; done) | (go_simp; rfl)); (case hp => exact (Reps.c2 (show Kd.M k47 _ _ _ (⟨(⟨#[89]⟩ : ByteArray), 0⟩ : S47) [.string (⟨#[89]⟩ : ByteArray), .int .i64 0] from (k47_mkM _ _ _ (⟨(⟨#[89]⟩ : ByteArray), 0⟩ : S47) )) (Reps.none _ _))); intro v113 w18 ho19 hb hg_ hnew_; clear hg_ hnew_; (first | rw [← Ny112.out] at ho19 | (simp only [Int.reduceToNat] at ho19; rw [← Ny112.out] at ho19)); have n0_ := Aside0.mk (Kd.R_elder' (by (with_reducible repeat (first | apply Kd.R_alloc | apply Kd.R_drewN | apply Kd.R_drew)); exact HO103.out) (Kd.R_base ho19) hb); have n1_ := Aside0.mk (Kd.R_elder' (by (with_reducible repeat (first | apply Kd.R_alloc | apply Kd.R_drewN | apply Kd.R_drew)); exact HO106.out) (Kd.R_base ho19) hb); have n2_ := Aside0.mk (Kd.S_elder' (by (with_reducible repeat (first | apply Kd.S_alloc | apply Kd.S_drewN | apply Kd.S_drew)); exact HO111.out) (Kd.R_base ho19) hb); have n3_ := Aside0.mk (Kd.R_lower (Kd.R_new' (Kd.R_new' ho19 (Kd.R_lt (by (with_reducible repeat (first | apply Kd.R_alloc | apply Kd.R_drewN | apply Kd.R_drew)); exact HO103.out))) (Kd.R_lt (by (with_reducible repeat (first | apply Kd.R_alloc | apply Kd.R_drewN | apply Kd.R_drew)); exact HO106.out))) (below_size (by repeat (first | (with_reducible first | exact HB.out | apply below_alloc | apply pw_below_drewN | apply below_drew1) | exact HB.out)))); have n4_ := Aside0.mk (below_step (by repeat (first | (with_reducible first | exact HB.out | apply below_alloc | apply pw_below_drewN | apply below_drew1) | exact HB.out)) hb); clear HO103; clear HO106; clear HO111; clear HB; have HO103 := n0_; have HO106 := n1_; have HO111 := n2_; have HO114 := n3_; have HB := n4_; clear n0_ n1_ n2_ n3_ n4_; clear hb ho19; obtain ⟨Ao20, co20, eo20⟩ := Kd.R_slice HO114.out; subst eo20; obtain ⟨Ao21, co21, eo21⟩ := Kd.S_slice HO111.out; subst eo21) | ((with_reducible refine gate_callee (f := 14) rfl ?_); refine goesL_ (some 27) rfl rfl Try.func14 (by kernel_rfl) rfl #[.slice Ao20 y112.length co20, .slice Ao21 t107.length co21] rfl (by (try simp only [List.map_toArray, List.map_cons, List.map_nil]); first | done | rfl | (simp only [List.length_drop, List.length_take]; rfl)) ?_; (with_reducible refine (match_Fill.calls k _ _ y112 _ _ t107 t115 t116 _ ?side1 ?side2 ?side3 ?side4 A2.out).mono ?_); (case side1 => repeat (first | exact (Kd.R_reads' HO114.out).2.2 | (with_reducible refine Kd.C_alloc ?_ _) | (with_reducible refine Kd.C_drewN ?_ _) | (with_reducible refine Kd.C_drew ?_))); (case side2 => exact (Kd.R_reads' HO114.out).2.1); (case side3 => repeat (first | exact (Kd.S_reads' HO111.out).2.2 | (with_reducible refine Kd.C_alloc ?_ _) | (with_reducible refine Kd.C_drewN ?_ _) | (with_reducible refine Kd.C_drew ?_))); (case side4 => exact (Kd.S_reads' HO111.out).2.1); rintro e w22 ⟨v117, rfl, ho0, hb⟩; refine ⟨_, rfl, ?_⟩; have n0_ := Aside0.mk (Kd.R_elder' (by (with_reducible repeat (first | apply Kd.R_alloc | apply Kd.R_drewN | apply Kd.R_drew)); exact HO103.out) (Kd.R_base ho0) hb); have n1_ := Aside0.mk (Kd.R_elder' (by (with_reducible repeat (first | apply Kd.R_alloc | apply Kd.R_drewN | apply Kd.R_drew)); exact HO106.out) (Kd.R_base ho0) hb); have n2_ := Aside0.mk (Kd.S_elder' (by (with_reducible repeat (first | apply Kd.S_alloc | apply Kd.S_drewN | apply Kd.S_drew)); exact HO111.out) (Kd.R_base ho0) hb); have n3_ := Aside0.mk (Kd.R_elder' (by (with_reducible repeat (first | apply Kd.R_alloc | apply Kd.R_drewN | apply Kd.R_drew)); exact HO114.out) (Kd.R_base ho0) hb); have n4_ := Aside0.mk (Kd.R_lower (Kd.R_new' (Kd.R_new' (Kd.R_new' ho0 (Kd.R_lt (by (with_reducible repeat (first | apply Kd.R_alloc | apply Kd.R_drewN | apply Kd.R_drew)); exact HO103.out))) (Kd.R_lt (by (with_reducible repeat (first | apply Kd.R_alloc | apply Kd.R_drewN | apply Kd.R_drew)); exact HO106.out))) (Kd.R_lt (by (with_reducible repeat (first | apply Kd.R_alloc | apply Kd.R_drewN | apply Kd.R_drew)); exact HO114.out))) (below_size (by repeat (first | (with_reducible first | exact HB.out | apply below_alloc | apply pw_below_drewN | apply below_drew1) | exact HB.out)))); have n5_ := Aside0.mk (below_step (by repeat (first | (with_reducible first | exact HB.out | apply below_alloc | apply pw_below_drewN | apply below_drew1) | exact HB.out)) hb); clear HO103; clear HO106; clear HO111; clear HO114; clear HB; have HO103 := n0_; have HO106 := n1_; have HO111 := n2_; have HO114 := n3_; have HO118 := n4_; have HB := n5_; clear n0_ n1_ n2_ n3_ n4_ n5_; (try clear hb); (try clear hb2); (try clear hk); (try clear hi); (try clear ho0); have p119 : 0 ≤ (0 : Int) := (by omega); have q119 : 0 < (t107.length : Int) := of_decide_eq_true (by first | (with_reducible assumption) | assumption); obtain ⟨ad119, A119_1, c119_1, e119, hx119_0, hx119_1, hl119_1, hi119_1⟩ := at_T44 (Kd.S_reads' HO111.out).2.2 0 p119 q119; cases e119; obtain ⟨ce119, hce119, hMe119, hcc119⟩ := Kd.S_get HO111.out z44 0 p119 (by first | exact q119 | exact of_decide_eq_true (by first | (with_reducible assumption) | assumption) | (have e_ := (Kd.S_reads' HO111.out).1; omega)); obtain ⟨ve119_1, rfl, ge119_1⟩ := k44_openM hMe119; have hv119_1 := hcc119 1 _ rfl; rw [add_field _ _ 1 (by omega)] at hv119_1; replace hv119_1 := Option.some.inj (hv119_1.symm.trans hx119_1); rw [hv119_1] at ge119_1; have HL119_1 := Aside0.mk (show Kd.R k47 47 _ _ _ _ ((rd_T44 t107 0).f1) from ge119_1); clear hv119_1 ge119_1; clear hcc119 hce119; have qi119 : (0 < t107.length) = True := eq_true (by omega); (try rw [show ((0 : Int)).toNat = 0 from rfl] at hx119_0); (try rw [show 0 * 2 = 0 from rfl] at hx119_0); (try rw [Addr.add_zero'] at hx119_0); (try rw [show ((0 : Int)).toNat = 0 from rfl] at hx119_1); (try rw [show 0 * 2 = 0 from rfl] at hx119_1); (try rw [Addr.add_zero'] at hx119_1); have HR119_1 := Aside0.mk hi119_1; have HC119_1 := Aside0.mk hl119_1; clear hi119_1 hl119_1; replace p119 := eq_true p119; replace q119 := eq_true q119; obtain ⟨Ao23, co23, eo23⟩ := Kd.R_slice HO118.out; subst eo23; have p120 : 0 ≤ (0 : Int) := (by omega); have q120 : 0 < (t115.length : Int) := of_decide_eq_true (by first | (with_reducible assumption) | assumption); obtain ⟨ad120, e120, hx120_0, hx120_1⟩ := at_T47 (Kd.R_reads' HO118.out).2.2 0 p120 q120; cases e120; have qi120 : (0 < t115.length) = True := eq_true (by omega); (try rw [show ((0 : Int)).toNat = 0 from rfl] at hx120_0); (try rw [show 0 * 2 = 0 from rfl] at hx120_0); (try rw [Addr.add_zero'] at hx120_0); (try rw [show ((0 : Int)).toNat = 0 from rfl] at hx120_1); (try rw [show 0 * 2 = 0 from rfl] at hx120_1); (try rw [Addr.add_zero'] at hx120_1); replace p120 := eq_true p120; replace q120 := eq_true q120))
                  go_ret
                  exact ⟨by first | rfl | (simp [errW_none, errW_some] <;> rfl) | (simp [*, errW_none, errW_some] <;> rfl), by repeat (first | (with_reducible first | exact HB.out | apply below_alloc | apply pw_below_drewN | apply below_drew1) | exact HB.out)⟩
                · rw [if_neg c10] at H
                  exact absurd H (by simp)
              · rw [if_neg c9] at H
                have c9b0 : ((t115.length : Int) == 1) = false := beq_eq_false_iff_ne.mpr c9
                have c9b1 : ((t115.length : Int) != 1) = true := bne_iff_ne.mpr c9
                obtain rfl := Option.some.inj H
                go_enter Try.func9, Try.ntmps9
                go_wp2_with (first | ((with_reducible refine gate_dst (N := 11) rfl ?_); (try (refine gate_guard (by rfl) ?_; dsimp only)); refine Kd.R_lit k47 _ 47 ?hg (N := 11) ?hd (xs := ([(⟨(⟨#[103]⟩ : ByteArray), 2⟩ : S47), (⟨(⟨#[88]⟩ : ByteArray), 0⟩ : S47), (⟨(⟨#[89]⟩ : ByteArray), 0⟩ : S47)] : List (S47))) (inner := [.string (⟨#[103]⟩ : ByteArray), .int .i64 2, .string (⟨#[88]⟩ : ByteArray), .int .i64 0, .string (⟨#[89]⟩ : ByteArray), .int .i64 0]) (ok := fun _ => True) (okp := fun _ => True) ?hr ?hp (fun _ hk => hk) trivial (Below.refl _ _) (Nat.le_refl _) (by simp) ?_; (case hd => rfl); (case hg => rfl); (case hr => first | (go_simp; done) | (go_simp; rfl)); (case hp => exact (Reps.c2 (show Kd.M k47 _ _ _ (⟨(⟨#[103]⟩ : ByteArray), 2⟩ : S47) [.string (⟨#[103]⟩ : ByteArray), .int .i64 2] from (k47_mkM _ _ _ (⟨(⟨#[103]⟩ : ByteArray), 2⟩ : S47) )) (Reps.c2 (show Kd.M k47 _ _ _ (⟨(⟨#[88]⟩ : ByteArray), 0⟩ : S47) [.string (⟨#[88]⟩ : ByteArray), .int .i64 0] from (k47_mkM _ _ _ (⟨(⟨#[88]⟩ : ByteArray), 0⟩ : S47) )) (Reps.c2 (show Kd.M k47 _ _ _ (⟨(⟨#[89]⟩ : ByteArray), 0⟩ : S47) [.string (⟨#[89]⟩ : ByteArray), .int .i64 0] from (k47_mkM _ _ _ (⟨(⟨#[89]⟩ : ByteArray), 0⟩ : S47) )) (Reps.none _ _))))); intro v102 w24 ho25 hb hg_ hnew_; clear hg_ hnew_; (first | rw [← Ny101.out] at ho25 | (simp only [Int.reduceToNat] at ho25; rw [← Ny101.out] at ho25)); have n0_ := Aside0.mk (Kd.R_lower ho25 (below_size (by repeat (first | (with_reducible first | exact HB.out | apply below_alloc | apply pw_below_drewN | apply below_drew1) | exact HB.out)))); have n1_ := Aside0.mk (below_step (by repeat (first | (with_reducible first | exact HB.out | apply below_alloc | apply pw_below_drewN | apply below_drew1) | exact HB.out)) hb); clear HB; have HO103 := n0_; have HB := n1_; clear n0_ n1_; clear hb ho25) | ((with_reducible refine gate_dst (N := 15) rfl ?_); (try (refine gate_guard (by rfl) ?_; dsimp only)); refine Kd.R_lit k47 _ 47 ?hg (N := 15) ?hd (xs := ([(⟨(⟨#[103]⟩ : ByteArray), 2⟩ : S47), (⟨(⟨#[97]⟩ : ByteArray), 0⟩ : S47), (⟨(⟨#[98]⟩ : ByteArray), 0⟩ : S47)] : List (S47))) (inner := [.string (⟨#[103]⟩ : ByteArray), .int .i64 2, .string (⟨#[97]⟩ : ByteArray), .int .i64 0, .string (⟨#[98]⟩ : ByteArray), .int .i64 0]) (ok := fun _ => True) (okp := fun _ => True) ?hr ?hp (fun _ hk => hk) trivial (Below.refl _ _) (Nat.le_refl _) (by simp) ?_; (case hd => rfl); (case hg => rfl); (case hr => first | (go_simp; done) | (go_simp; rfl)); (case hp => exact (Reps.c2 (show Kd.M k47 _ _ _ (⟨(⟨#[103]⟩ : ByteArray), 2⟩ : S47) [.string (⟨#[103]⟩ : ByteArray), .int .i64 2] from (k47_mkM _ _ _ (⟨(⟨#[103]⟩ : ByteArray), 2⟩ : S47) )) (Reps.c2 (show Kd.M k47 _ _ _ (⟨(⟨#[97]⟩ : ByteArray), 0⟩ : S47) [.string (⟨#[97]⟩ : ByteArray), .int .i64 0] from (k47_mkM _ _ _ (⟨(⟨#[97]⟩ : ByteArray), 0⟩ : S47) )) (Reps.c2 (show Kd.M k47 _ _ _ (⟨(⟨#[98]⟩ : ByteArray), 0⟩ : S47) [.string (⟨#[98]⟩ : ByteArray), .int .i64 0] from (k47_mkM _ _ _ (⟨(⟨#[98]⟩ : ByteArray), 0⟩ : S47) )) (Reps.none _ _))))); intro v105 w26 ho27 hb hg_ hnew_; clear hg_ hnew_; (first | rw [← Ny104.out] at ho27 | (simp only [Int.reduceToNat] at ho27; rw [← Ny104.out] at ho27)); have n0_ := Aside0.mk (Kd.R_elder' (by (with_reducible repeat (first | apply Kd.R_alloc | apply Kd.R_drewN | apply Kd.R_drew)); exact HO103.out) (Kd.R_base ho27) hb); have n1_ := Aside0.mk (Kd.R_lower (Kd.R_new' ho27 (Kd.R_lt (by (with_reducible repeat (first | apply Kd.R_alloc | apply Kd.R_drewN | apply Kd.R_drew)); exact HO103.out))) (below_size (by repeat (first | (with_reducible first | exact HB.out | apply below_alloc | apply pw_below_drewN | apply below_drew1) | exact HB.out)))); have n2_ := Aside0.mk (below_step (by repeat (first | (with_reducible first | exact HB.out | apply below_alloc | apply pw_below_drewN | apply below_drew1) | exact HB.out)) hb); clear HO103; clear HB; have HO103 := n0_; have HO106 := n1_; have HB := n2_; clear n0_ n1_ n2_; clear hb ho27; obtain ⟨Ao28, co28, eo28⟩ := Kd.R_slice HO103.out; subst eo28; obtain ⟨Ao29, co29, eo29⟩ := Kd.R_slice HO106.out; subst eo29) | ((with_reducible refine gate_callee (f := 10) rfl ?_); refine goesL_ (some 19) rfl rfl Try.func10 (by kernel_rfl) rfl #[.slice Ao28 y101.length co28, .slice Ao29 y104.length co29] rfl (by (try simp only [List.map_toArray, List.map_cons, List.map_nil]); first | done | rfl | (simp only [List.length_drop, List.length_take]; rfl)) ?_; (with_reducible refine (match_Match.calls k _ _ y101 _ _ y104 t107 true t109 _ ?side1 ?side2 ?side3 ?side4 A1.out).mono ?_); (case side1 => repeat (first | exact (Kd.R_reads' HO103.out).2.2 | (with_reducible refine Kd.C_alloc ?_ _) | (with_reducible refine Kd.C_drewN ?_ _) | (with_reducible refine Kd.C_drew ?_))); (case side2 => exact (Kd.R_reads' HO103.out).2.1); (case side3 => repeat (first | exact (Kd.R_reads' HO106.out).2.2 | (with_reducible refine Kd.C_alloc ?_ _) | (with_reducible refine Kd.C_drewN ?_ _) | (with_reducible refine Kd.C_drew ?_))); (case side4 => exact (Kd.R_reads' HO106.out).2.1); rintro e w30 ⟨v110, rfl, ho0, hb⟩; refine ⟨_, rfl, ?_⟩; have n0_ := Aside0.mk (Kd.R_below (by (with_reducible repeat (first | apply Kd.R_alloc | apply Kd.R_drewN | apply Kd.R_drew)); exact HO103.out) hb); have n1_ := Aside0.mk (Kd.R_below (by (with_reducible repeat (first | apply Kd.R_alloc | apply Kd.R_drewN | apply Kd.R_drew)); exact HO106.out) hb); have n2_ := Aside0.mk (Kd.S_lower (Kd.S_new' (Kd.S_new' ho0 (Kd.R_lt (by (with_reducible repeat (first | apply Kd.R_alloc | apply Kd.R_drewN | apply Kd.R_drew)); exact HO103.out))) (Kd.R_lt (by (with_reducible repeat (first | apply Kd.R_alloc | apply Kd.R_drewN | apply Kd.R_drew)); exact HO106.out))) (below_size (by repeat (first | (with_reducible first | exact HB.out | apply below_alloc | apply pw_below_drewN | apply below_drew1) | exact HB.out)))); have n3_ := Aside0.mk (below_step (by repeat (first | (with_reducible first | exact HB.out | apply below_alloc | apply pw_below_drewN | apply below_drew1) | exact HB.out)) hb); clear HO103; clear HO106; clear HB; have HO103 := n0_; have HO106 := n1_; have HO111 := n2_; have HB := n3_; clear n0_ n1_ n2_ n3_; (try clear hb); (try clear hb2); (try clear hk); (try clear hi); (try clear ho0)) | ((with_reducible refine gate_dst (N := 25) rfl ?_); (try (refine gate_guard (by rfl) ?_; dsimp only)); refine Kd.R_lit k47 _ 47 ?hg (N := 25) ?hd (xs := ([(⟨(⟨#[89]⟩ : ByteArray), 0⟩ : S47)] : List (S47))) (inner := [.string (⟨#[89]⟩ : ByteArray), .int .i64 0]) (ok := fun _ => True) (okp := fun _ => True) ?hr ?hp (fun _ hk => hk) trivial (Below.refl _ _) (Nat.le_refl _) (by simp) ?_; (case hd => rfl); (case hg => rfl); (case hr => first | (go_simp; done) | (go_simp; rfl)); (case hp => exact (Reps.c2 (show Kd.M k47 _ _ _ (⟨(⟨#[89]⟩ : ByteArray), 0⟩ : S47) [.string (⟨#[89]⟩ : ByteArray), .int .i64 0] from (k47_mkM _ _ _ (⟨(⟨#[89]⟩ : ByteArray), 0⟩ : S47) )) (Reps.none _ _))); intro v113 w31 ho32 hb hg_ hnew_; clear hg_ hnew_; (first | rw [← Ny112.out] at ho32 | (simp only [Int.reduceToNat] at ho32; rw [← Ny112.out] at ho32)); have n0_ := Aside0.mk (Kd.R_elder' (by (with_reducible repeat (first | apply Kd.R_alloc | apply Kd.R_drewN | apply Kd.R_drew)); exact HO103.out) (Kd.R_base ho32) hb); have n1_ := Aside0.mk (Kd.R_elder' (by (with_reducible repeat (first | apply Kd.R_alloc | apply Kd.R_drewN | apply Kd.R_drew)); exact HO106.out) (Kd.R_base ho32) hb); have n2_ := Aside0.mk (Kd.S_elder' (by (with_reducible repeat (first | apply Kd.S_alloc | apply Kd.S_drewN | apply Kd.S_drew)); exact HO111.out) (Kd.R_base ho32) hb); have n3_ := Aside0.mk (Kd.R_lower (Kd.R_new' (Kd.R_new' ho32 (Kd.R_lt (by (with_reducible repeat (first | apply Kd.R_alloc | apply Kd.R_drewN | apply Kd.R_drew)); exact HO103.out))) (Kd.R_lt (by (with_reducible repeat (first | apply Kd.R_alloc | apply Kd.R_drewN | apply Kd.R_drew)); exact HO106.out))) (below_size (by repeat (first | (with_reducible first | exact HB.out | apply below_alloc | apply pw_below_drewN | apply below_drew1) | exact HB.out)))); have n4_ := Aside0.mk (below_step (by repeat (first | (with_reducible first | exact HB.out | apply below_alloc | apply pw_below_drewN | apply below_drew1) | exact HB.out)) hb); clear HO103; clear HO106; clear HO111; clear HB; have HO103 := n0_; have HO106 := n1_; have HO111 := n2_; have HO114 := n3_; have HB := n4_; clear n0_ n1_ n2_ n3_ n4_; clear hb ho32; obtain ⟨Ao33, co33, eo33⟩ := Kd.R_slice HO114.out; subst eo33; obtain ⟨Ao34, co34, eo34⟩ := Kd.S_slice HO111.out; subst eo34) | ((with_reducible refine gate_callee (f := 14) rfl ?_); refine goesL_ (some 27) rfl rfl Try.func14 (by kernel_rfl) rfl #[.slice Ao33 y112.length co33, .slice Ao34 t107.length co34] rfl (by (try simp only [List.map_toArray, List.map_cons, List.map_nil]); first | done | rfl | (simp only [List.length_drop, List.length_take]; rfl)) ?_; (with_reducible refine (match_Fill.calls k _ _ y112 _ _ t107 t115 t116 _ ?side1 ?side2 ?side3 ?side4 A2.out).mono ?_); (case side1 => repeat (first | exact (Kd.R_reads' HO114.out).2.2 | (with_reducible refine Kd.C_alloc ?_ _) | (with_reducible refine Kd.C_drewN ?_ _) | (with_reducible refine Kd.C_drew ?_))); (case side2 => exact (Kd.R_reads' HO114.out).2.1); (case side3 => repeat (first | exact (Kd.S_reads' HO111.out).2.2 | (with_reducible refine Kd.C_alloc ?_ _) | (with_reducible refine Kd.C_drewN ?_ _) | (with_reducible refine Kd.C_drew ?_))); (case side4 => exact (Kd.S_reads' HO111.out).2.1); rintro e w35 ⟨v117, rfl, ho0, hb⟩; refine ⟨_, rfl, ?_⟩; have n0_ := Aside0.mk (Kd.R_elder' (by (with_reducible repeat (first | apply Kd.R_alloc | apply Kd.R_drewN | apply Kd.R_drew)); exact HO103.out) (Kd.R_base ho0) hb); have n1_ := Aside0.mk (Kd.R_elder' (by (with_reducible repeat (first | apply Kd.R_alloc | apply Kd.R_drewN | apply Kd.R_drew)); exact HO106.out) (Kd.R_base ho0) hb); have n2_ := Aside0.mk (Kd.S_elder' (by (with_reducible repeat (first | apply Kd.S_alloc | apply Kd.S_drewN | apply Kd.S_drew)); exact HO111.out) (Kd.R_base ho0) hb); have n3_ := Aside0.mk (Kd.R_elder' (by (with_reducible repeat (first | apply Kd.R_alloc | apply Kd.R_drewN | apply Kd.R_drew)); exact HO114.out) (Kd.R_base ho0) hb); have n4_ := Aside0.mk (Kd.R_lower (Kd.R_new' (Kd.R_new' (Kd.R_new' ho0 (Kd.R_lt (by (with_reducible repeat (first | apply Kd.R_alloc | apply Kd.R_drewN | apply Kd.R_drew)); exact HO103.out))) (Kd.R_lt (by (with_reducible repeat (first | apply Kd.R_alloc | apply Kd.R_drewN | apply Kd.R_drew)); exact HO106.out))) (Kd.R_lt (by (with_reducible repeat (first | apply Kd.R_alloc | apply Kd.R_drewN | apply Kd.R_drew)); exact HO114.out))) (below_size (by repeat (first | (with_reducible first | exact HB.out | apply below_alloc | apply pw_below_drewN | apply below_drew1) | exact HB.out)))); have n5_ := Aside0.mk (below_step (by repeat (first | (with_reducible first | exact HB.out | apply below_alloc | apply pw_below_drewN | apply below_drew1) | exact HB.out)) hb); clear HO103; clear HO106; clear HO111; clear HO114; clear HB; have HO103 := n0_; have HO106 := n1_; have HO111 := n2_; have HO114 := n3_; have HO118 := n4_; have HB := n5_; clear n0_ n1_ n2_ n3_ n4_ n5_; (try clear hb); (try clear hb2); (try clear hk); (try clear hi); (try clear ho0); have p119 : 0 ≤ (0 : Int) := (by omega); have q119 : 0 < (t107.length : Int) := of_decide_eq_true (by first | (with_reducible assumption) | assumption); obtain ⟨ad119, A119_1, c119_1, e119, hx119_0, hx119_1, hl119_1, hi119_1⟩ := at_T44 (Kd.S_reads' HO111.out).2.2 0 p119 q119; cases e119; obtain ⟨ce119, hce119, hMe119, hcc119⟩ := Kd.S_get HO111.out z44 0 p119 (by first | exact q119 | exact of_decide_eq_true (by first | (with_reducible assumption) | assumption) | (have e_ := (Kd.S_reads' HO111.out).1; omega)); obtain ⟨ve119_1, rfl, ge119_1⟩ := k44_openM hMe119; have hv119_1 := hcc119 1 _ rfl; rw [add_field _ _ 1 (by omega)] at hv119_1; replace hv119_1 := Option.some.inj (hv119_1.symm.trans hx119_1); rw [hv119_1] at ge119_1; have HL119_1 := Aside0.mk (show Kd.R k47 47 _ _ _ _ ((rd_T44 t107 0).f1) from ge119_1); clear hv119_1 ge119_1; clear hcc119 hce119; have qi119 : (0 < t107.length) = True := eq_true (by omega); (try rw [show ((0 : Int)).toNat = 0 from rfl] at hx119_0); (try rw [show 0 * 2 = 0 from rfl] at hx119_0); (try rw [Addr.add_zero'] at hx119_0); (try rw [show ((0 : Int)).toNat = 0 from rfl] at hx119_1); (try rw [show 0 * 2 = 0 from rfl] at hx119_1); (try rw [Addr.add_zero'] at hx119_1); have HR119_1 := Aside0.mk hi119_1; have HC119_1 := Aside0.mk hl119_1; clear hi119_1 hl119_1; replace p119 := eq_true p119; replace q119 := eq_true q119; obtain ⟨Ao36, co36, eo36⟩ := Kd.R_slice HO118.out; subst eo36))
                go_ret
                exact ⟨by first | rfl | (simp [errW_none, errW_some] <;> rfl) | (simp [*, errW_none, errW_some] <;> rfl), by repeat (first | (with_reducible first | exact HB.out | apply below_alloc | apply pw_below_drewN | apply below_drew1) | exact HB.out)⟩
            · rw [if_neg c8] at H
              have c8b0 : (((rd_T44 t107 0).f0).toList == ([88] : List UInt8)) = false := beq_eq_false_iff_ne.mpr c8
              have c8b1 : (((rd_T44 t107 0).f0).toList != ([88] : List UInt8)) = true := bne_iff_ne.mpr c8
              obtain rfl := Option.some.inj H
              go_enter Try.func9, Try.ntmps9
              go_wp2_with (first | ((with_reducible refine gate_dst (N := 11) rfl ?_); (try (refine gate_guard (by rfl) ?_; dsimp only)); refine Kd.R_lit k47 _ 47 ?hg (N := 11) ?hd (xs := ([(⟨(⟨#[103]⟩ : ByteArray), 2⟩ : S47), (⟨(⟨#[88]⟩ : ByteArray), 0⟩ : S47), (⟨(⟨#[89]⟩ : ByteArray), 0⟩ : S47)] : List (S47))) (inner := [.string (⟨#[103]⟩ : ByteArray), .int .i64 2, .string (⟨#[88]⟩ : ByteArray), .int .i64 0, .string (⟨#[89]⟩ : ByteArray), .int .i64 0]) (ok := fun _ => True) (okp := fun _ => True) ?hr ?hp (fun _ hk => hk) trivial (Below.refl _ _) (Nat.le_refl _) (by simp) ?_; (case hd => rfl); (case hg => rfl); (case hr => first | (go_simp; done) | (go_simp; rfl)); (case hp => exact (Reps.c2 (show Kd.M k47 _ _ _ (⟨(⟨#[103]⟩ : ByteArray), 2⟩ : S47) [.string (⟨#[103]⟩ : ByteArray), .int .i64 2] from (k47_mkM _ _ _ (⟨(⟨#[103]⟩ : ByteArray), 2⟩ : S47) )) (Reps.c2 (show Kd.M k47 _ _ _ (⟨(⟨#[88]⟩ : ByteArray), 0⟩ : S47) [.string (⟨#[88]⟩ : ByteArray), .int .i64 0] from (k47_mkM _ _ _ (⟨(⟨#[88]⟩ : ByteArray), 0⟩ : S47) )) (Reps.c2 (show Kd.M k47 _ _ _ (⟨(⟨#[89]⟩ : ByteArray), 0⟩ : S47) [.string (⟨#[89]⟩ : ByteArray), .int .i64 0] from (k47_mkM _ _ _ (⟨(⟨#[89]⟩ : ByteArray), 0⟩ : S47) )) (Reps.none _ _))))); intro v102 w37 ho38 hb hg_ hnew_; clear hg_ hnew_; (first | rw [← Ny101.out] at ho38 | (simp only [Int.reduceToNat] at ho38; rw [← Ny101.out] at ho38)); have n0_ := Aside0.mk (Kd.R_lower ho38 (below_size (by repeat (first | (with_reducible first | exact HB.out | apply below_alloc | apply pw_below_drewN | apply below_drew1) | exact HB.out)))); have n1_ := Aside0.mk (below_step (by repeat (first | (with_reducible first | exact HB.out | apply below_alloc | apply pw_below_drewN | apply below_drew1) | exact HB.out)) hb); clear HB; have HO103 := n0_; have HB := n1_; clear n0_ n1_; clear hb ho38) | ((with_reducible refine gate_dst (N := 15) rfl ?_); (try (refine gate_guard (by rfl) ?_; dsimp only)); refine Kd.R_lit k47 _ 47 ?hg (N := 15) ?hd (xs := ([(⟨(⟨#[103]⟩ : ByteArray), 2⟩ : S47), (⟨(⟨#[97]⟩ : ByteArray), 0⟩ : S47), (⟨(⟨#[98]⟩ : ByteArray), 0⟩ : S47)] : List (S47))) (inner := [.string (⟨#[103]⟩ : ByteArray), .int .i64 2, .string (⟨#[97]⟩ : ByteArray), .int .i64 0, .string (⟨#[98]⟩ : ByteArray), .int .i64 0]) (ok := fun _ => True) (okp := fun _ => True) ?hr ?hp (fun _ hk => hk) trivial (Below.refl _ _) (Nat.le_refl _) (by simp) ?_; (case hd => rfl); (case hg => rfl); (case hr => first | (go_simp; done) | (go_simp; rfl)); (case hp => exact (Reps.c2 (show Kd.M k47 _ _ _ (⟨(⟨#[103]⟩ : ByteArray), 2⟩ : S47) [.string (⟨#[103]⟩ : ByteArray), .int .i64 2] from (k47_mkM _ _ _ (⟨(⟨#[103]⟩ : ByteArray), 2⟩ : S47) )) (Reps.c2 (show Kd.M k47 _ _ _ (⟨(⟨#[97]⟩ : ByteArray), 0⟩ : S47) [.string (⟨#[97]⟩ : ByteArray), .int .i64 0] from (k47_mkM _ _ _ (⟨(⟨#[97]⟩ : ByteArray), 0⟩ : S47) )) (Reps.c2 (show Kd.M k47 _ _ _ (⟨(⟨#[98]⟩ : ByteArray), 0⟩ : S47) [.string (⟨#[98]⟩ : ByteArray), .int .i64 0] from (k47_mkM _ _ _ (⟨(⟨#[98]⟩ : ByteArray), 0⟩ : S47) )) (Reps.none _ _))))); intro v105 w39 ho40 hb hg_ hnew_; clear hg_ hnew_; (first | rw [← Ny104.out] at ho40 | (simp only [Int.reduceToNat] at ho40; rw [← Ny104.out] at ho40)); have n0_ := Aside0.mk (Kd.R_elder' (by (with_reducible repeat (first | apply Kd.R_alloc | apply Kd.R_drewN | apply Kd.R_drew)); exact HO103.out) (Kd.R_base ho40) hb); have n1_ := Aside0.mk (Kd.R_lower (Kd.R_new' ho40 (Kd.R_lt (by (with_reducible repeat (first | apply Kd.R_alloc | apply Kd.R_drewN | apply Kd.R_drew)); exact HO103.out))) (below_size (by repeat (first | (with_reducible first | exact HB.out | apply below_alloc | apply pw_below_drewN | apply below_drew1) | exact HB.out)))); have n2_ := Aside0.mk (below_step (by repeat (first | (with_reducible first | exact HB.out | apply below_alloc | apply pw_below_drewN | apply below_drew1) | exact HB.out)) hb); clear HO103; clear HB; have HO103 := n0_; have HO106 := n1_; have HB := n2_; clear n0_ n1_ n2_; clear hb ho40; obtain ⟨Ao41, co41, eo41⟩ := Kd.R_slice HO103.out; subst eo41; obtain ⟨Ao42, co42, eo42⟩ := Kd.R_slice HO106.out; subst eo42) | ((with_reducible refine gate_callee (f := 10) rfl ?_); refine goesL_ (some 19) rfl rfl Try.func10 (by kernel_rfl) rfl #[.slice Ao41 y101.length co41, .slice Ao42 y104.length co42] rfl (by (try simp only [List.map_toArray, List.map_cons, List.map_nil]); first | done | rfl | (simp only [List.length_drop, List.length_take]; rfl)) ?_; (with_reducible refine (match_Match.calls k _ _ y101 _ _ y104 t107 true t109 _ ?side1 ?side2 ?side3 ?side4 A1.out).mono ?_); (case side1 => repeat (first | exact (Kd.R_reads' HO103.out).2.2 | (with_reducible refine Kd.C_alloc ?_ _) | (with_reducible refine Kd.C_drewN ?_ _) | (with_reducible refine Kd.C_drew ?_))); (case side2 => exact (Kd.R_reads' HO103.out).2.1); (case side3 => repeat (first | exact (Kd.R_reads' HO106.out).2.2 | (with_reducible refine Kd.C_alloc ?_ _) | (with_reducible refine Kd.C_drewN ?_ _) | (with_reducible refine Kd.C_drew ?_))); (case side4 => exact (Kd.R_reads' HO106.out).2.1); rintro e w43 ⟨v110, rfl, ho0, hb⟩; refine ⟨_, rfl, ?_⟩; have n0_ := Aside0.mk (Kd.R_below (by (with_reducible repeat (first | apply Kd.R_alloc | apply Kd.R_drewN | apply Kd.R_drew)); exact HO103.out) hb); have n1_ := Aside0.mk (Kd.R_below (by (with_reducible repeat (first | apply Kd.R_alloc | apply Kd.R_drewN | apply Kd.R_drew)); exact HO106.out) hb); have n2_ := Aside0.mk (Kd.S_lower (Kd.S_new' (Kd.S_new' ho0 (Kd.R_lt (by (with_reducible repeat (first | apply Kd.R_alloc | apply Kd.R_drewN | apply Kd.R_drew)); exact HO103.out))) (Kd.R_lt (by (with_reducible repeat (first | apply Kd.R_alloc | apply Kd.R_drewN | apply Kd.R_drew)); exact HO106.out))) (below_size (by repeat (first | (with_reducible first | exact HB.out | apply below_alloc | apply pw_below_drewN | apply below_drew1) | exact HB.out)))); have n3_ := Aside0.mk (below_step (by repeat (first | (with_reducible first | exact HB.out | apply below_alloc | apply pw_below_drewN | apply below_drew1) | exact HB.out)) hb); clear HO103; clear HO106; clear HB; have HO103 := n0_; have HO106 := n1_; have HO111 := n2_; have HB := n3_; clear n0_ n1_ n2_ n3_; (try clear hb); (try clear hb2); (try clear hk); (try clear hi); (try clear ho0)) | ((with_reducible refine gate_dst (N := 25) rfl ?_); (try (refine gate_guard (by rfl) ?_; dsimp only)); refine Kd.R_lit k47 _ 47 ?hg (N := 25) ?hd (xs := ([(⟨(⟨#[89]⟩ : ByteArray), 0⟩ : S47)] : List (S47))) (inner := [.string (⟨#[89]⟩ : ByteArray), .int .i64 0]) (ok := fun _ => True) (okp := fun _ => True) ?hr ?hp (fun _ hk => hk) trivial (Below.refl _ _) (Nat.le_refl _) (by simp) ?_; (case hd => rfl); (case hg => rfl); (case hr => first | (go_simp; done) | (go_simp; rfl)); (case hp => exact (Reps.c2 (show Kd.M k47 _ _ _ (⟨(⟨#[89]⟩ : ByteArray), 0⟩ : S47) [.string (⟨#[89]⟩ : ByteArray), .int .i64 0] from (k47_mkM _ _ _ (⟨(⟨#[89]⟩ : ByteArray), 0⟩ : S47) )) (Reps.none _ _))); intro v113 w44 ho45 hb hg_ hnew_; clear hg_ hnew_; (first | rw [← Ny112.out] at ho45 | (simp only [Int.reduceToNat] at ho45; rw [← Ny112.out] at ho45)); have n0_ := Aside0.mk (Kd.R_elder' (by (with_reducible repeat (first | apply Kd.R_alloc | apply Kd.R_drewN | apply Kd.R_drew)); exact HO103.out) (Kd.R_base ho45) hb); have n1_ := Aside0.mk (Kd.R_elder' (by (with_reducible repeat (first | apply Kd.R_alloc | apply Kd.R_drewN | apply Kd.R_drew)); exact HO106.out) (Kd.R_base ho45) hb); have n2_ := Aside0.mk (Kd.S_elder' (by (with_reducible repeat (first | apply Kd.S_alloc | apply Kd.S_drewN | apply Kd.S_drew)); exact HO111.out) (Kd.R_base ho45) hb); have n3_ := Aside0.mk (Kd.R_lower (Kd.R_new' (Kd.R_new' ho45 (Kd.R_lt (by (with_reducible repeat (first | apply Kd.R_alloc | apply Kd.R_drewN | apply Kd.R_drew)); exact HO103.out))) (Kd.R_lt (by (with_reducible repeat (first | apply Kd.R_alloc | apply Kd.R_drewN | apply Kd.R_drew)); exact HO106.out))) (below_size (by repeat (first | (with_reducible first | exact HB.out | apply below_alloc | apply pw_below_drewN | apply below_drew1) | exact HB.out)))); have n4_ := Aside0.mk (below_step (by repeat (first | (with_reducible first | exact HB.out | apply below_alloc | apply pw_below_drewN | apply below_drew1) | exact HB.out)) hb); clear HO103; clear HO106; clear HO111; clear HB; have HO103 := n0_; have HO106 := n1_; have HO111 := n2_; have HO114 := n3_; have HB := n4_; clear n0_ n1_ n2_ n3_ n4_; clear hb ho45; obtain ⟨Ao46, co46, eo46⟩ := Kd.R_slice HO114.out; subst eo46; obtain ⟨Ao47, co47, eo47⟩ := Kd.S_slice HO111.out; subst eo47) | ((with_reducible refine gate_callee (f := 14) rfl ?_); refine goesL_ (some 27) rfl rfl Try.func14 (by kernel_rfl) rfl #[.slice Ao46 y112.length co46, .slice Ao47 t107.length co47] rfl (by (try simp only [List.map_toArray, List.map_cons, List.map_nil]); first | done | rfl | (simp only [List.length_drop, List.length_take]; rfl)) ?_; (with_reducible refine (match_Fill.calls k _ _ y112 _ _ t107 t115 t116 _ ?side1 ?side2 ?side3 ?side4 A2.out).mono ?_); (case side1 => repeat (first | exact (Kd.R_reads' HO114.out).2.2 | (with_reducible refine Kd.C_alloc ?_ _) | (with_reducible refine Kd.C_drewN ?_ _) | (with_reducible refine Kd.C_drew ?_))); (case side2 => exact (Kd.R_reads' HO114.out).2.1); (case side3 => repeat (first | exact (Kd.S_reads' HO111.out).2.2 | (with_reducible refine Kd.C_alloc ?_ _) | (with_reducible refine Kd.C_drewN ?_ _) | (with_reducible refine Kd.C_drew ?_))); (case side4 => exact (Kd.S_reads' HO111.out).2.1); rintro e w48 ⟨v117, rfl, ho0, hb⟩; refine ⟨_, rfl, ?_⟩; have n0_ := Aside0.mk (Kd.R_elder' (by (with_reducible repeat (first | apply Kd.R_alloc | apply Kd.R_drewN | apply Kd.R_drew)); exact HO103.out) (Kd.R_base ho0) hb); have n1_ := Aside0.mk (Kd.R_elder' (by (with_reducible repeat (first | apply Kd.R_alloc | apply Kd.R_drewN | apply Kd.R_drew)); exact HO106.out) (Kd.R_base ho0) hb); have n2_ := Aside0.mk (Kd.S_elder' (by (with_reducible repeat (first | apply Kd.S_alloc | apply Kd.S_drewN | apply Kd.S_drew)); exact HO111.out) (Kd.R_base ho0) hb); have n3_ := Aside0.mk (Kd.R_elder' (by (with_reducible repeat (first | apply Kd.R_alloc | apply Kd.R_drewN | apply Kd.R_drew)); exact HO114.out) (Kd.R_base ho0) hb); have n4_ := Aside0.mk (Kd.R_lower (Kd.R_new' (Kd.R_new' (Kd.R_new' ho0 (Kd.R_lt (by (with_reducible repeat (first | apply Kd.R_alloc | apply Kd.R_drewN | apply Kd.R_drew)); exact HO103.out))) (Kd.R_lt (by (with_reducible repeat (first | apply Kd.R_alloc | apply Kd.R_drewN | apply Kd.R_drew)); exact HO106.out))) (Kd.R_lt (by (with_reducible repeat (first | apply Kd.R_alloc | apply Kd.R_drewN | apply Kd.R_drew)); exact HO114.out))) (below_size (by repeat (first | (with_reducible first | exact HB.out | apply below_alloc | apply pw_below_drewN | apply below_drew1) | exact HB.out)))); have n5_ := Aside0.mk (below_step (by repeat (first | (with_reducible first | exact HB.out | apply below_alloc | apply pw_below_drewN | apply below_drew1) | exact HB.out)) hb); clear HO103; clear HO106; clear HO111; clear HO114; clear HB; have HO103 := n0_; have HO106 := n1_; have HO111 := n2_; have HO114 := n3_; have HO118 := n4_; have HB := n5_; clear n0_ n1_ n2_ n3_ n4_ n5_; (try clear hb); (try clear hb2); (try clear hk); (try clear hi); (try clear ho0); have p119 : 0 ≤ (0 : Int) := (by omega); have q119 : 0 < (t107.length : Int) := of_decide_eq_true (by first | (with_reducible assumption) | assumption); obtain ⟨ad119, A119_1, c119_1, e119, hx119_0, hx119_1, hl119_1, hi119_1⟩ := at_T44 (Kd.S_reads' HO111.out).2.2 0 p119 q119; cases e119; obtain ⟨ce119, hce119, hMe119, hcc119⟩ := Kd.S_get HO111.out z44 0 p119 (by first | exact q119 | exact of_decide_eq_true (by first | (with_reducible assumption) | assumption) | (have e_ := (Kd.S_reads' HO111.out).1; omega)); obtain ⟨ve119_1, rfl, ge119_1⟩ := k44_openM hMe119; have hv119_1 := hcc119 1 _ rfl; rw [add_field _ _ 1 (by omega)] at hv119_1; replace hv119_1 := Option.some.inj (hv119_1.symm.trans hx119_1); rw [hv119_1] at ge119_1; have HL119_1 := Aside0.mk (show Kd.R k47 47 _ _ _ _ ((rd_T44 t107 0).f1) from ge119_1); clear hv119_1 ge119_1; clear hcc119 hce119; have qi119 : (0 < t107.length) = True := eq_true (by omega); (try rw [show ((0 : Int)).toNat = 0 from rfl] at hx119_0); (try rw [show 0 * 2 = 0 from rfl] at hx119_0); (try rw [Addr.add_zero'] at hx119_0); (try rw [show ((0 : Int)).toNat = 0 from rfl] at hx119_1); (try rw [show 0 * 2 = 0 from rfl] at hx119_1); (try rw [Addr.add_zero'] at hx119_1); have HR119_1 := Aside0.mk hi119_1; have HC119_1 := Aside0.mk hl119_1; clear hi119_1 hl119_1; replace p119 := eq_true p119; replace q119 := eq_true q119))
              go_ret
              exact ⟨by first | rfl | (simp [errW_none, errW_some] <;> rfl) | (simp [*, errW_none, errW_some] <;> rfl), by repeat (first | (with_reducible first | exact HB.out | apply below_alloc | apply pw_below_drewN | apply below_drew1) | exact HB.out)⟩
          · rw [if_neg c7] at H
            exact absurd H (by simp)
        · rw [if_neg c6] at H
          have c6b0 : ((t107.length : Int) == 2) = false := beq_eq_false_iff_ne.mpr c6
          have c6b1 : ((t107.length : Int) != 2) = true := bne_iff_ne.mpr c6
          obtain rfl := Option.some.inj H
          go_enter Try.func9, Try.ntmps9
          go_wp2_with (first | ((with_reducible refine gate_dst (N := 11) rfl ?_); (try (refine gate_guard (by rfl) ?_; dsimp only)); refine Kd.R_lit k47 _ 47 ?hg (N := 11) ?hd (xs := ([(⟨(⟨#[103]⟩ : ByteArray), 2⟩ : S47), (⟨(⟨#[88]⟩ : ByteArray), 0⟩ : S47), (⟨(⟨#[89]⟩ : ByteArray), 0⟩ : S47)] : List (S47))) (inner := [.string (⟨#[103]⟩ : ByteArray), .int .i64 2, .string (⟨#[88]⟩ : ByteArray), .int .i64 0, .string (⟨#[89]⟩ : ByteArray), .int .i64 0]) (ok := fun _ => True) (okp := fun _ => True) ?hr ?hp (fun _ hk => hk) trivial (Below.refl _ _) (Nat.le_refl _) (by simp) ?_; (case hd => rfl); (case hg => rfl); (case hr => first | (go_simp; done) | (go_simp; rfl)); (case hp => exact (Reps.c2 (show Kd.M k47 _ _ _ (⟨(⟨#[103]⟩ : ByteArray), 2⟩ : S47) [.string (⟨#[103]⟩ : ByteArray), .int .i64 2] from (k47_mkM _ _ _ (⟨(⟨#[103]⟩ : ByteArray), 2⟩ : S47) )) (Reps.c2 (show Kd.M k47 _ _ _ (⟨(⟨#[88]⟩ : ByteArray), 0⟩ : S47) [.string (⟨#[88]⟩ : ByteArray), .int .i64 0] from (k47_mkM _ _ _ (⟨(⟨#[88]⟩ : ByteArray), 0⟩ : S47) )) (Reps.c2 (show Kd.M k47 _ _ _ (⟨(⟨#[89]⟩ : ByteArray), 0⟩ : S47) [.string (⟨#[89]⟩ : ByteArray), .int .i64 0] from (k47_mkM _ _ _ (⟨(⟨#[89]⟩ : ByteArray), 0⟩ : S47) )) (Reps.none _ _))))); intro v102 w49 ho50 hb hg_ hnew_; clear hg_ hnew_; (first | rw [← Ny101.out] at ho50 | (simp only [Int.reduceToNat] at ho50; rw [← Ny101.out] at ho50)); have n0_ := Aside0.mk (Kd.R_lower ho50 (below_size (by repeat (first | (with_reducible first | exact HB.out | apply below_alloc | apply pw_below_drewN | apply below_drew1) | exact HB.out)))); have n1_ := Aside0.mk (below_step (by repeat (first | (with_reducible first | exact HB.out | apply below_alloc | apply pw_below_drewN | apply below_drew1) | exact HB.out)) hb); clear HB; have HO103 := n0_; have HB := n1_; clear n0_ n1_; clear hb ho50) | ((with_reducible refine gate_dst (N := 15) rfl ?_); (try (refine gate_guard (by rfl) ?_; dsimp only)); refine Kd.R_lit k47 _ 47 ?hg (N := 15) ?hd (xs := ([(⟨(⟨#[103]⟩ : ByteArray), 2⟩ : S47), (⟨(⟨#[97]⟩ : ByteArray), 0⟩ : S47), (⟨(⟨#[98]⟩ : ByteArray), 0⟩ : S47)] : List (S47))) (inner := [.string (⟨#[103]⟩ : ByteArray), .int .i64 2, .string (⟨#[97]⟩ : ByteArray), .int .i64 0, .string (⟨#[98]⟩ : ByteArray), .int .i64 0]) (ok := fun _ => True) (okp := fun _ => True) ?hr ?hp (fun _ hk => hk) trivial (Below.refl _ _) (Nat.le_refl _) (by simp) ?_; (case hd => rfl); (case hg => rfl); (case hr => first | (go_simp; done) | (go_simp; rfl)); (case hp => exact (Reps.c2 (show Kd.M k47 _ _ _ (⟨(⟨#[103]⟩ : ByteArray), 2⟩ : S47) [.string (⟨#[103]⟩ : ByteArray), .int .i64 2] from (k47_mkM _ _ _ (⟨(⟨#[103]⟩ : ByteArray), 2⟩ : S47) )) (Reps.c2 (show Kd.M k47 _ _ _ (⟨(⟨#[97]⟩ : ByteArray), 0⟩ : S47) [.string (⟨#[97]⟩ : ByteArray), .int .i64 0] from (k47_mkM _ _ _ (⟨(⟨#[97]⟩ : ByteArray), 0⟩ : S47) )) (Reps.c2 (show Kd.M k47 _ _ _ (⟨(⟨#[98]⟩ : ByteArray), 0⟩ : S47) [.string (⟨#[98]⟩ : ByteArray), .int .i64 0] from (k47_mkM _ _ _ (⟨(⟨#[98]⟩ : ByteArray), 0⟩ : S47) )) (Reps.none _ _))))); intro v105 w51 ho52 hb hg_ hnew_; clear hg_ hnew_; (first | rw [← Ny104.out] at ho52 | (simp only [Int.reduceToNat] at ho52; rw [← Ny104.out] at ho52)); have n0_ := Aside0.mk (Kd.R_elder' (by (with_reducible repeat (first | apply Kd.R_alloc | apply Kd.R_drewN | apply Kd.R_drew)); exact HO103.out) (Kd.R_base ho52) hb); have n1_ := Aside0.mk (Kd.R_lower (Kd.R_new' ho52 (Kd.R_lt (by (with_reducible repeat (first | apply Kd.R_alloc | apply Kd.R_drewN | apply Kd.R_drew)); exact HO103.out))) (below_size (by repeat (first | (with_reducible first | exact HB.out | apply below_alloc | apply pw_below_drewN | apply below_drew1) | exact HB.out)))); have n2_ := Aside0.mk (below_step (by repeat (first | (with_reducible first | exact HB.out | apply below_alloc | apply pw_below_drewN | apply below_drew1) | exact HB.out)) hb); clear HO103; clear HB; have HO103 := n0_; have HO106 := n1_; have HB := n2_; clear n0_ n1_ n2_; clear hb ho52; obtain ⟨Ao53, co53, eo53⟩ := Kd.R_slice HO103.out; subst eo53; obtain ⟨Ao54, co54, eo54⟩ := Kd.R_slice HO106.out; subst eo54) | ((with_reducible refine gate_callee (f := 10) rfl ?_); refine goesL_ (some 19) rfl rfl Try.func10 (by kernel_rfl) rfl #[.slice Ao53 y101.length co53, .slice Ao54 y104.length co54] rfl (by (try simp only [List.map_toArray, List.map_cons, List.map_nil]); first | done | rfl | (simp only [List.length_drop, List.length_take]; rfl)) ?_; (with_reducible refine (match_Match.calls k _ _ y101 _ _ y104 t107 true t109 _ ?side1 ?side2 ?side3 ?side4 A1.out).mono ?_); (case side1 => repeat (first | exact (Kd.R_reads' HO103.out).2.2 | (with_reducible refine Kd.C_alloc ?_ _) | (with_reducible refine Kd.C_drewN ?_ _) | (with_reducible refine Kd.C_drew ?_))); (case side2 => exact (Kd.R_reads' HO103.out).2.1); (case side3 => repeat (first | exact (Kd.R_reads' HO106.out).2.2 | (with_reducible refine Kd.C_alloc ?_ _) | (with_reducible refine Kd.C_drewN ?_ _) | (with_reducible refine Kd.C_drew ?_))); (case side4 => exact (Kd.R_reads' HO106.out).2.1); rintro e w55 ⟨v110, rfl, ho0, hb⟩; refine ⟨_, rfl, ?_⟩; have n0_ := Aside0.mk (Kd.R_below (by (with_reducible repeat (first | apply Kd.R_alloc | apply Kd.R_drewN | apply Kd.R_drew)); exact HO103.out) hb); have n1_ := Aside0.mk (Kd.R_below (by (with_reducible repeat (first | apply Kd.R_alloc | apply Kd.R_drewN | apply Kd.R_drew)); exact HO106.out) hb); have n2_ := Aside0.mk (Kd.S_lower (Kd.S_new' (Kd.S_new' ho0 (Kd.R_lt (by (with_reducible repeat (first | apply Kd.R_alloc | apply Kd.R_drewN | apply Kd.R_drew)); exact HO103.out))) (Kd.R_lt (by (with_reducible repeat (first | apply Kd.R_alloc | apply Kd.R_drewN | apply Kd.R_drew)); exact HO106.out))) (below_size (by repeat (first | (with_reducible first | exact HB.out | apply below_alloc | apply pw_below_drewN | apply below_drew1) | exact HB.out)))); have n3_ := Aside0.mk (below_step (by repeat (first | (with_reducible first | exact HB.out | apply below_alloc | apply pw_below_drewN | apply below_drew1) | exact HB.out)) hb); clear HO103; clear HO106; clear HB; have HO103 := n0_; have HO106 := n1_; have HO111 := n2_; have HB := n3_; clear n0_ n1_ n2_ n3_; (try clear hb); (try clear hb2); (try clear hk); (try clear hi); (try clear ho0)) | ((with_reducible refine gate_dst (N := 25) rfl ?_); (try (refine gate_guard (by rfl) ?_; dsimp only)); refine Kd.R_lit k47 _ 47 ?hg (N := 25) ?hd (xs := ([(⟨(⟨#[89]⟩ : ByteArray), 0⟩ : S47)] : List (S47))) (inner := [.string (⟨#[89]⟩ : ByteArray), .int .i64 0]) (ok := fun _ => True) (okp := fun _ => True) ?hr ?hp (fun _ hk => hk) trivial (Below.refl _ _) (Nat.le_refl _) (by simp) ?_; (case hd => rfl); (case hg => rfl); (case hr => first | (go_simp; done) | (go_simp; rfl)); (case hp => exact (Reps.c2 (show Kd.M k47 _ _ _ (⟨(⟨#[89]⟩ : ByteArray), 0⟩ : S47) [.string (⟨#[89]⟩ : ByteArray), .int .i64 0] from (k47_mkM _ _ _ (⟨(⟨#[89]⟩ : ByteArray), 0⟩ : S47) )) (Reps.none _ _))); intro v113 w56 ho57 hb hg_ hnew_; clear hg_ hnew_; (first | rw [← Ny112.out] at ho57 | (simp only [Int.reduceToNat] at ho57; rw [← Ny112.out] at ho57)); have n0_ := Aside0.mk (Kd.R_elder' (by (with_reducible repeat (first | apply Kd.R_alloc | apply Kd.R_drewN | apply Kd.R_drew)); exact HO103.out) (Kd.R_base ho57) hb); have n1_ := Aside0.mk (Kd.R_elder' (by (with_reducible repeat (first | apply Kd.R_alloc | apply Kd.R_drewN | apply Kd.R_drew)); exact HO106.out) (Kd.R_base ho57) hb); have n2_ := Aside0.mk (Kd.S_elder' (by (with_reducible repeat (first | apply Kd.S_alloc | apply Kd.S_drewN | apply Kd.S_drew)); exact HO111.out) (Kd.R_base ho57) hb); have n3_ := Aside0.mk (Kd.R_lower (Kd.R_new' (Kd.R_new' ho57 (Kd.R_lt (by (with_reducible repeat (first | apply Kd.R_alloc | apply Kd.R_drewN | apply Kd.R_drew)); exact HO103.out))) (Kd.R_lt (by (with_reducible repeat (first | apply Kd.R_alloc | apply Kd.R_drewN | apply Kd.R_drew)); exact HO106.out))) (below_size (by repeat (first | (with_reducible first | exact HB.out | apply below_alloc | apply pw_below_drewN | apply below_drew1) | exact HB.out)))); have n4_ := Aside0.mk (below_step (by repeat (first | (with_reducible first | exact HB.out | apply below_alloc | apply pw_below_drewN | apply below_drew1) | exact HB.out)) hb); clear HO103; clear HO106; clear HO111; clear HB; have HO103 := n0_; have HO106 := n1_; have HO111 := n2_; have HO114 := n3_; have HB := n4_; clear n0_ n1_ n2_ n3_ n4_; clear hb ho57; obtain ⟨Ao58, co58, eo58⟩ := Kd.R_slice HO114.out; subst eo58; obtain ⟨Ao59, co59, eo59⟩ := Kd.S_slice HO111.out; subst eo59) | ((with_reducible refine gate_callee (f := 14) rfl ?_); refine goesL_ (some 27) rfl rfl Try.func14 (by kernel_rfl) rfl #[.slice Ao58 y112.length co58, .slice Ao59 t107.length co59] rfl (by (try simp only [List.map_toArray, List.map_cons, List.map_nil]); first | done | rfl | (simp only [List.length_drop, List.length_take]; rfl)) ?_; (with_reducible refine (match_Fill.calls k _ _ y112 _ _ t107 t115 t116 _ ?side1 ?side2 ?side3 ?side4 A2.out).mono ?_); (case side1 => repeat (first | exact (Kd.R_reads' HO114.out).2.2 | (with_reducible refine Kd.C_alloc ?_ _) | (with_reducible refine Kd.C_drewN ?_ _) | (with_reducible refine Kd.C_drew ?_))); (case side2 => exact (Kd.R_reads' HO114.out).2.1); (case side3 => repeat (first | exact (Kd.S_reads' HO111.out).2.2 | (with_reducible refine Kd.C_alloc ?_ _) | (with_reducible refine Kd.C_drewN ?_ _) | (with_reducible refine Kd.C_drew ?_))); (case side4 => exact (Kd.S_reads' HO111.out).2.1); rintro e w60 ⟨v117, rfl, ho0, hb⟩; refine ⟨_, rfl, ?_⟩; have n0_ := Aside0.mk (Kd.R_elder' (by (with_reducible repeat (first | apply Kd.R_alloc | apply Kd.R_drewN | apply Kd.R_drew)); exact HO103.out) (Kd.R_base ho0) hb); have n1_ := Aside0.mk (Kd.R_elder' (by (with_reducible repeat (first | apply Kd.R_alloc | apply Kd.R_drewN | apply Kd.R_drew)); exact HO106.out) (Kd.R_base ho0) hb); have n2_ := Aside0.mk (Kd.S_elder' (by (with_reducible repeat (first | apply Kd.S_alloc | apply Kd.S_drewN | apply Kd.S_drew)); exact HO111.out) (Kd.R_base ho0) hb); have n3_ := Aside0.mk (Kd.R_elder' (by (with_reducible repeat (first | apply Kd.R_alloc | apply Kd.R_drewN | apply Kd.R_drew)); exact HO114.out) (Kd.R_base ho0) hb); have n4_ := Aside0.mk (Kd.R_lower (Kd.R_new' (Kd.R_new' (Kd.R_new' ho0 (Kd.R_lt (by (with_reducible repeat (first | apply Kd.R_alloc | apply Kd.R_drewN | apply Kd.R_drew)); exact HO103.out))) (Kd.R_lt (by (with_reducible repeat (first | apply Kd.R_alloc | apply Kd.R_drewN | apply Kd.R_drew)); exact HO106.out))) (Kd.R_lt (by (with_reducible repeat (first | apply Kd.R_alloc | apply Kd.R_drewN | apply Kd.R_drew)); exact HO114.out))) (below_size (by repeat (first | (with_reducible first | exact HB.out | apply below_alloc | apply pw_below_drewN | apply below_drew1) | exact HB.out)))); have n5_ := Aside0.mk (below_step (by repeat (first | (with_reducible first | exact HB.out | apply below_alloc | apply pw_below_drewN | apply below_drew1) | exact HB.out)) hb); clear HO103; clear HO106; clear HO111; clear HO114; clear HB; have HO103 := n0_; have HO106 := n1_; have HO111 := n2_; have HO114 := n3_; have HO118 := n4_; have HB := n5_; clear n0_ n1_ n2_ n3_ n4_ n5_; (try clear hb); (try clear hb2); (try clear hk); (try clear hi); (try clear ho0)))
          go_ret
          exact ⟨by first | rfl | (simp [errW_none, errW_some] <;> rfl) | (simp [*, errW_none, errW_some] <;> rfl), by repeat (first | (with_reducible first | exact HB.out | apply below_alloc | apply pw_below_drewN | apply below_drew1) | exact HB.out)⟩
      · rw [if_neg c5] at H
        have c5b0 : (t116 == 0) = false := beq_eq_false_iff_ne.mpr c5
        have c5b1 : (t116 != 0) = true := bne_iff_ne.mpr c5
        obtain rfl := Option.some.inj H
        go_enter Try.func9, Try.ntmps9
        go_wp2_with (first | ((with_reducible refine gate_dst (N := 11) rfl ?_); (try (refine gate_guard (by rfl) ?_; dsimp only)); refine Kd.R_lit k47 _ 47 ?hg (N := 11) ?hd (xs := ([(⟨(⟨#[103]⟩ : ByteArray), 2⟩ : S47), (⟨(⟨#[88]⟩ : ByteArray), 0⟩ : S47), (⟨(⟨#[89]⟩ : ByteArray), 0⟩ : S47)] : List (S47))) (inner := [.string (⟨#[103]⟩ : ByteArray), .int .i64 2, .string (⟨#[88]⟩ : ByteArray), .int .i64 0, .string (⟨#[89]⟩ : ByteArray), .int .i64 0]) (ok := fun _ => True) (okp := fun _ => True) ?hr ?hp (fun _ hk => hk) trivial (Below.refl _ _) (Nat.le_refl _) (by simp) ?_; (case hd => rfl); (case hg => rfl); (case hr => first | (go_simp; done) | (go_simp; rfl)); (case hp => exact (Reps.c2 (show Kd.M k47 _ _ _ (⟨(⟨#[103]⟩ : ByteArray), 2⟩ : S47) [.string (⟨#[103]⟩ : ByteArray), .int .i64 2] from (k47_mkM _ _ _ (⟨(⟨#[103]⟩ : ByteArray), 2⟩ : S47) )) (Reps.c2 (show Kd.M k47 _ _ _ (⟨(⟨#[88]⟩ : ByteArray), 0⟩ : S47) [.string (⟨#[88]⟩ : ByteArray), .int .i64 0] from (k47_mkM _ _ _ (⟨(⟨#[88]⟩ : ByteArray), 0⟩ : S47) )) (Reps.c2 (show Kd.M k47 _ _ _ (⟨(⟨#[89]⟩ : ByteArray), 0⟩ : S47) [.string (⟨#[89]⟩ : ByteArray), .int .i64 0] from (k47_mkM _ _ _ (⟨(⟨#[89]⟩ : ByteArray), 0⟩ : S47) )) (Reps.none _ _))))); intro v102 w61 ho62 hb hg_ hnew_; clear hg_ hnew_; (first | rw [← Ny101.out] at ho62 | (simp only [Int.reduceToNat] at ho62; rw [← Ny101.out] at ho62)); have n0_ := Aside0.mk (Kd.R_lower ho62 (below_size (by repeat (first | (with_reducible first | exact HB.out | apply below_alloc | apply pw_below_drewN | apply below_drew1) | exact HB.out)))); have n1_ := Aside0.mk (below_step (by repeat (first | (with_reducible first | exact HB.out | apply below_alloc | apply pw_below_drewN | apply below_drew1) | exact HB.out)) hb); clear HB; have HO103 := n0_; have HB := n1_; clear n0_ n1_; clear hb ho62) | ((with_reducible refine gate_dst (N := 15) rfl ?_); (try (refine gate_guard (by rfl) ?_; dsimp only)); refine Kd.R_lit k47 _ 47 ?hg (N := 15) ?hd (xs := ([(⟨(⟨#[103]⟩ : ByteArray), 2⟩ : S47), (⟨(⟨#[97]⟩ : ByteArray), 0⟩ : S47), (⟨(⟨#[98]⟩ : ByteArray), 0⟩ : S47)] : List (S47))) (inner := [.string (⟨#[103]⟩ : ByteArray), .int .i64 2, .string (⟨#[97]⟩ : ByteArray), .int .i64 0, .string (⟨#[98]⟩ : ByteArray), .int .i64 0]) (ok := fun _ => True) (okp := fun _ => True) ?hr ?hp (fun _ hk => hk) trivial (Below.refl _ _) (Nat.le_refl _) (by simp) ?_; (case hd => rfl); (case hg => rfl); (case hr => first | (go_simp; done) | (go_simp; rfl)); (case hp => exact (Reps.c2 (show Kd.M k47 _ _ _ (⟨(⟨#[103]⟩ : ByteArray), 2⟩ : S47) [.string (⟨#[103]⟩ : ByteArray), .int .i64 2] from (k47_mkM _ _ _ (⟨(⟨#[103]⟩ : ByteArray), 2⟩ : S47) )) (Reps.c2 (show Kd.M k47 _ _ _ (⟨(⟨#[97]⟩ : ByteArray), 0⟩ : S47) [.string (⟨#[97]⟩ : ByteArray), .int .i64 0] from (k47_mkM _ _ _ (⟨(⟨#[97]⟩ : ByteArray), 0⟩ : S47) )) (Reps.c2 (show Kd.M k47 _ _ _ (⟨(⟨#[98]⟩ : ByteArray), 0⟩ : S47) [.string (⟨#[98]⟩ : ByteArray), .int .i64 0] from (k47_mkM _ _ _ (⟨(⟨#[98]⟩ : ByteArray), 0⟩ : S47) )) (Reps.none _ _))))); intro v105 w63 ho64 hb hg_ hnew_; clear hg_ hnew_; (first | rw [← Ny104.out] at ho64 | (simp only [Int.reduceToNat] at ho64; rw [← Ny104.out] at ho64)); have n0_ := Aside0.mk (Kd.R_elder' (by (with_reducible repeat (first | apply Kd.R_alloc | apply Kd.R_drewN | apply Kd.R_drew)); exact HO103.out) (Kd.R_base ho64) hb); have n1_ := Aside0.mk (Kd.R_lower (Kd.R_new' ho64 (Kd.R_lt (by (with_reducible repeat (first | apply Kd.R_alloc | apply Kd.R_drewN | apply Kd.R_drew)); exact HO103.out))) (below_size (by repeat (first | (with_reducible first | exact HB.out | apply below_alloc | apply pw_below_drewN | apply below_drew1) | exact HB.out)))); have n2_ := Aside0.mk (below_step (by repeat (first | (with_reducible first | exact HB.out | apply below_alloc | apply pw_below_drewN | apply below_drew1) | exact HB.out)) hb); clear HO103; clear HB; have HO103 := n0_; have HO106 := n1_; have HB := n2_; clear n0_ n1_ n2_; clear hb ho64; obtain ⟨Ao65, co65, eo65⟩ := Kd.R_slice HO103.out; subst eo65; obtain ⟨Ao66, co66, eo66⟩ := Kd.R_slice HO106.out; subst eo66) | ((with_reducible refine gate_callee (f := 10) rfl ?_); refine goesL_ (some 19) rfl rfl Try.func10 (by kernel_rfl) rfl #[.slice Ao65 y101.length co65, .slice Ao66 y104.length co66] rfl (by (try simp only [List.map_toArray, List.map_cons, List.map_nil]); first | done | rfl | (simp only [List.length_drop, List.length_take]; rfl)) ?_; (with_reducible refine (match_Match.calls k _ _ y101 _ _ y104 t107 true t109 _ ?side1 ?side2 ?side3 ?side4 A1.out).mono ?_); (case side1 => repeat (first | exact (Kd.R_reads' HO103.out).2.2 | (with_reducible refine Kd.C_alloc ?_ _) | (with_reducible refine Kd.C_drewN ?_ _) | (with_reducible refine Kd.C_drew ?_))); (case side2 => exact (Kd.R_reads' HO103.out).2.1); (case side3 => repeat (first | exact (Kd.R_reads' HO106.out).2.2 | (with_reducible refine Kd.C_alloc ?_ _) | (with_reducible refine Kd.C_drewN ?_ _) | (with_reducible refine Kd.C_drew ?_))); (case side4 => exact (Kd.R_reads' HO106.out).2.1); rintro e w67 ⟨v110, rfl, ho0, hb⟩; refine ⟨_, rfl, ?_⟩; have n0_ := Aside0.mk (Kd.R_below (by (with_reducible repeat (first | apply Kd.R_alloc | apply Kd.R_drewN | apply Kd.R_drew)); exact HO103.out) hb); have n1_ := Aside0.mk (Kd.R_below (by (with_reducible repeat (first | apply Kd.R_alloc | apply Kd.R_drewN | apply Kd.R_drew)); exact HO106.out) hb); have n2_ := Aside0.mk (Kd.S_lower (Kd.S_new' (Kd.S_new' ho0 (Kd.R_lt (by (with_reducible repeat (first | apply Kd.R_alloc | apply Kd.R_drewN | apply Kd.R_drew)); exact HO103.out))) (Kd.R_lt (by (with_reducible repeat (first | apply Kd.R_alloc | apply Kd.R_drewN | apply Kd.R_drew)); exact HO106.out))) (below_size (by repeat (first | (with_reducible first | exact HB.out | apply below_alloc | apply pw_below_drewN | apply below_drew1) | exact HB.out)))); have n3_ := Aside0.mk (below_step (by repeat (first | (with_reducible first | exact HB.out | apply below_alloc | apply pw_below_drewN | apply below_drew1) | exact HB.out)) hb); clear HO103; clear HO106; clear HB; have HO103 := n0_; have HO106 := n1_; have HO111 := n2_; have HB := n3_; clear n0_ n1_ n2_ n3_; (try clear hb); (try clear hb2); (try clear hk); (try clear hi); (try clear ho0)) | ((with_reducible refine gate_dst (N := 25) rfl ?_); (try (refine gate_guard (by rfl) ?_; dsimp only)); refine Kd.R_lit k47 _ 47 ?hg (N := 25) ?hd (xs := ([(⟨(⟨#[89]⟩ : ByteArray), 0⟩ : S47)] : List (S47))) (inner := [.string (⟨#[89]⟩ : ByteArray), .int .i64 0]) (ok := fun _ => True) (okp := fun _ => True) ?hr ?hp (fun _ hk => hk) trivial (Below.refl _ _) (Nat.le_refl _) (by simp) ?_; (case hd => rfl); (case hg => rfl); (case hr => first | (go_simp; done) | (go_simp; rfl)); (case hp => exact (Reps.c2 (show Kd.M k47 _ _ _ (⟨(⟨#[89]⟩ : ByteArray), 0⟩ : S47) [.string (⟨#[89]⟩ : ByteArray), .int .i64 0] from (k47_mkM _ _ _ (⟨(⟨#[89]⟩ : ByteArray), 0⟩ : S47) )) (Reps.none _ _))); intro v113 w68 ho69 hb hg_ hnew_; clear hg_ hnew_; (first | rw [← Ny112.out] at ho69 | (simp only [Int.reduceToNat] at ho69; rw [← Ny112.out] at ho69)); have n0_ := Aside0.mk (Kd.R_elder' (by (with_reducible repeat (first | apply Kd.R_alloc | apply Kd.R_drewN | apply Kd.R_drew)); exact HO103.out) (Kd.R_base ho69) hb); have n1_ := Aside0.mk (Kd.R_elder' (by (with_reducible repeat (first | apply Kd.R_alloc | apply Kd.R_drewN | apply Kd.R_drew)); exact HO106.out) (Kd.R_base ho69) hb); have n2_ := Aside0.mk (Kd.S_elder' (by (with_reducible repeat (first | apply Kd.S_alloc | apply Kd.S_drewN | apply Kd.S_drew)); exact HO111.out) (Kd.R_base ho69) hb); have n3_ := Aside0.mk (Kd.R_lower (Kd.R_new' (Kd.R_new' ho69 (Kd.R_lt (by (with_reducible repeat (first | apply Kd.R_alloc | apply Kd.R_drewN | apply Kd.R_drew)); exact HO103.out))) (Kd.R_lt (by (with_reducible repeat (first | apply Kd.R_alloc | apply Kd.R_drewN | apply Kd.R_drew)); exact HO106.out))) (below_size (by repeat (first | (with_reducible first | exact HB.out | apply below_alloc | apply pw_below_drewN | apply below_drew1) | exact HB.out)))); have n4_ := Aside0.mk (below_step (by repeat (first | (with_reducible first | exact HB.out | apply below_alloc | apply pw_below_drewN | apply below_drew1) | exact HB.out)) hb); clear HO103; clear HO106; clear HO111; clear HB; have HO103 := n0_; have HO106 := n1_; have HO111 := n2_; have HO114 := n3_; have HB := n4_; clear n0_ n1_ n2_ n3_ n4_; clear hb ho69; obtain ⟨Ao70, co70, eo70⟩ := Kd.R_slice HO114.out; subst eo70; obtain ⟨Ao71, co71, eo71⟩ := Kd.S_slice HO111.out; subst eo71) | ((with_reducible refine gate_callee (f := 14) rfl ?_); refine goesL_ (some 27) rfl rfl Try.func14 (by kernel_rfl) rfl #[.slice Ao70 y112.length co70, .slice Ao71 t107.length co71] rfl (by (try simp only [List.map_toArray, List.map_cons, List.map_nil]); first | done | rfl | (simp only [List.length_drop, List.length_take]; rfl)) ?_; (with_reducible refine (match_Fill.calls k _ _ y112 _ _ t107 t115 t116 _ ?side1 ?side2 ?side3 ?side4 A2.out).mono ?_); (case side1 => repeat (first | exact (Kd.R_reads' HO114.out).2.2 | (with_reducible refine Kd.C_alloc ?_ _) | (with_reducible refine Kd.C_drewN ?_ _) | (with_reducible refine Kd.C_drew ?_))); (case side2 => exact (Kd.R_reads' HO114.out).2.1); (case side3 => repeat (first | exact (Kd.S_reads' HO111.out).2.2 | (with_reducible refine Kd.C_alloc ?_ _) | (with_reducible refine Kd.C_drewN ?_ _) | (with_reducible refine Kd.C_drew ?_))); (case side4 => exact (Kd.S_reads' HO111.out).2.1); rintro e w72 ⟨v117, rfl, ho0, hb⟩; refine ⟨_, rfl, ?_⟩; have n0_ := Aside0.mk (Kd.R_elder' (by (with_reducible repeat (first | apply Kd.R_alloc | apply Kd.R_drewN | apply Kd.R_drew)); exact HO103.out) (Kd.R_base ho0) hb); have n1_ := Aside0.mk (Kd.R_elder' (by (with_reducible repeat (first | apply Kd.R_alloc | apply Kd.R_drewN | apply Kd.R_drew)); exact HO106.out) (Kd.R_base ho0) hb); have n2_ := Aside0.mk (Kd.S_elder' (by (with_reducible repeat (first | apply Kd.S_alloc | apply Kd.S_drewN | apply Kd.S_drew)); exact HO111.out) (Kd.R_base ho0) hb); have n3_ := Aside0.mk (Kd.R_elder' (by (with_reducible repeat (first | apply Kd.R_alloc | apply Kd.R_drewN | apply Kd.R_drew)); exact HO114.out) (Kd.R_base ho0) hb); have n4_ := Aside0.mk (Kd.R_lower (Kd.R_new' (Kd.R_new' (Kd.R_new' ho0 (Kd.R_lt (by (with_reducible repeat (first | apply Kd.R_alloc | apply Kd.R_drewN | apply Kd.R_drew)); exact HO103.out))) (Kd.R_lt (by (with_reducible repeat (first | apply Kd.R_alloc | apply Kd.R_drewN | apply Kd.R_drew)); exact HO106.out))) (Kd.R_lt (by (with_reducible repeat (first | apply Kd.R_alloc | apply Kd.R_drewN | apply Kd.R_drew)); exact HO114.out))) (below_size (by repeat (first | (with_reducible first | exact HB.out | apply below_alloc | apply pw_below_drewN | apply below_drew1) | exact HB.out)))); have n5_ := Aside0.mk (below_step (by repeat (first | (with_reducible first | exact HB.out | apply below_alloc | apply pw_below_drewN | apply below_drew1) | exact HB.out)) hb); clear HO103; clear HO106; clear HO111; clear HO114; clear HB; have HO103 := n0_; have HO106 := n1_; have HO111 := n2_; have HO114 := n3_; have HO118 := n4_; have HB := n5_; clear n0_ n1_ n2_ n3_ n4_ n5_; (try clear hb); (try clear hb2); (try clear hk); (try clear hi); (try clear ho0)))
        go_ret
        exact ⟨by first | rfl | (simp [errW_none, errW_some] <;> rfl) | (simp [*, errW_none, errW_some] <;> rfl), by repeat (first | (with_reducible first | exact HB.out | apply below_alloc | apply pw_below_drewN | apply below_drew1) | exact HB.out)⟩
    · rw [if_neg c4] at H
      have c4b0 : (t109 == 0) = false := beq_eq_false_iff_ne.mpr c4
      have c4b1 : (t109 != 0) = true := bne_iff_ne.mpr c4
      obtain rfl := Option.some.inj H
      go_enter Try.func9, Try.ntmps9
      go_wp2_with (first | ((with_reducible refine gate_dst (N := 11) rfl ?_); (try (refine gate_guard (by rfl) ?_; dsimp only)); refine Kd.R_lit k47 _ 47 ?hg (N := 11) ?hd (xs := ([(⟨(⟨#[103]⟩ : ByteArray), 2⟩ : S47), (⟨(⟨#[88]⟩ : ByteArray), 0⟩ : S47), (⟨(⟨#[89]⟩ : ByteArray), 0⟩ : S47)] : List (S47))) (inner := [.string (⟨#[103]⟩ : ByteArray), .int .i64 2, .string (⟨#[88]⟩ : ByteArray), .int .i64 0, .string (⟨#[89]⟩ : ByteArray), .int .i64 0]) (ok := fun _ => True) (okp := fun _ => True) ?hr ?hp (fun _ hk => hk) trivial (Below.refl _ _) (Nat.le_refl _) (by simp) ?_; (case hd => rfl); (case hg => rfl); (case hr => first | (go_simp; done) | (go_simp; rfl)); (case hp => exact (Reps.c2 (show Kd.M k47 _ _ _ (⟨(⟨#[103]⟩ : ByteArray), 2⟩ : S47) [.string (⟨#[103]⟩ : ByteArray), .int .i64 2] from (k47_mkM _ _ _ (⟨(⟨#[103]⟩ : ByteArray), 2⟩ : S47) )) (Reps.c2 (show Kd.M k47 _ _ _ (⟨(⟨#[88]⟩ : ByteArray), 0⟩ : S47) [.string (⟨#[88]⟩ : ByteArray), .int .i64 0] from (k47_mkM _ _ _ (⟨(⟨#[88]⟩ : ByteArray), 0⟩ : S47) )) (Reps.c2 (show Kd.M k47 _ _ _ (⟨(⟨#[89]⟩ : ByteArray), 0⟩ : S47) [.string (⟨#[89]⟩ : ByteArray), .int .i64 0] from (k47_mkM _ _ _ (⟨(⟨#[89]⟩ : ByteArray), 0⟩ : S47) )) (Reps.none _ _))))); intro v102 w73 ho74 hb hg_ hnew_; clear hg_ hnew_; (first | rw [← Ny101.out] at ho74 | (simp only [Int.reduceToNat] at ho74; rw [← Ny101.out] at ho74)); have n0_ := Aside0.mk (Kd.R_lower ho74 (below_size (by repeat (first | (with_reducible first | exact HB.out | apply below_alloc | apply pw_below_drewN | apply below_drew1) | exact HB.out)))); have n1_ := Aside0.mk (below_step (by repeat (first | (with_reducible first | exact HB.out | apply below_alloc | apply pw_below_drewN | apply below_drew1) | exact HB.out)) hb); clear HB; have HO103 := n0_; have HB := n1_; clear n0_ n1_; clear hb ho74) | ((with_reducible refine gate_dst (N := 15) rfl ?_); (try (refine gate_guard (by rfl) ?_; dsimp only)); refine Kd.R_lit k47 _ 47 ?hg (N := 15) ?hd (xs := ([(⟨(⟨#[103]⟩ : ByteArray), 2⟩ : S47), (⟨(⟨#[97]⟩ : ByteArray), 0⟩ : S47), (⟨(⟨#[98]⟩ : ByteArray), 0⟩ : S47)] : List (S47))) (inner := [.string (⟨#[103]⟩ : ByteArray), .int .i64 2, .string (⟨#[97]⟩ : ByteArray), .int .i64 0, .string (⟨#[98]⟩ : ByteArray), .int .i64 0]) (ok := fun _ => True) (okp := fun _ => True) ?hr ?hp (fun _ hk => hk) trivial (Below.refl _ _) (Nat.le_refl _) (by simp) ?_; (case hd => rfl); (case hg => rfl); (case hr => first | (go_simp; done) | (go_simp; rfl)); (case hp => exact (Reps.c2 (show Kd.M k47 _ _ _ (⟨(⟨#[103]⟩ : ByteArray), 2⟩ : S47) [.string (⟨#[103]⟩ : ByteArray), .int .i64 2] from (k47_mkM _ _ _ (⟨(⟨#[103]⟩ : ByteArray), 2⟩ : S47) )) (Reps.c2 (show Kd.M k47 _ _ _ (⟨(⟨#[97]⟩ : ByteArray), 0⟩ : S47) [.string (⟨#[97]⟩ : ByteArray), .int .i64 0] from (k47_mkM _ _ _ (⟨(⟨#[97]⟩ : ByteArray), 0⟩ : S47) )) (Reps.c2 (show Kd.M k47 _ _ _ (⟨(⟨#[98]⟩ : ByteArray), 0⟩ : S47) [.string (⟨#[98]⟩ : ByteArray), .int .i64 0] from (k47_mkM _ _ _ (⟨(⟨#[98]⟩ : ByteArray), 0⟩ : S47) )) (Reps.none _ _))))); intro v105 w75 ho76 hb hg_ hnew_; clear hg_ hnew_; (first | rw [← Ny104.out] at ho76 | (simp only [Int.reduceToNat] at ho76; rw [← Ny104.out] at ho76)); have n0_ := Aside0.mk (Kd.R_elder' (by (with_reducible repeat (first | apply Kd.R_alloc | apply Kd.R_drewN | apply Kd.R_drew)); exact HO103.out) (Kd.R_base ho76) hb); have n1_ := Aside0.mk (Kd.R_lower (Kd.R_new' ho76 (Kd.R_lt (by (with_reducible repeat (first | apply Kd.R_alloc | apply Kd.R_drewN | apply Kd.R_drew)); exact HO103.out))) (below_size (by repeat (first | (with_reducible first | exact HB.out | apply below_alloc | apply pw_below_drewN | apply below_drew1) | exact HB.out)))); have n2_ := Aside0.mk (below_step (by repeat (first | (with_reducible first | exact HB.out | apply below_alloc | apply pw_below_drewN | apply below_drew1) | exact HB.out)) hb); clear HO103; clear HB; have HO103 := n0_; have HO106 := n1_; have HB := n2_; clear n0_ n1_ n2_; clear hb ho76; obtain ⟨Ao77, co77, eo77⟩ := Kd.R_slice HO103.out; subst eo77; obtain ⟨Ao78, co78, eo78⟩ := Kd.R_slice HO106.out; subst eo78) | ((with_reducible refine gate_callee (f := 10) rfl ?_); refine goesL_ (some 19) rfl rfl Try.func10 (by kernel_rfl) rfl #[.slice Ao77 y101.length co77, .slice Ao78 y104.length co78] rfl (by (try simp only [List.map_toArray, List.map_cons, List.map_nil]); first | done | rfl | (simp only [List.length_drop, List.length_take]; rfl)) ?_; (with_reducible refine (match_Match.calls k _ _ y101 _ _ y104 t107 true t109 _ ?side1 ?side2 ?side3 ?side4 A1.out).mono ?_); (case side1 => repeat (first | exact (Kd.R_reads' HO103.out).2.2 | (with_reducible refine Kd.C_alloc ?_ _) | (with_reducible refine Kd.C_drewN ?_ _) | (with_reducible refine Kd.C_drew ?_))); (case side2 => exact (Kd.R_reads' HO103.out).2.1); (case side3 => repeat (first | exact (Kd.R_reads' HO106.out).2.2 | (with_reducible refine Kd.C_alloc ?_ _) | (with_reducible refine Kd.C_drewN ?_ _) | (with_reducible refine Kd.C_drew ?_))); (case side4 => exact (Kd.R_reads' HO106.out).2.1); rintro e w79 ⟨v110, rfl, ho0, hb⟩; refine ⟨_, rfl, ?_⟩; have n0_ := Aside0.mk (Kd.R_below (by (with_reducible repeat (first | apply Kd.R_alloc | apply Kd.R_drewN | apply Kd.R_drew)); exact HO103.out) hb); have n1_ := Aside0.mk (Kd.R_below (by (with_reducible repeat (first | apply Kd.R_alloc | apply Kd.R_drewN | apply Kd.R_drew)); exact HO106.out) hb); have n2_ := Aside0.mk (Kd.S_lower (Kd.S_new' (Kd.S_new' ho0 (Kd.R_lt (by (with_reducible repeat (first | apply Kd.R_alloc | apply Kd.R_drewN | apply Kd.R_drew)); exact HO103.out))) (Kd.R_lt (by (with_reducible repeat (first | apply Kd.R_alloc | apply Kd.R_drewN | apply Kd.R_drew)); exact HO106.out))) (below_size (by repeat (first | (with_reducible first | exact HB.out | apply below_alloc | apply pw_below_drewN | apply below_drew1) | exact HB.out)))); have n3_ := Aside0.mk (below_step (by repeat (first | (with_reducible first | exact HB.out | apply below_alloc | apply pw_below_drewN | apply below_drew1) | exact HB.out)) hb); clear HO103; clear HO106; clear HB; have HO103 := n0_; have HO106 := n1_; have HO111 := n2_; have HB := n3_; clear n0_ n1_ n2_ n3_; (try clear hb); (try clear hb2); (try clear hk); (try clear hi); (try clear ho0)) | ((with_reducible refine gate_dst (N := 25) rfl ?_); (try (refine gate_guard (by rfl) ?_; dsimp only)); refine Kd.R_lit k47 _ 47 ?hg (N := 25) ?hd (xs := ([(⟨(⟨#[89]⟩ : ByteArray), 0⟩ : S47)] : List (S47))) (inner := [.string (⟨#[89]⟩ : ByteArray), .int .i64 0]) (ok := fun _ => True) (okp := fun _ => True) ?hr ?hp (fun _ hk => hk) trivial (Below.refl _ _) (Nat.le_refl _) (by simp) ?_; (case hd => rfl); (case hg => rfl); (case hr => first | (go_simp; done) | (go_simp; rfl)); (case hp => exact (Reps.c2 (show Kd.M k47 _ _ _ (⟨(⟨#[89]⟩ : ByteArray), 0⟩ : S47) [.string (⟨#[89]⟩ : ByteArray), .int .i64 0] from (k47_mkM _ _ _ (⟨(⟨#[89]⟩ : ByteArray), 0⟩ : S47) )) (Reps.none _ _))); intro v113 w80 ho81 hb hg_ hnew_; clear hg_ hnew_; (first | rw [← Ny112.out] at ho81 | (simp only [Int.reduceToNat] at ho81; rw [← Ny112.out] at ho81)); have n0_ := Aside0.mk (Kd.R_elder' (by (with_reducible repeat (first | apply Kd.R_alloc | apply Kd.R_drewN | apply Kd.R_drew)); exact HO103.out) (Kd.R_base ho81) hb); have n1_ := Aside0.mk (Kd.R_elder' (by (with_reducible repeat (first | apply Kd.R_alloc | apply Kd.R_drewN | apply Kd.R_drew)); exact HO106.out) (Kd.R_base ho81) hb); have n2_ := Aside0.mk (Kd.S_elder' (by (with_reducible repeat (first | apply Kd.S_alloc | apply Kd.S_drewN | apply Kd.S_drew)); exact HO111.out) (Kd.R_base ho81) hb); have n3_ := Aside0.mk (Kd.R_lower (Kd.R_new' (Kd.R_new' ho81 (Kd.R_lt (by (with_reducible repeat (first | apply Kd.R_alloc | apply Kd.R_drewN | apply Kd.R_drew)); exact HO103.out))) (Kd.R_lt (by (with_reducible repeat (first | apply Kd.R_alloc | apply Kd.R_drewN | apply Kd.R_drew)); exact HO106.out))) (below_size (by repeat (first | (with_reducible first | exact HB.out | apply below_alloc | apply pw_below_drewN | apply below_drew1) | exact HB.out)))); have n4_ := Aside0.mk (below_step (by repeat (first | (with_reducible first | exact HB.out | apply below_alloc | apply pw_below_drewN | apply below_drew1) | exact HB.out)) hb); clear HO103; clear HO106; clear HO111; clear HB; have HO103 := n0_; have HO106 := n1_; have HO111 := n2_; have HO114 := n3_; have HB := n4_; clear n0_ n1_ n2_ n3_ n4_; clear hb ho81; obtain ⟨Ao82, co82, eo82⟩ := Kd.R_slice HO114.out; subst eo82; obtain ⟨Ao83, co83, eo83⟩ := Kd.S_slice HO111.out; subst eo83) | ((with_reducible refine gate_callee (f := 14) rfl ?_); refine goesL_ (some 27) rfl rfl Try.func14 (by kernel_rfl) rfl #[.slice Ao82 y112.length co82, .slice Ao83 t107.length co83] rfl (by (try simp only [List.map_toArray, List.map_cons, List.map_nil]); first | done | rfl | (simp only [List.length_drop, List.length_take]; rfl)) ?_; (with_reducible refine (match_Fill.calls k _ _ y112 _ _ t107 t115 t116 _ ?side1 ?side2 ?side3 ?side4 A2.out).mono ?_); (case side1 => repeat (first | exact (Kd.R_reads' HO114.out).2.2 | (with_reducible refine Kd.C_alloc ?_ _) | (with_reducible refine Kd.C_drewN ?_ _) | (with_reducible refine Kd.C_drew ?_))); (case side2 => exact (Kd.R_reads' HO114.out).2.1); (case side3 => repeat (first | exact (Kd.S_reads' HO111.out).2.2 | (with_reducible refine Kd.C_alloc ?_ _) | (with_reducible refine Kd.C_drewN ?_ _) | (with_reducible refine Kd.C_drew ?_))); (case side4 => exact (Kd.S_reads' HO111.out).2.1); rintro e w84 ⟨v117, rfl, ho0, hb⟩; refine ⟨_, rfl, ?_⟩; have n0_ := Aside0.mk (Kd.R_elder' (by (with_reducible repeat (first | apply Kd.R_alloc | apply Kd.R_drewN | apply Kd.R_drew)); exact HO103.out) (Kd.R_base ho0) hb); have n1_ := Aside0.mk (Kd.R_elder' (by (with_reducible repeat (first | apply Kd.R_alloc | apply Kd.R_drewN | apply Kd.R_drew)); exact HO106.out) (Kd.R_base ho0) hb); have n2_ := Aside0.mk (Kd.S_elder' (by (with_reducible repeat (first | apply Kd.S_alloc | apply Kd.S_drewN | apply Kd.S_drew)); exact HO111.out) (Kd.R_base ho0) hb); have n3_ := Aside0.mk (Kd.R_elder' (by (with_reducible repeat (first | apply Kd.R_alloc | apply Kd.R_drewN | apply Kd.R_drew)); exact HO114.out) (Kd.R_base ho0) hb); have n4_ := Aside0.mk (Kd.R_lower (Kd.R_new' (Kd.R_new' (Kd.R_new' ho0 (Kd.R_lt (by (with_reducible repeat (first | apply Kd.R_alloc | apply Kd.R_drewN | apply Kd.R_drew)); exact HO103.out))) (Kd.R_lt (by (with_reducible repeat (first | apply Kd.R_alloc | apply Kd.R_drewN | apply Kd.R_drew)); exact HO106.out))) (Kd.R_lt (by (with_reducible repeat (first | apply Kd.R_alloc | apply Kd.R_drewN | apply Kd.R_drew)); exact HO114.out))) (below_size (by repeat (first | (with_reducible first | exact HB.out | apply below_alloc | apply pw_below_drewN | apply below_drew1) | exact HB.out)))); have n5_ := Aside0.mk (below_step (by repeat (first | (with_reducible first | exact HB.out | apply below_alloc | apply pw_below_drewN | apply below_drew1) | exact HB.out)) hb); clear HO103; clear HO106; clear HO111; clear HO114; clear HB; have HO103 := n0_; have HO106 := n1_; have HO111 := n2_; have HO114 := n3_; have HO118 := n4_; have HB := n5_; clear n0_ n1_ n2_ n3_ n4_ n5_; (try clear hb); (try clear hb2); (try clear hk); (try clear hi); (try clear ho0)))
      go_ret
      exact ⟨by first | rfl | (simp [errW_none, errW_some] <;> rfl) | (simp [*, errW_none, errW_some] <;> rfl), by repeat (first | (with_reducible first | exact HB.out | apply below_alloc | apply pw_below_drewN | apply below_drew1) | exact HB.out)⟩
  · replace c3 := Bool.eq_false_iff.mpr c3
    subst c3
    have H1 : (some false) = some r := by rw [if_neg (show ¬ (false = true) by decide)] at H; exact H
    clear H
    have H := H1
    clear H1
    obtain rfl := Option.some.inj H
    go_enter Try.func9, Try.ntmps9
    go_wp2_with (first | ((with_reducible refine gate_dst (N := 11) rfl ?_); (try (refine gate_guard (by rfl) ?_; dsimp only)); refine Kd.R_lit k47 _ 47 ?hg (N := 11) ?hd (xs := ([(⟨(⟨#[103]⟩ : ByteArray), 2⟩ : S47), (⟨(⟨#[88]⟩ : ByteArray), 0⟩ : S47), (⟨(⟨#[89]⟩ : ByteArray), 0⟩ : S47)] : List (S47))) (inner := [.string (⟨#[103]⟩ : ByteArray), .int .i64 2, .string (⟨#[88]⟩ : ByteArray), .int .i64 0, .string (⟨#[89]⟩ : ByteArray), .int .i64 0]) (ok := fun _ => True) (okp := fun _ => True) ?hr ?hp (fun _ hk => hk) trivial (Below.refl _ _) (Nat.le_refl _) (by simp) ?_; (case hd => rfl); (case hg => rfl); (case hr => first | (go_simp; done) | (go_simp; rfl)); (case hp => exact (Reps.c2 (show Kd.M k47 _ _ _ (⟨(⟨#[103]⟩ : ByteArray), 2⟩ : S47) [.string (⟨#[103]⟩ : ByteArray), .int .i64 2] from (k47_mkM _ _ _ (⟨(⟨#[103]⟩ : ByteArray), 2⟩ : S47) )) (Reps.c2 (show Kd.M k47 _ _ _ (⟨(⟨#[88]⟩ : ByteArray), 0⟩ : S47) [.string (⟨#[88]⟩ : ByteArray), .int .i64 0] from (k47_mkM _ _ _ (⟨(⟨#[88]⟩ : ByteArray), 0⟩ : S47) )) (Reps.c2 (show Kd.M k47 _ _ _ (⟨(⟨#[89]⟩ : ByteArray), 0⟩ : S47) [.string (⟨#[89]⟩ : ByteArray), .int .i64 0] from (k47_mkM _ _ _ (⟨(⟨#[89]⟩ : ByteArray), 0⟩ : S47) )) (Reps.none _ _))))); intro v102 w85 ho86 hb hg_ hnew_; clear hg_ hnew_; (first | rw [← Ny101.out] at ho86 | (simp only [Int.reduceToNat] at ho86; rw [← Ny101.out] at ho86)); have n0_ := Aside0.mk (Kd.R_lower ho86 (below_size (by repeat (first | (with_reducible first | exact HB.out | apply below_alloc | apply pw_below_drewN | apply below_drew1) | exact HB.out)))); have n1_ := Aside0.mk (below_step (by repeat (first | (with_reducible first | exact HB.out | apply below_alloc | apply pw_below_drewN | apply below_drew1) | exact HB.out)) hb); clear HB; have HO103 := n0_; have HB := n1_; clear n0_ n1_; clear hb ho86) | ((with_reducible refine gate_dst (N := 15) rfl ?_); (try (refine gate_guard (by rfl) ?_; dsimp only)); refine Kd.R_lit k47 _ 47 ?hg (N := 15) ?hd (xs := ([(⟨(⟨#[103]⟩ : ByteArray), 2⟩ : S47), (⟨(⟨#[97]⟩ : ByteArray), 0⟩ : S47), (⟨(⟨#[98]⟩ : ByteArray), 0⟩ : S47)] : List (S47))) (inner := [.string (⟨#[103]⟩ : ByteArray), .int .i64 2, .string (⟨#[97]⟩ : ByteArray), .int .i64 0, .string (⟨#[98]⟩ : ByteArray), .int .i64 0]) (ok := fun _ => True) (okp := fun _ => True) ?hr ?hp (fun _ hk => hk) trivial (Below.refl _ _) (Nat.le_refl _) (by simp) ?_; (case hd => rfl); (case hg => rfl); (case hr => first | (go_simp; done) | (go_simp; rfl)); (case hp => exact (Reps.c2 (show Kd.M k47 _ _ _ (⟨(⟨#[103]⟩ : ByteArray), 2⟩ : S47) [.string (⟨#[103]⟩ : ByteArray), .int .i64 2] from (k47_mkM _ _ _ (⟨(⟨#[103]⟩ : ByteArray), 2⟩ : S47) )) (Reps.c2 (show Kd.M k47 _ _ _ (⟨(⟨#[97]⟩ : ByteArray), 0⟩ : S47) [.string (⟨#[97]⟩ : ByteArray), .int .i64 0] from (k47_mkM _ _ _ (⟨(⟨#[97]⟩ : ByteArray), 0⟩ : S47) )) (Reps.c2 (show Kd.M k47 _ _ _ (⟨(⟨#[98]⟩ : ByteArray), 0⟩ : S47) [.string (⟨#[98]⟩ : ByteArray), .int .i64 0] from (k47_mkM _ _ _ (⟨(⟨#[98]⟩ : ByteArray), 0⟩ : S47) )) (Reps.none _ _))))); intro v105 w87 ho88 hb hg_ hnew_; clear hg_ hnew_; (first | rw [← Ny104.out] at ho88 | (simp only [Int.reduceToNat] at ho88; rw [← Ny104.out] at ho88)); have n0_ := Aside0.mk (Kd.R_elder' (by (with_reducible repeat (first | apply Kd.R_alloc | apply Kd.R_drewN | apply Kd.R_drew)); exact HO103.out) (Kd.R_base ho88) hb); have n1_ := Aside0.mk (Kd.R_lower (Kd.R_new' ho88 (Kd.R_lt (by (with_reducible repeat (first | apply Kd.R_alloc | apply Kd.R_drewN | apply Kd.R_drew)); exact HO103.out))) (below_size (by repeat (first | (with_reducible first | exact HB.out | apply below_alloc | apply pw_below_drewN | apply below_drew1) | exact HB.out)))); have n2_ := Aside0.mk (below_step (by repeat (first | (with_reducible first | exact HB.out | apply below_alloc | apply pw_below_drewN | apply below_drew1) | exact HB.out)) hb); clear HO103; clear HB; have HO103 := n0_; have HO106 := n1_; have HB := n2_; clear n0_ n1_ n2_; clear hb ho88; obtain ⟨Ao89, co89, eo89⟩ := Kd.R_slice HO103.out; subst eo89; obtain ⟨Ao90, co90, eo90⟩ := Kd.R_slice HO106.out; subst eo90) | ((with_reducible refine gate_callee (f := 10) rfl ?_); refine goesL_ (some 19) rfl rfl Try.func10 (by kernel_rfl) rfl #[.slice Ao89 y101.length co89, .slice Ao90 y104.length co90] rfl (by (try simp only [List.map_toArray, List.map_cons, List.map_nil]); first | done | rfl | (simp only [List.length_drop, List.length_take]; rfl)) ?_; (with_reducible refine (match_Match.calls k _ _ y101 _ _ y104 t107 false t109 _ ?side1 ?side2 ?side3 ?side4 A1.out).mono ?_); (case side1 => repeat (first | exact (Kd.R_reads' HO103.out).2.2 | (with_reducible refine Kd.C_alloc ?_ _) | (with_reducible refine Kd.C_drewN ?_ _) | (with_reducible refine Kd.C_drew ?_))); (case side2 => exact (Kd.R_reads' HO103.out).2.1); (case side3 => repeat (first | exact (Kd.R_reads' HO106.out).2.2 | (with_reducible refine Kd.C_alloc ?_ _) | (with_reducible refine Kd.C_drewN ?_ _) | (with_reducible refine Kd.C_drew ?_))); (case side4 => exact (Kd.R_reads' HO106.out).2.1); rintro e w91 ⟨v110, rfl, ho0, hb⟩; refine ⟨_, rfl, ?_⟩; have n0_ := Aside0.mk (Kd.R_below (by (with_reducible repeat (first | apply Kd.R_alloc | apply Kd.R_drewN | apply Kd.R_drew)); exact HO103.out) hb); have n1_ := Aside0.mk (Kd.R_below (by (with_reducible repeat (first | apply Kd.R_alloc | apply Kd.R_drewN | apply Kd.R_drew)); exact HO106.out) hb); have n2_ := Aside0.mk (Kd.S_lower (Kd.S_new' (Kd.S_new' ho0 (Kd.R_lt (by (with_reducible repeat (first | apply Kd.R_alloc | apply Kd.R_drewN | apply Kd.R_drew)); exact HO103.out))) (Kd.R_lt (by (with_reducible repeat (first | apply Kd.R_alloc | apply Kd.R_drewN | apply Kd.R_drew)); exact HO106.out))) (below_size (by repeat (first | (with_reducible first | exact HB.out | apply below_alloc | apply pw_below_drewN | apply below_drew1) | exact HB.out)))); have n3_ := Aside0.mk (below_step (by repeat (first | (with_reducible first | exact HB.out | apply below_alloc | apply pw_below_drewN | apply below_drew1) | exact HB.out)) hb); clear HO103; clear HO106; clear HB; have HO103 := n0_; have HO106 := n1_; have HO111 := n2_; have HB := n3_; clear n0_ n1_ n2_ n3_; (try clear hb); (try clear hb2); (try clear hk); (try clear hi); (try clear ho0)) | ((with_reducible refine gate_dst (N := 25) rfl ?_); (try (refine gate_guard (by rfl) ?_; dsimp only)); refine Kd.R_lit k47 _ 47 ?hg (N := 25) ?hd (xs := ([(⟨(⟨#[89]⟩ : ByteArray), 0⟩ : S47)] : List (S47))) (inner := [.string (⟨#[89]⟩ : ByteArray), .int .i64 0]) (ok := fun _ => True) (okp := fun _ => True) ?hr ?hp (fun _ hk => hk) trivial (Below.refl _ _) (Nat.le_refl _) (by simp) ?_; (case hd => rfl); (case hg => rfl); (case hr => first | (go_simp; done) | (go_simp; rfl)); (case hp => exact (Reps.c2 (show Kd.M k47 _ _ _ (⟨(⟨#[89]⟩ : ByteArray), 0⟩ : S47) [.string (⟨#[89]⟩ : ByteArray), .int .i64 0] from (k47_mkM _ _ _ (⟨(⟨#[89]⟩ : ByteArray), 0⟩ : S47) )) (Reps.none _ _))); intro v113 w92 ho93 hb hg_ hnew_; clear hg_ hnew_; (first | rw [← Ny112.out] at ho93 | (simp only [Int.reduceToNat] at ho93; rw [← Ny112.out] at ho93)); have n0_ := Aside0.mk (Kd.R_elder' (by (with_reducible repeat (first | apply Kd.R_alloc | apply Kd.R_drewN | apply Kd.R_drew)); exact HO103.out) (Kd.R_base ho93) hb); have n1_ := Aside0.mk (Kd.R_elder' (by (with_reducible repeat (first | apply Kd.R_alloc | apply Kd.R_drewN | apply Kd.R_drew)); exact HO106.out) (Kd.R_base ho93) hb); have n2_ := Aside0.mk (Kd.S_elder' (by (with_reducible repeat (first | apply Kd.S_alloc | apply Kd.S_drewN | apply Kd.S_drew)); exact HO111.out) (Kd.R_base ho93) hb); have n3_ := Aside0.mk (Kd.R_lower (Kd.R_new' (Kd.R_new' ho93 (Kd.R_lt (by (with_reducible repeat (first | apply Kd.R_alloc | apply Kd.R_drewN | apply Kd.R_drew)); exact HO103.out))) (Kd.R_lt (by (with_reducible repeat (first | apply Kd.R_alloc | apply Kd.R_drewN | apply Kd.R_drew)); exact HO106.out))) (below_size (by repeat (first | (with_reducible first | exact HB.out | apply below_alloc | apply pw_below_drewN | apply below_drew1) | exact HB.out)))); have n4_ := Aside0.mk (below_step (by repeat (first | (with_reducible first | exact HB.out | apply below_alloc | apply pw_below_drewN | apply below_drew1) | exact HB.out)) hb); clear HO103; clear HO106; clear HO111; clear HB; have HO103 := n0_; have HO106 := n1_; have HO111 := n2_; have HO114 := n3_; have HB := n4_; clear n0_ n1_ n2_ n3_ n4_; clear hb ho93; obtain ⟨Ao94, co94, eo94⟩ := Kd.R_slice HO114.out; subst eo94; obtain ⟨Ao95, co95, eo95⟩ := Kd.S_slice HO111.out; subst eo95) | ((with_reducible refine gate_callee (f := 14) rfl ?_); refine goesL_ (some 27) rfl rfl Try.func14 (by kernel_rfl) rfl #[.slice Ao94 y112.length co94, .slice Ao95 t107.length co95] rfl (by (try simp only [List.map_toArray, List.map_cons, List.map_nil]); first | done | rfl | (simp only [List.length_drop, List.length_take]; rfl)) ?_; (with_reducible refine (match_Fill.calls k _ _ y112 _ _ t107 t115 t116 _ ?side1 ?side2 ?side3 ?side4 A2.out).mono ?_); (case side1 => repeat (first | exact (Kd.R_reads' HO114.out).2.2 | (with_reducible refine Kd.C_alloc ?_ _) | (with_reducible refine Kd.C_drewN ?_ _) | (with_reducible refine Kd.C_drew ?_))); (case side2 => exact (Kd.R_reads' HO114.out).2.1); (case side3 => repeat (first | exact (Kd.S_reads' HO111.out).2.2 | (with_reducible refine Kd.C_alloc ?_ _) | (with_reducible refine Kd.C_drewN ?_ _) | (with_reducible refine Kd.C_drew ?_))); (case side4 => exact (Kd.S_reads' HO111.out).2.1); rintro e w96 ⟨v117, rfl, ho0, hb⟩; refine ⟨_, rfl, ?_⟩; have n0_ := Aside0.mk (Kd.R_elder' (by (with_reducible repeat (first | apply Kd.R_alloc | apply Kd.R_drewN | apply Kd.R_drew)); exact HO103.out) (Kd.R_base ho0) hb); have n1_ := Aside0.mk (Kd.R_elder' (by (with_reducible repeat (first | apply Kd.R_alloc | apply Kd.R_drewN | apply Kd.R_drew)); exact HO106.out) (Kd.R_base ho0) hb); have n2_ := Aside0.mk (Kd.S_elder' (by (with_reducible repeat (first | apply Kd.S_alloc | apply Kd.S_drewN | apply Kd.S_drew)); exact HO111.out) (Kd.R_base ho0) hb); have n3_ := Aside0.mk (Kd.R_elder' (by (with_reducible repeat (first | apply Kd.R_alloc | apply Kd.R_drewN | apply Kd.R_drew)); exact HO114.out) (Kd.R_base ho0) hb); have n4_ := Aside0.mk (Kd.R_lower (Kd.R_new' (Kd.R_new' (Kd.R_new' ho0 (Kd.R_lt (by (with_reducible repeat (first | apply Kd.R_alloc | apply Kd.R_drewN | apply Kd.R_drew)); exact HO103.out))) (Kd.R_lt (by (with_reducible repeat (first | apply Kd.R_alloc | apply Kd.R_drewN | apply Kd.R_drew)); exact HO106.out))) (Kd.R_lt (by (with_reducible repeat (first | apply Kd.R_alloc | apply Kd.R_drewN | apply Kd.R_drew)); exact HO114.out))) (below_size (by repeat (first | (with_reducible first | exact HB.out | apply below_alloc | apply pw_below_drewN | apply below_drew1) | exact HB.out)))); have n5_ := Aside0.mk (below_step (by repeat (first | (with_reducible first | exact HB.out | apply below_alloc | apply pw_below_drewN | apply below_drew1) | exact HB.out)) hb); clear HO103; clear HO106; clear HO111; clear HO114; clear HB; have HO103 := n0_; have HO106 := n1_; have HO111 := n2_; have HO114 := n3_; have HO118 := n4_; have HB := n5_; clear n0_ n1_ n2_ n3_ n4_ n5_; (try clear hb); (try clear hb2); (try clear hk); (try clear hi); (try clear ho0)))
    go_ret
    exact ⟨by first | rfl | (simp [errW_none, errW_some] <;> rfl) | (simp [*, errW_none, errW_some] <;> rfl), by repeat (first | (with_reducible first | exact HB.out | apply below_alloc | apply pw_below_drewN | apply below_drew1) | exact HB.out)⟩

end Go.Proofs.Ytlfhonekcmlomaa.P

-- ==== PF3
namespace Go.Proofs.Ytlfhonekcmlomaa.P
open Go.RowKit Go.Proofs.YtlfhonekcmlomaaW.PrintWords Go.Proofs.YtlfhonekcmlomaaW.PrintLast Go.Proofs.YtlfhonekcmlomaaW.PrintMore
attribute [local go_sem] max2_int min2_int max_two min_two max_three min_three max_four min_four   -- for this text's walks alone
set_option linter.unusedVariables false
set_option linter.unusedSimpArgs false

/-! ### aumbrylaw05_MatchFinds: function 3 -/
def aumbrylaw05_MatchFinds.f (k : Nat) (l0 : List (S47)) (l1 : List (S47)) : Option (Bool) := (aumbrylaw05_wakes.f k).bind fun t101 => (if t101 = true then ((aumbrylaw05_own.f l0).bind fun t102 => ((aumbrylaw05_own.f l1).bind fun t105 => ((match_Match.f k t102 t105).bind fun bt108 => ((aumbryref05_Match.f k l0 l1).bind fun bt113 => ((aumbryref05_Same.f k bt108.1 bt113.1).bind fun t118 => (if t118 = true then (if (bt108.2.1 == bt113.2.1) = true then (some (bt108.2.2 == bt113.2.2)) else (some false)) else (some false))))))) else (some false))
theorem aumbrylaw05_MatchFinds.mono : ∀ a0 a1 k, LeO (aumbrylaw05_MatchFinds.f k a0 a1) (aumbrylaw05_MatchFinds.f (k + 1) a0 a1) := by
  intro a0 a1 k
  unfold aumbrylaw05_MatchFinds.f
  repeat' first
      | (with_reducible exact aumbrylaw05_wakes.mono _)
      | (with_reducible exact aumbryref05_Match.mono _ _ _)
      | (with_reducible exact aumbryref05_Same.mono _ _ _)
      | (with_reducible exact match_Match.mono _ _ _)
      | (with_reducible exact LeO.refl _)
      | (with_reducible exact LeO.none _)
      | (with_reducible refine LeO.ite ?_ ?_)
      | (with_reducible refine LeO.bind ?_ (fun _ => ?_))
      | exact aumbrylaw05_wakes.mono _
      | exact aumbryref05_Match.mono _ _ _
      | exact aumbryref05_Same.mono _ _ _
      | exact match_Match.mono _ _ _
      | exact LeO.none _
      | refine LeO.ite ?_ ?_
      | refine LeO.bind ?_ (fun _ => ?_)
set_option maxHeartbeats 8000000 in
set_option maxRecDepth 100000 in
theorem aumbrylaw05_MatchFinds.calls (k : Nat) (A0 : Option Addr) (c0 : Nat) (l0 : List (S47)) (A1 : Option Addr) (c1 : Nat) (l1 : List (S47)) (r : Bool) (w : World) (hr0 : Kd.C k47 w A0 l0.length l0) (hc0 : l0.length ≤ c0) (hr1 : Kd.C k47 w A1 l1.length l1) (hc1 : l1.length ≤ c1) (h : aumbrylaw05_MatchFinds.f k l0 l1 = some r) :
    Calls Try.prog 3 #[.slice A0 l0.length c0, .slice A1 l1.length c1] w fun e w' => e = .returned (.bool r) ∧ Below w.heap.size w w' := by
  have HR0 := Aside0.mk hr0
  have HC0 := Aside0.mk hc0
  clear hr0 hc0
  have HR1 := Aside0.mk hr1
  have HC1 := Aside0.mk hc1
  clear hr1 hc1
  have HB := Aside0.mk (Below.refl w.heap.size w)
  have H : ((aumbrylaw05_wakes.f k).bind fun t101 => (if t101 = true then ((aumbrylaw05_own.f l0).bind fun t102 => ((aumbrylaw05_own.f l1).bind fun t105 => ((match_Match.f k t102 t105).bind fun bt108 => ((aumbryref05_Match.f k l0 l1).bind fun bt113 => ((aumbryref05_Same.f k bt108.1 bt113.1).bind fun t118 => (if t118 = true then (if (bt108.2.1 == bt113.2.1) = true then (some (bt108.2.2 == bt113.2.2)) else (some false)) else (some false))))))) else (some false))) = some r := h
  clear h
  replace H := Option.bind_eq_some_iff.mp H
  obtain ⟨t101, A30, H⟩ := H
  replace H : (if t101 = true then ((aumbrylaw05_own.f l0).bind fun t102 => ((aumbrylaw05_own.f l1).bind fun t105 => ((match_Match.f k t102 t105).bind fun bt108 => ((aumbryref05_Match.f k l0 l1).bind fun bt113 => ((aumbryref05_Same.f k bt108.1 bt113.1).bind fun t118 => (if t118 = true then (if (bt108.2.1 == bt113.2.1) = true then (some (bt108.2.2 == bt113.2.2)) else (some false)) else (some false))))))) else (some false)) = some r := H
  have A3 := Aside0.mk A30
  clear A30
  by_cases c4 : t101 = true
  · subst c4
    have H1 : ((aumbrylaw05_own.f l0).bind fun t102 => ((aumbrylaw05_own.f l1).bind fun t105 => ((match_Match.f k t102 t105).bind fun bt108 => ((aumbryref05_Match.f k l0 l1).bind fun bt113 => ((aumbryref05_Same.f k bt108.1 bt113.1).bind fun t118 => (if t118 = true then (if (bt108.2.1 == bt113.2.1) = true then (some (bt108.2.2 == bt113.2.2)) else (some false)) else (some false))))))) = some r := by rw [if_pos rfl] at H; exact H
    clear H
    have H := H1
    clear H1
    replace H := Option.bind_eq_some_iff.mp H
    obtain ⟨t102, A50, H⟩ := H
    replace H : ((aumbrylaw05_own.f l1).bind fun t105 => ((match_Match.f k t102 t105).bind fun bt108 => ((aumbryref05_Match.f k l0 l1).bind fun bt113 => ((aumbryref05_Same.f k bt108.1 bt113.1).bind fun t118 => (if t118 = true then (if (bt108.2.1 == bt113.2.1) = true then (some (bt108.2.2 == bt113.2.2)) else (some false)) else (some false)))))) = some r := H
    have A5 := Aside0.mk A50
    clear A50
    replace H := Option.bind_eq_some_iff.mp H
    obtain ⟨t105, A60, H⟩ := H
    replace H : ((match_Match.f k t102 t105).bind fun bt108 => ((aumbryref05_Match.f k l0 l1).bind fun bt113 => ((aumbryref05_Same.f k bt108.1 bt113.1).bind fun t118 => (if t118 = true then (if (bt108.2.1 == bt113.2.1) = true then (some (bt108.2.2 == bt113.2.2)) else (some false)) else (some false))))) = some r := H
    have A6 := Aside0.mk A60
    clear A60
    replace H := Option.bind_eq_some_iff.mp H
    obtain ⟨⟨t108, t109, t110⟩, A70, H⟩ := H
    replace H : ((aumbryref05_Match.f k l0 l1).bind fun bt113 => ((aumbryref05_Same.f k t108 bt113.1).bind fun t118 => (if t118 = true then (if (t109 == bt113.2.1) = true then (some (t110 == bt113.2.2)) else (some false)) else (some false)))) = some r := H
    have A7 := Aside0.mk A70
    clear A70
    replace H := Option.bind_eq_some_iff.mp H
    obtain ⟨⟨t113, t114, t115⟩, A80, H⟩ := H
    replace H : ((aumbryref05_Same.f k t108 t113).bind fun t118 => (if t118 = true then (if (t109 == t114) = true then (some (t110 == t115)) else (some false)) else (some false))) = some r := H
    have A8 := Aside0.mk A80
    clear A80
    replace H := Option.bind_eq_some_iff.mp H
    obtain ⟨t118, A90, H⟩ := H
    replace H : (if t118 = true then (if (t109 == t114) = true then (some (t110 == t115)) else (some false)) else (some false)) = some r := H
    have A9 := Aside0.mk A90
    clear A90
    by_cases c10 : t118 = true
    · subst c10
      have H1 : (if (t109 == t114) = true then (some (t110 == t115)) else (some false)) = some r := by rw [if_pos rfl] at H; exact H
      clear H
      have H := H1
      clear H1
      by_cases c11 : (t109 == t114) = true
      · rw [if_pos c11] at H
        have c11b0 : (t109 == t114) = true := c11
        (try (have c11b1 : decide (t109 = t114) = true := by simpa using c11))
        (try (have c11b2 : (t109 == t114) = true := by simpa using c11))
        clear c11
        obtain rfl := Option.some.inj H
        go_enter Try.func3, Try.ntmps3
        go_wp2_with (first | ((with_reducible refine gate_callee (f := 9) rfl ?_); refine goesL_ (some 11) rfl rfl Try.func9 (by kernel_rfl) rfl #[] rfl (by (try simp only [List.map_toArray, List.map_cons, List.map_nil]); first | done | rfl | (simp only [List.length_drop, List.length_take]; rfl)) ?_; (with_reducible refine (aumbrylaw05_wakes.calls k  true _ A3.out).mono ?_); rintro e w12 ⟨rfl, hb⟩; refine ⟨_, rfl, ?_⟩; have n0_ := Aside0.mk (below_step (by repeat (first | (with_reducible first | exact HB.out | apply below_alloc | apply pw_below_drewN | apply below_drew1) | exact HB.out)) hb); clear HB; have HB := n0_; clear n0_; (try clear hb); (try clear hb2); (try clear hk); (try clear hi)) | ((with_reducible refine gate_callee (f := 11) rfl ?_); refine goesL_ (some 15) rfl rfl Try.func11 (by kernel_rfl) rfl #[.slice A0 l0.length c0] rfl (by (try simp only [List.map_toArray, List.map_cons, List.map_nil]); first | done | rfl | (simp only [List.length_drop, List.length_take]; rfl)) ?_; (with_reducible refine (aumbrylaw05_own.calls _ _ l0 t102 _ ?side1 ?side2 A5.out).mono ?_); (case side1 => repeat (first | exact (Kd.C_below HR0.out HB.out) | (with_reducible refine Kd.C_alloc ?_ _) | (with_reducible refine Kd.C_drewN ?_ _) | (with_reducible refine Kd.C_drew ?_))); (case side2 => exact HC0.out); rintro e w13 ⟨v103, rfl, ho0, hb⟩; refine ⟨_, rfl, ?_⟩; have n0_ := Aside0.mk (Kd.R_lower ho0 (below_size (by repeat (first | (with_reducible first | exact HB.out | apply below_alloc | apply pw_below_drewN | apply below_drew1) | exact HB.out)))); have n1_ := Aside0.mk (below_step (by repeat (first | (with_reducible first | exact HB.out | apply below_alloc | apply pw_below_drewN | apply below_drew1) | exact HB.out)) hb); clear HB; have HO104 := n0_; have HB := n1_; clear n0_ n1_; (try clear hb); (try clear hb2); (try clear hk); (try clear hi); (try clear ho0)) | ((with_reducible refine gate_callee (f := 11) rfl ?_); refine goesL_ (some 17) rfl rfl Try.func11 (by kernel_rfl) rfl #[.slice A1 l1.length c1] rfl (by (try simp only [List.map_toArray, List.map_cons, List.map_nil]); first | done | rfl | (simp only [List.length_drop, List.length_take]; rfl)) ?_; (with_reducible refine (aumbrylaw05_own.calls _ _ l1 t105 _ ?side1 ?side2 A6.out).mono ?_); (case side1 => repeat (first | exact (Kd.C_below HR1.out HB.out) | (with_reducible refine Kd.C_alloc ?_ _) | (with_reducible refine Kd.C_drewN ?_ _) | (with_reducible refine Kd.C_drew ?_))); (case side2 => exact HC1.out); rintro e w14 ⟨v106, rfl, ho0, hb⟩; refine ⟨_, rfl, ?_⟩; have n0_ := Aside0.mk (Kd.R_elder' (by (with_reducible repeat (first | apply Kd.R_alloc | apply Kd.R_drewN | apply Kd.R_drew)); exact HO104.out) (Kd.R_base ho0) hb); have n1_ := Aside0.mk (Kd.R_lower (Kd.R_new' ho0 (Kd.R_lt (by (with_reducible repeat (first | apply Kd.R_alloc | apply Kd.R_drewN | apply Kd.R_drew)); exact HO104.out))) (below_size (by repeat (first | (with_reducible first | exact HB.out | apply below_alloc | apply pw_below_drewN | apply below_drew1) | exact HB.out)))); have n2_ := Aside0.mk (below_step (by repeat (first | (with_reducible first | exact HB.out | apply below_alloc | apply pw_below_drewN | apply below_drew1) | exact HB.out)) hb); clear HO104; clear HB; have HO104 := n0_; have HO107 := n1_; have HB := n2_; clear n0_ n1_ n2_; (try clear hb); (try clear hb2); (try clear hk); (try clear hi); (try clear ho0); obtain ⟨Ao15, co15, eo15⟩ := Kd.R_slice HO104.out; subst eo15; obtain ⟨Ao16, co16, eo16⟩ := Kd.R_slice HO107.out; subst eo16) | ((with_reducible refine gate_callee (f := 10) rfl ?_); refine goesL_ (some 18) rfl rfl Try.func10 (by kernel_rfl) rfl #[.slice Ao15 t102.length co15, .slice Ao16 t105.length co16] rfl (by (try simp only [List.map_toArray, List.map_cons, List.map_nil]); first | done | rfl | (simp only [List.length_drop, List.length_take]; rfl)) ?_; (with_reducible refine (match_Match.calls k _ _ t102 _ _ t105 t108 t109 t110 _ ?side1 ?side2 ?side3 ?side4 A7.out).mono ?_); (case side1 => repeat (first | exact (Kd.R_reads' HO104.out).2.2 | (with_reducible refine Kd.C_alloc ?_ _) | (with_reducible refine Kd.C_drewN ?_ _) | (with_reducible refine Kd.C_drew ?_))); (case side2 => exact (Kd.R_reads' HO104.out).2.1); (case side3 => repeat (first | exact (Kd.R_reads' HO107.out).2.2 | (with_reducible refine Kd.C_alloc ?_ _) | (with_reducible refine Kd.C_drewN ?_ _) | (with_reducible refine Kd.C_drew ?_))); (case side4 => exact (Kd.R_reads' HO107.out).2.1); rintro e w17 ⟨v111, rfl, ho0, hb⟩; refine ⟨_, rfl, ?_⟩; have n0_ := Aside0.mk (Kd.R_below (by (with_reducible repeat (first | apply Kd.R_alloc | apply Kd.R_drewN | apply Kd.R_drew)); exact HO104.out) hb); have n1_ := Aside0.mk (Kd.R_below (by (with_reducible repeat (first | apply Kd.R_alloc | apply Kd.R_drewN | apply Kd.R_drew)); exact HO107.out) hb); have n2_ := Aside0.mk (Kd.S_lower (Kd.S_new' (Kd.S_new' ho0 (Kd.R_lt (by (with_reducible repeat (first | apply Kd.R_alloc | apply Kd.R_drewN | apply Kd.R_drew)); exact HO104.out))) (Kd.R_lt (by (with_reducible repeat (first | apply Kd.R_alloc | apply Kd.R_drewN | apply Kd.R_drew)); exact HO107.out))) (below_size (by repeat (first | (with_reducible first | exact HB.out | apply below_alloc | apply pw_below_drewN | apply below_drew1) | exact HB.out)))); have n3_ := Aside0.mk (below_step (by repeat (first | (with_reducible first | exact HB.out | apply below_alloc | apply pw_below_drewN | apply below_drew1) | exact HB.out)) hb); clear HO104; clear HO107; clear HB; have HO104 := n0_; have HO107 := n1_; have HO112 := n2_; have HB := n3_; clear n0_ n1_ n2_ n3_; (try clear hb); (try clear hb2); (try clear hk); (try clear hi); (try clear ho0)) | ((with_reducible refine gate_callee (f := 12) rfl ?_); refine goesL_ (some 25) rfl rfl Try.func12 (by kernel_rfl) rfl #[.slice A0 l0.length c0, .slice A1 l1.length c1] rfl (by (try simp only [List.map_toArray, List.map_cons, List.map_nil]); first | done | rfl | (simp only [List.length_drop, List.length_take]; rfl)) ?_; (with_reducible refine (aumbryref05_Match.calls k _ _ l0 _ _ l1 t113 t114 t115 _ ?side1 ?side2 ?side3 ?side4 A8.out).mono ?_); (case side1 => repeat (first | exact (Kd.C_below HR0.out HB.out) | (with_reducible refine Kd.C_alloc ?_ _) | (with_reducible refine Kd.C_drewN ?_ _) | (with_reducible refine Kd.C_drew ?_))); (case side2 => exact HC0.out); (case side3 => repeat (first | exact (Kd.C_below HR1.out HB.out) | (with_reducible refine Kd.C_alloc ?_ _) | (with_reducible refine Kd.C_drewN ?_ _) | (with_reducible refine Kd.C_drew ?_))); (case side4 => exact HC1.out); rintro e w18 ⟨v116, rfl, ho0, hb⟩; refine ⟨_, rfl, ?_⟩; have n0_ := Aside0.mk (Kd.R_below (by (with_reducible repeat (first | apply Kd.R_alloc | apply Kd.R_drewN | apply Kd.R_drew)); exact HO104.out) hb); have n1_ := Aside0.mk (Kd.R_below (by (with_reducible repeat (first | apply Kd.R_alloc | apply Kd.R_drewN | apply Kd.R_drew)); exact HO107.out) hb); have n2_ := Aside0.mk (Kd.S_elder' (by (with_reducible repeat (first | apply Kd.S_alloc | apply Kd.S_drewN | apply Kd.S_drew)); exact HO112.out) (Kd.S_base ho0) hb); have n3_ := Aside0.mk (Kd.S_lower (Kd.S_new' (Kd.S_new' (Kd.S_new' ho0 (Kd.R_lt (by (with_reducible repeat (first | apply Kd.R_alloc | apply Kd.R_drewN | apply Kd.R_drew)); exact HO104.out))) (Kd.R_lt (by (with_reducible repeat (first | apply Kd.R_alloc | apply Kd.R_drewN | apply Kd.R_drew)); exact HO107.out))) (Kd.S_lt (by (with_reducible repeat (first | apply Kd.S_alloc | apply Kd.S_drewN | apply Kd.S_drew)); exact HO112.out))) (below_size (by repeat (first | (with_reducible first | exact HB.out | apply below_alloc | apply pw_below_drewN | apply below_drew1) | exact HB.out)))); have n4_ := Aside0.mk (below_step (by repeat (first | (with_reducible first | exact HB.out | apply below_alloc | apply pw_below_drewN | apply below_drew1) | exact HB.out)) hb); clear HO104; clear HO107; clear HO112; clear HB; have HO104 := n0_; have HO107 := n1_; have HO112 := n2_; have HO117 := n3_; have HB := n4_; clear n0_ n1_ n2_ n3_ n4_; (try clear hb); (try clear hb2); (try clear hk); (try clear hi); (try clear ho0); obtain ⟨Ao19, co19, eo19⟩ := Kd.S_slice HO112.out; subst eo19; obtain ⟨Ao20, co20, eo20⟩ := Kd.S_slice HO117.out; subst eo20) | ((with_reducible refine gate_callee (f := 13) rfl ?_); refine goesL_ (some 31) rfl rfl Try.func13 (by kernel_rfl) rfl #[.slice Ao19 t108.length co19, .slice Ao20 t113.length co20] rfl (by (try simp only [List.map_toArray, List.map_cons, List.map_nil]); first | done | rfl | (simp only [List.length_drop, List.length_take]; rfl)) ?_; (with_reducible refine (aumbryref05_Same.calls k _ _ t108 _ _ t113 true _ ?side1 ?side2 ?side3 ?side4 A9.out).mono ?_); (case side1 => repeat (first | exact (Kd.S_reads' HO112.out).2.2 | (with_reducible refine Kd.C_alloc ?_ _) | (with_reducible refine Kd.C_drewN ?_ _) | (with_reducible refine Kd.C_drew ?_))); (case side2 => exact (Kd.S_reads' HO112.out).2.1); (case side3 => repeat (first | exact (Kd.S_reads' HO117.out).2.2 | (with_reducible refine Kd.C_alloc ?_ _) | (with_reducible refine Kd.C_drewN ?_ _) | (with_reducible refine Kd.C_drew ?_))); (case side4 => exact (Kd.S_reads' HO117.out).2.1); rintro e w' ⟨rfl, ⟨nd, rfl⟩⟩; refine ⟨_, rfl, ?_⟩))
        go_ret
        exact ⟨by first | rfl | (simp [errW_none, errW_some] <;> rfl) | (simp [*, errW_none, errW_some] <;> rfl), by repeat (first | (with_reducible first | exact HB.out | apply below_alloc | apply pw_below_drewN | apply below_drew1) | exact HB.out)⟩
      · rw [if_neg c11] at H
        have c11b0 : (t109 == t114) = false := by simpa using c11
        (try (have c11b1 : decide (t109 = t114) = false := by simpa using c11))
        (try (have c11b2 : (t109 == t114) = false := by simpa using c11))
        (try (have c11b3 : ¬ (t109 = t114) := by simpa using c11))
        clear c11
        obtain rfl := Option.some.inj H
        go_enter Try.func3, Try.ntmps3
        go_wp2_with (first | ((with_reducible refine gate_callee (f := 9) rfl ?_); refine goesL_ (some 11) rfl rfl Try.func9 (by kernel_rfl) rfl #[] rfl (by (try simp only [List.map_toArray, List.map_cons, List.map_nil]); first | done | rfl | (simp only [List.length_drop, List.length_take]; rfl)) ?_; (with_reducible refine (aumbrylaw05_wakes.calls k  true _ A3.out).mono ?_); rintro e w21 ⟨rfl, hb⟩; refine ⟨_, rfl, ?_⟩; have n0_ := Aside0.mk (below_step (by repeat (first | (with_reducible first | exact HB.out | apply below_alloc | apply pw_below_drewN | apply below_drew1) | exact HB.out)) hb); clear HB; have HB := n0_; clear n0_; (try clear hb); (try clear hb2); (try clear hk); (try clear hi)) | ((with_reducible refine gate_callee (f := 11) rfl ?_); refine goesL_ (some 15) rfl rfl Try.func11 (by kernel_rfl) rfl #[.slice A0 l0.length c0] rfl (by (try simp only [List.map_toArray, List.map_cons, List.map_nil]); first | done | rfl | (simp only [List.length_drop, List.length_take]; rfl)) ?_; (with_reducible refine (aumbrylaw05_own.calls _ _ l0 t102 _ ?side1 ?side2 A5.out).mono ?_); (case side1 => repeat (first | exact (Kd.C_below HR0.out HB.out) | (with_reducible refine Kd.C_alloc ?_ _) | (with_reducible refine Kd.C_drewN ?_ _) | (with_reducible refine Kd.C_drew ?_))); (case side2 => exact HC0.out); rintro e w22 ⟨v103, rfl, ho0, hb⟩; refine ⟨_, rfl, ?_⟩; have n0_ := Aside0.mk (Kd.R_lower ho0 (below_size (by repeat (first | (with_reducible first | exact HB.out | apply below_alloc | apply pw_below_drewN | apply below_drew1) | exact HB.out)))); have n1_ := Aside0.mk (below_step (by repeat (first | (with_reducible first | exact HB.out | apply below_alloc | apply pw_below_drewN | apply below_drew1) | exact HB.out)) hb); clear HB; have HO104 := n0_; have HB := n1_; clear n0_ n1_; (try clear hb); (try clear hb2); (try clear hk); (try clear hi); (try clear ho0)) | ((with_reducible refine gate_callee (f := 11) rfl ?_); refine goesL_ (some 17) rfl rfl Try.func11 (by kernel_rfl) rfl #[.slice A1 l1.length c1] rfl (by (try simp only [List.map_toArray, List.map_cons, List.map_nil]); first | done | rfl | (simp only [List.length_drop, List.length_take]; rfl)) ?_; (with_reducible refine (aumbrylaw05_own.calls _ _ l1 t105 _ ?side1 ?side2 A6.out).mono ?_); (case side1 => repeat (first | exact (Kd.C_below HR1.out HB.out) | (with_reducible refine Kd.C_alloc ?_ _) | (with_reducible refine Kd.C_drewN ?_ _) | (with_reducible refine Kd.C_drew ?_))); (case side2 => exact HC1.out); rintro e w23 ⟨v106, rfl, ho0, hb⟩; refine ⟨_, rfl, ?_⟩; have n0_ := Aside0.mk (Kd.R_elder' (by (with_reducible repeat (first | apply Kd.R_alloc | apply Kd.R_drewN | apply Kd.R_drew)); exact HO104.out) (Kd.R_base ho0) hb); have n1_ := Aside0.mk (Kd.R_lower (Kd.R_new' ho0 (Kd.R_lt (by (with_reducible repeat (first | apply Kd.R_alloc | apply Kd.R_drewN | apply Kd.R_drew)); exact HO104.out))) (below_size (by repeat (first | (with_reducible first | exact HB.out | apply below_alloc | apply pw_below_drewN | apply below_drew1) | exact HB.out)))); have n2_ := Aside0.mk (below_step (by repeat (first | (with_reducible first | exact HB.out | apply below_alloc | apply pw_below_drewN | apply below_drew1) | exact HB.out)) hb); clear HO104; clear HB; have HO104 := n0_; have HO107 := n1_; have HB := n2_; clear n0_ n1_ n2_; (try clear hb); (try clear hb2); (try clear hk); (try clear hi); (try clear ho0); obtain ⟨Ao24, co24, eo24⟩ := Kd.R_slice HO104.out; subst eo24; obtain ⟨Ao25, co25, eo25⟩ := Kd.R_slice HO107.out; subst eo25) | ((with_reducible refine gate_callee (f := 10) rfl ?_); refine goesL_ (some 18) rfl rfl Try.func10 (by kernel_rfl) rfl #[.slice Ao24 t102.length co24, .slice Ao25 t105.length co25] rfl (by (try simp only [List.map_toArray, List.map_cons, List.map_nil]); first | done | rfl | (simp only [List.length_drop, List.length_take]; rfl)) ?_; (with_reducible refine (match_Match.calls k _ _ t102 _ _ t105 t108 t109 t110 _ ?side1 ?side2 ?side3 ?side4 A7.out).mono ?_); (case side1 => repeat (first | exact (Kd.R_reads' HO104.out).2.2 | (with_reducible refine Kd.C_alloc ?_ _) | (with_reducible refine Kd.C_drewN ?_ _) | (with_reducible refine Kd.C_drew ?_))); (case side2 => exact (Kd.R_reads' HO104.out).2.1); (case side3 => repeat (first | exact (Kd.R_reads' HO107.out).2.2 | (with_reducible refine Kd.C_alloc ?_ _) | (with_reducible refine Kd.C_drewN ?_ _) | (with_reducible refine Kd.C_drew ?_))); (case side4 => exact (Kd.R_reads' HO107.out).2.1); rintro e w26 ⟨v111, rfl, ho0, hb⟩; refine ⟨_, rfl, ?_⟩; have n0_ := Aside0.mk (Kd.R_below (by (with_reducible repeat (first | apply Kd.R_alloc | apply Kd.R_drewN | apply Kd.R_drew)); exact HO104.out) hb); have n1_ := Aside0.mk (Kd.R_below (by (with_reducible repeat (first | apply Kd.R_alloc | apply Kd.R_drewN | apply Kd.R_drew)); exact HO107.out) hb); have n2_ := Aside0.mk (Kd.S_lower (Kd.S_new' (Kd.S_new' ho0 (Kd.R_lt (by (with_reducible repeat (first | apply Kd.R_alloc | apply Kd.R_drewN | apply Kd.R_drew)); exact HO104.out))) (Kd.R_lt (by (with_reducible repeat (first | apply Kd.R_alloc | apply Kd.R_drewN | apply Kd.R_drew)); exact HO107.out))) (below_size (by repeat (first | (with_reducible first | exact HB.out | apply below_alloc | apply pw_below_drewN | apply below_drew1) | exact HB.out)))); have n3_ := Aside0.mk (below_step (by repeat (first | (with_reducible first | exact HB.out | apply below_alloc | apply pw_below_drewN | apply below_drew1) | exact HB.out)) hb); clear HO104; clear HO107; clear HB; have HO104 := n0_; have HO107 := n1_; have HO112 := n2_; have HB := n3_; clear n0_ n1_ n2_ n3_; (try clear hb); (try clear hb2); (try clear hk); (try clear hi); (try clear ho0)) | ((with_reducible refine gate_callee (f := 12) rfl ?_); refine goesL_ (some 25) rfl rfl Try.func12 (by kernel_rfl) rfl #[.slice A0 l0.length c0, .slice A1 l1.length c1] rfl (by (try simp only [List.map_toArray, List.map_cons, List.map_nil]); first | done | rfl | (simp only [List.length_drop, List.length_take]; rfl)) ?_; (with_reducible refine (aumbryref05_Match.calls k _ _ l0 _ _ l1 t113 t114 t115 _ ?side1 ?side2 ?side3 ?side4 A8.out).mono ?_); (case side1 => repeat (first | exact (Kd.C_below HR0.out HB.out) | (with_reducible refine Kd.C_alloc ?_ _) | (with_reducible refine Kd.C_drewN ?_ _) | (with_reducible refine Kd.C_drew ?_))); (case side2 => exact HC0.out); (case side3 => repeat (first | exact (Kd.C_below HR1.out HB.out) | (with_reducible refine Kd.C_alloc ?_ _) | (with_reducible refine Kd.C_drewN ?_ _) | (with_reducible refine Kd.C_drew ?_))); (case side4 => exact HC1.out); rintro e w27 ⟨v116, rfl, ho0, hb⟩; refine ⟨_, rfl, ?_⟩; have n0_ := Aside0.mk (Kd.R_below (by (with_reducible repeat (first | apply Kd.R_alloc | apply Kd.R_drewN | apply Kd.R_drew)); exact HO104.out) hb); have n1_ := Aside0.mk (Kd.R_below (by (with_reducible repeat (first | apply Kd.R_alloc | apply Kd.R_drewN | apply Kd.R_drew)); exact HO107.out) hb); have n2_ := Aside0.mk (Kd.S_elder' (by (with_reducible repeat (first | apply Kd.S_alloc | apply Kd.S_drewN | apply Kd.S_drew)); exact HO112.out) (Kd.S_base ho0) hb); have n3_ := Aside0.mk (Kd.S_lower (Kd.S_new' (Kd.S_new' (Kd.S_new' ho0 (Kd.R_lt (by (with_reducible repeat (first | apply Kd.R_alloc | apply Kd.R_drewN | apply Kd.R_drew)); exact HO104.out))) (Kd.R_lt (by (with_reducible repeat (first | apply Kd.R_alloc | apply Kd.R_drewN | apply Kd.R_drew)); exact HO107.out))) (Kd.S_lt (by (with_reducible repeat (first | apply Kd.S_alloc | apply Kd.S_drewN | apply Kd.S_drew)); exact HO112.out))) (below_size (by repeat (first | (with_reducible first | exact HB.out | apply below_alloc | apply pw_below_drewN | apply below_drew1) | exact HB.out)))); have n4_ := Aside0.mk (below_step (by repeat (first | (with_reducible first | exact HB.out | apply below_alloc | apply pw_below_drewN | apply below_drew1) | exact HB.out)) hb); clear HO104; clear HO107; clear HO112; clear HB; have HO104 := n0_; have HO107 := n1_; have HO112 := n2_; have HO117 := n3_; have HB := n4_; clear n0_ n1_ n2_ n3_ n4_; (try clear hb); (try clear hb2); (try clear hk); (try clear hi); (try clear ho0); obtain ⟨Ao28, co28, eo28⟩ := Kd.S_slice HO112.out; subst eo28; obtain ⟨Ao29, co29, eo29⟩ := Kd.S_slice HO117.out; subst eo29) | ((with_reducible refine gate_callee (f := 13) rfl ?_); refine goesL_ (some 31) rfl rfl Try.func13 (by kernel_rfl) rfl #[.slice Ao28 t108.length co28, .slice Ao29 t113.length co29] rfl (by (try simp only [List.map_toArray, List.map_cons, List.map_nil]); first | done | rfl | (simp only [List.length_drop, List.length_take]; rfl)) ?_; (with_reducible refine (aumbryref05_Same.calls k _ _ t108 _ _ t113 true _ ?side1 ?side2 ?side3 ?side4 A9.out).mono ?_); (case side1 => repeat (first | exact (Kd.S_reads' HO112.out).2.2 | (with_reducible refine Kd.C_alloc ?_ _) | (with_reducible refine Kd.C_drewN ?_ _) | (with_reducible refine Kd.C_drew ?_))); (case side2 => exact (Kd.S_reads' HO112.out).2.1); (case side3 => repeat (first | exact (Kd.S_reads' HO117.out).2.2 | (with_reducible refine Kd.C_alloc ?_ _) | (with_reducible refine Kd.C_drewN ?_ _) | (with_reducible refine Kd.C_drew ?_))); (case side4 => exact (Kd.S_reads' HO117.out).2.1); rintro e w' ⟨rfl, ⟨nd, rfl⟩⟩; refine ⟨_, rfl, ?_⟩))
        go_ret
        exact ⟨by first | rfl | (simp [errW_none, errW_some] <;> rfl) | (simp [*, errW_none, errW_some] <;> rfl), by repeat (first | (with_reducible first | exact HB.out | apply below_alloc | apply pw_below_drewN | apply below_drew1) | exact HB.out)⟩
    · replace c10 := Bool.eq_false_iff.mpr c10
      subst c10
      have H1 : (some false) = some r := by rw [if_neg (show ¬ (false = true) by decide)] at H; exact H
      clear H
      have H := H1
      clear H1
      obtain rfl := Option.some.inj H
      go_enter Try.func3, Try.ntmps3
      go_wp2_with (first | ((with_reducible refine gate_callee (f := 9) rfl ?_); refine goesL_ (some 11) rfl rfl Try.func9 (by kernel_rfl) rfl #[] rfl (by (try simp only [List.map_toArray, List.map_cons, List.map_nil]); first | done | rfl | (simp only [List.length_drop, List.length_take]; rfl)) ?_; (with_reducible refine (aumbrylaw05_wakes.calls k  true _ A3.out).mono ?_); rintro e w30 ⟨rfl, hb⟩; refine ⟨_, rfl, ?_⟩; have n0_ := Aside0.mk (below_step (by repeat (first | (with_reducible first | exact HB.out | apply below_alloc | apply pw_below_drewN | apply below_drew1) | exact HB.out)) hb); clear HB; have HB := n0_; clear n0_; (try clear hb); (try clear hb2); (try clear hk); (try clear hi)) | ((with_reducible refine gate_callee (f := 11) rfl ?_); refine goesL_ (some 15) rfl rfl Try.func11 (by kernel_rfl) rfl #[.slice A0 l0.length c0] rfl (by (try simp only [List.map_toArray, List.map_cons, List.map_nil]); first | done | rfl | (simp only [List.length_drop, List.length_take]; rfl)) ?_; (with_reducible refine (aumbrylaw05_own.calls _ _ l0 t102 _ ?side1 ?side2 A5.out).mono ?_); (case side1 => repeat (first | exact (Kd.C_below HR0.out HB.out) | (with_reducible refine Kd.C_alloc ?_ _) | (with_reducible refine Kd.C_drewN ?_ _) | (with_reducible refine Kd.C_drew ?_))); (case side2 => exact HC0.out); rintro e w31 ⟨v103, rfl, ho0, hb⟩; refine ⟨_, rfl, ?_⟩; have n0_ := Aside0.mk (Kd.R_lower ho0 (below_size (by repeat (first | (with_reducible first | exact HB.out | apply below_alloc | apply pw_below_drewN | apply below_drew1) | exact HB.out)))); have n1_ := Aside0.mk (below_step (by repeat (first | (with_reducible first | exact HB.out | apply below_alloc | apply pw_below_drewN | apply below_drew1) | exact HB.out)) hb); clear HB; have HO104 := n0_; have HB := n1_; clear n0_ n1_; (try clear hb); (try clear hb2); (try clear hk); (try clear hi); (try clear ho0)) | ((with_reducible refine gate_callee (f := 11) rfl ?_); refine goesL_ (some 17) rfl rfl Try.func11 (by kernel_rfl) rfl #[.slice A1 l1.length c1] rfl (by (try simp only [List.map_toArray, List.map_cons, List.map_nil]); first | done | rfl | (simp only [List.length_drop, List.length_take]; rfl)) ?_; (with_reducible refine (aumbrylaw05_own.calls _ _ l1 t105 _ ?side1 ?side2 A6.out).mono ?_); (case side1 => repeat (first | exact (Kd.C_below HR1.out HB.out) | (with_reducible refine Kd.C_alloc ?_ _) | (with_reducible refine Kd.C_drewN ?_ _) | (with_reducible refine Kd.C_drew ?_))); (case side2 => exact HC1.out); rintro e w32 ⟨v106, rfl, ho0, hb⟩; refine ⟨_, rfl, ?_⟩; have n0_ := Aside0.mk (Kd.R_elder' (by (with_reducible repeat (first | apply Kd.R_alloc | apply Kd.R_drewN | apply Kd.R_drew)); exact HO104.out) (Kd.R_base ho0) hb); have n1_ := Aside0.mk (Kd.R_lower (Kd.R_new' ho0 (Kd.R_lt (by (with_reducible repeat (first | apply Kd.R_alloc | apply Kd.R_drewN | apply Kd.R_drew)); exact HO104.out))) (below_size (by repeat (first | (with_reducible first | exact HB.out | apply below_alloc | apply pw_below_drewN | apply below_drew1) | exact HB.out)))); have n2_ := Aside0.mk (below_step (by repeat (first | (with_reducible first | exact HB.out | apply below_alloc | apply pw_below_drewN | apply below_drew1) | exact HB.out)) hb); clear HO104; clear HB; have HO104 := n0_; have HO107 := n1_; have HB := n2_; clear n0_ n1_ n2_; (try clear hb); (try clear hb2); (try clear hk); (try clear hi); (try clear ho0); obtain ⟨Ao33, co33, eo33⟩ := Kd.R_slice HO104.out; subst eo33; obtain ⟨Ao34, co34, eo34⟩ := Kd.R_slice HO107.out; subst eo34) | ((with_reducible refine gate_callee (f := 10) rfl ?_); refine goesL_ (some 18) rfl rfl Try.func10 (by kernel_rfl) rfl #[.slice Ao33 t102.length co33, .slice Ao34 t105.length co34] rfl (by (try simp only [List.map_toArray, List.map_cons, List.map_nil]); first | done | rfl | (simp only [List.length_drop, List.length_take]; rfl)) ?_; (with_reducible refine (match_Match.calls k _ _ t102 _ _ t105 t108 t109 t110 _ ?side1 ?side2 ?side3 ?side4 A7.out).mono ?_); (case side1 => repeat (first | exact (Kd.R_reads' HO104.out).2.2 | (with_reducible refine Kd.C_alloc ?_ _) | (with_reducible refine Kd.C_drewN ?_ _) | (with_reducible refine Kd.C_drew ?_))); (case side2 => exact (Kd.R_reads' HO104.out).2.1); (case side3 => repeat (first | exact (Kd.R_reads' HO107.out).2.2 | (with_reducible refine Kd.C_alloc ?_ _) | (with_reducible refine Kd.C_drewN ?_ _) | (with_reducible refine Kd.C_drew ?_))); (case side4 => exact (Kd.R_reads' HO107.out).2.1); rintro e w35 ⟨v111, rfl, ho0, hb⟩; refine ⟨_, rfl, ?_⟩; have n0_ := Aside0.mk (Kd.R_below (by (with_reducible repeat (first | apply Kd.R_alloc | apply Kd.R_drewN | apply Kd.R_drew)); exact HO104.out) hb); have n1_ := Aside0.mk (Kd.R_below (by (with_reducible repeat (first | apply Kd.R_alloc | apply Kd.R_drewN | apply Kd.R_drew)); exact HO107.out) hb); have n2_ := Aside0.mk (Kd.S_lower (Kd.S_new' (Kd.S_new' ho0 (Kd.R_lt (by (with_reducible repeat (first | apply Kd.R_alloc | apply Kd.R_drewN | apply Kd.R_drew)); exact HO104.out))) (Kd.R_lt (by (with_reducible repeat (first | apply Kd.R_alloc | apply Kd.R_drewN | apply Kd.R_drew)); exact HO107.out))) (below_size (by repeat (first | (with_reducible first | exact HB.out | apply below_alloc | apply pw_below_drewN | apply below_drew1) | exact HB.out)))); have n3_ := Aside0.mk (below_step (by repeat (first | (with_reducible first | exact HB.out | apply below_alloc | apply pw_below_drewN | apply below_drew1) | exact HB.out)) hb); clear HO104; clear HO107; clear HB; have HO104 := n0_; have HO107 := n1_; have HO112 := n2_; have HB := n3_; clear n0_ n1_ n2_ n3_; (try clear hb); (try clear hb2); (try clear hk); (try clear hi); (try clear ho0)) | ((with_reducible refine gate_callee (f := 12) rfl ?_); refine goesL_ (some 25) rfl rfl Try.func12 (by kernel_rfl) rfl #[.slice A0 l0.length c0, .slice A1 l1.length c1] rfl (by (try simp only [List.map_toArray, List.map_cons, List.map_nil]); first | done | rfl | (simp only [List.length_drop, List.length_take]; rfl)) ?_; (with_reducible refine (aumbryref05_Match.calls k _ _ l0 _ _ l1 t113 t114 t115 _ ?side1 ?side2 ?side3 ?side4 A8.out).mono ?_); (case side1 => repeat (first | exact (Kd.C_below HR0.out HB.out) | (with_reducible refine Kd.C_alloc ?_ _) | (with_reducible refine Kd.C_drewN ?_ _) | (with_reducible refine Kd.C_drew ?_))); (case side2 => exact HC0.out); (case side3 => repeat (first | exact (Kd.C_below HR1.out HB.out) | (with_reducible refine Kd.C_alloc ?_ _) | (with_reducible refine Kd.C_drewN ?_ _) | (with_reducible refine Kd.C_drew ?_))); (case side4 => exact HC1.out); rintro e w36 ⟨v116, rfl, ho0, hb⟩; refine ⟨_, rfl, ?_⟩; have n0_ := Aside0.mk (Kd.R_below (by (with_reducible repeat (first | apply Kd.R_alloc | apply Kd.R_drewN | apply Kd.R_drew)); exact HO104.out) hb); have n1_ := Aside0.mk (Kd.R_below (by (with_reducible repeat (first | apply Kd.R_alloc | apply Kd.R_drewN | apply Kd.R_drew)); exact HO107.out) hb); have n2_ := Aside0.mk (Kd.S_elder' (by (with_reducible repeat (first | apply Kd.S_alloc | apply Kd.S_drewN | apply Kd.S_drew)); exact HO112.out) (Kd.S_base ho0) hb); have n3_ := Aside0.mk (Kd.S_lower (Kd.S_new' (Kd.S_new' (Kd.S_new' ho0 (Kd.R_lt (by (with_reducible repeat (first | apply Kd.R_alloc | apply Kd.R_drewN | apply Kd.R_drew)); exact HO104.out))) (Kd.R_lt (by (with_reducible repeat (first | apply Kd.R_alloc | apply Kd.R_drewN | apply Kd.R_drew)); exact HO107.out))) (Kd.S_lt (by (with_reducible repeat (first | apply Kd.S_alloc | apply Kd.S_drewN | apply Kd.S_drew)); exact HO112.out))) (below_size (by repeat (first | (with_reducible first | exact HB.out | apply below_alloc | apply pw_below_drewN | apply below_drew1) | exact HB.out)))); have n4_ := Aside0.mk (below_step (by repeat (first | (with_reducible first | exact HB.out | apply below_alloc | apply pw_below_drewN | apply below_drew1) | exact HB.out)) hb); clear HO104; clear HO107; clear HO112; clear HB; have HO104 := n0_; have HO107 := n1_; have HO112 := n2_; have HO117 := n3_; have HB := n4_; clear n0_ n1_ n2_ n3_ n4_; (try clear hb); (try clear hb2); (try clear hk); (try clear hi); (try clear ho0); obtain ⟨Ao37, co37, eo37⟩ := Kd.S_slice HO112.out; subst eo37; obtain ⟨Ao38, co38, eo38⟩ := Kd.S_slice HO117.out; subst eo38) | ((with_reducible refine gate_callee (f := 13) rfl ?_); refine goesL_ (some 31) rfl rfl Try.func13 (by kernel_rfl) rfl #[.slice Ao37 t108.length co37, .slice Ao38 t113.length co38] rfl (by (try simp only [List.map_toArray, List.map_cons, List.map_nil]); first | done | rfl | (simp only [List.length_drop, List.length_take]; rfl)) ?_; (with_reducible refine (aumbryref05_Same.calls k _ _ t108 _ _ t113 false _ ?side1 ?side2 ?side3 ?side4 A9.out).mono ?_); (case side1 => repeat (first | exact (Kd.S_reads' HO112.out).2.2 | (with_reducible refine Kd.C_alloc ?_ _) | (with_reducible refine Kd.C_drewN ?_ _) | (with_reducible refine Kd.C_drew ?_))); (case side2 => exact (Kd.S_reads' HO112.out).2.1); (case side3 => repeat (first | exact (Kd.S_reads' HO117.out).2.2 | (with_reducible refine Kd.C_alloc ?_ _) | (with_reducible refine Kd.C_drewN ?_ _) | (with_reducible refine Kd.C_drew ?_))); (case side4 => exact (Kd.S_reads' HO117.out).2.1); rintro e w' ⟨rfl, ⟨nd, rfl⟩⟩; refine ⟨_, rfl, ?_⟩))
      go_ret
      exact ⟨by first | rfl | (simp [errW_none, errW_some] <;> rfl) | (simp [*, errW_none, errW_some] <;> rfl), by repeat (first | (with_reducible first | exact HB.out | apply below_alloc | apply pw_below_drewN | apply below_drew1) | exact HB.out)⟩
  · replace c4 := Bool.eq_false_iff.mpr c4
    subst c4
    have H1 : (some false) = some r := by rw [if_neg (show ¬ (false = true) by decide)] at H; exact H
    clear H
    have H := H1
    clear H1
    obtain rfl := Option.some.inj H
    go_enter Try.func3, Try.ntmps3
    go_wp2_with (first | ((with_reducible refine gate_callee (f := 9) rfl ?_); refine goesL_ (some 11) rfl rfl Try.func9 (by kernel_rfl) rfl #[] rfl (by (try simp only [List.map_toArray, List.map_cons, List.map_nil]); first | done | rfl | (simp only [List.length_drop, List.length_take]; rfl)) ?_; (with_reducible refine (aumbrylaw05_wakes.calls k  false _ A3.out).mono ?_); rintro e w39 ⟨rfl, hb⟩; refine ⟨_, rfl, ?_⟩; have n0_ := Aside0.mk (below_step (by repeat (first | (with_reducible first | exact HB.out | apply below_alloc | apply pw_below_drewN | apply below_drew1) | exact HB.out)) hb); clear HB; have HB := n0_; clear n0_; (try clear hb); (try clear hb2); (try clear hk); (try clear hi)))
    go_ret
    exact ⟨by first | rfl | (simp [errW_none, errW_some] <;> rfl) | (simp [*, errW_none, errW_some] <;> rfl), by repeat (first | (with_reducible first | exact HB.out | apply below_alloc | apply pw_below_drewN | apply below_drew1) | exact HB.out)⟩

end Go.Proofs.Ytlfhonekcmlomaa.P

-- ==== Open
/- What came in and can be read as data, read as the print's kinds: for each kind one fact, put together by the types' shapes. -/
set_option linter.unusedVariables false
namespace Go.Proofs.Ytlfhonekcmlomaa.Open
open Go.RowKit Go.Proofs.YtlfhonekcmlomaaW.PrintWords Go.Proofs.Ytlfhonekcmlomaa.Rows

structure Opens {α : Type} (P : Program) (t : TypeId) (d : Kd α) (Sz : α → Prop) (Bk : α → Nat) : Prop where
  cells : P.cellsOf t = d.sz
  go : ∀ {H : Type} {enc : TypeId × Value → H} {w : World} {base : Nat} {spare : Nat → Bool} {held : Bool} {n : Nat} {cs : List Value} {x : DataW H × List MemPlace},
    DataW.trod enc P w base spare held n t cs = some x → (∀ m ∈ x.1.weights P t, m ≤ reachBytes) → ∃ v : α, d.K w v cs ∧ Sz v ∧ Bk v ≤ uptoBulk x.1

theorem opens_int {P : Program} {t : TypeId} {k : IntKind} (ht : P.underlying t = some (.int k)) (hc : P.cellsOf t = 1) : Opens P t (Kd.int k) (fun a => (Lit.int k a).wf = true) (fun _ => 1) := by
  refine ⟨hc, fun h _ => ?_⟩
  obtain ⟨a, rfl, rfl, hw⟩ := DataW.trod_int ht h
  exact ⟨a, rfl, hw, by simp [uptoBulk]⟩

theorem opens_bool {P : Program} {t : TypeId} (ht : P.underlying t = some .bool) (hc : P.cellsOf t = 1) : Opens P t Kd.bool (fun _ => True) (fun _ => 1) := by
  refine ⟨hc, fun h _ => ?_⟩
  obtain ⟨a, rfl, rfl⟩ := DataW.trod_bool ht h
  exact ⟨a, rfl, trivial, by simp [uptoBulk]⟩

theorem opens_string {P : Program} {t : TypeId} (ht : P.underlying t = some .string) (hc : P.cellsOf t = 1) : Opens P t Kd.string (fun s => s.size ≤ 140737488351232) (fun s => s.size + 1) := by
  refine ⟨hc, fun h hw => ?_⟩
  obtain ⟨a, rfl, rfl, hs⟩ := DataW.trod_string ht h
  have hl : a.data.toList.length = a.size := data_length a
  refine ⟨a, rfl, ?_, ?_⟩
  · have := hw a.data.toList.length (by simp [DataW.weights])
    rw [hl] at this
    exact this
  · simp only [uptoBulk]
    omega

theorem mem_weightsAll {H : Type} {P : Program} {e : TypeId} {d : DataW H} : ∀ {l : List (DataW H)}, d ∈ l → ∀ {m : Nat}, m ∈ d.weights P e → m ∈ DataW.weightsAll P e l
  | a :: l, h, m, hm => by
    simp only [DataW.weightsAll, List.mem_append]
    rcases List.mem_cons.1 h with rfl | h
    · exact .inl hm
    · exact .inr (mem_weightsAll h hm)
  | [], h, _, _ => by cases h

def bulkAll {α : Type} (Bk : α → Nat) (l : List α) : Nat := (l.map Bk).sum

theorem bulk_all_le {H α : Type} (Bk : α → Nat) : ∀ (xs : List α) (ds : List (DataW H)), xs.length = ds.length → (∀ (i : Nat) x d, xs[i]? = some x → ds[i]? = some d → Bk x ≤ uptoBulk d) → bulkAll Bk xs ≤ uptoBulkAll ds
  | [], [], _, _ => by simp [bulkAll, uptoBulkAll]
  | x :: xs, d :: ds, hl, h => by
    have h0 := h 0 x d rfl rfl
    have h1 := bulk_all_le Bk xs ds (by simpa using hl) (fun i x' d' hx hd => h (i + 1) x' d' (by simpa using hx) (by simpa using hd))
    simp only [bulkAll, uptoBulkAll, List.map_cons, List.sum_cons] at h1 ⊢
    omega
  | [], _ :: _, hl, _ => by simp at hl
  | _ :: _, [], hl, _ => by simp at hl

theorem opens_slice {α : Type} {P : Program} {t e : TypeId} {d : Kd α} {Sz : α → Prop} {Bk : α → Nat} {b : Nat} (ht : P.underlying t = some (.slice e)) (hc : P.cellsOf t = 1) (hb : P.bytesOf e = b) (ho : Opens P e d Sz Bk) :
    Opens P t (Kd.slice e d) (fun l => l.length * b ≤ 140737488351232 ∧ ∀ x ∈ l, Sz x) (fun l => bulkAll Bk l + 1) := by
  refine ⟨hc, ?_⟩
  intro H enc w base spare held n cs x h hw
  rcases Go.Deep.open_slice ht h with ⟨rfl, rfl⟩ | ⟨a, len, cap, m, n', D, Pl, rfl, _, hl, hm, hmm, rfl, hx⟩
  · exact ⟨[], ⟨none, 0, rfl, Nat.le_refl _, Kd.C_nil d w⟩, ⟨by simp, by simp⟩, by simp [bulkAll, uptoBulk]⟩
  · have hlm : len ≤ m := by rw [hmm]; split <;> omega
    have hel : ∀ i, i < len → ∃ v : α, (∃ cs', w.cells? base (a.add (i * P.cellsOf e)) (P.cellsOf e) = some cs' ∧ d.K w v cs') ∧ Sz v ∧ Bk v ≤ uptoBulk (D i) := by
      intro i hi
      obtain ⟨cs', h1, h2⟩ := hx i (by omega)
      obtain ⟨v, hv, hs, hbk⟩ := ho.go h2 (fun m' hm' => hw m' (by
        simp only [DataW.weights, ht, List.mem_cons, List.mem_append]
        exact .inr (.inl (mem_weightsAll (List.mem_map.2 ⟨i, List.mem_range.2 hi, rfl⟩) hm'))))
      exact ⟨v, ⟨cs', h1, hv⟩, hs, hbk⟩
    have hex : ∃ l : List α, l.length = len ∧ ∀ (i : Nat) v, l[i]? = some v → (∃ cs', w.cells? base (a.add (i * P.cellsOf e)) (P.cellsOf e) = some cs' ∧ d.K w v cs') ∧ Sz v ∧ Bk v ≤ uptoBulk (D i) := by
      clear hx hw h hmm hlm hl hm
      induction len with
      | zero => exact ⟨[], rfl, fun i v hv => by simp at hv⟩
      | succ k ih =>
        obtain ⟨l, h1, h2⟩ := ih (fun i hi => hel i (by omega))
        obtain ⟨v, hv⟩ := hel k (by omega)
        refine ⟨l ++ [v], by simp [h1], fun i u hu => ?_⟩
        by_cases hi : i < l.length
        · rw [List.getElem?_append_left hi] at hu
          exact h2 i u hu
        · have hik : i = l.length := by
            have := (List.getElem?_eq_some_iff.1 hu).1
            simp at this
            omega
          subst hik
          simp at hu
          subst hu
          rw [h1]
          exact hv
    obtain ⟨l, hll, hlv⟩ := hex
    subst hll
    refine ⟨l, ⟨some a, cap, rfl, hl, rfl, ?_, fun hp => ⟨a, rfl, fun j v hj => ?_⟩⟩, ⟨?_, ?_⟩, ?_⟩
    · have : maxLen ≤ 9223372036854775807 := by decide
      omega
    · obtain ⟨⟨cs', h1, h2⟩, _, _⟩ := hlv j v hj
      refine ⟨cs', d.K_len h2, h2, fun i u hu => ?_⟩
      obtain ⟨_, hlen, hcell⟩ := World.cells?_some h1
      have hi : i < cs'.length := (List.getElem?_eq_some_iff.1 hu).1
      have hsz := d.K_len h2
      rw [ho.cells] at hcell hlen
      have := hcell i (by omega)
      rw [hu] at this
      rw [← this, add_add]
    · have := hw ((((List.range l.length).map D).length + ((List.range (m - l.length)).map fun j => D (l.length + j)).length) * P.bytesOf e) (by simp [DataW.weights, ht])
      simp only [List.length_map, List.length_range] at this
      rw [hb] at this
      have h3 : reachBytes = 140737488351232 := by decide
      rw [h3] at this
      have h4 : l.length * b ≤ (l.length + (m - l.length)) * b := Nat.mul_le_mul_right _ (by omega)
      omega
    · intro v hv
      obtain ⟨i, hi, rfl⟩ := List.mem_iff_getElem.1 hv
      exact (hlv i _ (List.getElem?_eq_getElem hi)).2.1
    · have := bulk_all_le Bk l ((List.range l.length).map D) (by simp) (fun i v dd hv hd => by
        have hi : i < l.length := (List.getElem?_eq_some_iff.1 hv).1
        simp [hi] at hd
        rw [← hd]
        exact (hlv i v hv).2.2)
      simp only [uptoBulk]
      omega

/-! Structs: the fields, one behind the other. -/
def offs (P : Program) : List TypeId → Nat → Nat
  | [], _ => 0
  | _, 0 => 0
  | t :: ts, i + 1 => P.cellsOf t + offs P ts i

structure OpensF {α : Type} (P : Program) (ts : List TypeId) (d : Kd α) (Sz : α → Prop) (Bk : α → Nat) : Prop where
  cells : (ts.map P.cellsOf).sum = d.sz
  go : ∀ {H : Type} {enc : TypeId × Value → H} {w : World} {base : Nat} {spare : Nat → Bool} {held : Bool} {n : Nat} {cs : List Value} {xs : List (DataW H × List MemPlace)},
    cs.length = d.sz → xs.length = ts.length → (∀ (i : Nat) t, ts[i]? = some t → DataW.trod enc P w base spare held n t ((cs.drop (offs P ts i)).take (P.cellsOf t)) = xs[i]?) →
    (∀ m ∈ DataW.weightsEach P ts (xs.map (·.1)), m ≤ reachBytes) → ∃ v : α, d.K w v cs ∧ Sz v ∧ Bk v ≤ uptoBulkAll (xs.map (·.1))

theorem opensF_one {α : Type} {P : Program} {t : TypeId} {d : Kd α} {Sz : α → Prop} {Bk : α → Nat} (ho : Opens P t d Sz Bk) : OpensF P [t] d Sz Bk := by
  refine ⟨by simp [ho.cells], fun {H enc w base spare held n cs xs} hl hx h hw => ?_⟩
  match xs, hx with
  | [y], _ =>
    have h0 := h 0 t rfl
    rw [show offs P [t] 0 = 0 from rfl, List.drop_zero, List.take_of_length_le (by rw [ho.cells]; omega)] at h0
    obtain ⟨v, h1, h2, h3⟩ := ho.go h0 (fun m hm => hw m (by simp [DataW.weightsEach, hm]))
    exact ⟨v, h1, h2, by simpa [uptoBulkAll] using h3⟩

theorem opensF_cons {α β : Type} {P : Program} {t : TypeId} {ts : List TypeId} {d : Kd α} {ds : Kd β} {Sz : α → Prop} {Bk : α → Nat} {Szs : β → Prop} {Bks : β → Nat} (ho : Opens P t d Sz Bk) (hs : OpensF P ts ds Szs Bks) :
    OpensF P (t :: ts) (Kd.pair d ds) (fun x => Sz x.1 ∧ Szs x.2) (fun x => Bk x.1 + Bks x.2) := by
  refine ⟨by simp [ho.cells, hs.cells, Kd.pair], fun {H enc w base spare held n cs xs} hl hx h hw => ?_⟩
  match xs, hx with
  | y :: ys, hx =>
    have hl' : cs.length = d.sz + ds.sz := hl
    have h0 := h 0 t rfl
    rw [show offs P (t :: ts) 0 = 0 from rfl, List.drop_zero, ho.cells] at h0
    obtain ⟨v, h1, h2, h3⟩ := ho.go h0 (fun m hm => hw m (by simp [DataW.weightsEach, hm]))
    obtain ⟨u, g1, g2, g3⟩ := hs.go (cs := cs.drop d.sz) (xs := ys) (enc := enc) (w := w) (base := base) (spare := spare) (held := held) (n := n) (by rw [List.length_drop]; omega) (by simpa using hx) (fun i t' ht' => by
      have := h (i + 1) t' (by simpa using ht')
      rw [show offs P (t :: ts) (i + 1) = P.cellsOf t + offs P ts i from rfl, ho.cells] at this
      rw [List.drop_drop]
      simpa using this) (fun m hm => hw m (by simp only [List.map_cons, DataW.weightsEach, List.mem_append]; exact .inr hm))
    refine ⟨(v, u), ⟨cs.take d.sz, cs.drop d.sz, (List.take_append_drop _ _).symm, h1, g1⟩, ⟨h2, g2⟩, ?_⟩
    simp only [List.map_cons, uptoBulkAll]
    omega

theorem opens_struct {α β : Type} {P : Program} {t : TypeId} {fs : Array Field} {ts : List TypeId} {d : Kd α} {f : β → α} {Sz : α → Prop} {Bk : α → Nat} (ht : P.underlying t = some (.struct fs)) (hts : fs.toList.map (·.type) = ts)
    (hoff : ∀ (i : Nat) fl, fs[i]? = some fl → fl.offset = offs P ts i) (hc : P.cellsOf t = d.sz) (ho : OpensF P ts d Sz Bk) (g : α → β) (hg : ∀ v, f (g v) = v) :
    Opens P t (Kd.iso d f) (fun x => Sz (f x)) (fun x => Bk (f x) + 1) := by
  refine ⟨hc, fun {H enc w base spare held n cs x} h hw => ?_⟩
  obtain ⟨xs, n', _, rfl, hl, hlen, hf⟩ := DataW.trod_struct ht h
  have hlt : ts.length = fs.size := by rw [← hts]; simp
  obtain ⟨v, h1, h2, h3⟩ := ho.go (cs := cs) (xs := xs) (enc := enc) (w := w) (base := base) (spare := spare) (held := held) (n := n') (by rw [hl, hc]) (by omega) (fun i t' ht' => by
    have hi : i < fs.size := by rw [← hlt]; exact (List.getElem?_eq_some_iff.1 ht').1
    have hfi : fs[i]? = some fs[i] := Array.getElem?_eq_getElem hi
    have := hf i fs[i] hfi
    rw [hoff i _ hfi] at this
    have he : fs[i].type = t' := by
      rw [← hts, List.getElem?_map, Array.getElem?_toList, hfi] at ht'
      simpa using ht'
    rw [he] at this
    exact this) (fun m hm => hw m (by simp only [DataW.weights, ht, hts]; exact hm))
  exact ⟨g v, by show d.K w (f (g v)) cs; rw [hg]; exact h1, by rw [hg]; exact h2, by rw [hg]; simp only [uptoBulk]; omega⟩

end Go.Proofs.Ytlfhonekcmlomaa.Open

-- ==== PO
set_option linter.unusedVariables false
namespace Go.Proofs.Ytlfhonekcmlomaa.P
open Go.RowKit Go.Proofs.YtlfhonekcmlomaaW.PrintWords Go.Proofs.Ytlfhonekcmlomaa.Open
def sz9 (s : ByteArray) : Prop := s.size ≤ 140737488351232
def bk9 (s : ByteArray) : Nat := s.size + 1
theorem op9 : Opens Try.prog 9 Kd.string sz9 bk9 := opens_string Try.underlying9 (by kernel_rfl)
def sz3 (a : Int) : Prop := (Lit.int .i64 a).wf = true
def bk3 (_ : Int) : Nat := 1
theorem op3 : Opens Try.prog 3 (Kd.int .i64) sz3 bk3 := opens_int Try.underlying3 (by kernel_rfl)
def sz47 (x : S47) : Prop := sz9 x.f0 ∧ sz3 x.f1
def bk47 (x : S47) : Nat := (bk9 x.f0 + bk3 x.f1) + 1
theorem op47 : Opens Try.prog 47 k47 sz47 bk47 := opens_struct (P := Try.prog) (ts := [9, 3]) (f := fun x : S47 => (x.f0, x.f1)) Try.underlying47 (by kernel_rfl) (fun i fl h => by
    match i, h with
    | 0, h => obtain rfl := Option.some.inj h; show (0 : Nat) = offs Try.prog [9, 3] 0; kernel_rfl
    | 1, h => obtain rfl := Option.some.inj h; show (1 : Nat) = offs Try.prog [9, 3] 1; kernel_rfl
    | i + 2, h => simp at h) (by kernel_rfl) (opensF_cons op9 (opensF_one op3)) (fun x => ⟨x.1, x.2⟩) (fun _ => rfl)
def sz23 (l : List (S47)) : Prop := l.length * 24 ≤ 140737488351232 ∧ ∀ x ∈ l, sz47 x
def bk23 (l : List (S47)) : Nat := bulkAll bk47 l + 1
theorem op23 : Opens Try.prog 23 (Kd.slice 47 k47) sz23 bk23 := opens_slice Try.underlying23 (by kernel_rfl) (by kernel_rfl) op47
def sz44 (x : S44) : Prop := sz9 x.f0 ∧ sz23 x.f1
def bk44 (x : S44) : Nat := (bk9 x.f0 + bk23 x.f1) + 1
theorem op44 : Opens Try.prog 44 k44 sz44 bk44 := opens_struct (P := Try.prog) (ts := [9, 23]) (f := fun x : S44 => (x.f0, x.f1)) Try.underlying44 (by kernel_rfl) (fun i fl h => by
    match i, h with
    | 0, h => obtain rfl := Option.some.inj h; show (0 : Nat) = offs Try.prog [9, 23] 0; kernel_rfl
    | 1, h => obtain rfl := Option.some.inj h; show (1 : Nat) = offs Try.prog [9, 23] 1; kernel_rfl
    | i + 2, h => simp at h) (by kernel_rfl) (opensF_cons op9 (opensF_one op23)) (fun x => ⟨x.1, x.2⟩) (fun _ => rfl)
def sz25 (l : List (S44)) : Prop := l.length * 40 ≤ 140737488351232 ∧ ∀ x ∈ l, sz44 x
def bk25 (l : List (S44)) : Nat := bulkAll bk44 l + 1
theorem op25 : Opens Try.prog 25 (Kd.slice 44 k44) sz25 bk25 := opens_slice Try.underlying25 (by kernel_rfl) (by kernel_rfl) op44
end Go.Proofs.Ytlfhonekcmlomaa.P

-- ==== PS3
namespace Go.Proofs.Ytlfhonekcmlomaa.P
open Go.RowKit Go.Proofs.YtlfhonekcmlomaaW.PrintWords
def aumbrylaw05_MatchFinds.Pure : Prop := ∀ (l0 : List (S47)) (l1 : List (S47)), sz23 l0 → sz23 l1 → ∃ k, aumbrylaw05_MatchFinds.f k l0 l1 = some true
def aumbrylaw05_MatchFinds.PureUpto : Prop := ∀ (l0 : List (S47)) (l1 : List (S47)), sz23 l0 → sz23 l1 → bk23 l0 + bk23 l1 ≤ 1048576 → ∃ k, aumbrylaw05_MatchFinds.f k l0 l1 = some true
end Go.Proofs.Ytlfhonekcmlomaa.P

-- ==== PLa
/- Plain laws, part a: what kind a text is: the program's way and the document's way come to one function. -/
namespace Go.Proofs.Ytlfhonekcmlomaa.P
open Go.RowKit Go.Proofs.YtlfhonekcmlomaaW.PrintWords
set_option linter.unusedVariables false
set_option linter.unusedSimpArgs false

theorem wrap_up {i : Int} (h0 : 0 ≤ i) (h : i < 9223372036854775807) : wrap64 (i + 1) = i + 1 := by
  unfold wrap64
  omega
theorem wrap_id {i : Int} (h0 : -9223372036854775808 ≤ i) (h : i ≤ 9223372036854775807) : wrap64 i = i := by
  unfold wrap64
  omega

theorem evIfp {α : Type} {c : Prop} [Decidable c] {f g : Nat → Option α} {r : α} (h : c) (hf : Ev f r) : Ev (fun k => if c then f k else g k) r :=
  Ev.congr (fun _ => if_pos h) hf
theorem evIfn {α : Type} {c : Prop} [Decidable c] {f g : Nat → Option α} {r : α} (h : ¬ c) (hf : Ev g r) : Ev (fun k => if c then f k else g k) r :=
  Ev.congr (fun _ => if_neg h) hf
theorem evIs {α : Type} {x : Option α} {a : α} (h : x = some a) : Ev (fun _ => x) a := ⟨0, fun _ _ => h⟩

def lowB (s : ByteArray) (i : Int) : Bool := (decide (97 ≤ bt s i) && decide (bt s i ≤ 122)) || (decide (48 ≤ bt s i) && decide (bt s i ≤ 57) && decide (0 < i))
def upB (s : ByteArray) (i : Int) : Bool := (decide (65 ≤ bt s i) && decide (bt s i ≤ 90)) || (decide (48 ≤ bt s i) && decide (bt s i ≤ 57) && decide (0 < i))
/-- p holds at i, i + 1, .. (d places). -/
def allN (p : Int → Bool) : Nat → Int → Bool
  | 0, _ => true
  | d + 1, i => p i && allN p d (i + 1)
theorem allN_congr {p q : Int → Bool} : ∀ (d : Nat) (i : Int), (∀ j, i ≤ j → j < i + d → p j = q j) → allN p d i = allN q d i
  | 0, _, _ => rfl
  | d + 1, i, h => by
    simp only [allN]
    rw [h i (Int.le_refl _) (by omega), allN_congr d (i + 1) (fun j h1 h2 => h j (by omega) (by omega))]
def kindS (s : ByteArray) : Int :=
  if s.size < 1 ∨ 8 < s.size then 0 else if allN (lowB s) s.size 0 = true then 1 else if allN (upB s) s.size 0 = true then 2 else 0

theorem kindS_bad {s : ByteArray} (h : s.size < 1 ∨ 8 < s.size) : kindS s = 0 := by
  unfold kindS
  exact if_pos h
theorem kindS_good {s : ByteArray} (h1 : 1 ≤ s.size) (h8 : s.size ≤ 8) : kindS s = (if allN (lowB s) s.size 0 = true then 1 else if allN (upB s) s.size 0 = true then 2 else 0) := by
  unfold kindS
  exact if_neg (by omega)
theorem kindS_cases (s : ByteArray) : kindS s = 0 ∨ kindS s = 1 ∨ kindS s = 2 := by
  unfold kindS
  split
  · exact .inl rfl
  · split
    · exact .inr (.inl rfl)
    · split
      · exact .inr (.inr rfl)
      · exact .inl rfl
theorem kindS_size {s : ByteArray} (h : kindS s ≠ 0) : 1 ≤ s.size ∧ s.size ≤ 8 := by
  unfold kindS at h
  split at h
  · exact absurd rfl h
  · omega

/-! ### the document's -/
theorem refKind_step (k : Nat) (s : ByteArray) (a b : Bool) (i : Int) (h0 : 0 ≤ i) (h1 : i < (s.size : Int)) :
    aumbryref03_Kind.l0 (k + 1) s a b i = aumbryref03_Kind.l0 k s (a && lowB s i) (b && upB s i) (wrap64 (i + 1)) := by
  simp only [aumbryref03_Kind.l0]
  rw [if_pos h1, if_pos h0]
  unfold lowB upB
  generalize bt s i = c
  by_cases c1 : c ≥ 48 <;> by_cases c2 : c ≤ 57 <;> by_cases c3 : c ≥ 97 <;> by_cases c4 : c ≤ 122 <;> by_cases c5 : c ≥ 65 <;> by_cases c6 : c ≤ 90 <;> first | (exfalso; omega) | (cases a <;> cases b <;> simp [c1, c2, c3, c4, c5, c6])
theorem refKind_end (k : Nat) (s : ByteArray) (a b : Bool) (i : Int) (h1 : ¬ i < (s.size : Int)) :
    aumbryref03_Kind.l0 (k + 1) s a b i = some (if a = true then 1 else if b = true then 2 else 0) := by
  simp only [aumbryref03_Kind.l0]
  rw [if_neg h1]
  cases a <;> cases b <;> rfl
theorem refKind_loop (s : ByteArray) (hs : s.size ≤ 8) : ∀ (d : Nat) (k : Nat) (a b : Bool) (i : Int), 0 ≤ i → (s.size : Int) - i = d → d < k →
    aumbryref03_Kind.l0 k s a b i = some (if (a && allN (lowB s) d i) = true then 1 else if (b && allN (upB s) d i) = true then 2 else 0)
  | 0, k, a, b, i, h0, hd, hk => by
    obtain ⟨k, rfl⟩ : ∃ m, k = m + 1 := ⟨k - 1, by omega⟩
    rw [refKind_end k s a b i (by omega)]
    simp [allN]
  | d + 1, k, a, b, i, h0, hd, hk => by
    obtain ⟨k, rfl⟩ : ∃ m, k = m + 1 := ⟨k - 1, by omega⟩
    rw [refKind_step k s a b i h0 (by omega), wrap_up h0 (by omega), refKind_loop s hs d k _ _ (i + 1) (by omega) (by omega) (by omega)]
    simp [allN, Bool.and_assoc]
theorem ev_refKind (s : ByteArray) : Ev (fun k => aumbryref03_Kind.f k s) (kindS s) := by
  refine ⟨12, fun k hk => ?_⟩
  show aumbryref03_Kind.f k s = _
  unfold aumbryref03_Kind.f
  obtain ⟨k, rfl⟩ : ∃ m, k = m + 1 := ⟨k - 1, by omega⟩
  by_cases h1 : (s.size : Int) < 1
  · rw [if_pos h1]
    simp [aumbryref03_Kind.j0, kindS_bad (s := s) (.inl (by omega))]
  · rw [if_neg h1]
    simp only [aumbryref03_Kind.j0]
    by_cases h2 : (s.size : Int) > 8
    · rw [if_pos (by simpa using h2), kindS_bad (s := s) (.inr (by omega))]
    · rw [kindS_good (s := s) (by omega) (by omega), if_neg (by simpa using h2), refKind_loop s (by omega) s.size k true true 0 (by omega) (by omega) (by omega)]
      simp

/-! ### the program's -/
def signS (c : Int) : Int × Int := if 97 ≤ c ∧ c ≤ 122 then (1, 1) else if 65 ≤ c ∧ c ≤ 90 then (2, 2) else if 48 ≤ c ∧ c ≤ 57 then (0, 3) else (0, 0)
theorem sign_at (c : Int) (k : Nat) (hk : 2 ≤ k) : name_sign.f k c = some (signS c) := by
  obtain ⟨k, rfl⟩ : ∃ m, k = m + 2 := ⟨k - 2, by omega⟩
  unfold name_sign.f signS
  by_cases c1 : c ≥ 48 <;> by_cases c2 : c ≤ 57 <;> by_cases c3 : c ≥ 97 <;> by_cases c4 : c ≤ 122 <;> by_cases c5 : c ≥ 65 <;> by_cases c6 : c ≤ 90 <;> first | (exfalso; omega) | (simp [name_sign.j0, name_sign.j1, c1, c2, c3, c4, c5, c6])
theorem bits_and_ (a b : Int) (ha : a = 0 ∨ a = 1 ∨ a = 2 ∨ a = 3) (hb : b = 0 ∨ b = 1 ∨ b = 2) : (Go.bits .and .i64 a b = 0) ↔ (b = 0 ∨ (b = 1 ∧ (a = 0 ∨ a = 2)) ∨ (b = 2 ∧ (a = 0 ∨ a = 1))) := by
  rcases ha with rfl | rfl | rfl | rfl <;> rcases hb with rfl | rfl | rfl <;> decide
def goesB (s : ByteArray) (b : Int) (i : Int) : Bool := decide (¬ (Go.bits .and .i64 (signS (bt s i)).2 b = 0))
theorem kind_loop (s : ByteArray) (b : Int) (hs : s.size ≤ 8) : ∀ (d : Nat) (k : Nat) (i : Int), 0 ≤ i → (s.size : Int) - i = d → d + 2 < k →
    name_Kind.l0 k s b (s.size : Int) i = some (if allN (goesB s b) d i = true then b else 0)
  | 0, k, i, h0, hd, hk => by
    obtain ⟨k, rfl⟩ : ∃ m, k = m + 1 := ⟨k - 1, by omega⟩
    simp only [name_Kind.l0]
    rw [if_neg (by omega)]
    simp [allN]
  | d + 1, k, i, h0, hd, hk => by
    obtain ⟨k, rfl⟩ : ∃ m, k = m + 1 := ⟨k - 1, by omega⟩
    simp only [name_Kind.l0]
    rw [if_pos (by omega), if_pos h0, if_pos (by omega), sign_at _ _ (by omega)]
    simp only [Option.bind_some]
    by_cases hg : Go.bits .and .i64 (signS (bt s i)).2 b = 0
    · rw [if_pos hg]
      simp [allN, goesB, hg]
    · rw [if_neg hg, wrap_up h0 (by omega), kind_loop s b hs d k (i + 1) (by omega) (by omega) (by omega)]
      simp [allN, goesB, hg]
theorem signS_one (c : Int) : (signS c).1 = 0 ∨ (signS c).1 = 1 ∨ (signS c).1 = 2 := by
  unfold signS
  repeat' split
  all_goals simp
theorem signS_two (c : Int) : (signS c).2 = 0 ∨ (signS c).2 = 1 ∨ (signS c).2 = 2 ∨ (signS c).2 = 3 := by
  unfold signS
  repeat' split
  all_goals simp
theorem goes_one (s : ByteArray) (i : Int) (hi : 0 < i) : goesB s 1 i = lowB s i := by
  have h := bits_and_ (signS (bt s i)).2 1 (signS_two _) (by simp)
  unfold goesB lowB
  rw [Bool.eq_iff_iff]
  simp only [decide_eq_true_eq, h, Bool.or_eq_true, Bool.and_eq_true]
  unfold signS
  repeat' split
  all_goals simp
  all_goals omega
theorem goes_two (s : ByteArray) (i : Int) (hi : 0 < i) : goesB s 2 i = upB s i := by
  have h := bits_and_ (signS (bt s i)).2 2 (signS_two _) (by simp)
  unfold goesB upB
  rw [Bool.eq_iff_iff]
  simp only [decide_eq_true_eq, h, Bool.or_eq_true, Bool.and_eq_true]
  unfold signS
  repeat' split
  all_goals simp
  all_goals omega
theorem kind_eq (s : ByteArray) (h1 : 1 ≤ s.size) (h8 : s.size ≤ 8) : (if allN (goesB s (signS (bt s 0)).1) s.size 0 = true then (signS (bt s 0)).1 else 0) = kindS s := by
  rw [kindS_good h1 h8]
  obtain ⟨n, hn⟩ : ∃ n, s.size = n + 1 := ⟨s.size - 1, by omega⟩
  have e1 : allN (goesB s 1) n (0 + 1) = allN (lowB s) n (0 + 1) := allN_congr _ _ (fun j h1 _ => goes_one s j (by omega))
  have e2 : allN (goesB s 2) n (0 + 1) = allN (upB s) n (0 + 1) := allN_congr _ _ (fun j h1 _ => goes_two s j (by omega))
  by_cases hl : 97 ≤ bt s 0 ∧ bt s 0 ≤ 122
  · have hs : signS (bt s 0) = (1, 1) := by unfold signS; rw [if_pos hl]
    have g0 : goesB s 1 0 = true := by unfold goesB; rw [hs]; decide
    have l0 : lowB s 0 = true := by unfold lowB; simp [hl]
    have u0 : upB s 0 = false := by unfold upB; simp; omega
    simp only [hn, hs, allN, e1, g0, l0, u0, Bool.true_and, Bool.false_and]
    split <;> simp
  · by_cases hu : 65 ≤ bt s 0 ∧ bt s 0 ≤ 90
    · have hs : signS (bt s 0) = (2, 2) := by unfold signS; rw [if_neg hl, if_pos hu]
      have g0 : goesB s 2 0 = true := by unfold goesB; rw [hs]; decide
      have l0 : lowB s 0 = false := by unfold lowB; simp; omega
      have u0 : upB s 0 = true := by unfold upB; simp [hu]
      simp only [hn, hs, allN, e2, g0, l0, u0, Bool.true_and, Bool.false_and]
      simp
    · have hs : (signS (bt s 0)).1 = 0 := by unfold signS; rw [if_neg hl, if_neg hu]; split <;> rfl
      have l0 : lowB s 0 = false := by unfold lowB; simp; omega
      have u0 : upB s 0 = false := by unfold upB; simp; omega
      simp only [hn, hs, allN, l0, u0, Bool.true_and, Bool.false_and]
      simp
theorem toList_nil (s : ByteArray) : s.toList = ([] : List UInt8) ↔ s.size = 0 := by
  rw [ByteArray.toList_eq]
  constructor
  · intro h
    have := congrArg List.length h
    simpa [data_length] using this
  · intro h
    apply List.eq_nil_of_length_eq_zero
    rw [data_length]
    exact h
theorem ev_kind (s : ByteArray) : Ev (fun k => name_Kind.f k s) (kindS s) := by
  refine ⟨16, fun k hk => ?_⟩
  show name_Kind.f k s = _
  unfold name_Kind.f
  obtain ⟨k, rfl⟩ : ∃ m, k = m + 1 := ⟨k - 1, by omega⟩
  by_cases h1 : s.toList = ([] : List UInt8)
  · rw [if_pos h1]
    have := (toList_nil s).1 h1
    simp [name_Kind.j0, kindS_bad (s := s) (.inl (by omega))]
  · have h1' : s.size ≠ 0 := fun h => h1 ((toList_nil s).2 h)
    rw [if_neg h1]
    simp only [name_Kind.j0]
    by_cases h2 : (s.size : Int) > 8
    · rw [if_pos (by simpa using h2), kindS_bad (s := s) (.inr (by omega))]
    · rw [if_neg (by simpa using h2), if_pos (by omega), sign_at _ _ (by omega)]
      simp only [Option.bind_some]
      rw [kind_loop s _ (by omega) s.size k 0 (by omega) (by omega) (by omega), kind_eq s (by omega) (by omega)]
end Go.Proofs.Ytlfhonekcmlomaa.P

-- ==== PLb
/- Plain laws, part b: a list of cells as terms one behind the other; whether it is a term (both ways come to one function). -/
namespace Go.Proofs.Ytlfhonekcmlomaa.P
open Go.RowKit Go.Proofs.YtlfhonekcmlomaaW.PrintWords
set_option linter.unusedVariables false
set_option linter.unusedSimpArgs false

abbrev Cel := S47
instance celEq : DecidableEq Cel := fun a b =>
  if h : a.f0 = b.f0 ∧ a.f1 = b.f1 then isTrue (by cases a; cases b; simp only at h; rw [h.1, h.2]) else isFalse (fun e => h (by rw [e]; exact ⟨rfl, rfl⟩))
theorem drop_cons {α : Type} {t : List α} {n : Nat} {c : α} {s : List α} (h : t.drop n = c :: s) : n < t.length ∧ (∀ d, t.getD n d = c) ∧ t.drop (n + 1) = s := by
  have h1 : n < t.length := by
    rcases Nat.lt_or_ge n t.length with h1 | h1
    · exact h1
    · rw [List.drop_eq_nil_of_le h1] at h
      cases h
  rw [List.drop_eq_getElem_cons h1] at h
  injection h with h2 h3
  exact ⟨h1, fun d => by rw [List.getD_eq_getElem?_getD, List.getElem?_eq_getElem h1]; exact h2, h3⟩
theorem drop_nil_len {α : Type} {t : List α} {n : Nat} (hn : n ≤ t.length) (h : t.drop n = []) : n = t.length := by
  have := congrArg List.length h
  simp at this
  omega
theorem rd_cel {t : List Cel} {n : Nat} {c : Cel} {s : List Cel} (h : t.drop n = c :: s) : rd_T47 t (n : Int) = c := by
  unfold rd_T47
  exact (drop_cons h).2.1 _

def ar (c : Cel) : Nat := c.f1.toNat
def cellErr (c : Cel) : Int := if kindS c.f0 = 0 then 4 else if c.f1 < 0 then 5 else if c.f1 > 4 then 5 else if kindS c.f0 = 2 then (if c.f1 > 0 then 5 else 0) else 0
def errs : List Cel → Int
  | [] => 0
  | c :: l => if cellErr c = 0 then errs l else cellErr c
/-- What is left behind the first n terms. -/
def segN : List Cel → Nat → Option (List Cel)
  | l, 0 => some l
  | [], _ + 1 => none
  | c :: l, n + 1 => segN l (n + ar c)
def checkS (t : List Cel) : Int := if t.length > 64 then 6 else if errs t = 0 then (if segN t 1 = some [] then 0 else 3) else errs t

theorem segN_zero (l : List Cel) : segN l 0 = some l := by cases l <;> rfl
theorem segN_add : ∀ (l : List Cel) (a b : Nat), segN l (a + b) = (segN l a).bind fun r => segN r b
  | l, 0, b => by rw [segN_zero]; simp
  | [], a + 1, b => by rw [show a + 1 + b = (a + b) + 1 by omega]; rfl
  | c :: l, a + 1, b => by
    rw [show a + 1 + b = (a + b) + 1 by omega]
    show segN l (a + b + ar c) = (segN l (a + ar c)).bind _
    rw [show a + b + ar c = (a + ar c) + b by omega]
    exact segN_add l (a + ar c) b
theorem segN_len : ∀ {l r : List Cel} {n : Nat}, segN l n = some r → r.length ≤ l.length ∧ (0 < n → r.length < l.length)
  | l, r, 0, h => by
    rw [segN_zero] at h
    injection h with h
    subst h
    exact ⟨Nat.le_refl _, fun h => absurd h (by omega)⟩
  | [], r, n + 1, h => by cases h
  | c :: l, r, n + 1, h => by
    have := (segN_len (l := l) (r := r) (n := n + ar c) h).1
    simp only [List.length_cons]
    exact ⟨by omega, fun _ => by omega⟩
theorem segN_suffix : ∀ {l r : List Cel} {n : Nat}, segN l n = some r → ∃ m, m ≤ l.length ∧ l.drop m = r
  | l, r, 0, h => by
    rw [segN_zero] at h
    injection h with h
    exact ⟨0, by omega, h⟩
  | [], r, n + 1, h => by cases h
  | c :: l, r, n + 1, h => by
    obtain ⟨m, h1, h2⟩ := segN_suffix (l := l) (r := r) (n := n + ar c) h
    exact ⟨m + 1, by simp; omega, h2⟩

/-- What the cells of a term that is right are. -/
structure Okc (c : Cel) : Prop where
  kind : kindS c.f0 ≠ 0
  lo : 0 ≤ c.f1
  hi : c.f1 ≤ 4
  var : kindS c.f0 = 2 → c.f1 = 0
theorem okc_of {c : Cel} (h : cellErr c = 0) : Okc c := by
  unfold cellErr at h
  by_cases h1 : kindS c.f0 = 0
  · rw [if_pos h1] at h; cases h
  · rw [if_neg h1] at h
    by_cases h2 : c.f1 < 0
    · rw [if_pos h2] at h; cases h
    · rw [if_neg h2] at h
      by_cases h3 : c.f1 > 4
      · rw [if_pos h3] at h; cases h
      · rw [if_neg h3] at h
        refine ⟨h1, by omega, by omega, fun hk => ?_⟩
        rw [if_pos hk] at h
        by_cases h4 : c.f1 > 0
        · rw [if_pos h4] at h; cases h
        · omega
theorem errs_ok : ∀ {l : List Cel}, errs l = 0 → ∀ c ∈ l, Okc c
  | [], _, _, h => by cases h
  | a :: l, h, c, hc => by
    unfold errs at h
    by_cases h1 : cellErr a = 0
    · rw [if_pos h1] at h
      rcases List.mem_cons.1 hc with rfl | hc
      · exact okc_of h1
      · exact errs_ok h c hc
    · rw [if_neg h1] at h
      exact absurd h h1
theorem cellErr_ne (c : Cel) : cellErr c = 0 ∨ cellErr c = 4 ∨ cellErr c = 5 := by
  unfold cellErr
  repeat' split
  all_goals simp

/-! ### the program's: behind, Check -/
theorem ev_cell (c : Cel) : Ev (fun k => term_cell.f k c.f0 c.f1) (cellErr c) := by
  unfold term_cell.f
  refine Ev.bind (ev_kind c.f0) ?_
  refine Ev.congr (f := fun _ => some (cellErr c)) (fun k => ?_) (Ev.now _)
  unfold cellErr
  simp only [apply_ite some]
/-- The place behind n terms that begin at 'at'; -1: they have no end. -/
def behS (t : List Cel) (a n : Nat) : Int := match segN (t.drop a) n with
  | none => -1
  | some r => ((t.length - r.length : Nat) : Int)
theorem ev_behind_loop (t : List Cel) (ht : t.length ≤ 64) (hok : ∀ c ∈ t, Okc c) : ∀ (s : List Cel) (a n : Nat), a ≤ t.length → t.drop a = s → n ≤ 1 + 4 * a →
    Ev (fun k => term_behind.l0 k t (a : Int) (n : Int)) (behS t a n)
  | s, a, 0, ha, hs, hn => by
    refine Ev.step (f := fun _ => some (a : Int)) (fun k => by simp only [term_behind.l0]; rw [if_neg (by omega)]) ?_
    have : behS t a 0 = (a : Int) := by
      unfold behS
      rw [segN_zero]
      simp only [List.length_drop]
      omega
    rw [this]
    exact Ev.now _
  | [], a, n + 1, ha, hs, hn => by
    have hl := drop_nil_len ha hs
    refine Ev.step (f := fun _ => some (-1 : Int)) (fun k => by simp only [term_behind.l0]; rw [if_pos (by omega), if_pos (by omega)]) ?_
    have : behS t a (n + 1) = -1 := by
      unfold behS
      rw [hs]
      rfl
    rw [this]
    exact Ev.now _
  | c :: s, a, n + 1, ha, hs, hn => by
    obtain ⟨h1, h2, h3⟩ := drop_cons hs
    have hc : Okc c := hok c (List.mem_of_mem_drop (hs ▸ List.mem_cons_self ..))
    have har : (ar c : Int) = c.f1 := by unfold ar; have := hc.lo; omega
    have hh := hc.hi
    have hl0 := hc.lo
    refine Ev.step (f := fun k => term_behind.l0 k t ((a + 1 : Nat) : Int) ((n + ar c : Nat) : Int)) (fun k => ?_) ?_
    · simp only [term_behind.l0]
      rw [if_pos (by omega), if_neg (by omega), if_pos (by omega), if_pos (by omega), rd_cel hs, wrap_up (by omega) (by omega)]
      have e : wrap64 (((n + 1 : Nat) : Int) + wrap64 (c.f1 - 1)) = ((n + ar c : Nat) : Int) := by
        rw [wrap_id (i := c.f1 - 1) (by omega) (by omega), wrap_id (by omega) (by omega)]
        omega
      rw [e]
      rfl
    · have : behS t a (n + 1) = behS t (a + 1) (n + ar c) := by
        unfold behS
        rw [hs, h3]
        rfl
      rw [this]
      exact ev_behind_loop t ht hok s (a + 1) (n + ar c) (by omega) h3 (by omega)
theorem ev_behind (t : List Cel) (ht : t.length ≤ 64) (hok : ∀ c ∈ t, Okc c) (a : Nat) (ha : a ≤ t.length) : Ev (fun k => term_behind.f k t (a : Int)) (behS t a 1) := by
  unfold term_behind.f
  exact ev_behind_loop t ht hok _ a 1 ha rfl (by omega)
theorem behS_whole (t : List Cel) : (behS t 0 1 = (t.length : Int)) ↔ segN t 1 = some [] := by
  unfold behS
  rw [List.drop_zero]
  cases h : segN t 1 with
  | none => simp
  | some r =>
    have := segN_len h
    simp only [Option.some.injEq]
    constructor
    · intro h1
      apply List.eq_nil_of_length_eq_zero
      omega
    · rintro rfl
      simp
theorem ev_check_loop (t : List Cel) (ht : t.length ≤ 64) : ∀ (s : List Cel) (a : Nat), a ≤ t.length → t.drop a = s → (∀ c ∈ t.take a, Okc c) →
    Ev (fun k => term_Check.l0 k t t (t.length : Int) (a : Int)) (if errs s = 0 then (if segN t 1 = some [] then 0 else 3) else errs s)
  | [], a, ha, hs, hok => by
    have hl := drop_nil_len ha hs
    rw [hl, List.take_length] at hok
    refine Ev.step (f := fun k => (term_behind.f k t 0).bind fun r => (if r = (t.length : Int) then (some 0) else (some 3))) (fun k => by simp only [term_Check.l0]; rw [if_neg (by omega)]) ?_
    refine Ev.bind (ev_behind t ht hok 0 (by omega)) ?_
    refine Ev.congr (f := fun _ => some (if segN t 1 = some [] then 0 else 3)) (fun k => ?_) (Ev.now _)
    by_cases h : segN t 1 = some []
    · rw [if_pos ((behS_whole t).2 h), if_pos h]
    · rw [if_neg (fun h' => h ((behS_whole t).1 h')), if_neg h]
  | c :: s, a, ha, hs, hok => by
    obtain ⟨h1, h2, h3⟩ := drop_cons hs
    refine Ev.step (f := fun k => (term_cell.f k c.f0 c.f1).bind fun e => (if e = 0 then (term_Check.l0 k t t (t.length : Int) ((a + 1 : Nat) : Int)) else (some e))) (fun k => ?_) ?_
    · simp only [term_Check.l0]
      rw [if_pos (by omega), if_pos (by omega), if_pos (by omega), rd_cel hs, wrap_up (by omega) (by omega)]
      rfl
    · refine Ev.bind (ev_cell c) ?_
      by_cases he : cellErr c = 0
      · refine Ev.congr (f := fun k => term_Check.l0 k t t (t.length : Int) ((a + 1 : Nat) : Int)) (fun k => by rw [if_pos he]) ?_
        have : errs (c :: s) = errs s := by simp only [errs]; rw [if_pos he]
        rw [this]
        refine ev_check_loop t ht s (a + 1) (by omega) h3 (fun x hx => ?_)
        rw [List.take_succ_eq_append_getElem h1] at hx
        rcases List.mem_append.1 hx with hx | hx
        · exact hok x hx
        · have hce : t[a] = c := by have := h2 c; rw [List.getD_eq_getElem?_getD, List.getElem?_eq_getElem h1] at this; exact this
          rw [List.mem_singleton.1 hx, hce]
          exact okc_of he
      · refine Ev.congr (f := fun _ => some (cellErr c)) (fun k => by rw [if_neg he]) ?_
        have : errs (c :: s) = cellErr c := by simp only [errs]; rw [if_neg he]
        rw [this, if_neg he]
        exact Ev.now _
theorem ev_check (t : List Cel) : Ev (fun k => term_Check.f k t) (checkS t) := by
  unfold term_Check.f checkS
  by_cases h : t.length > 64
  · rw [if_pos h]
    exact Ev.congr (f := fun _ => some 6) (fun k => if_pos (by omega)) (Ev.now _)
  · rw [if_neg h]
    exact Ev.congr (f := fun k => term_Check.l0 k t t (t.length : Int) ((0 : Nat) : Int)) (fun k => if_neg (by omega)) (ev_check_loop t (by omega) t 0 (by omega) rfl (by simp))

/-! ### the document's: Behind, Check -/
theorem ev_refBehind_at : ∀ (d : Nat) (t : List Cel) (ht : t.length ≤ 64) (hok : ∀ c ∈ t, Okc c) (a : Nat), t.length - a = d → a ≤ t.length → Ev (fun k => aumbryref04_Behind.f k t (a : Int)) (behS t a 1) := by
  intro d
  induction d using Nat.strongRecOn with
  | _ d ih =>
  intro t ht hok a hd ha
  rcases hs : t.drop a with _ | ⟨c, s⟩
  · have hl := drop_nil_len ha hs
    refine Ev.step (f := fun k => aumbryref04_Behind.j0 k t (a : Int) true) (fun k => by simp only [aumbryref04_Behind.f]; rw [if_neg (by omega)]; congr 1; simp; omega) ?_
    refine Ev.step (f := fun k => some (-1)) (fun k => by simp only [aumbryref04_Behind.j0]; rfl) ?_
    have : behS t a 1 = -1 := by
      unfold behS
      rw [hs]
      rfl
    rw [this]
    exact Ev.now _
  · obtain ⟨h1, h2, h3⟩ := drop_cons hs
    have hc : Okc c := hok c (List.mem_of_mem_drop (hs ▸ List.mem_cons_self ..))
    have har : (ar c : Int) = c.f1 := by unfold ar; have := hc.lo; omega
    have hh := hc.hi
    have hl0 := hc.lo
    refine Ev.step (f := fun k => aumbryref04_Behind.j0 k t (a : Int) false) (fun k => by simp only [aumbryref04_Behind.f]; rw [if_neg (by omega)]; congr 1; simp; omega) ?_
    refine Ev.step (f := fun k => aumbryref04_Behind.l0 k t ((a + 1 : Nat) : Int) (ar c : Int) 0) (fun k => by
      simp only [aumbryref04_Behind.j0]
      rw [if_neg (by simp), if_pos (by omega), if_pos (by omega), rd_cel hs, wrap_up (by omega) (by omega), har]
      rfl) ?_
    have loop : ∀ (m : Nat) (b i : Nat), t.length - b < d → b ≤ t.length → i + m = ar c → Ev (fun k => aumbryref04_Behind.l0 k t (b : Int) (ar c : Int) (i : Int)) (behS t b m) := by
      intro m
      induction m with
      | zero =>
        intro b i hb hbl hi
        refine Ev.step (f := fun _ => some (b : Int)) (fun k => by simp only [aumbryref04_Behind.l0]; rw [if_neg (by omega)]) ?_
        have : behS t b 0 = (b : Int) := by
          unfold behS
          rw [segN_zero]
          simp only [List.length_drop]
          omega
        rw [this]
        exact Ev.now _
      | succ m ihm =>
        intro b i hb hbl hi
        refine Ev.step (f := fun k => (aumbryref04_Behind.f k t (b : Int)).bind fun r => aumbryref04_Behind.l0 k t r (ar c : Int) ((i + 1 : Nat) : Int)) (fun k => by
          simp only [aumbryref04_Behind.l0]
          rw [if_pos (by omega), if_pos (by omega), wrap_up (by omega) (by omega)]
          rfl) ?_
        refine Ev.bind (ih _ hb t ht hok b rfl hbl) ?_
        have hadd : segN (t.drop b) (m + 1) = (segN (t.drop b) 1).bind fun r => segN r m := by rw [show m + 1 = 1 + m by omega]; exact segN_add _ _ _
        cases hr : segN (t.drop b) 1 with
        | none =>
          have e1 : behS t b 1 = -1 := by unfold behS; rw [hr]
          have e2 : behS t b (m + 1) = -1 := by unfold behS; rw [hadd, hr]; rfl
          rw [e1, e2]
          refine Ev.step (f := fun _ => some (-1 : Int)) (fun k => ?_) (Ev.now _)
          simp only [aumbryref04_Behind.l0]
          split <;> simp
        | some r =>
          obtain ⟨q, hq1, hq2⟩ := segN_suffix hr
          rw [List.drop_drop] at hq2
          have hlen := segN_len hr
          simp only [List.length_drop] at hlen hq1
          have hrl : r.length = t.length - (b + q) := by rw [← hq2, List.length_drop]
          have e1 : behS t b 1 = ((b + q : Nat) : Int) := by unfold behS; rw [hr]; simp only; omega
          have e2 : behS t b (m + 1) = behS t (b + q) m := by unfold behS; rw [hadd, hr, hq2]; rfl
          rw [e1, e2]
          exact ihm (b + q) (i + 1) (by omega) (by omega) (by omega)
    have : behS t a 1 = behS t (a + 1) (ar c) := by
      unfold behS
      rw [hs, h3]
      show (match segN s (0 + ar c) with | none => (-1 : Int) | some r => _) = _
      rw [Nat.zero_add]
    rw [this]
    exact loop (ar c) (a + 1) 0 (by omega) (by omega) (by omega)
theorem ev_refBehind (t : List Cel) (ht : t.length ≤ 64) (hok : ∀ c ∈ t, Okc c) (a : Nat) (ha : a ≤ t.length) : Ev (fun k => aumbryref04_Behind.f k t (a : Int)) (behS t a 1) := ev_refBehind_at _ t ht hok a rfl ha
theorem ev_refCheck_loop (t : List Cel) (ht : t.length ≤ 64) : ∀ (s : List Cel) (a : Nat), a ≤ t.length → t.drop a = s → (∀ c ∈ t.take a, Okc c) →
    Ev (fun k => aumbryref04_Check.l0 k t (t.length : Int) (a : Int)) (if errs s = 0 then (if segN t 1 = some [] then 0 else 3) else errs s)
  | [], a, ha, hs, hok => by
    have hl := drop_nil_len ha hs
    rw [hl, List.take_length] at hok
    refine Ev.step (f := fun k => (aumbryref04_Behind.f k t 0).bind fun r => (if r = (t.length : Int) then (some 0) else (some 3))) (fun k => by simp only [aumbryref04_Check.l0]; rw [if_neg (by omega)]) ?_
    refine Ev.bind (ev_refBehind t ht hok 0 (by omega)) ?_
    refine Ev.congr (f := fun _ => some (if segN t 1 = some [] then 0 else 3)) (fun k => ?_) (Ev.now _)
    by_cases h : segN t 1 = some []
    · rw [if_pos ((behS_whole t).2 h), if_pos h]
    · rw [if_neg (fun h' => h ((behS_whole t).1 h')), if_neg h]
  | c :: s, a, ha, hs, hok => by
    obtain ⟨h1, h2, h3⟩ := drop_cons hs
    refine Ev.step (f := fun k => (aumbryref03_Kind.f k c.f0).bind fun e => (if e = 0 then (some 4) else (if c.f1 < 0 then (some 5) else (if c.f1 > 4 then (some 5) else (if e = 2 then (if c.f1 = 0 then (aumbryref04_Check.l0 k t (t.length : Int) ((a + 1 : Nat) : Int)) else (some 5)) else (aumbryref04_Check.l0 k t (t.length : Int) ((a + 1 : Nat) : Int))))))) (fun k => ?_) ?_
    · simp only [aumbryref04_Check.l0]
      rw [if_pos (by omega), if_pos (by omega), if_pos (by omega), rd_cel hs, wrap_up (by omega) (by omega)]
      rfl
    · refine Ev.bind (ev_refKind c.f0) ?_
      by_cases he : cellErr c = 0
      · have ho := okc_of he
        have h4 := ho.hi
        have h0 := ho.lo
        refine Ev.congr (f := fun k => aumbryref04_Check.l0 k t (t.length : Int) ((a + 1 : Nat) : Int)) (fun k => ?_) ?_
        · rw [if_neg ho.kind, if_neg (by omega), if_neg (by omega)]
          by_cases hv : kindS c.f0 = 2
          · rw [if_pos hv, if_pos (ho.var hv)]
          · rw [if_neg hv]
        have : errs (c :: s) = errs s := by simp only [errs]; rw [if_pos he]
        rw [this]
        refine ev_refCheck_loop t ht s (a + 1) (by omega) h3 (fun x hx => ?_)
        rw [List.take_succ_eq_append_getElem h1] at hx
        rcases List.mem_append.1 hx with hx | hx
        · exact hok x hx
        · have hce : t[a] = c := by have := h2 c; rw [List.getD_eq_getElem?_getD, List.getElem?_eq_getElem h1] at this; exact this
          rw [List.mem_singleton.1 hx, hce]
          exact ho
      · refine Ev.congr (f := fun _ => some (cellErr c)) (fun k => ?_) ?_
        · unfold cellErr at he ⊢
          by_cases e1 : kindS c.f0 = 0
          · rw [if_pos e1, if_pos e1]
          · rw [if_neg e1] at he
            rw [if_neg e1, if_neg e1]
            by_cases e2 : c.f1 < 0
            · rw [if_pos e2, if_pos e2]
            · rw [if_neg e2] at he
              rw [if_neg e2, if_neg e2]
              by_cases e3 : c.f1 > 4
              · rw [if_pos e3, if_pos e3]
              · rw [if_neg e3] at he
                rw [if_neg e3, if_neg e3]
                by_cases e4 : kindS c.f0 = 2
                · rw [if_pos e4] at he
                  rw [if_pos e4, if_pos e4]
                  by_cases e5 : c.f1 > 0
                  · rw [if_pos e5, if_neg (by omega)]
                  · rw [if_neg e5] at he
                    exact absurd rfl he
                · rw [if_neg e4] at he
                  exact absurd rfl he
        · have : errs (c :: s) = cellErr c := by simp only [errs]; rw [if_neg he]
          rw [this, if_neg he]
          exact Ev.now _
theorem ev_refCheck (t : List Cel) : Ev (fun k => aumbryref04_Check.f k t) (checkS t) := by
  unfold aumbryref04_Check.f checkS
  by_cases h : t.length > 64
  · rw [if_pos h]
    exact Ev.congr (f := fun _ => some 6) (fun k => if_pos (by omega)) (Ev.now _)
  · rw [if_neg h]
    exact Ev.congr (f := fun k => aumbryref04_Check.l0 k t (t.length : Int) ((0 : Nat) : Int)) (fun k => if_neg (by omega)) (ev_refCheck_loop t (by omega) t 0 (by omega) rfl (by simp))
end Go.Proofs.Ytlfhonekcmlomaa.P

-- ==== PLc
/- Plain laws, part c: where a pattern fits: along the cells, and part by part. -/
namespace Go.Proofs.Ytlfhonekcmlomaa.P
open Go.RowKit Go.Proofs.YtlfhonekcmlomaaW.PrintWords
set_option linter.unusedVariables false
set_option linter.unusedSimpArgs false

abbrev Bnd := S44
def lookB (out : List Bnd) (s : ByteArray) : Option (List Cel) := (out.find? (fun b => decide (b.f0 = s))).map (·.f1)
/-- The first term of a list. -/
def fstT (t r : List Cel) : List Cel := t.take (t.length - r.length)
def mat : List Cel → List Cel → List Bnd → Option (List Bnd × List Cel)
  | [], t, out => some (out, t)
  | c :: p, t, out =>
    if kindS c.f0 = 2 then
      match segN t 1 with
      | none => none
      | some r => match lookB out c.f0 with
        | none => mat p r (out ++ [⟨c.f0, fstT t r⟩])
        | some v => if v = fstT t r then mat p r out else none
    else match t with
      | [] => none
      | d :: t' => if d = c then mat p t' out else none

/-! ### segments -/
theorem segN_append : ∀ {l r : List Cel} {n : Nat} (q : List Cel), segN l n = some r → segN (l ++ q) n = some (r ++ q)
  | l, r, 0, q, h => by
    rw [segN_zero] at h ⊢
    injection h with h
    rw [h]
  | [], r, n + 1, q, h => by cases h
  | c :: l, r, n + 1, q, h => segN_append (l := l) (r := r) (n := n + ar c) q h
theorem segN_split {t : List Cel} {n : Nat} (h : segN t (n + 1) = some []) : ∃ r, segN t 1 = some r ∧ segN r n = some [] := by
  rw [show n + 1 = 1 + n by omega, segN_add] at h
  cases hr : segN t 1 with
  | none => rw [hr] at h; cases h
  | some r => rw [hr] at h; exact ⟨r, rfl, h⟩
theorem segN_nil_pos {n : Nat} (h : segN [] n = some []) : n = 0 := by
  cases n with
  | zero => rfl
  | succ n => cases h
theorem segN_fst {t r : List Cel} {n : Nat} (h : segN t n = some r) : t = fstT t r ++ r ∧ segN (fstT t r) n = some [] := by
  obtain ⟨m, hm, hd⟩ := segN_suffix h
  have hl : r.length = t.length - m := by rw [← hd, List.length_drop]
  have he : fstT t r = t.take m := by unfold fstT; rw [show t.length - r.length = m by omega]
  rw [he]
  refine ⟨by rw [← hd]; exact (List.take_append_drop m t).symm, ?_⟩
  have : ∀ (l : List Cel) (n m : Nat), m ≤ l.length → segN l n = some (l.drop m) → segN (l.take m) n = some [] := by
    intro l
    induction l with
    | nil =>
      intro n m hm h
      have hm0 : m = 0 := by simpa using hm
      subst hm0
      simpa using h
    | cons c l ih =>
      intro n m hm h
      cases n with
      | zero =>
        rw [segN_zero] at h ⊢
        injection h with h
        have := congrArg List.length h
        simp only [List.length_cons, List.length_drop] at this
        have hm0 : m = 0 := by simp at hm; omega
        rw [hm0]
        rfl
      | succ n =>
        cases m with
        | zero =>
          have := segN_len h
          simp at this
        | succ m =>
          simp only [List.drop_succ_cons] at h
          exact ih (n + ar c) m (by simpa using hm) h
  rw [← hd] at h
  exact this t n m hm h

/-! ### the program's Match -/
theorem ev_variable (c : Cel) : Ev (fun k => match_variable.f k c.f0 c.f1) (kindS c.f0 == 2) := by
  unfold match_variable.f
  exact Ev.bind (ev_kind c.f0) (Ev.now _)
theorem ev_end_loop (t : List Cel) (ht : t.length ≤ 64) (hok : ∀ c ∈ t, Okc c) : ∀ (s : List Cel) (a n : Nat) (r : List Cel), a ≤ t.length → t.drop a = s → n ≤ 1 + 4 * a → segN s n = some r →
    Ev (fun k => match_end.l0 k t (a : Int) (n : Int)) ((t.length - r.length : Nat) : Int)
  | s, a, 0, r, ha, hs, hn, hr => by
    refine Ev.step (f := fun _ => some (a : Int)) (fun k => by simp only [match_end.l0]; rw [if_neg (by omega)]) ?_
    rw [segN_zero] at hr
    injection hr with hr
    have : ((t.length - r.length : Nat) : Int) = (a : Int) := by rw [← hr, ← hs, List.length_drop]; omega
    rw [this]
    exact Ev.now _
  | [], a, n + 1, r, ha, hs, hn, hr => by cases hr
  | c :: s, a, n + 1, r, ha, hs, hn, hr => by
    obtain ⟨h1, h2, h3⟩ := drop_cons hs
    have hc : Okc c := hok c (List.mem_of_mem_drop (hs ▸ List.mem_cons_self ..))
    have har : (ar c : Int) = c.f1 := by unfold ar; have := hc.lo; omega
    have hh := hc.hi
    have hl0 := hc.lo
    refine Ev.step (f := fun k => match_end.l0 k t ((a + 1 : Nat) : Int) ((n + ar c : Nat) : Int)) (fun k => ?_) (ev_end_loop t ht hok s (a + 1) (n + ar c) r (by omega) h3 (by omega) hr)
    simp only [match_end.l0]
    rw [if_pos (by omega), if_pos (by omega), if_pos (by omega), rd_cel hs, wrap_up (by omega) (by omega)]
    have e : wrap64 (((n + 1 : Nat) : Int) + wrap64 (c.f1 - 1)) = ((n + ar c : Nat) : Int) := by
      rw [wrap_id (i := c.f1 - 1) (by omega) (by omega), wrap_id (by omega) (by omega)]
      omega
    rw [e]
    rfl
theorem ev_end (t : List Cel) (ht : t.length ≤ 64) (hok : ∀ c ∈ t, Okc c) (a : Nat) (ha : a ≤ t.length) {r : List Cel} (hr : segN (t.drop a) 1 = some r) : Ev (fun k => match_end.f k t (a : Int)) ((t.length - r.length : Nat) : Int) := by
  unfold match_end.f
  exact ev_end_loop t ht hok _ a 1 r ha rfl (by omega) hr
theorem bytes_eq (a b : ByteArray) : a.toList = b.toList ↔ a = b := by
  rw [ByteArray.toList_eq, ByteArray.toList_eq]
  constructor
  · intro h
    cases a; cases b
    simp only [ByteArray.mk.injEq]
    exact Array.toList_inj.1 h
  · intro h
    rw [h]
theorem cel_ne (c d : Cel) : ((!((c.f0.toList) == (d.f0.toList)) || (!(c.f1 == d.f1))) = true) ↔ c ≠ d := by
  cases c with | mk a b => cases d with | mk a' b' =>
  simp only [Bool.or_eq_true, Bool.not_eq_true', beq_eq_false_iff_ne, ne_eq, bytes_eq, S47.mk.injEq]
  by_cases h : a = a' <;> simp [h]
theorem ev_cels_loop (F : Nat → List Cel → List Cel → Int → Int → Option Bool)
    (hF : ∀ k x y n i, F (k + 1) x y n i = if i < n then (if 0 ≤ i then (if i < (x.length : Int) then (if i < (y.length : Int) then (if (!((((rd_T47 x i).f0).toList) == (((rd_T47 y i).f0).toList)) || (!(((rd_T47 x i).f1) == ((rd_T47 y i).f1)))) = true then (some false) else (F k x y n (wrap64 (i + 1)))) else (none)) else (none)) else (none)) else (some true))
    (x y : List Cel) (hl : x.length = y.length) (hb : x.length ≤ 9223372036854775806) : ∀ (s u : List Cel) (a : Nat), a ≤ x.length → x.drop a = s → y.drop a = u → Ev (fun k => F k x y (x.length : Int) (a : Int)) (decide (s = u))
  | [], u, a, ha, hs, hu => by
    have h1 := drop_nil_len ha hs
    have h2 : u = [] := by rw [← hu]; exact List.drop_eq_nil_of_le (by omega)
    refine Ev.step (f := fun _ => some true) (fun k => by rw [hF, if_neg (by omega)]) ?_
    rw [h2]
    exact Ev.now _
  | c :: s, u, a, ha, hs, hu => by
    obtain ⟨h1, _, h3⟩ := drop_cons hs
    rcases u with _ | ⟨d, u⟩
    · have := drop_nil_len (by omega) hu
      omega
    obtain ⟨_, _, h4⟩ := drop_cons hu
    by_cases hcd : c = d
    · refine Ev.step (f := fun k => F k x y (x.length : Int) ((a + 1 : Nat) : Int)) (fun k => by
        rw [hF, if_pos (by omega), if_pos (by omega), if_pos (by omega), if_pos (by omega), rd_cel hs, rd_cel hu, if_neg (fun h => (cel_ne c d).1 h hcd), wrap_up (by omega) (by omega)]
        rfl) ?_
      have : decide (c :: s = d :: u) = decide (s = u) := by subst hcd; simp
      rw [this]
      exact ev_cels_loop F hF x y hl hb s u (a + 1) (by omega) h3 h4
    · refine Ev.step (f := fun _ => some false) (fun k => by
        rw [hF, if_pos (by omega), if_pos (by omega), if_pos (by omega), if_pos (by omega), rd_cel hs, rd_cel hu, if_pos ((cel_ne c d).2 hcd)]) ?_
      have : decide (c :: s = d :: u) = false := by simp [hcd]
      rw [this]
      exact Ev.now _
theorem ev_equal (x y : List Cel) (hb : x.length ≤ 9223372036854775806 ∨ y.length ≤ 9223372036854775806) : Ev (fun k => api_Cell_24.f k x y) (decide (x = y)) := by
  unfold api_Cell_24.f
  by_cases h : (x.length : Int) = (y.length : Int)
  · exact Ev.congr (f := fun k => api_Cell_24.l0 k x y (x.length : Int) ((0 : Nat) : Int)) (fun k => by rw [if_pos h]; rfl) (ev_cels_loop _ (fun k x y n i => rfl) x y (by omega) (by omega) x y 0 (by omega) rfl rfl)
  · refine Ev.congr (f := fun _ => some (decide (x = y))) (fun k => ?_) (Ev.now _)
    rw [if_neg h]
    congr 1
    rw [Eq.comm, decide_eq_false_iff_not]
    rintro rfl
    exact h rfl
theorem ev_refSame4 (x y : List Cel) (hb : x.length ≤ 9223372036854775806 ∨ y.length ≤ 9223372036854775806) : Ev (fun k => aumbryref04_Same.f k x y) (decide (x = y)) := by
  unfold aumbryref04_Same.f
  by_cases h : (x.length : Int) = (y.length : Int)
  · exact Ev.congr (f := fun k => aumbryref04_Same.l0 k x y (x.length : Int) ((0 : Nat) : Int)) (fun k => by rw [if_pos h]; rfl) (ev_cels_loop _ (fun k x y n i => rfl) x y (by omega) (by omega) x y 0 (by omega) rfl rfl)
  · refine Ev.congr (f := fun _ => some (decide (x = y))) (fun k => ?_) (Ev.now _)
    rw [if_neg h]
    congr 1
    rw [Eq.comm, decide_eq_false_iff_not]
    rintro rfl
    exact h rfl
theorem clone_at (x : List Cel) (h : x.length < 5864062014805) : api_Cell_23.f x = some x := by
  unfold api_Cell_23.f
  rw [if_pos (by simpa using h)]
  rfl
theorem copy_at (x : List Cel) (h : x.length < 5864062014805) : aumbryref04_Copy.f x = some x := by
  unfold aumbryref04_Copy.f
  rw [if_pos (by simpa using h)]
  rfl

/-- The map of places is that of the binds. -/
structure MapOk (m : List Cel) (out : List Bnd) : Prop where
  len : m.length = out.length
  has : ∀ s, mapHas m s = (lookB out s).isSome
  at_ : ∀ s v, lookB out s = some v → ∃ j : Nat, mapAt m s = (j : Int) ∧ j < out.length ∧ ∃ b, out[j]? = some b ∧ b.f1 = v
theorem data_eq (a b : ByteArray) : a.data.toList = b.data.toList ↔ a = b := by
  rw [← bytes_eq, ByteArray.toList_eq, ByteArray.toList_eq]
theorem mapOk_nil : MapOk [] [] := ⟨rfl, fun s => rfl, fun s v h => by cases h⟩
theorem mapOk_put {m : List Cel} {out : List Bnd} (h : MapOk m out) (s : ByteArray) (v : List Cel) (hn : lookB out s = none) : MapOk (mapPut m s (out.length : Int)) (out ++ [⟨s, v⟩]) := by
  have hlook : ∀ s', lookB (out ++ [⟨s, v⟩]) s' = if s = s' then some v else lookB out s' := by
    intro s'
    unfold lookB at hn ⊢
    rw [List.find?_append]
    by_cases hs : s = s'
    · subst hs
      rw [if_pos rfl]
      cases hf : out.find? (fun b => decide (b.f0 = s)) with
      | none => simp
      | some b => rw [hf] at hn; cases hn
    · rw [if_neg hs]
      cases hf : out.find? (fun b => decide (b.f0 = s')) with
      | none => simp [hs]
      | some b => simp
  refine ⟨by simp [mapPut, h.len], fun s' => ?_, fun s' v' hv => ?_⟩
  · rw [hlook]
    by_cases hs : s = s'
    · subst hs
      simp [mapHas, mapPut]
    · rw [if_neg hs, ← h.has s']
      have : (s.data.toList == s'.data.toList) = false := by simp only [beq_eq_false_iff_ne, ne_eq, data_eq]; exact hs
      simp only [mapHas, mapPut, List.any_cons, this, Bool.false_or]
  · rw [hlook] at hv
    by_cases hs : s = s'
    · subst hs
      rw [if_pos rfl] at hv
      injection hv with hv
      subst hv
      exact ⟨out.length, by simp [mapAt, mapPut], by simp, ⟨s, v⟩, by simp, rfl⟩
    · rw [if_neg hs] at hv
      obtain ⟨j, h1, h2, b, h3, h4⟩ := h.at_ s' v' hv
      have : (s.data.toList == s'.data.toList) = false := by simp only [beq_eq_false_iff_ne, ne_eq, data_eq]; exact hs
      refine ⟨j, ?_, by simp; omega, b, by rw [List.getElem?_append_left h2]; exact h3, h4⟩
      rw [← h1]
      simp only [mapAt, mapPut, List.find?_cons, this]
def matR (x : Option (List Bnd × List Cel)) : List Bnd × Bool × Int := match x with
  | none => ([], false, 0)
  | some y => (y.1, true, 0)
theorem ev_match_loop (p t : List Cel) (hp : p.length ≤ 64) (ht : t.length ≤ 64) (hokp : ∀ c ∈ p, Okc c) (hokt : ∀ c ∈ t, Okc c) :
    ∀ (s : List Cel) (i a n : Nat) (out : List Bnd) (m : List Cel), i ≤ p.length → a ≤ t.length → p.drop i = s → segN s n = some [] → segN (t.drop a) n = some [] → MapOk m out → out.length ≤ i →
    Ev (fun k => match_Match.l0 k t out m (a : Int) p (p.length : Int) (i : Int)) (matR (mat s (t.drop a) out))
  | [], i, a, n, out, m, hi, ha, hs, hn, hnt, hm, ho => by
    have h1 := drop_nil_len hi hs
    refine Ev.step (f := fun _ => some (out, true, 0)) (fun k => by simp only [match_Match.l0]; rw [if_neg (by omega)]) ?_
    exact Ev.now _
  | c :: s, i, a, n, out, m, hi, ha, hs, hn, hnt, hm, ho => by
    obtain ⟨h1, _, h3⟩ := drop_cons hs
    have hc : Okc c := hokp c (List.mem_of_mem_drop (hs ▸ List.mem_cons_self ..))
    obtain ⟨n, rfl⟩ : ∃ q, n = q + 1 := by
      cases n with
      | zero => rw [segN_zero] at hn; injection hn with hn; cases hn
      | succ n => exact ⟨n, rfl⟩
    have hn' : segN s (n + ar c) = some [] := hn
    obtain ⟨r, hr1, hrn⟩ := segN_split hnt
    have hks := kindS_size hc.kind
    by_cases hv : kindS c.f0 = 2
    · have hac : ar c = 0 := by unfold ar; rw [hc.var hv]; rfl
      rw [hac, Nat.add_zero] at hn'
      obtain ⟨q, hq, hqr⟩ := segN_suffix hr1
      rw [List.drop_drop] at hqr
      rw [List.length_drop] at hq
      have hrl : r.length = t.length - (a + q) := by rw [← hqr, List.length_drop]
      have hpart : ((t.take (((t.length - r.length : Nat) : Int)).toNat).drop ((a : Int)).toNat : List Cel) = fstT (t.drop a) r := by
        unfold fstT
        rw [List.length_drop]
        simp only [Int.toNat_natCast]
        rw [List.drop_take]
        congr 1
        omega
      have hfl : (fstT (t.drop a) r).length = q := by unfold fstT; rw [List.length_take, List.length_drop]; omega
      have hw1 : True → wrap64 ((a : Int) + ((fstT (t.drop a) r).length : Int)) = ((a + q : Nat) : Int) := fun _ => by rw [hfl, wrap_id (by omega) (by omega)]; omega
      have hw2 : True → wrap64 ((i : Int) + 1) = ((i + 1 : Nat) : Int) := fun _ => by rw [wrap_up (by omega) (by omega)]; rfl
      refine Ev.step (fun k => (show match_Match.l0 (k + 1) t out m (a : Int) p (p.length : Int) (i : Int) = _ from by rw [match_Match.l0])) ?_
      refine evIfp (by omega) (evIfp (by omega) (evIfp (by omega) ?_))
      simp only [rd_cel hs]
      refine Ev.bind (ev_variable c) ?_
      refine evIfp (by simp [hv]) ?_
      refine Ev.bind (ev_end t ht hokt a ha hr1) ?_
      refine evIfp (by omega) (evIfp (by omega) (evIfp (by omega) ?_))
      refine Ev.bind (Ev.now _) ?_
      simp only [hpart, hw1 trivial, hw2 trivial]
      refine evIfp (by omega) ?_
      have hmat : mat (c :: s) (t.drop a) out = (match lookB out c.f0 with | none => mat s r (out ++ [⟨c.f0, fstT (t.drop a) r⟩]) | some v => if v = fstT (t.drop a) r then mat s r out else none) := by
        show (if kindS c.f0 = 2 then _ else _) = _
        rw [if_pos hv, hr1]
      rw [hmat]
      cases hl : lookB out c.f0 with
      | none =>
        refine evIfn (by rw [hm.has, hl]; simp) ?_
        have hml := hm.len
        refine evIfp (by omega) ?_
        refine Ev.bind (evIs (clone_at _ (by omega))) ?_
        refine evIfp (by omega) ?_
        have := ev_match_loop p t hp ht hokp hokt s (i + 1) (a + q) n (out ++ [⟨c.f0, fstT (t.drop a) r⟩]) (mapPut m c.f0 (out.length : Int)) (by omega) (by omega) h3 hn' (by rw [hqr]; exact hrn) (mapOk_put hm _ _ hl) (by simp; omega)
        rw [hqr] at this
        exact this
      | some v =>
        obtain ⟨j, hj1, hj2, b, hj3, hj4⟩ := hm.at_ _ _ hl
        have hrd : (rd_T44 out (mapAt m c.f0)).f1 = v := by
          rw [hj1]
          unfold rd_T44
          rw [List.getD_eq_getElem?_getD, Int.toNat_natCast, hj3]
          exact hj4
        refine evIfp (by rw [hm.has, hl]; simp) ?_
        refine evIfp (by omega) (evIfp (by omega) ?_)
        simp only [hrd]
        refine Ev.bind (ev_equal _ _ (.inr (by omega))) ?_
        by_cases he : v = fstT (t.drop a) r
        · refine evIfp (by simpa using he) ?_
          have := ev_match_loop p t hp ht hokp hokt s (i + 1) (a + q) n out m (by omega) (by omega) h3 hn' (by rw [hqr]; exact hrn) hm (by omega)
          rw [hqr] at this
          simp only [he, if_true]
          exact this
        · refine evIfn (by simpa using he) ?_
          simp only [he, if_false]
          exact Ev.now _
    · rcases ht' : t.drop a with _ | ⟨d, u⟩
      · rw [ht'] at hnt
        cases hnt
      obtain ⟨g1, _, g3⟩ := drop_cons ht'
      have hw1 : True → wrap64 ((a : Int) + 1) = ((a + 1 : Nat) : Int) := fun _ => by rw [wrap_up (by omega) (by omega)]; rfl
      have hw2 : True → wrap64 ((i : Int) + 1) = ((i + 1 : Nat) : Int) := fun _ => by rw [wrap_up (by omega) (by omega)]; rfl
      refine Ev.step (fun k => (show match_Match.l0 (k + 1) t out m (a : Int) p (p.length : Int) (i : Int) = _ from by rw [match_Match.l0])) ?_
      refine evIfp (by omega) (evIfp (by omega) (evIfp (by omega) ?_))
      simp only [rd_cel hs, rd_cel ht']
      refine Ev.bind (ev_variable c) ?_
      refine evIfn (by simp [hv]) ?_
      refine evIfp (by omega) (evIfp (by omega) ?_)
      have hmat : mat (c :: s) (d :: u) out = if d = c then mat s u out else none := by
        show (if kindS c.f0 = 2 then _ else _) = _
        rw [if_neg hv]
      rw [hmat]
      by_cases hdc : d = c
      · refine evIfn (fun h => (cel_ne d c).1 h hdc) ?_
        rw [if_pos hdc]
        simp only [hw1 trivial, hw2 trivial]
        have := ev_match_loop p t hp ht hokp hokt s (i + 1) (a + 1) (n + ar c) out m (by omega) (by omega) h3 hn' (by rw [ht'] at hnt; rw [g3, ← hdc]; exact hnt) hm (by omega)
        rw [g3] at this
        exact this
      · refine evIfp ((cel_ne d c).2 hdc) ?_
        rw [if_neg hdc]
        exact Ev.now _
theorem checkS_ok {t : List Cel} (h : checkS t = 0) : t.length ≤ 64 ∧ (∀ c ∈ t, Okc c) ∧ segN t 1 = some [] := by
  unfold checkS at h
  by_cases h1 : t.length > 64
  · rw [if_pos h1] at h
    cases h
  · rw [if_neg h1] at h
    by_cases h2 : errs t = 0
    · rw [if_pos h2] at h
      by_cases h3 : segN t 1 = some []
      · exact ⟨by omega, errs_ok h2, h3⟩
      · rw [if_neg h3] at h
        cases h
    · rw [if_neg h2] at h
      exact absurd h h2
def matchS (p t : List Cel) : List Bnd × Bool × Int := if checkS p = 0 then (if checkS t = 0 then matR (mat p t []) else ([], false, checkS t)) else ([], false, checkS p)
theorem ev_match (p t : List Cel) : Ev (fun k => match_Match.f k p t) (matchS p t) := by
  unfold match_Match.f matchS
  refine Ev.bind (ev_check p) ?_
  by_cases hp : checkS p = 0
  · rw [if_pos hp]
    refine evIfp hp ?_
    refine Ev.bind (ev_check t) ?_
    by_cases ht : checkS t = 0
    · rw [if_pos ht]
      refine evIfp ht ?_
      obtain ⟨p1, p2, p3⟩ := checkS_ok hp
      obtain ⟨t1, t2, t3⟩ := checkS_ok ht
      exact ev_match_loop p t p1 t1 p2 t2 p 0 0 1 [] [] (by omega) (by omega) rfl p3 t3 mapOk_nil (by simp)
    · rw [if_neg ht]
      exact evIfn ht (Ev.now _)
  · rw [if_neg hp]
    exact evIfn hp (Ev.now _)

/-! ### the document's Match -/
/-- n terms, each for itself. -/
def splitT : Nat → List Cel → List (List Cel)
  | 0, _ => []
  | n + 1, l => match segN l 1 with
    | none => []
    | some r => fstT l r :: splitT n r
def kidsS : List Cel → List (List Cel)
  | [] => []
  | c :: l => splitT (ar c) l
theorem splitT_spec : ∀ (n : Nat) (l : List Cel), segN l n = some [] → (splitT n l).flatten = l ∧ (splitT n l).length = n ∧ ∀ a ∈ splitT n l, segN a 1 = some []
  | 0, l, h => by
    rw [segN_zero] at h
    injection h with h
    subst h
    exact ⟨rfl, rfl, fun a ha => by cases ha⟩
  | n + 1, l, h => by
    obtain ⟨r, h1, h2⟩ := segN_split h
    obtain ⟨g1, g2, g3⟩ := splitT_spec n r h2
    have hf := segN_fst h1
    simp only [splitT, h1, List.flatten_cons, List.length_cons, List.mem_cons]
    refine ⟨by rw [g1]; exact hf.1.symm, by omega, fun a ha => ?_⟩
    rcases ha with rfl | ha
    · exact hf.2
    · exact g3 a ha
theorem ev_kids_loop (t : List Cel) (ht : t.length ≤ 64) (hok : ∀ c ∈ t, Okc c) : ∀ (n a : Nat) (out : List (List Cel)), a ≤ t.length → segN (t.drop a) n = some [] → out.length ≤ 64 → out.length + n ≤ 64 → 0 < a →
    Ev (fun k => aumbryref04_Kids.l0 k t out (a : Int)) (out ++ splitT n (t.drop a))
  | 0, a, out, ha, hn, ho, hon, hp => by
    rw [segN_zero] at hn
    injection hn with hn
    have := drop_nil_len ha hn
    refine Ev.step (fun k => (show aumbryref04_Kids.l0 (k + 1) t out (a : Int) = _ from by rw [aumbryref04_Kids.l0])) ?_
    refine evIfn (by omega) ?_
    simp only [splitT, List.append_nil]
    exact Ev.now _
  | n + 1, a, out, ha, hn, ho, hon, hp => by
    obtain ⟨r, hr, hrn⟩ := segN_split hn
    have hlt : a < t.length := by
      rcases Nat.lt_or_ge a t.length with h | h
      · exact h
      · rw [List.drop_eq_nil_of_le h] at hr
        cases hr
    obtain ⟨q, hq, hqr⟩ := segN_suffix hr
    rw [List.drop_drop] at hqr
    rw [List.length_drop] at hq
    have hrl : r.length = t.length - (a + q) := by rw [← hqr, List.length_drop]
    have hbeh : behS t a 1 = ((a + q : Nat) : Int) := by unfold behS; rw [hr]; simp only; omega
    have hpart : ((t.take ((((a + q : Nat) : Int)) : Int).toNat).drop (a : Int).toNat) = fstT (t.drop a) r := by
      unfold fstT
      rw [List.length_drop]
      simp only [Int.toNat_natCast]
      rw [List.drop_take]
      congr 1
      omega
    have hfl : (fstT (t.drop a) r).length ≤ 64 := by unfold fstT; rw [List.length_take, List.length_drop]; omega
    refine Ev.step (fun k => (show aumbryref04_Kids.l0 (k + 1) t out (a : Int) = _ from by rw [aumbryref04_Kids.l0])) ?_
    refine evIfp (by omega) ?_
    refine Ev.bind (ev_refBehind t ht hok a ha) ?_
    rw [hbeh]
    refine evIfp (by omega) (evIfp (by omega) (evIfp (by omega) ?_))
    rw [hpart]
    refine Ev.bind (evIs (copy_at _ (by omega))) ?_
    refine evIfp (by omega) ?_
    refine Ev.bind (ev_refBehind t ht hok a ha) ?_
    rw [hbeh]
    have := ev_kids_loop t ht hok n (a + q) (out ++ [fstT (t.drop a) r]) (by omega) (by rw [hqr]; exact hrn) (by simp; omega) (by simp; omega) (by omega)
    have e : out ++ splitT (n + 1) (t.drop a) = out ++ [fstT (t.drop a) r] ++ splitT n (t.drop (a + q)) := by
      simp only [splitT, hr, hqr, List.append_assoc, List.singleton_append]
    rw [e]
    exact this
theorem ev_kids {t : List Cel} (ht : t.length ≤ 64) (hok : ∀ c ∈ t, Okc c) (hs : segN t 1 = some []) : Ev (fun k => aumbryref04_Kids.f k t) (kidsS t) := by
  unfold aumbryref04_Kids.f
  rcases t with _ | ⟨c, l⟩
  · cases hs
  have hc := hok c (List.mem_cons_self ..)
  have hh := hc.hi
  have hs' : segN l (ar c) = some [] := by have : segN l (0 + ar c) = some [] := hs; rwa [Nat.zero_add] at this
  have har : ar c ≤ 4 := by unfold ar; omega
  exact ev_kids_loop (c :: l) ht hok (ar c) 1 [] (by simp) hs' (by simp) (by simp; omega) (by omega)

theorem mat_rest : ∀ (p t : List Cel) (n : Nat) (out : List Bnd) (o : List Bnd) (r : List Cel), (∀ c ∈ p, Okc c) → segN p n = some [] → segN t n = some [] → mat p t out = some (o, r) → r = []
  | [], t, n, out, o, r, hp, h1, h2, h => by
    have h0 := segN_nil_pos h1
    subst h0
    rw [segN_zero] at h2
    injection h2 with h2
    have h' : some (out, t) = some (o, r) := h
    injection h' with h'
    injection h' with _ h'
    rw [← h', h2]
  | c :: p, t, n, out, o, r, hp, h1, h2, h => by
    have hc := hp c (List.mem_cons_self ..)
    have hp' : ∀ x ∈ p, Okc x := fun x hx => hp x (List.mem_cons_of_mem _ hx)
    obtain ⟨n, rfl⟩ : ∃ q, n = q + 1 := by
      cases n with
      | zero => rw [segN_zero] at h1; injection h1 with h1; cases h1
      | succ n => exact ⟨n, rfl⟩
    have h1' : segN p (n + ar c) = some [] := h1
    have h : (if kindS c.f0 = 2 then _ else _) = some (o, r) := h
    by_cases hv : kindS c.f0 = 2
    · have hac : ar c = 0 := by unfold ar; rw [hc.var hv]; rfl
      rw [hac, Nat.add_zero] at h1'
      rw [if_pos hv] at h
      obtain ⟨q, hq1, hq2⟩ := segN_split h2
      rw [hq1] at h
      simp only at h
      cases hl : lookB out c.f0 with
      | none =>
        rw [hl] at h
        exact mat_rest p q n _ o r hp' h1' hq2 h
      | some v =>
        rw [hl] at h
        simp only at h
        by_cases he : v = fstT t q
        · rw [if_pos he] at h
          exact mat_rest p q n _ o r hp' h1' hq2 h
        · rw [if_neg he] at h
          cases h
    · rw [if_neg hv] at h
      rcases t with _ | ⟨d, t⟩
      · cases h2
      · by_cases he : d = c
        · have h9 : (if d = c then mat p t out else none) = some (o, r) := h
          rw [if_pos he] at h9
          clear h
          subst he
          exact mat_rest p t (n + ar d) out o r hp' h1' h2 h9
        · have h9 : (if d = c then mat p t out else none) = some (o, r) := h
          rw [if_neg he] at h9
          cases h9
theorem mat_append : ∀ (p t : List Cel) (n : Nat) (out : List Bnd) (p2 t2 : List Cel), (∀ c ∈ p, Okc c) → segN p n = some [] → segN t n = some [] →
    mat (p ++ p2) (t ++ t2) out = (mat p t out).bind fun x => mat p2 t2 x.1
  | [], t, n, out, p2, t2, hp, h1, h2 => by
    have h0 := segN_nil_pos h1
    subst h0
    rw [segN_zero] at h2
    injection h2 with h2
    subst h2
    rfl
  | c :: p, t, n, out, p2, t2, hp, h1, h2 => by
    have hc := hp c (List.mem_cons_self ..)
    have hp' : ∀ x ∈ p, Okc x := fun x hx => hp x (List.mem_cons_of_mem _ hx)
    obtain ⟨n, rfl⟩ : ∃ q, n = q + 1 := by
      cases n with
      | zero => rw [segN_zero] at h1; injection h1 with h1; cases h1
      | succ n => exact ⟨n, rfl⟩
    have h1' : segN p (n + ar c) = some [] := h1
    show (if kindS c.f0 = 2 then _ else _) = Option.bind (if kindS c.f0 = 2 then _ else _) _
    by_cases hv : kindS c.f0 = 2
    · have hac : ar c = 0 := by unfold ar; rw [hc.var hv]; rfl
      rw [hac, Nat.add_zero] at h1'
      rw [if_pos hv, if_pos hv]
      obtain ⟨q, hq1, hq2⟩ := segN_split h2
      have hf : fstT (t ++ t2) (q ++ t2) = fstT t q := by
        have := segN_len hq1
        unfold fstT
        simp only [List.length_append]
        rw [List.take_append_of_le_length (by omega)]
        congr 1
        omega
      rw [segN_append t2 hq1, hq1]
      simp only [hf]
      cases hl : lookB out c.f0 with
      | none => exact mat_append p q n _ p2 t2 hp' h1' hq2
      | some v =>
        simp only
        by_cases he : v = fstT t q
        · rw [if_pos he, if_pos he]
          exact mat_append p q n _ p2 t2 hp' h1' hq2
        · rw [if_neg he, if_neg he]
          rfl
    · rw [if_neg hv, if_neg hv]
      rcases t with _ | ⟨d, t⟩
      · cases h2
      · show (if d = c then mat (p ++ p2) (t ++ t2) out else none) = Option.bind (if d = c then mat p t out else none) _
        by_cases he : d = c
        · rw [if_pos he, if_pos he]
          subst he
          exact mat_append p t (n + ar d) out p2 t2 hp' h1' h2
        · rw [if_neg he, if_neg he]
          rfl
end Go.Proofs.Ytlfhonekcmlomaa.P

-- ==== PLd
/- Plain laws, part d: the document's Match is the program's. -/
namespace Go.Proofs.Ytlfhonekcmlomaa.P
open Go.RowKit Go.Proofs.YtlfhonekcmlomaaW.PrintWords
set_option linter.unusedVariables false
set_option linter.unusedSimpArgs false

theorem rd_bnd {t : List Bnd} {n : Nat} {c : Bnd} {s : List Bnd} (h : t.drop n = c :: s) : rd_T44 t (n : Int) = c := by
  unfold rd_T44
  exact (drop_cons h).2.1 _
theorem rd_trm {t : List (List Cel)} {n : Nat} {c : List Cel} {s : List (List Cel)} (h : t.drop n = c :: s) : rd_L3 t (n : Int) = c := by
  unfold rd_L3
  exact (drop_cons h).2.1 _
theorem up_cast (a : Nat) (h : a < 9223372036854775807) : wrap64 ((a : Int) + 1) = ((a + 1 : Nat) : Int) := by rw [wrap_up (by omega) (by omega)]; rfl

def atS (l : List Bnd) (s : ByteArray) : Int := match l.findIdx? (fun b => decide (b.f0 = s)) with
  | none => -1
  | some j => (j : Int)
theorem ev_at_loop (l : List Bnd) (s : ByteArray) (hl : l.length ≤ 9223372036854775806) : ∀ (u : List Bnd) (a : Nat), a ≤ l.length → l.drop a = u →
    Ev (fun k => aumbryref05_At.l0 k l s (l.length : Int) (a : Int)) (match u.findIdx? (fun b => decide (b.f0 = s)) with | none => -1 | some j => ((a + j : Nat) : Int))
  | [], a, ha, hu => by
    have h1 := drop_nil_len ha hu
    refine Ev.step (fun k => (show aumbryref05_At.l0 (k + 1) l s (l.length : Int) (a : Int) = _ from by rw [aumbryref05_At.l0])) ?_
    exact evIfn (by omega) (Ev.now _)
  | b :: u, a, ha, hu => by
    obtain ⟨h1, _, h3⟩ := drop_cons hu
    refine Ev.step (fun k => (show aumbryref05_At.l0 (k + 1) l s (l.length : Int) (a : Int) = _ from by rw [aumbryref05_At.l0])) ?_
    refine evIfp (by omega) (evIfp (by omega) (evIfp (by omega) ?_))
    simp only [rd_bnd hu, up_cast a (by omega)]
    by_cases hb : b.f0 = s
    · refine evIfp ((bytes_eq _ _).2 hb) ?_
      simp only [List.findIdx?_cons, hb, decide_true, if_true]
      exact Ev.now _
    · refine evIfn (fun h => hb ((bytes_eq _ _).1 h)) ?_
      have := ev_at_loop l s hl u (a + 1) (by omega) h3
      have e : (match (b :: u).findIdx? (fun b => decide (b.f0 = s)) with | none => (-1 : Int) | some j => ((a + j : Nat) : Int)) = (match u.findIdx? (fun b => decide (b.f0 = s)) with | none => -1 | some j => ((a + 1 + j : Nat) : Int)) := by
        simp only [List.findIdx?_cons, hb, decide_false]
        cases u.findIdx? (fun b => decide (b.f0 = s)) with
        | none => rfl
        | some j => show ((a + (j + 1) : Nat) : Int) = ((a + 1 + j : Nat) : Int); omega
      rw [e]
      exact this
theorem ev_at (l : List Bnd) (s : ByteArray) (hl : l.length ≤ 9223372036854775806) : Ev (fun k => aumbryref05_At.f k l s) (atS l s) := by
  unfold aumbryref05_At.f atS
  have := ev_at_loop l s hl l 0 (by omega) rfl
  simp only [Nat.zero_add] at this
  exact this
theorem atS_look (l : List Bnd) (s : ByteArray) : (lookB l s = none ∧ atS l s = -1) ∨ ∃ (j : Nat) (b : Bnd), l[j]? = some b ∧ b.f0 = s ∧ lookB l s = some b.f1 ∧ atS l s = (j : Int) ∧ j < l.length ∧ ∀ i : Nat, i < j → ∀ c, l[i]? = some c → c.f0 ≠ s := by
  unfold lookB atS
  induction l with
  | nil => exact .inl ⟨rfl, rfl⟩
  | cons b l ih =>
    by_cases hb : b.f0 = s
    · refine .inr ⟨0, b, rfl, hb, ?_, ?_, by simp, fun i hi => by omega⟩
      · simp [hb]
      · simp [List.findIdx?_cons, hb]
    · rcases ih with ⟨h1, h2⟩ | ⟨j, c, h1, h2, h3, h4, h5, h6⟩
      · refine .inl ⟨?_, ?_⟩
        · rw [List.find?_cons_of_neg (by simp [hb])]
          exact h1
        · simp only [List.findIdx?_cons, hb, decide_false]
          cases hf : l.findIdx? (fun b => decide (b.f0 = s)) with
          | none => rfl
          | some j => rw [hf] at h2; simp only at h2; omega
      · refine .inr ⟨j + 1, c, by simpa using h1, h2, ?_, ?_, by simp; omega, fun i hi x hx => ?_⟩
        · rw [List.find?_cons_of_neg (by simp [hb])]
          exact h3
        · simp only [List.findIdx?_cons, hb, decide_false]
          cases hf : l.findIdx? (fun b => decide (b.f0 = s)) with
          | none => rw [hf] at h4; simp only at h4; omega
          | some q => rw [hf] at h4; simp only at h4; simp; omega
        · cases i with
          | zero => simp at hx; subst hx; exact hb
          | succ i => exact h6 i (by omega) x (by simpa using hx)
theorem ev_var (p : List Cel) : Ev (fun k => aumbryref05_Var.f k p) (match p with | [c] => kindS c.f0 == 2 | _ => false) := by
  unfold aumbryref05_Var.f
  match p with
  | [] => exact evIfn (by simp) (Ev.now _)
  | [c] =>
    refine evIfp (by simp) (evIfp (by simp) ?_)
    exact Ev.bind (ev_refKind c.f0) (Ev.now _)
  | a :: b :: l => exact evIfn (by simp; omega) (Ev.now _)

def fitL : List (List Cel) → List (List Cel) → List Bnd → Option (List Bnd)
  | [], _, out => some out
  | _ :: _, [], _ => none
  | a :: aa, b :: bb, out => (mat a b out).bind fun x => fitL aa bb x.1
theorem mat_flat : ∀ (aa bb : List (List Cel)) (out : List Bnd), aa.length = bb.length → (∀ a ∈ aa, segN a 1 = some [] ∧ ∀ c ∈ a, Okc c) → (∀ b ∈ bb, segN b 1 = some []) →
    mat aa.flatten bb.flatten out = (fitL aa bb out).map fun o => (o, [])
  | [], [], out, _, _, _ => rfl
  | [], b :: bb, out, h, _, _ => by cases h
  | a :: aa, [], out, h, _, _ => by cases h
  | a :: aa, b :: bb, out, h, ha, hb => by
    have h1 := ha a (List.mem_cons_self ..)
    have h2 := hb b (List.mem_cons_self ..)
    simp only [List.flatten_cons, fitL]
    rw [mat_append a b 1 out aa.flatten bb.flatten h1.2 h1.1 h2]
    cases hm : mat a b out with
    | none => rfl
    | some x =>
      simp only [Option.bind_some]
      exact mat_flat aa bb x.1 (by simpa using h) (fun x hx => ha x (List.mem_cons_of_mem _ hx)) (fun x hx => hb x (List.mem_cons_of_mem _ hx))
theorem mat_len : ∀ (p t : List Cel) (out o : List Bnd) (r : List Cel), mat p t out = some (o, r) → o.length ≤ out.length + p.length
  | [], t, out, o, r, h => by
    have h' : some (out, t) = some (o, r) := h
    injection h' with h'
    injection h' with h' _
    rw [← h']
    simp
  | c :: p, t, out, o, r, h => by
    have h : (if kindS c.f0 = 2 then _ else _) = some (o, r) := h
    by_cases hv : kindS c.f0 = 2
    · rw [if_pos hv] at h
      cases hq : segN t 1 with
      | none => rw [hq] at h; cases h
      | some q =>
        rw [hq] at h
        simp only at h
        cases hl : lookB out c.f0 with
        | none =>
          rw [hl] at h
          have := mat_len p q _ o r h
          simp at this
          simp
          omega
        | some v =>
          rw [hl] at h
          simp only at h
          by_cases he : v = fstT t q
          · rw [if_pos he] at h
            have := mat_len p q _ o r h
            simp
            omega
          · rw [if_neg he] at h
            cases h
    · rw [if_neg hv] at h
      rcases t with _ | ⟨d, t⟩
      · cases h
      · have h9 : (if d = c then mat p t out else none) = some (o, r) := h
        by_cases he : d = c
        · rw [if_pos he] at h9
          have := mat_len p t _ o r h9
          simp
          omega
        · rw [if_neg he] at h9
          cases h9
def sumLen (aa : List (List Cel)) : Nat := (aa.map List.length).sum
theorem sumLen_flat (aa : List (List Cel)) : aa.flatten.length = sumLen aa := by simp [sumLen, List.length_flatten]

theorem ev_fit : ∀ (n : Nat) (p t : List Cel) (l : List Bnd), p.length ≤ n → p.length ≤ 64 → t.length ≤ 64 → (∀ c ∈ p, Okc c) → (∀ c ∈ t, Okc c) → segN p 1 = some [] → segN t 1 = some [] → l.length + p.length ≤ 1000000 →
    ∃ x, Ev (fun k => aumbryref05_Fit.f k p t l) (x, (mat p t l).isSome) ∧ ∀ o r, mat p t l = some (o, r) → x = o
  | 0, p, t, l, hn, hp, ht, hop, hot, hsp, hst, hl => by
    have : p = [] := List.eq_nil_of_length_eq_zero (by omega)
    subst this
    cases hsp
  | n + 1, p, t, l, hn, hp, ht, hop, hot, hsp, hst, hl => by
    rcases p with _ | ⟨c, p⟩
    · cases hsp
    rcases t with _ | ⟨d, t⟩
    · cases hst
    have hc := hop c (List.mem_cons_self ..)
    have hsp' : segN p (ar c) = some [] := by have : segN p (0 + ar c) = some [] := hsp; rwa [Nat.zero_add] at this
    have hst' : segN t (ar d) = some [] := by have : segN t (0 + ar d) = some [] := hst; rwa [Nat.zero_add] at this
    simp only [List.length_cons] at hn hp ht hl
    by_cases hv : kindS c.f0 = 2
    · have hac : ar c = 0 := by unfold ar; rw [hc.var hv]; rfl
      rw [hac, segN_zero] at hsp'
      injection hsp' with hsp'
      subst hsp'
      have hm : mat [c] (d :: t) l = (match lookB l c.f0 with | none => some (l ++ [⟨c.f0, d :: t⟩], []) | some v => if v = d :: t then some (l, []) else none) := by
        show (if kindS c.f0 = 2 then _ else _) = _
        rw [if_pos hv, hst]
        have : fstT (d :: t) [] = d :: t := by unfold fstT; simp
        simp only [this]
        cases lookB l c.f0 with
        | none => rfl
        | some v => rfl
      rw [hm]
      rcases atS_look l c.f0 with ⟨hl1, hl2⟩ | ⟨j, b, h1, h2, h3, h4, h5, _⟩
      · rw [hl1]
        refine ⟨l ++ [⟨c.f0, d :: t⟩], ?_, fun o r h => ?_⟩
        · refine Ev.step (fun k => (show aumbryref05_Fit.f (k + 1) [c] (d :: t) l = _ from by rw [aumbryref05_Fit.f])) ?_
          refine Ev.bind (ev_var [c]) ?_
          refine evIfp (by simp [hv]) (evIfp (by simp) ?_)
          simp only [rd_cel (t := [c]) (n := 0) (c := c) (s := []) rfl, show ((0 : Int)) = ((0 : Nat) : Int) from rfl]
          refine Ev.bind (ev_at l c.f0 (by omega)) ?_
          rw [hl2]
          refine evIfp (by omega) ?_
          refine Ev.bind (evIs (copy_at (d :: t) (by simp; omega))) ?_
          exact evIfp (by omega) (Ev.now _)
        · injection h with h
          injection h with h _
      · rw [h3]
        have hrd : (rd_T44 l (j : Int)).f1 = b.f1 := by
          unfold rd_T44
          rw [List.getD_eq_getElem?_getD, Int.toNat_natCast, h1]
          rfl
        refine ⟨l, ?_, fun o r h => ?_⟩
        · refine Ev.step (fun k => (show aumbryref05_Fit.f (k + 1) [c] (d :: t) l = _ from by rw [aumbryref05_Fit.f])) ?_
          refine Ev.bind (ev_var [c]) ?_
          refine evIfp (by simp [hv]) (evIfp (by simp) ?_)
          simp only [rd_cel (t := [c]) (n := 0) (c := c) (s := []) rfl, show ((0 : Int)) = ((0 : Nat) : Int) from rfl]
          refine Ev.bind (ev_at l c.f0 (by omega)) ?_
          rw [h4]
          refine evIfn (by omega) (evIfp (by omega) (evIfp (by omega) ?_))
          simp only [hrd]
          refine Ev.bind (ev_refSame4 b.f1 (d :: t) (.inr (by simp; omega))) ?_
          have : (match some b.f1 with | none => some (l ++ [(⟨c.f0, d :: t⟩ : Bnd)], ([] : List Cel)) | some v => if v = d :: t then some (l, ([] : List Cel)) else none).isSome = decide (b.f1 = d :: t) := by
            by_cases he : b.f1 = d :: t <;> simp [he]
          rw [this]
          exact Ev.now _
        · simp only at h
          by_cases he : b.f1 = d :: t
          · rw [if_pos he] at h
            injection h with h
            injection h with h _
          · rw [if_neg he] at h
            cases h
    · have hm : mat (c :: p) (d :: t) l = if d = c then mat p t l else none := by
        show (if kindS c.f0 = 2 then _ else _) = _
        rw [if_neg hv]
      rw [hm]
      have hvar : (match (c :: p) with | [c] => kindS c.f0 == 2 | _ => false) = false := by
        rcases p with _ | ⟨a, p⟩
        · simp [hv]
        · rfl
      by_cases hdc : d = c
      · rw [if_pos hdc]
        subst hdc
        obtain ⟨a1, a2, a3⟩ := splitT_spec _ _ hsp'
        obtain ⟨b1, b2, b3⟩ := splitT_spec _ _ hst'
        have hpo : ∀ x ∈ p, Okc x := fun x hx => hop x (List.mem_cons_of_mem _ hx)
        have hto : ∀ x ∈ t, Okc x := fun x hx => hot x (List.mem_cons_of_mem _ hx)
        have hh := hc.hi
        have har : ar d ≤ 4 := by unfold ar; omega
        obtain ⟨aa, has⟩ : ∃ aa, aa = splitT (ar d) p := ⟨_, rfl⟩
        obtain ⟨bb, hbs⟩ : ∃ bb, bb = splitT (ar d) t := ⟨_, rfl⟩
        rw [← has] at a1 a2 a3
        rw [← hbs] at b1 b2 b3
        have hka : kidsS (d :: p) = aa := by rw [has]; rfl
        have hkb : kidsS (d :: t) = bb := by rw [hbs]; rfl
        have haok : ∀ a ∈ aa, segN a 1 = some [] ∧ ∀ c ∈ a, Okc c := fun a ha => ⟨a3 a ha, fun x hx => hpo x (by rw [← a1]; exact List.mem_flatten.2 ⟨a, ha, hx⟩)⟩
        have hbok : ∀ b ∈ bb, segN b 1 = some [] ∧ ∀ c ∈ b, Okc c := fun b hb => ⟨b3 b hb, fun x hx => hto x (by rw [← b1]; exact List.mem_flatten.2 ⟨b, hb, hx⟩)⟩
        have hsum : sumLen aa = p.length := by rw [← sumLen_flat, a1]
        have hsumb : sumLen bb = t.length := by rw [← sumLen_flat, b1]
        have hflat : mat p t l = (fitL aa bb l).map fun o => (o, []) := by
          rw [← a1, ← b1]
          exact mat_flat aa bb l (by omega) haok (fun b hb => (hbok b hb).1)
        -- the loop over the arguments
        have loop : ∀ (A B : List (List Cel)) (i : Nat) (l2 : List Bnd), i ≤ aa.length → aa.drop i = A → bb.drop i = B → l2.length + sumLen A ≤ 1000000 → sumLen A ≤ p.length → sumLen B ≤ t.length →
            ∃ x, Ev (fun k => aumbryref05_Fit.l0 k l2 aa bb (aa.length : Int) (i : Int)) (x, (fitL A B l2).isSome) ∧ ∀ o, fitL A B l2 = some o → x = o := by
          intro A
          induction A with
          | nil =>
            intro B i l2 hi hA hB hl2 _ _
            have := drop_nil_len hi hA
            refine ⟨l2, ?_, fun o h => by injection h⟩
            refine Ev.step (fun k => (show aumbryref05_Fit.l0 (k + 1) l2 aa bb (aa.length : Int) (i : Int) = _ from by rw [aumbryref05_Fit.l0])) ?_
            exact evIfn (by omega) (Ev.now _)
          | cons a A ihA =>
            intro B i l2 hi hA hB hl2 hsA hsB
            obtain ⟨g1, _, g3⟩ := drop_cons hA
            rcases B with _ | ⟨b, B⟩
            · have := drop_nil_len (by omega) hB
              omega
            obtain ⟨g4, _, g6⟩ := drop_cons hB
            have hma : a ∈ aa := List.mem_of_mem_drop (hA ▸ List.mem_cons_self ..)
            have hmb : b ∈ bb := List.mem_of_mem_drop (hB ▸ List.mem_cons_self ..)
            simp only [sumLen, List.map_cons, List.sum_cons] at hl2 hsA hsB
            obtain ⟨x, hx1, hx2⟩ := ev_fit n a b l2 (by omega) (by omega) (by omega) (haok a hma).2 (hbok b hmb).2 (haok a hma).1 (hbok b hmb).1 (by omega)
            cases hab : mat a b l2 with
            | none =>
              rw [hab] at hx1
              refine ⟨[], ?_, fun o h => by simp only [fitL, hab] at h; cases h⟩
              simp only [fitL, hab]
              refine Ev.step (fun k => (show aumbryref05_Fit.l0 (k + 1) l2 aa bb (aa.length : Int) (i : Int) = _ from by rw [aumbryref05_Fit.l0])) ?_
              refine evIfp (by omega) (evIfp (by omega) (evIfp (by omega) (evIfp (by omega) ?_)))
              simp only [rd_trm hA, rd_trm hB]
              refine Ev.bind hx1 ?_
              exact evIfn (by simp) (Ev.now _)
            | some y =>
              obtain ⟨o, r⟩ := y
              rw [hab] at hx1
              have hxo : x = o := hx2 o r hab
              subst hxo
              have hlen := mat_len a b l2 x r hab
              obtain ⟨z, hz1, hz2⟩ := ihA B (i + 1) x (by omega) g3 g6 (by simp only [sumLen]; omega) (by simp only [sumLen]; omega) (by simp only [sumLen]; omega)
              refine ⟨z, ?_, fun o h => hz2 o (by simpa [fitL, hab] using h)⟩
              simp only [fitL, hab, Option.bind_some]
              refine Ev.step (fun k => (show aumbryref05_Fit.l0 (k + 1) l2 aa bb (aa.length : Int) (i : Int) = _ from by rw [aumbryref05_Fit.l0])) ?_
              refine evIfp (by omega) (evIfp (by omega) (evIfp (by omega) (evIfp (by omega) ?_)))
              simp only [rd_trm hA, rd_trm hB, up_cast i (by omega)]
              refine Ev.bind hx1 ?_
              exact evIfp (by simp) hz1
        obtain ⟨x, hx1, hx2⟩ := loop aa bb 0 l (by omega) rfl rfl (by omega) (by omega) (by omega)
        refine ⟨x, ?_, fun o r h => ?_⟩
        · refine Ev.step (fun k => (show aumbryref05_Fit.f (k + 1) (d :: p) (d :: t) l = _ from by rw [aumbryref05_Fit.f])) ?_
          refine Ev.bind (ev_var (d :: p)) ?_
          refine evIfn (by rw [hvar]; simp) (evIfp (by simp) (evIfp (by simp) ?_))
          simp only [rd_cel (t := d :: p) (n := 0) (c := d) (s := p) rfl, rd_cel (t := d :: t) (n := 0) (c := d) (s := t) rfl, show ((0 : Int)) = ((0 : Nat) : Int) from rfl]
          refine evIfn (fun h => (cel_ne d d).1 h rfl) ?_
          refine Ev.bind (ev_kids (t := d :: p) (by simp; omega) hop hsp) ?_
          refine Ev.bind (ev_kids (t := d :: t) (by simp; omega) hot hst) ?_
          rw [hka, hkb]
          have e : (mat p t l).isSome = (fitL aa bb l).isSome := by rw [hflat]; cases fitL aa bb l <;> rfl
          rw [e]
          exact hx1
        · rw [hflat] at h
          cases hf : fitL aa bb l with
          | none => rw [hf] at h; cases h
          | some o2 =>
            rw [hf] at h
            injection h with h
            injection h with h _
            rw [← h]
            exact hx2 o2 hf
      · rw [if_neg hdc]
        refine ⟨[], ?_, fun o r h => by cases h⟩
        refine Ev.step (fun k => (show aumbryref05_Fit.f (k + 1) (c :: p) (d :: t) l = _ from by rw [aumbryref05_Fit.f])) ?_
        refine Ev.bind (ev_var (c :: p)) ?_
        refine evIfn (by rw [hvar]; simp) (evIfp (by simp) (evIfp (by simp) ?_))
        simp only [rd_cel (t := c :: p) (n := 0) (c := c) (s := p) rfl, rd_cel (t := d :: t) (n := 0) (c := d) (s := t) rfl, show ((0 : Int)) = ((0 : Nat) : Int) from rfl]
        exact evIfp ((cel_ne c d).2 (fun h => hdc h.symm)) (Ev.now _)
theorem ev_refMatch (p t : List Cel) : Ev (fun k => aumbryref05_Match.f k p t) (matchS p t) := by
  unfold aumbryref05_Match.f matchS
  refine Ev.bind (ev_refCheck p) ?_
  by_cases hp : checkS p = 0
  · rw [if_pos hp]
    refine evIfp hp ?_
    refine Ev.bind (ev_refCheck t) ?_
    by_cases ht : checkS t = 0
    · rw [if_pos ht]
      refine evIfp ht ?_
      obtain ⟨p1, p2, p3⟩ := checkS_ok hp
      obtain ⟨t1, t2, t3⟩ := checkS_ok ht
      obtain ⟨x, hx1, hx2⟩ := ev_fit p.length p t [] (Nat.le_refl _) p1 t1 p2 t2 p3 t3 (by simp; omega)
      refine Ev.bind hx1 ?_
      cases hm : mat p t [] with
      | none => exact evIfn (by simp) (Ev.now _)
      | some y =>
        obtain ⟨o, r⟩ := y
        have := hx2 o r hm
        subst this
        exact evIfp (by simp) (Ev.now _)
    · rw [if_neg ht]
      exact evIfn ht (Ev.now _)
  · rw [if_neg hp]
    exact evIfn hp (Ev.now _)

/-! ### binds alike -/
theorem ev_refSame5_loop (x : List Bnd) (hb : x.length ≤ 9223372036854775806) (hv : ∀ b ∈ x, b.f1.length ≤ 9223372036854775806) : ∀ (s : List Bnd) (a : Nat), a ≤ x.length → x.drop a = s → Ev (fun k => aumbryref05_Same.l0 k x x (x.length : Int) (a : Int)) true
  | [], a, ha, hs => by
    have h1 := drop_nil_len ha hs
    refine Ev.step (fun k => (show aumbryref05_Same.l0 (k + 1) x x (x.length : Int) (a : Int) = _ from by rw [aumbryref05_Same.l0])) ?_
    exact evIfn (by omega) (Ev.now _)
  | c :: s, a, ha, hs => by
    obtain ⟨h1, _, h3⟩ := drop_cons hs
    refine Ev.step (fun k => (show aumbryref05_Same.l0 (k + 1) x x (x.length : Int) (a : Int) = _ from by rw [aumbryref05_Same.l0])) ?_
    refine evIfp (by omega) (evIfp (by omega) (evIfp (by omega) (evIfp (by omega) ?_)))
    simp only [rd_bnd hs, up_cast a (by omega)]
    refine evIfp trivial ?_
    refine Ev.bind (ev_refSame4 c.f1 c.f1 (.inl (hv c (List.mem_of_mem_drop (hs ▸ List.mem_cons_self ..))))) ?_
    exact evIfp (by simp) (ev_refSame5_loop x hb hv s (a + 1) (by omega) h3)
theorem ev_refSame5 (x : List Bnd) (hb : x.length ≤ 9223372036854775806) (hv : ∀ b ∈ x, b.f1.length ≤ 9223372036854775806) : Ev (fun k => aumbryref05_Same.f k x x) true := by
  unfold aumbryref05_Same.f
  exact evIfp rfl (ev_refSame5_loop x hb hv x 0 (by omega) rfl)
theorem mat_vals : ∀ (p t : List Cel) (out o : List Bnd) (r : List Cel) (N : Nat), t.length ≤ N → (∀ b ∈ out, b.f1.length ≤ N) → mat p t out = some (o, r) → ∀ b ∈ o, b.f1.length ≤ N
  | [], t, out, o, r, N, ht, ho, h => by
    have h' : some (out, t) = some (o, r) := h
    injection h' with h'
    injection h' with h' _
    rw [← h']
    exact ho
  | c :: p, t, out, o, r, N, ht, ho, h => by
    have h : (if kindS c.f0 = 2 then _ else _) = some (o, r) := h
    by_cases hv : kindS c.f0 = 2
    · rw [if_pos hv] at h
      cases hq : segN t 1 with
      | none => rw [hq] at h; cases h
      | some q =>
        rw [hq] at h
        have hql := segN_len hq
        simp only at h
        cases hl : lookB out c.f0 with
        | none =>
          rw [hl] at h
          refine mat_vals p q _ o r N (by omega) (fun b hb => ?_) h
          rcases List.mem_append.1 hb with hb | hb
          · exact ho b hb
          · rw [List.mem_singleton.1 hb]
            unfold fstT
            simp only [List.length_take]
            omega
        | some v =>
          rw [hl] at h
          simp only at h
          by_cases he : v = fstT t q
          · rw [if_pos he] at h
            exact mat_vals p q _ o r N (by omega) ho h
          · rw [if_neg he] at h
            cases h
    · rw [if_neg hv] at h
      rcases t with _ | ⟨d, t⟩
      · cases h
      · have h9 : (if d = c then mat p t out else none) = some (o, r) := h
        by_cases he : d = c
        · rw [if_pos he] at h9
          simp only [List.length_cons] at ht
          exact mat_vals p t _ o r N (by omega) ho h9
        · rw [if_neg he] at h9
          cases h9
theorem matchS_small (p t : List Cel) : (matchS p t).1.length ≤ 64 ∧ ∀ b ∈ (matchS p t).1, b.f1.length ≤ 64 := by
  unfold matchS
  by_cases hp : checkS p = 0
  · rw [if_pos hp]
    by_cases ht : checkS t = 0
    · rw [if_pos ht]
      obtain ⟨p1, p2, p3⟩ := checkS_ok hp
      obtain ⟨t1, t2, t3⟩ := checkS_ok ht
      cases hm : mat p t [] with
      | none => exact ⟨by simp [matR], fun b hb => by cases hb⟩
      | some y =>
        obtain ⟨o, r⟩ := y
        have h1 := mat_len p t [] o r hm
        exact ⟨by simp only [matR]; simp at h1; omega, fun b hb => mat_vals p t [] o r 64 t1 (fun b hb => by cases hb) hm b hb⟩
    · rw [if_neg ht]
      exact ⟨by simp, fun b hb => by cases hb⟩
  · rw [if_neg hp]
    exact ⟨by simp, fun b hb => by cases hb⟩
end Go.Proofs.Ytlfhonekcmlomaa.P

-- ==== PLe
/- Plain laws, part e: what the statements ask ahead (wakes), and copies. -/
namespace Go.Proofs.Ytlfhonekcmlomaa.P
open Go.RowKit Go.Proofs.YtlfhonekcmlomaaW.PrintWords
set_option linter.unusedVariables false
set_option linter.unusedSimpArgs false

set_option maxRecDepth 100000 in
theorem ev_wakes : Ev (fun k => aumbrylaw05_wakes.f k) true := Ev.of (g := fun k => aumbrylaw05_wakes.f k) aumbrylaw05_wakes.mono (k := 40) (by kernel_rfl)
theorem own_at (x : List Cel) (h : x.length < 5864062014805) : aumbrylaw05_own.f x = some x := by
  unfold aumbrylaw05_own.f
  rw [copy_at x h]
  rfl
theorem sz_len {l : List Cel} (h : sz23 l) : l.length < 5864062014805 := by
  have := h.1
  omega
end Go.Proofs.Ytlfhonekcmlomaa.P

-- ==== PureMatchFinds
/- Whether any pattern fits any term, and how: for every pattern and term that can be read as data, the law answers true. -/
namespace Go.Proofs.Ytlfhonekcmlomaa.Pure
open Go.RowKit Go.Proofs.Ytlfhonekcmlomaa.P Go.Proofs.YtlfhonekcmlomaaW.PrintWords

theorem MatchFinds : aumbrylaw05_MatchFinds.Pure := by
  intro p t hp ht
  refine Ev.rounds ?_
  unfold aumbrylaw05_MatchFinds.f
  refine Ev.bind ev_wakes ?_
  refine evIfp rfl ?_
  refine Ev.bind (evIs (own_at p (sz_len hp))) ?_
  refine Ev.bind (evIs (own_at t (sz_len ht))) ?_
  refine Ev.bind (ev_match p t) ?_
  refine Ev.bind (ev_refMatch p t) ?_
  have hs := matchS_small p t
  refine Ev.bind (ev_refSame5 _ (by omega) (fun b hb => by have := hs.2 b hb; omega)) ?_
  refine evIfp rfl (evIfp (by simp) ?_)
  simp only [beq_self_eq_true]
  exact Ev.now _
end Go.Proofs.Ytlfhonekcmlomaa.Pure

-- ==== RowMatchFinds
namespace Go.Proofs.Ytlfhonekcmlomaa.matchFinds
open Go.ChangeShapes Go.WideShapes Go.ChangeAt Go.RowKit Go.Proofs.YtlfhonekcmlomaaW.PrintWords Go.Proofs.Ytlfhonekcmlomaa.P Go.Proofs.Ytlfhonekcmlomaa.Open
open Go.ChangeMaps (open_string shut_string)
set_option linter.unusedVariables false
theorem own : ownKnob Try.prog.godebug = none := by kernel_rfl
theorem laidOut : laidOutB Try.prog = true := by kernel_rfl
set_option maxRecDepth 100000 in
theorem core {H : Type} {enc : TypeId × Value → H} (W : World) (base : Nat) (args : Array Value) (ds gs : List (DataW H)) (before : List MemPlace)
    (hval : ∀ (j : Nat) t v, Try.f3.params[j]? = some t → args[j]? = some v → Value.okWide Try.prog W .any base t v)
    (hW : DataW.Whole enc Try.prog Try.f3.params.toList Rows.matchFindsSpec.vars false W args.toList ds gs before)
    (hsz : (DataW.weightsEach Try.prog (Try.f3.params.toList ++ Rows.matchFindsSpec.plain.varTypes Try.prog) (ds ++ gs)).all (· ≤ reachBytes) = true)
    :
    Calls Try.prog 3 args W fun e W' => ∃ v, e = .returned v ∧ Rows.matchFindsSpec.post enc Try.prog Try.f3 false true false false W args v W' := by
  have hW' := hW
  obtain ⟨p, q, hA, hV, rfl, hfz, hnd⟩ := hW
  rw [Try.params3] at hA hval hsz
  obtain ⟨v0, vs0, d0, ds0, p0, q0, hargs, rfl, rfl, h0, r0⟩ := trodAll_cons hA
  obtain ⟨v1, vs1, d1, ds1, p1, q1, rfl, rfl, rfl, h1, r1⟩ := trodAll_cons r0
  obtain ⟨rfl, rfl, rfl⟩ := trodAll_nil r1
  obtain rfl : args = #[v0, v1] := by cases args; simp_all
  obtain ⟨rfl, rfl⟩ := trodVars_none hV
  have k0 := h0
  obtain ⟨n0, hf0⟩ := h0
  obtain ⟨x0, hK0, hS0, hB0⟩ := op23.go hf0 (fun m hm => by have := List.all_eq_true.1 hsz m (DataW.weights_mem_each (j := 0) rfl rfl m hm); simpa using this)
  have lt0 : ∀ z ∈ p0, z.block < W.heap.size := by obtain ⟨m, hm⟩ := k0; exact DataW.trod_lt m _ _ _ hm
  obtain ⟨a0, len0, cap0, rfl⟩ := okWide_slice Try.underlying23 (hval 0 23 v0 rfl rfl)
  obtain ⟨A0, c0, hcs0, hc0, hr0⟩ := hK0
  have hcs0' : [(Value.slice a0 len0 cap0)] = [.slice A0 x0.length c0] := hcs0
  injection hcs0' with hcs0'
  injection hcs0' with ha0 hl0 hk0
  subst ha0 hl0 hk0
  have k1 := h1
  obtain ⟨n1, hf1⟩ := h1
  obtain ⟨x1, hK1, hS1, hB1⟩ := op23.go hf1 (fun m hm => by have := List.all_eq_true.1 hsz m (DataW.weights_mem_each (j := 1) rfl rfl m hm); simpa using this)
  have lt1 : ∀ z ∈ p1, z.block < W.heap.size := by obtain ⟨m, hm⟩ := k1; exact DataW.trod_lt m _ _ _ hm
  obtain ⟨a1, len1, cap1, rfl⟩ := okWide_slice Try.underlying23 (hval 1 23 v1 rfl rfl)
  obtain ⟨A1, c1, hcs1, hc1, hr1⟩ := hK1
  have hcs1' : [(Value.slice a1 len1 cap1)] = [.slice A1 x1.length c1] := hcs1
  injection hcs1' with hcs1'
  injection hcs1' with ha1 hl1 hk1
  subst ha1 hl1 hk1
  obtain ⟨k, h⟩ := Pure.MatchFinds x0 x1 hS0 hS1
  refine (aumbrylaw05_MatchFinds.calls k _ _ x0 _ _ x1 true W hr0 hc0 hr1 hc1 h).mono ?_
  rintro e W' ⟨rfl, hd⟩
  have bel : Below W.heap.size W W' := hd
  exact ⟨_, rfl, _, _, _, [], _, [], hW', trodAll_mk1 (shut_bool Try.underlying4 _), (trodAll_cons_mk (Below.trod laidOut (by kernel_rfl) (of_decide_eq_true (by kernel_rfl)) k0 bel lt0) (trodAll_cons_mk (Below.trod laidOut (by kernel_rfl) (of_decide_eq_true (by kernel_rfl)) k1 bel lt1) trodAll_mk0)), rfl, bel.frame _, fun h => by cases h⟩
set_option maxRecDepth 100000 in
theorem lifted (os : Os) (started : os.Started) (H : Type) (enc : TypeId × Value → H) :
    ReturnsInHanded {} Try.checked os 3 .any (Rows.matchFindsSpec.pre6 enc Try.prog Try.f3 Rows.matchFindsRow.domain false) (Rows.matchFindsSpec.post enc Try.prog Try.f3 false true false false) := by
  refine returnsInHanded_of_change_sized (C := Try.checked) own started (by kernel_rfl) Try.func3
    (ChangeSpec.witness6 (enc := enc) (C := Try.checked) false ⟨#[], #[.slice none 0 0, .slice none 0 0], []⟩ 8 (by kernel_rfl) (by kernel_rfl) (by kernel_rfl) (by kernel_rfl)) ?_
  intro W base args ds gs before hval0 hW hcnd hsz0 _
  exact core W base args ds gs before hval0 hW hsz0
theorem over : Rows.matchFindsRow.holds Try.pinned (OpenSpec.ofChange Rows.matchFindsSpec) :=
  OpenClaim.holds_of_wide 3 Try.f3 rfl rfl rfl rfl rfl rfl rfl ⟨rfl, rfl, rfl, rfl, rfl⟩ rfl rfl rfl rfl rfl (by kernel_rfl) Try.func3 (by kernel_rfl)
    (of_decide_eq_true (by kernel_rfl)) (by unfold Func.isWrapper; first | (rw [if_pos (by decide +kernel)]; kernel_rfl) | (rw [if_neg (by decide +kernel)]; exact ⟨rfl, rfl⟩))
    (fun os started H enc _ => lifted os started H enc)
theorem proved : Rows.MatchFindsSaid := over
end Go.Proofs.Ytlfhonekcmlomaa.matchFinds
namespace Go.Proofs.Ytlfhonekcmlomaa
/-- The row, under a short name, for the claim. -/
theorem matchFinds_holds : Rows.MatchFindsSaid := matchFinds.proved
#print axioms matchFinds_holds
end Go.Proofs.Ytlfhonekcmlomaa
