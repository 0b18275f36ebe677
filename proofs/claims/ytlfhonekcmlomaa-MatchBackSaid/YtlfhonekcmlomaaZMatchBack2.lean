/- MatchBack: the law answers true at every input that the given row speaks of. Conditions: those of the given row, none besides. (Part 3 of 4; written by programs of this session, which drive the kit's print, and by hand.) -/
import Derived.Test.YtlfhonekcmlomaaRows
import Derived.Test.YtlfhonekcmlomaaZMatchBackWWords
import Derived.Deep.Slices
import Derived.SizedLaws
import Derived.ChangeSame
import Derived.ChangeArms
import Derived.KernelRfl
import Derived.Test.YtlfhonekcmlomaaZMatchBack0
import Derived.Test.YtlfhonekcmlomaaZMatchBack1
-- ==== PF9
namespace Go.Proofs.Ytlfhonekcmlomaa.P
open Go.RowKit Go.Proofs.YtlfhonekcmlomaaW.PrintWords Go.Proofs.YtlfhonekcmlomaaW.PrintLast Go.Proofs.YtlfhonekcmlomaaW.PrintMore
attribute [local go_sem] max2_int min2_int max_two min_two max_three min_three max_four min_four   -- for this text's walks alone
set_option linter.unusedVariables false
set_option linter.unusedSimpArgs false

/-! ### aumbrylaw05_wakes: function 9 -/
def aumbrylaw05_wakes.f (k : Nat)  : Option (Bool) := (match_Match.f k (([(⟨(⟨#[103]⟩ : ByteArray), 2⟩ : S47), (⟨(⟨#[88]⟩ : ByteArray), 0⟩ : S47), (⟨(⟨#[89]⟩ : ByteArray), 0⟩ : S47)] : List (S47))) (([(⟨(⟨#[103]⟩ : ByteArray), 2⟩ : S47), (⟨(⟨#[97]⟩ : ByteArray), 0⟩ : S47), (⟨(⟨#[98]⟩ : ByteArray), 0⟩ : S47)] : List (S47)))).bind fun bt107 => ((match_Fill.f k (([(⟨(⟨#[89]⟩ : ByteArray), 0⟩ : S47)] : List (S47))) bt107.1).bind fun bt115 => (if bt107.2.1 = true then (if bt107.2.2 = 0 then (if bt115.2 = 0 then (if (bt107.1.length : Int) = 2 then (if 0 < (bt107.1.length : Int) then (if ((rd_T44 bt107.1 0).f0).toList = ([88] : List UInt8) then (if (bt115.1.length : Int) = 1 then (if 0 < (bt115.1.length : Int) then (some (((rd_T47 bt115.1 0).f0).toList == ([98] : List UInt8))) else (none)) else (some false)) else (some false)) else (none)) else (some false)) else (some false)) else (some false)) else (some false)))
theorem aumbrylaw05_wakes.mono : ∀ k, LeO (aumbrylaw05_wakes.f k ) (aumbrylaw05_wakes.f (k + 1) ) := by
  intro  k
  unfold aumbrylaw05_wakes.f
  repeat' first
      | (with_reducible exact match_Fill.mono _ _ _)
      | (with_reducible exact match_Match.mono _ _ _)
      | (with_reducible exact LeO.refl _)
      | (with_reducible exact LeO.none _)
      | (with_reducible refine LeO.ite ?_ ?_)
      | (with_reducible refine LeO.bind ?_ (fun _ => ?_))
      | exact match_Fill.mono _ _ _
      | exact match_Match.mono _ _ _
      | exact LeO.none _
      | refine LeO.ite ?_ ?_
      | refine LeO.bind ?_ (fun _ => ?_)
set_option maxHeartbeats 8000000 in
set_option maxRecDepth 100000 in
theorem aumbrylaw05_wakes.calls (k : Nat)  (r : Bool) (w : World) (h : aumbrylaw05_wakes.f k  = some r) :
    Calls Try.prog 9 #[] w fun e w' => e = .returned (.bool r) ∧ Below w.heap.size w w' := by
  have hu47 := Try.underlying47
  have HB := Aside0.mk (Below.refl w.heap.size w)
  have H : ((match_Match.f k (([(⟨(⟨#[103]⟩ : ByteArray), 2⟩ : S47), (⟨(⟨#[88]⟩ : ByteArray), 0⟩ : S47), (⟨(⟨#[89]⟩ : ByteArray), 0⟩ : S47)] : List (S47))) (([(⟨(⟨#[103]⟩ : ByteArray), 2⟩ : S47), (⟨(⟨#[97]⟩ : ByteArray), 0⟩ : S47), (⟨(⟨#[98]⟩ : ByteArray), 0⟩ : S47)] : List (S47)))).bind fun bt107 => ((match_Fill.f k (([(⟨(⟨#[89]⟩ : ByteArray), 0⟩ : S47)] : List (S47))) bt107.1).bind fun bt115 => (if bt107.2.1 = true then (if bt107.2.2 = 0 then (if bt115.2 = 0 then (if (bt107.1.length : Int) = 2 then (if 0 < (bt107.1.length : Int) then (if ((rd_T44 bt107.1 0).f0).toList = ([88] : List UInt8) then (if (bt115.1.length : Int) = 1 then (if 0 < (bt115.1.length : Int) then (some (((rd_T47 bt115.1 0).f0).toList == ([98] : List UInt8))) else (none)) else (some false)) else (some false)) else (none)) else (some false)) else (some false)) else (some false)) else (some false)))) = some r := h
  clear h
  obtain ⟨y101, hy101⟩ : ∃ y_ : List (S47), y_ = (([(⟨(⟨#[103]⟩ : ByteArray), 2⟩ : S47), (⟨(⟨#[88]⟩ : ByteArray), 0⟩ : S47), (⟨(⟨#[89]⟩ : ByteArray), 0⟩ : S47)] : List (S47))) := ⟨_, rfl⟩
  replace H : ((match_Match.f k y101 (([(⟨(⟨#[103]⟩ : ByteArray), 2⟩ : S47), (⟨(⟨#[97]⟩ : ByteArray), 0⟩ : S47), (⟨(⟨#[98]⟩ : ByteArray), 0⟩ : S47)] : List (S47)))).bind fun bt107 => ((match_Fill.f k (([(⟨(⟨#[89]⟩ : ByteArray), 0⟩ : S47)] : List (S47))) bt107.1).bind fun bt115 => (if bt107.2.1 = true then (if bt107.2.2 = 0 then (if bt115.2 = 0 then (if (bt107.1.length : Int) = 2 then (if 0 < (bt107.1.length : Int) then (if ((rd_T44 bt107.1 0).f0).toList = ([88] : List UInt8) then (if (bt115.1.length : Int) = 1 then (if 0 < (bt115.1.length : Int) then (some (((rd_T47 bt115.1 0).f0).toList == ([98] : List UInt8))) else (none)) else (some false)) else (some false)) else (none)) else (some false)) else (some false)) else (some false)) else (some false)))) = some r := by first | (rw [hy101]; with_reducible exact H) | (have H2_ := (Option.bind_some _ _).symm.trans H; rw [hy101]; with_reducible exact H2_) | (have H2_ := (Option.bind_some _ _).symm.trans H; with_reducible exact H2_) | with_reducible exact H | (rw [hy101]; exact H) | exact H
  have Ny101 := Aside0.mk hy101
  clear hy101
  obtain ⟨y104, hy104⟩ : ∃ y_ : List (S47), y_ = (([(⟨(⟨#[103]⟩ : ByteArray), 2⟩ : S47), (⟨(⟨#[97]⟩ : ByteArray), 0⟩ : S47), (⟨(⟨#[98]⟩ : ByteArray), 0⟩ : S47)] : List (S47))) := ⟨_, rfl⟩
  replace H : ((match_Match.f k y101 y104).bind fun bt107 => ((match_Fill.f k (([(⟨(⟨#[89]⟩ : ByteArray), 0⟩ : S47)] : List (S47))) bt107.1).bind fun bt115 => (if bt107.2.1 = true then (if bt107.2.2 = 0 then (if bt115.2 = 0 then (if (bt107.1.length : Int) = 2 then (if 0 < (bt107.1.length : Int) then (if ((rd_T44 bt107.1 0).f0).toList = ([88] : List UInt8) then (if (bt115.1.length : Int) = 1 then (if 0 < (bt115.1.length : Int) then (some (((rd_T47 bt115.1 0).f0).toList == ([98] : List UInt8))) else (none)) else (some false)) else (some false)) else (none)) else (some false)) else (some false)) else (some false)) else (some false)))) = some r := by first | (rw [hy104]; with_reducible exact H) | (have H2_ := (Option.bind_some _ _).symm.trans H; rw [hy104]; with_reducible exact H2_) | (have H2_ := (Option.bind_some _ _).symm.trans H; with_reducible exact H2_) | with_reducible exact H | (rw [hy104]; exact H) | exact H
  have Ny104 := Aside0.mk hy104
  clear hy104
  replace H := Option.bind_eq_some_iff.mp H
  obtain ⟨⟨t107, t108, t109⟩, A10, H⟩ := H
  replace H : ((match_Fill.f k (([(⟨(⟨#[89]⟩ : ByteArray), 0⟩ : S47)] : List (S47))) t107).bind fun bt115 => (if t108 = true then (if t109 = 0 then (if bt115.2 = 0 then (if (t107.length : Int) = 2 then (if 0 < (t107.length : Int) then (if ((rd_T44 t107 0).f0).toList = ([88] : List UInt8) then (if (bt115.1.length : Int) = 1 then (if 0 < (bt115.1.length : Int) then (some (((rd_T47 bt115.1 0).f0).toList == ([98] : List UInt8))) else (none)) else (some false)) else (some false)) else (none)) else (some false)) else (some false)) else (some false)) else (some false))) = some r := H
  have A1 := Aside0.mk A10
  clear A10
  obtain ⟨y112, hy112⟩ : ∃ y_ : List (S47), y_ = (([(⟨(⟨#[89]⟩ : ByteArray), 0⟩ : S47)] : List (S47))) := ⟨_, rfl⟩
  replace H : ((match_Fill.f k y112 t107).bind fun bt115 => (if t108 = true then (if t109 = 0 then (if bt115.2 = 0 then (if (t107.length : Int) = 2 then (if 0 < (t107.length : Int) then (if ((rd_T44 t107 0).f0).toList = ([88] : List UInt8) then (if (bt115.1.length : Int) = 1 then (if 0 < (bt115.1.length : Int) then (some (((rd_T47 bt115.1 0).f0).toList == ([98] : List UInt8))) else (none)) else (some false)) else (some false)) else (none)) else (some false)) else (some false)) else (some false)) else (some false))) = some r := by first | (rw [hy112]; with_reducible exact H) | (have H2_ := (Option.bind_some _ _).symm.trans H; rw [hy112]; with_reducible exact H2_) | (have H2_ := (Option.bind_some _ _).symm.trans H; with_reducible exact H2_) | with_reducible exact H | (rw [hy112]; exact H) | exact H
  have Ny112 := Aside0.mk hy112
  clear hy112
  replace H := Option.bind_eq_some_iff.mp H
  obtain ⟨⟨t115, t116⟩, A20, H⟩ := H
  replace H : (if t108 = true then (if t109 = 0 then (if t116 = 0 then (if (t107.length : Int) = 2 then (if 0 < (t107.length : Int) then (if ((rd_T44 t107 0).f0).toList = ([88] : List UInt8) then (if (t115.length : Int) = 1 then (if 0 < (t115.length : Int) then (some (((rd_T47 t115 0).f0).toList == ([98] : List UInt8))) else (none)) else (some false)) else (some false)) else (none)) else (some false)) else (some false)) else (some false)) else (some false)) = some r := H
  have A2 := Aside0.mk A20
  clear A20
  by_cases c3 : t108 = true
  · subst c3
    have H1 : (if t109 = 0 then (if t116 = 0 then (if (t107.length : Int) = 2 then (if 0 < (t107.length : Int) then (if ((rd_T44 t107 0).f0).toList = ([88] : List UInt8) then (if (t115.length : Int) = 1 then (if 0 < (t115.length : Int) then (some (((rd_T47 t115 0).f0).toList == ([98] : List UInt8))) else (none)) else (some false)) else (some false)) else (none)) else (some false)) else (some false)) else (some false)) = some r := by rw [if_pos rfl] at H; exact H
    clear H
    have H := H1
    clear H1
    by_cases c4 : t109 = 0
    · rw [if_pos c4] at H
      have c4b0 : (t109 == 0) = true := beq_iff_eq.mpr c4
      have c4b1 : (t109 != 0) = false := bne_eq_false_iff_eq.mpr c4
      clear c4
      by_cases c5 : t116 = 0
      · rw [if_pos c5] at H
        have c5b0 : (t116 == 0) = true := beq_iff_eq.mpr c5
        have c5b1 : (t116 != 0) = false := bne_eq_false_iff_eq.mpr c5
        clear c5
        by_cases c6 : (t107.length : Int) = 2
        · rw [if_pos c6] at H
          have c6b0 : ((t107.length : Int) == 2) = true := beq_iff_eq.mpr c6
          have c6b1 : ((t107.length : Int) != 2) = false := bne_eq_false_iff_eq.mpr c6
          clear c6
          by_cases c7 : 0 < (t107.length : Int)
          · rw [if_pos c7] at H
            have c7b0 : decide (0 < (t107.length : Int)) = true := decide_eq_true c7
            have c7b1 : decide (0 < t107.length) = true := decide_eq_true (by omega)
            clear c7
            by_cases c8 : ((rd_T44 t107 0).f0).toList = ([88] : List UInt8)
            · rw [if_pos c8] at H
              have c8b0 : (((rd_T44 t107 0).f0).toList == ([88] : List UInt8)) = true := beq_iff_eq.mpr c8
              have c8b1 : (((rd_T44 t107 0).f0).toList != ([88] : List UInt8)) = false := bne_eq_false_iff_eq.mpr c8
              clear c8
              by_cases c9 : (t115.length : Int) = 1
              · rw [if_pos c9] at H
                have c9b0 : ((t115.length : Int) == 1) = true := beq_iff_eq.mpr c9
                have c9b1 : ((t115.length : Int) != 1) = false := bne_eq_false_iff_eq.mpr c9
                clear c9
                by_cases c10 : 0 < (t115.length : Int)
                · rw [if_pos c10] at H
                  have c10b0 : decide (0 < (t115.length : Int)) = true := decide_eq_true c10
                  have c10b1 : decide (0 < t115.length) = true := decide_eq_true (by omega)
                  clear c10
                  obtain rfl := Option.some.inj H
                  go_enter Try.func9, Try.ntmps9
                  go_wp2_with (first | ((with_reducible refine gate_dst (N := 11) rfl ?_); (try (refine gate_guard (by rfl) ?_; dsimp only)); refine Kd.R_lit k47 _ 47 ?hg (N := 11) ?hd (xs := ([(⟨(⟨#[103]⟩ : ByteArray), 2⟩ : S47), (⟨(⟨#[88]⟩ : ByteArray), 0⟩ : S47), (⟨(⟨#[89]⟩ : ByteArray), 0⟩ : S47)] : List (S47))) (inner := [.string (⟨#[103]⟩ : ByteArray), .int .i64 2, .string (⟨#[88]⟩ : ByteArray), .int .i64 0, .string (⟨#[89]⟩ : ByteArray), .int .i64 0]) (ok := fun _ => True) (okp := fun _ => True) ?hr ?hp (fun _ hk => hk) trivial (Below.refl _ _) (Nat.le_refl _) (by simp) ?_; (case hd => rfl); (case hg => rfl); (case hr => first | (go_simp; done) | (go_simp; rfl)); (case hp => exact (Reps.c2 (show Kd.M k47 _ _ _ (⟨(⟨#[103]⟩ : ByteArray), 2⟩ : S47) [.string (⟨#[103]⟩ : ByteArray), .int .i64 2] from (k47_mkM _ _ _ (⟨(⟨#[103]⟩ : ByteArray), 2⟩ : S47) )) (Reps.c2 (show Kd.M k47 _ _ _ (⟨(⟨#[88]⟩ : ByteArray), 0⟩ : S47) [.string (⟨#[88]⟩ : ByteArray), .int .i64 0] from (k47_mkM _ _ _ (⟨(⟨#[88]⟩ : ByteArray), 0⟩ : S47) )) (Reps.c2 (show Kd.M k47 _ _ _ (⟨(⟨#[89]⟩ : ByteArray), 0⟩ : S47) [.string (⟨#[89]⟩ : ByteArray), .int .i64 0] from (k47_mkM _ _ _ (⟨(⟨#[89]⟩ : ByteArray), 0⟩ : S47) )) (Reps.none _ _))))); intro v102 w11 ho12 hb hg_ hnew_; clear hg_ hnew_; (first | rw [← Ny101.out] at ho12 | (simp only [Int.reduceToNat] at ho12; rw [← Ny101.out] at ho12)); have n0_ := Aside0.mk (Kd.R_lower ho12 (below_size (by repeat (first | (with_reducible first | exact HB.out | apply below_alloc | apply pw_below_drewN | apply below_drew1) | exact HB.out)))); have n1_ := Aside0.mk (below_step (by repeat (first | (with_reducible first | exact HB.out | apply below_alloc | apply pw_below_drewN | apply below_drew1) | exact HB.out)) hb); clear HB; have HO103 := n0_; have HB := n1_; clear n0_ n1_; clear hb ho12) | ((with_reducible refine gate_dst (N := 15) rfl ?_); (try (refine gate_guard (by rfl) ?_; dsimp only)); refine Kd.R_lit k47 _ 47 ?hg (N := 15) ?hd (xs := ([(⟨(⟨#[103]⟩ : ByteArray), 2⟩ : S47), (⟨(⟨#[97]⟩ : ByteArray), 0⟩ : S47), (⟨(⟨#[98]⟩ : ByteArray), 0⟩ : S47)] : List (S47))) (inner := [.string (⟨#[103]⟩ : ByteArray), .int .i64 2, .string (⟨#[97]⟩ : ByteArray), .int .i64 0, .string (⟨#[98]⟩ : ByteArray), .int .i64 0]) (ok := fun _ => True) (okp := fun _ => True) ?hr ?hp (fun _ hk => hk) trivial (Below.refl _ _) (Nat.le_refl _) (by simp) ?_; (case hd => rfl); (case hg => rfl); (case hr => first | (go_simp; done) | (go_simp; rfl)); (case hp => exact (Reps.c2 (show Kd.M k47 _ _ _ (⟨(⟨#[103]⟩ : ByteArray), 2⟩ : S47) [.string (⟨#[103]⟩ : ByteArray), .int .i64 2] from (k47_mkM _ _ _ (⟨(⟨#[103]⟩ : ByteArray), 2⟩ : S47) )) (Reps.c2 (show Kd.M k47 _ _ _ (⟨(⟨#[97]⟩ : ByteArray), 0⟩ : S47) [.string (⟨#[97]⟩ : ByteArray), .int .i64 0] from (k47_mkM _ _ _ (⟨(⟨#[97]⟩ : ByteArray), 0⟩ : S47) )) (Reps.c2 (show Kd.M k47 _ _ _ (⟨(⟨#[98]⟩ : ByteArray), 0⟩ : S47) [.string (⟨#[98]⟩ : ByteArray), .int .i64 0] from (k47_mkM _ _ _ (⟨(⟨#[98]⟩ : ByteArray), 0⟩ : S47) )) (Reps.none _ _))))); intro v105 w13 ho14 hb hg_ hnew_; clear hg_ hnew_; (first | rw [← Ny104.out] at ho14 | (simp only [Int.reduceToNat] at ho14; rw [← Ny104.out] at ho14)); have n0_ := Aside0.mk (Kd.R_elder' (by (with_reducible repeat (first | apply Kd.R_alloc | apply Kd.R_drewN | apply Kd.R_drew)); exact HO103.out) (Kd.R_base ho14) hb); have n1_ := Aside0.mk (Kd.R_lower (Kd.R_new' ho14 (Kd.R_lt (by (with_reducible repeat (first | apply Kd.R_alloc | apply Kd.R_drewN | apply Kd.R_drew)); exact HO103.out))) (below_size (by repeat (first | (with_reducible first | exact HB.out | apply below_alloc | apply pw_below_drewN | apply below_drew1) | exact HB.out)))); have n2_ := Aside0.mk (below_step (by repeat (first | (with_reducible first | exact HB.out | apply below_alloc | apply pw_below_drewN | apply below_drew1) | exact HB.out)) hb); clear HO103; clear HB; have HO103 := n0_; have HO106 := n1_; have HB := n2_; clear n0_ n1_ n2_; clear hb ho14; obtain ⟨Ao15, co15, eo15⟩ := Kd.R_slice HO103.out; subst eo15; obtain ⟨Ao16, co16, eo16⟩ := Kd.R_slice HO106.out; subst eo16) | ((with_reducible refine gate_callee (f := 10) rfl ?_); refine goesL_ (some 19) rfl rfl Try.func10 (by kernel_rfl) rfl #[.slice Ao15 y101.length co15, .slice Ao16 y104.length co16] rfl (by (try simp only [List.map_toArray, List.map_cons, List.map_nil]); first | done | rfl | (simp only [List.length_drop, List.length_take]; rfl)) ?_; (with_reducible refine (match_Match.calls k _ _ y101 _ _ y104 t107 true t109 _ ?side1 ?side2 ?side3 ?side4 A1.out).mono ?_); (case side1 => repeat (first | exact (Kd.R_reads' HO103.out).2.2 | (with_reducible refine Kd.C_alloc ?_ _) | (with_reducible refine Kd.C_drewN ?_ _) | (with_reducible refine Kd.C_drew ?_))); (case side2 => exact (Kd.R_reads' HO103.out).2.1); (case side3 => repeat (first | exact (Kd.R_reads' HO106.out).2.2 | (with_reducible refine Kd.C_alloc ?_ _) | (with_reducible refine Kd.C_drewN ?_ _) | (with_reducible refine Kd.C_drew ?_))); (case side4 => exact (Kd.R_reads' HO106.out).2.1); rintro e w17 ⟨v110, rfl, ho0, hb⟩; refine ⟨_, rfl, ?_⟩; have n0_ := Aside0.mk (Kd.R_below (by (with_reducible repeat (first | apply Kd.R_alloc | apply Kd.R_drewN | apply Kd.R_drew)); exact HO103.out) hb); have n1_ := Aside0.mk (Kd.R_below (by (with_reducible repeat (first | apply Kd.R_alloc | apply Kd.R_drewN | apply Kd.R_drew)); exact HO106.out) hb); have n2_ := Aside0.mk (Kd.S_lower (Kd.S_new' (Kd.S_new' ho0 (Kd.R_lt (by (with_reducible repeat (first | apply Kd.R_alloc | apply Kd.R_drewN | apply Kd.R_drew)); exact HO103.out))) (Kd.R_lt (by (with_reducible repeat (first | apply Kd.R_alloc | apply Kd.R_drewN | apply Kd.R_drew)); exact HO106.out))) (below_size (by repeat (first | (with_reducible first | exact HB.out | apply below_alloc | apply pw_below_drewN | apply below_drew1) | exact HB.out)))); have n3_ := Aside0.mk (below_step (by repeat (first | (with_reducible first | exact HB.out | apply below_alloc | apply pw_below_drewN | apply below_drew1) | exact HB.out)) hb); clear HO103; clear HO106; clear HB; have HO103 := n0_; have HO106 := n1_; have HO111 := n2_; have HB := n3_; clear n0_ n1_ n2_ n3_; (try clear hb); (try clear hb2); (try clear hk); (try clear hi); (try clear ho0)) | ((with_reducible refine gate_dst (N := 25) rfl ?_); (try (refine gate_guard (by rfl) ?_; dsimp only)); refine Kd.R_lit k47 _ 47 ?hg (N := 25) ?hd (xs := ([(⟨(⟨#[89]⟩ : ByteArray), 0⟩ : S47)] : List (S47))) (inner := [.string (⟨#[89]⟩ : ByteArray), .int .i64 0]) (ok := fun _ => True) (okp := fun _ => True) ?hr ?hp (fun _ hk => hk) trivial (Below.refl _ _) (Nat.le_refl _) (by simp) ?_; (case hd => rfl); (case hg => rfl); (case hr => first | (go_simp; done) | (go_simp; rfl)); (case hp => exact (Reps.c2 (show Kd.M k47 _ _ _ (⟨(⟨#[89]⟩ : ByteArray), 0⟩ : S47) [.string (⟨#[89]⟩ : ByteArray), .int .i64 0] from (k47_mkM _ _ _ (⟨(⟨#[89]⟩ : ByteArray), 0⟩ : S47) )) (Reps.none _ _))); intro v113 w18 ho19 hb hg_ hnew_; clear hg_ hnew_; (first | rw [← Ny112.out] at ho19 | (simp only [Int.reduceToNat] at ho19; rw [← Ny112.out] at ho19)); have n0_ := Aside0.mk (Kd.R_elder' (by (with_reducible repeat (first | apply Kd.R_alloc | apply Kd.R_drewN | apply Kd.R_drew)); exact HO103.out) (Kd.R_base ho19) hb); have n1_ := Aside0.mk (Kd.R_elder' (by (with_reducible repeat (first | apply Kd.R_alloc | apply Kd.R_drewN | apply Kd.R_drew)); exact HO106.out) (Kd.R_base ho19) hb); have n2_ := Aside0.mk (Kd.S_elder' (by (with_reducible repeat (first | apply Kd.S_alloc | apply Kd.S_drewN | apply Kd.S_drew)); exact HO111.out) (Kd.R_base ho19) hb); have n3_ := Aside0.mk (Kd.R_lower (Kd.R_new' (Kd.R_new' ho19 (Kd.R_lt (by (with_reducible repeat (first | apply Kd.R_alloc | apply Kd.R_drewN | apply Kd.R_drew)); exact HO103.out))) (Kd.R_lt (by (with_reducible repeat (first | apply Kd.R_alloc | apply Kd.R_drewN | apply Kd.R_drew)); exact HO106.out))) (below_size (by repeat (first | (with_reducible first | exact HB.out | apply below_alloc | apply pw_below_drewN | apply below_drew1) | exact HB.out)))); have n4_ := Aside0.mk (below_step (by repeat (first | (with_reducible first | exact HB.out | apply below_alloc | apply pw_below_drewN | apply below_drew1) | exact HB.out)) hb); clear HO103; clear HO106; clear HO111; clear HB; have HO103 := n0_; have HO106 := n1_; have HO111 := n2_; have HO114 := n3_; have HB := n4_; clear n0_ n1_ n2_ n3_ n4_; clear hb ho19; obtain ⟨Ao20, co20, eo20⟩ := Kd.R_slice HO114.out; subst eo20; obtain ⟨Ao21, co21, eo21⟩ := Kd.S_slice HO111.out; subst eo21) | ((with_reducible refine gate_callee (f := 14) rfl ?_); refine goesL_ (some 27) rfl rfl Try.func14 (by kernel_rfl) rfl #[.slice Ao20 y112.length co20, .slice Ao21 t107.length co21] rfl (by (try simp only [List.map_toArray, List.map_cons, List.map_nil]); first | done | rfl | (simp only [List.length_drop, List.length_take]; rfl)) ?_; (with_reducible refine (match_Fill.calls k _ _ y112 _ _ t107 t115 t116 _ ?side1 ?side2 ?side3 ?side4 A2.out).mono ?_); (case side1 => repeat (first | exact (Kd.R_reads' HO114.out).2.2 | (with_reducible refine Kd.C_alloc ?_ _) | (with_reducible refine Kd.C_drewN ?_ _) | (with_reducible refine Kd.C_drew ?_))); (case side2 => exact (Kd.R_reads' HO114.out).2.1); (case side3 => repeat (first | exact (Kd.S_reads' HO111.out).2.2 | (with_reducible refine Kd.C_alloc ?_ _) | (with_reducible refine Kd.C_drewN ?_ _) | (with_reducible refine Kd.C_drew ?_))); (case side4 => exact (Kd.S_reads' HO111.out).2.1); rintro e w22 ⟨v117, rfl, ho0, hb⟩; refine ⟨_, rfl, ?_⟩; have n0_ := Aside0.mk (Kd.R_elder' (by (with_reducible repeat (first | apply Kd.R_alloc | apply Kd.R_drewN | apply Kd.R_drew)); exact HO103.out) (Kd.R_base ho0) hb); have n1_ := Aside0.mk (Kd.R_elder' (by (with_reducible repeat (first | apply Kd.R_alloc | apply Kd.R_drewN | apply Kd.R_drew)); exact HO106.out) (Kd.R_base ho0) hb); have n2_ := Aside0.mk (Kd.S_elder' (by (with_reducible repeat (first | apply Kd.S_alloc | apply Kd.S_drewN | apply Kd.S_drew)); exact HO111.out) (Kd.R_base ho0) hb); have n3_ := Aside0.mk (Kd.R_elder' (by (with_reducible repeat (first | apply Kd.R_alloc | apply Kd.R_drewN | apply Kd.R_drew)); exact HO114.out) (Kd.R_base ho0) hb); have n4_ := Aside0.mk (Kd.R_lower (Kd.R_new' (Kd.R_new' (Kd.R_new' ho0 (Kd.R_lt (by (with_reducible repeat (first | apply Kd.R_alloc | apply Kd.R_drewN | apply Kd.R_drew)); exact HO103.out))) (Kd.R_lt (by (with_reducible repeat (first | apply Kd.R_alloc | apply Kd.R_drewN | apply Kd.R_drew)); exact HO106.out))) (Kd.R_lt (by (with_reducible repeat (first | apply Kd.R_alloc | apply Kd.R_drewN | apply Kd.R_drew)); exact HO114.out))) (below_size (by repeat (first | (with_reducible first | exact HB.out | apply below_alloc | apply pw_below_drewN | apply below_drew1) | exact HB.out)))); have n5_ := Aside0.mk (below_step (by repeat (first | (with_reducible first | exact HB.out | apply below_alloc | apply pw_below_drewN | apply below_drew1) | exact HB.out)) hb); clear HO103; clear HO106; clear HO111; clear HO114; clear HB; have HO103 := n0_; have HO106 := n1_; have HO111 := n2_; have HO114 := n3_; have HO118 := n4_; have HB := n5_; clear n0_ n1_ n2_ n3_ n4_ n5_; (try clear hb); (try clear hb2); (try clear hk); (try clear hi); (try clear ho0); have p119 : 0 ≤ (0 : Int) := (by omega); have q119 : 0 < (t107.length : Int) := of_decide_eq_true (by first | (with_reducible assumption) | assumption); obtain ⟨ad119, A119_1, c119_1, e119, hx119_0, hx119_1, hl119_1, hi119_1⟩ := at_T44 (Kd.S_reads' HO111.out).2.2 0 p119 q119; cases e119; obtain ⟨ce119, hce119, hMe119, hcc119⟩ := Kd.S_get HO111.out z44 0 p119 (by first | exact q119 | exact of_decide_eq_true (by first | (with_reducible assumption) | assumption) | (have e_ := (Kd.S_reads' HO111.out).1; omega)); obtain ⟨ve119_1, rfl, ge119_1⟩ := k44_openM hMe119; have hv119_1 := hcc119 1 _ rfl; rw [add_field _ _ 1 (by omega)] at hv119_1; replace hv119_1 := Option.some.inj (hv119_1.symm.trans hx119_1); rw [hv119_1] at ge119_1; have HL119_1 := Aside0.mk (show Kd.R k47 47 _ _ _ _ ((rd_T44 t107 0).f1) from ge119_1); clear hv119_1 ge119_1; clear hcc119 hce119; have qi119 : (0 < t107.length) = True := eq_true (by omega); (try rw [show ((0 : Int)).toNat = 0 from rfl] at hx119_0); (try rw [show 0 * 2 = 0 from rfl] at hx119_0); (try rw [Addr.add_zero'] at hx119_0); (try rw [show ((0 : Int)).toNat = 0 from rfl] at hx119_1); (try rw [show 0 * 2 = 0 from rfl] at hx119_1); (try rw [Addr.add_zero'] at hx119_1); have HR119_1 := Aside0.mk hi119_1; have HC119_1 := Aside0.mk hl119_1; clear hi119_1 hl119_1; replace p119 := eq_true p119; replace q119 := eq_true q119; obtain ⟨Ao23, co23, eo23⟩ := Kd.R_slice HO118.out; subst eo23; have p120 : 0 ≤ (0 : Int) := (by omega); have q120 : 0 < (t115.length : Int) := of_decide_eq_true (by first | (with_reducible assumption) | assumption); obtain ⟨ad120, e120, hx120_0, hx120_1⟩ := at_T47 (Kd.R_reads' HO118.out).2.2 0 p120 q120; cases e120; have qi120 : (0 < t115.length) = True := eq_true (by omega); (try rw [show ((0 : Int)).toNat = 0 from rfl] at hx120_0); (try rw [show 0 * 2 = 0 from rfl] at hx120_0); (try rw [Addr.add_zero'] at hx120_0); (try rw [show ((0 : Int)).toNat = 0 from rfl] at hx120_1); (try rw [show 0 * 2 = 0 from rfl] at hx120_1); (try rw [Addr.add_zero'] at hx120_1); replace p120 := eq_true p120; replace q120 := eq_true q120))
                  go_ret
                  exact ⟨by first | rfl | (simp [errW_none, errW_some] <;> rfl) | (simp [*, errW_none, errW_some] <;> rfl), by repeat (first | (with_reducible first | exact HB.out | apply below_alloc | apply pw_below_drewN | apply below_drew1) | exact HB.out)⟩
                · rw [if_neg c10] at H
                  exact absurd H (by simp)
              · rw [if_neg c9] at H
                have c9b0 : ((t115.length : Int) == 1) = false := beq_eq_false_iff_ne.mpr c9
                have c9b1 : ((t115.length : Int) != 1) = true := bne_iff_ne.mpr c9
                obtain rfl := Option.some.inj H
                go_enter Try.func9, Try.ntmps9
                go_wp2_with (first | ((with_reducible refine gate_dst (N := 11) rfl ?_); (try (refine gate_guard (by rfl) ?_; dsimp only)); refine Kd.R_lit k47 _ 47 ?hg (N := 11) ?hd (xs := ([(⟨(⟨#[103]⟩ : ByteArray), 2⟩ : S47), (⟨(⟨#[88]⟩ : ByteArray), 0⟩ : S47), (⟨(⟨#[89]⟩ : ByteArray), 0⟩ : S47)] : List (S47))) (inner := [.string (⟨#[103]⟩ : ByteArray), .int .i64 2, .string (⟨#[88]⟩ : ByteArray), .int .i64 0, .string (⟨#[89]⟩ : ByteArray), .int .i64 0]) (ok := fun _ => True) (okp := fun _ => True) ?hr ?hp (fun _ hk => hk) trivial (Below.refl _ _) (Nat.le_refl _) (by simp) ?_; (case hd => rfl); (case hg => rfl); (case hr => first | (go_simp; done) | (go_simp; rfl)); (case hp => exact (Reps.c2 (show Kd.M k47 _ _ _ (⟨(⟨#[103]⟩ : ByteArray), 2⟩ : S47) [.string (⟨#[103]⟩ : ByteArray), .int .i64 2] from (k47_mkM _ _ _ (⟨(⟨#[103]⟩ : ByteArray), 2⟩ : S47) )) (Reps.c2 (show Kd.M k47 _ _ _ (⟨(⟨#[88]⟩ : ByteArray), 0⟩ : S47) [.string (⟨#[88]⟩ : ByteArray), .int .i64 0] from (k47_mkM _ _ _ (⟨(⟨#[88]⟩ : ByteArray), 0⟩ : S47) )) (Reps.c2 (show Kd.M k47 _ _ _ (⟨(⟨#[89]⟩ : ByteArray), 0⟩ : S47) [.string (⟨#[89]⟩ : ByteArray), .int .i64 0] from (k47_mkM _ _ _ (⟨(⟨#[89]⟩ : ByteArray), 0⟩ : S47) )) (Reps.none _ _))))); intro v102 w24 ho25 hb hg_ hnew_; clear hg_ hnew_; (first | rw [← Ny101.out] at ho25 | (simp only [Int.reduceToNat] at ho25; rw [← Ny101.out] at ho25)); have n0_ := Aside0.mk (Kd.R_lower ho25 (below_size (by repeat (first | (with_reducible first | exact HB.out | apply below_alloc | apply pw_below_drewN | apply below_drew1) | exact HB.out)))); have n1_ := Aside0.mk (below_step (by repeat (first | (with_reducible first | exact HB.out | apply below_alloc | apply pw_below_drewN | apply below_drew1) | exact HB.out)) hb); clear HB; have HO103 := n0_; have HB := n1_; clear n0_ n1_; clear hb ho25) | ((with_reducible refine gate_dst (N := 15) rfl ?_); (try (refine gate_guard (by rfl) ?_; dsimp only)); refine Kd.R_lit k47 _ 47 ?hg (N := 15) ?hd (xs := ([(⟨(⟨#[103]⟩ : ByteArray), 2⟩ : S47), (⟨(⟨#[97]⟩ : ByteArray), 0⟩ : S47), (⟨(⟨#[98]⟩ : ByteArray), 0⟩ : S47)] : List (S47))) (inner := [.string (⟨#[103]⟩ : ByteArray), .int .i64 2, .string (⟨#[97]⟩ : ByteArray), .int .i64 0, .string (⟨#[98]⟩ : ByteArray), .int .i64 0]) (ok := fun _ => True) (okp := fun _ => True) ?hr ?hp (fun _ hk => hk) trivial (Below.refl _ _) (Nat.le_refl _) (by simp) ?_; (case hd => rfl); (case hg => rfl); (case hr => first | (go_simp; done) | (go_simp; rfl)); (case hp => exact (Reps.c2 (show Kd.M k47 _ _ _ (⟨(⟨#[103]⟩ : ByteArray), 2⟩ : S47) [.string (⟨#[103]⟩ : ByteArray), .int .i64 2] from (k47_mkM _ _ _ (⟨(⟨#[103]⟩ : ByteArray), 2⟩ : S47) )) (Reps.c2 (show Kd.M k47 _ _ _ (⟨(⟨#[97]⟩ : ByteArray), 0⟩ : S47) [.string (⟨#[97]⟩ : ByteArray), .int .i64 0] from (k47_mkM _ _ _ (⟨(⟨#[97]⟩ : ByteArray), 0⟩ : S47) )) (Reps.c2 (show Kd.M k47 _ _ _ (⟨(⟨#[98]⟩ : ByteArray), 0⟩ : S47) [.string (⟨#[98]⟩ : ByteArray), .int .i64 0] from (k47_mkM _ _ _ (⟨(⟨#[98]⟩ : ByteArray), 0⟩ : S47) )) (Reps.none _ _))))); intro v105 w26 ho27 hb hg_ hnew_; clear hg_ hnew_; (first | rw [← Ny104.out] at ho27 | (simp only [Int.reduceToNat] at ho27; rw [← Ny104.out] at ho27)); have n0_ := Aside0.mk (Kd.R_elder' (by (with_reducible repeat (first | apply Kd.R_alloc | apply Kd.R_drewN | apply Kd.R_drew)); exact HO103.out) (Kd.R_base ho27) hb); have n1_ := Aside0.mk (Kd.R_lower (Kd.R_new' ho27 (Kd.R_lt (by (with_reducible repeat (first | apply Kd.R_alloc | apply Kd.R_drewN | apply Kd.R_drew)); exact HO103.out))) (below_size (by repeat (first | (with_reducible first | exact HB.out | apply below_alloc | apply pw_below_drewN | apply below_drew1) | exact HB.out)))); have n2_ := Aside0.mk (below_step (by repeat (first | (with_reducible first | exact HB.out | apply below_alloc | apply pw_below_drewN | apply below_drew1) | exact HB.out)) hb); clear HO103; clear HB; have HO103 := n0_; have HO106 := n1_; have HB := n2_; clear n0_ n1_ n2_; clear hb ho27; obtain ⟨Ao28, co28, eo28⟩ := Kd.R_slice HO103.out; subst eo28; obtain ⟨Ao29, co29, eo29⟩ := Kd.R_slice HO106.out; subst eo29) | ((with_reducible refine gate_callee (f := 10) rfl ?_); refine goesL_ (some 19) rfl rfl Try.func10 (by kernel_rfl) rfl #[.slice Ao28 y101.length co28, .slice Ao29 y104.length co29] rfl (by (try simp only [List.map_toArray, List.map_cons, List.map_nil]); first | done | rfl | (simp only [List.length_drop, List.length_take]; rfl)) ?_; (with_reducible refine (match_Match.calls k _ _ y101 _ _ y104 t107 true t109 _ ?side1 ?side2 ?side3 ?side4 A1.out).mono ?_); (case side1 => repeat (first | exact (Kd.R_reads' HO103.out).2.2 | (with_reducible refine Kd.C_alloc ?_ _) | (with_reducible refine Kd.C_drewN ?_ _) | (with_reducible refine Kd.C_drew ?_))); (case side2 => exact (Kd.R_reads' HO103.out).2.1); (case side3 => repeat (first | exact (Kd.R_reads' HO106.out).2.2 | (with_reducible refine Kd.C_alloc ?_ _) | (with_reducible refine Kd.C_drewN ?_ _) | (with_reducible refine Kd.C_drew ?_))); (case side4 => exact (Kd.R_reads' HO106.out).2.1); rintro e w30 ⟨v110, rfl, ho0, hb⟩; refine ⟨_, rfl, ?_⟩; have n0_ := Aside0.mk (Kd.R_below (by (with_reducible repeat (first | apply Kd.R_alloc | apply Kd.R_drewN | apply Kd.R_drew)); exact HO103.out) hb); have n1_ := Aside0.mk (Kd.R_below (by (with_reducible repeat (first | apply Kd.R_alloc | apply Kd.R_drewN | apply Kd.R_drew)); exact HO106.out) hb); have n2_ := Aside0.mk (Kd.S_lower (Kd.S_new' (Kd.S_new' ho0 (Kd.R_lt (by (with_reducible repeat (first | apply Kd.R_alloc | apply Kd.R_drewN | apply Kd.R_drew)); exact HO103.out))) (Kd.R_lt (by (with_reducible repeat (first | apply Kd.R_alloc | apply Kd.R_drewN | apply Kd.R_drew)); exact HO106.out))) (below_size (by repeat (first | (with_reducible first | exact HB.out | apply below_alloc | apply pw_below_drewN | apply below_drew1) | exact HB.out)))); have n3_ := Aside0.mk (below_step (by repeat (first | (with_reducible first | exact HB.out | apply below_alloc | apply pw_below_drewN | apply below_drew1) | exact HB.out)) hb); clear HO103; clear HO106; clear HB; have HO103 := n0_; have HO106 := n1_; have HO111 := n2_; have HB := n3_; clear n0_ n1_ n2_ n3_; (try clear hb); (try clear hb2); (try clear hk); (try clear hi); (try clear ho0)) | ((with_reducible refine gate_dst (N := 25) rfl ?_); (try (refine gate_guard (by rfl) ?_; dsimp only)); refine Kd.R_lit k47 _ 47 ?hg (N := 25) ?hd (xs := ([(⟨(⟨#[89]⟩ : ByteArray), 0⟩ : S47)] : List (S47))) (inner := [.string (⟨#[89]⟩ : ByteArray), .int .i64 0]) (ok := fun _ => True) (okp := fun _ => True) ?hr ?hp (fun _ hk => hk) trivial (Below.refl _ _) (Nat.le_refl _) (by simp) ?_; (case hd => rfl); (case hg => rfl); (case hr => first | (go_simp; done) | (go_simp; rfl)); (case hp => exact (Reps.c2 (show Kd.M k47 _ _ _ (⟨(⟨#[89]⟩ : ByteArray), 0⟩ : S47) [.string (⟨#[89]⟩ : ByteArray), .int .i64 0] from (k47_mkM _ _ _ (⟨(⟨#[89]⟩ : ByteArray), 0⟩ : S47) )) (Reps.none _ _))); intro v113 w31 ho32 hb hg_ hnew_; clear hg_ hnew_; (first | rw [← Ny112.out] at ho32 | (simp only [Int.reduceToNat] at ho32; rw [← Ny112.out] at ho32)); have n0_ := Aside0.mk (Kd.R_elder' (by (with_reducible repeat (first | apply Kd.R_alloc | apply Kd.R_drewN | apply Kd.R_drew)); exact HO103.out) (Kd.R_base ho32) hb); have n1_ := Aside0.mk (Kd.R_elder' (by (with_reducible repeat (first | apply Kd.R_alloc | apply Kd.R_drewN | apply Kd.R_drew)); exact HO106.out) (Kd.R_base ho32) hb); have n2_ := Aside0.mk (Kd.S_elder' (by (with_reducible repeat (first | apply Kd.S_alloc | apply Kd.S_drewN | apply Kd.S_drew)); exact HO111.out) (Kd.R_base ho32) hb); have n3_ := Aside0.mk (Kd.R_lower (Kd.R_new' (Kd.R_new' ho32 (Kd.R_lt (by (with_reducible repeat (first | apply Kd.R_alloc | apply Kd.R_drewN | apply Kd.R_drew)); exact HO103.out))) (Kd.R_lt (by (with_reducible repeat (first | apply Kd.R_alloc | apply Kd.R_drewN | apply Kd.R_drew)); exact HO106.out))) (below_size (by repeat (first | (with_reducible first | exact HB.out | apply below_alloc | apply pw_below_drewN | apply below_drew1) | exact HB.out)))); have n4_ := Aside0.mk (below_step (by repeat (first | (with_reducible first | exact HB.out | apply below_alloc | apply pw_below_drewN | apply below_drew1) | exact HB.out)) hb); clear HO103; clear HO106; clear HO111; clear HB; have HO103 := n0_; have HO106 := n1_; have HO111 := n2_; have HO114 := n3_; have HB := n4_; clear n0_ n1_ n2_ n3_ n4_; clear hb ho32; obtain ⟨Ao33, co33, eo33⟩ := Kd.R_slice HO114.out; subst eo33; obtain ⟨Ao34, co34, eo34⟩ := Kd.S_slice HO111.out; subst eo34) | ((with_reducible refine gate_callee (f := 14) rfl ?_); refine goesL_ (some 27) rfl rfl Try.func14 (by kernel_rfl) rfl #[.slice Ao33 y112.length co33, .slice Ao34 t107.length co34] rfl (by (try simp only [List.map_toArray, List.map_cons, List.map_nil]); first | done | rfl | (simp only [List.length_drop, List.length_take]; rfl)) ?_; (with_reducible refine (match_Fill.calls k _ _ y112 _ _ t107 t115 t116 _ ?side1 ?side2 ?side3 ?side4 A2.out).mono ?_); (case side1 => repeat (first | exact (Kd.R_reads' HO114.out).2.2 | (with_reducible refine Kd.C_alloc ?_ _) | (with_reducible refine Kd.C_drewN ?_ _) | (with_reducible refine Kd.C_drew ?_))); (case side2 => exact (Kd.R_reads' HO114.out).2.1); (case side3 => repeat (first | exact (Kd.S_reads' HO111.out).2.2 | (with_reducible refine Kd.C_alloc ?_ _) | (with_reducible refine Kd.C_drewN ?_ _) | (with_reducible refine Kd.C_drew ?_))); (case side4 => exact (Kd.S_reads' HO111.out).2.1); rintro e w35 ⟨v117, rfl, ho0, hb⟩; refine ⟨_, rfl, ?_⟩; have n0_ := Aside0.mk (Kd.R_elder' (by (with_reducible repeat (first | apply Kd.R_alloc | apply Kd.R_drewN | apply Kd.R_drew)); exact HO103.out) (Kd.R_base ho0) hb); have n1_ := Aside0.mk (Kd.R_elder' (by (with_reducible repeat (first | apply Kd.R_alloc | apply Kd.R_drewN | apply Kd.R_drew)); exact HO106.out) (Kd.R_base ho0) hb); have n2_ := Aside0.mk (Kd.S_elder' (by (with_reducible repeat (first | apply Kd.S_alloc | apply Kd.S_drewN | apply Kd.S_drew)); exact HO111.out) (Kd.R_base ho0) hb); have n3_ := Aside0.mk (Kd.R_elder' (by (with_reducible repeat (first | apply Kd.R_alloc | apply Kd.R_drewN | apply Kd.R_drew)); exact HO114.out) (Kd.R_base ho0) hb); have n4_ := Aside0.mk (Kd.R_lower (Kd.R_new' (Kd.R_new' (Kd.R_new' ho0 (Kd.R_lt (by (with_reducible repeat (first | apply Kd.R_alloc | apply Kd.R_drewN | apply Kd.R_drew)); exact HO103.out))) (Kd.R_lt (by (with_reducible repeat (first | apply Kd.R_alloc | apply Kd.R_drewN | apply Kd.R_drew)); exact HO106.out))) (Kd.R_lt (by (with_reducible repeat (first | apply Kd.R_alloc | apply Kd.R_drewN | apply Kd.R_drew)); exact HO114.out))) (below_size (by repeat (first | (with_reducible first | exact HB.out | apply below_alloc | apply pw_below_drewN | apply below_drew1) | exact HB.out)))); have n5_ := Aside0.mk (below_step (by repeat (first | (with_reducible first | exact HB.out | apply below_alloc | apply pw_below_drewN | apply below_drew1) | exact HB.out)) hb); clear HO103; clear HO106; clear HO111; clear HO114; clear HB; have HO103 := n0_; have HO106 := n1_; have HO111 := n2_; have HO114 := n3_; have HO118 := n4_; have HB := n5_; clear n0_ n1_ n2_ n3_ n4_ n5_; (try clear hb); (try clear hb2); (try clear hk); (try clear hi); (try clear ho0); have p119 : 0 ≤ (0 : Int) := (by omega); have q119 : 0 < (t107.length : Int) := of_decide_eq_true (by first | (with_reducible assumption) | assumption); obtain ⟨ad119, A119_1, c119_1, e119, hx119_0, hx119_1, hl119_1, hi119_1⟩ := at_T44 (Kd.S_reads' HO111.out).2.2 0 p119 q119; cases e119; obtain ⟨ce119, hce119, hMe119, hcc119⟩ := Kd.S_get HO111.out z44 0 p119 (by first | exact q119 | exact of_decide_eq_true (by first | (with_reducible assumption) | assumption) | (have e_ := (Kd.S_reads' HO111.out).1; omega)); obtain ⟨ve119_1, rfl, ge119_1⟩ := k44_openM hMe119; have hv119_1 := hcc119 1 _ rfl; rw [add_field _ _ 1 (by omega)] at hv119_1; replace hv119_1 := Option.some.inj (hv119_1.symm.trans hx119_1); rw [hv119_1] at ge119_1; have HL119_1 := Aside0.mk (show Kd.R k47 47 _ _ _ _ ((rd_T44 t107 0).f1) from ge119_1); clear hv119_1 ge119_1; clear hcc119 hce119; have qi119 : (0 < t107.length) = True := eq_true (by omega); (try rw [show ((0 : Int)).toNat = 0 from rfl] at hx119_0); (try rw [show 0 * 2 = 0 from rfl] at hx119_0); (try rw [Addr.add_zero'] at hx119_0); (try rw [show ((0 : Int)).toNat = 0 from rfl] at hx119_1); (try rw [show 0 * 2 = 0 from rfl] at hx119_1); (try rw [Addr.add_zero'] at hx119_1); have HR119_1 := Aside0.mk hi119_1; have HC119_1 := Aside0.mk hl119_1; clear hi119_1 hl119_1; replace p119 := eq_true p119; replace q119 := eq_true q119; obtain ⟨Ao36, co36, eo36⟩ := Kd.R_slice HO118.out; subst eo36))
                go_ret
                exact ⟨by first | rfl | (simp [errW_none, errW_some] <;> rfl) | (simp [*, errW_none, errW_some] <;> rfl), by repeat (first | (with_reducible first | exact HB.out | apply below_alloc | apply pw_below_drewN | apply below_drew1) | exact HB.out)⟩
            · rw [if_neg c8] at H
              have c8b0 : (((rd_T44 t107 0).f0).toList == ([88] : List UInt8)) = false := beq_eq_false_iff_ne.mpr c8
              have c8b1 : (((rd_T44 t107 0).f0).toList != ([88] : List UInt8)) = true := bne_iff_ne.mpr c8
              obtain rfl := Option.some.inj H
              go_enter Try.func9, Try.ntmps9
              go_wp2_with (first | ((with_reducible refine gate_dst (N := 11) rfl ?_); (try (refine gate_guard (by rfl) ?_; dsimp only)); refine Kd.R_lit k47 _ 47 ?hg (N := 11) ?hd (xs := ([(⟨(⟨#[103]⟩ : ByteArray), 2⟩ : S47), (⟨(⟨#[88]⟩ : ByteArray), 0⟩ : S47), (⟨(⟨#[89]⟩ : ByteArray), 0⟩ : S47)] : List (S47))) (inner := [.string (⟨#[103]⟩ : ByteArray), .int .i64 2, .string (⟨#[88]⟩ : ByteArray), .int .i64 0, .string (⟨#[89]⟩ : ByteArray), .int .i64 0]) (ok := fun _ => True) (okp := fun _ => True) ?hr ?hp (fun _ hk => hk) trivial (Below.refl _ _) (Nat.le_refl _) (by simp) ?_; (case hd => rfl); (case hg => rfl); (case hr => first | (go_simp; done) | (go_simp; rfl)); (case hp => exact (Reps.c2 (show Kd.M k47 _ _ _ (⟨(⟨#[103]⟩ : ByteArray), 2⟩ : S47) [.string (⟨#[103]⟩ : ByteArray), .int .i64 2] from (k47_mkM _ _ _ (⟨(⟨#[103]⟩ : ByteArray), 2⟩ : S47) )) (Reps.c2 (show Kd.M k47 _ _ _ (⟨(⟨#[88]⟩ : ByteArray), 0⟩ : S47) [.string (⟨#[88]⟩ : ByteArray), .int .i64 0] from (k47_mkM _ _ _ (⟨(⟨#[88]⟩ : ByteArray), 0⟩ : S47) )) (Reps.c2 (show Kd.M k47 _ _ _ (⟨(⟨#[89]⟩ : ByteArray), 0⟩ : S47) [.string (⟨#[89]⟩ : ByteArray), .int .i64 0] from (k47_mkM _ _ _ (⟨(⟨#[89]⟩ : ByteArray), 0⟩ : S47) )) (Reps.none _ _))))); intro v102 w37 ho38 hb hg_ hnew_; clear hg_ hnew_; (first | rw [← Ny101.out] at ho38 | (simp only [Int.reduceToNat] at ho38; rw [← Ny101.out] at ho38)); have n0_ := Aside0.mk (Kd.R_lower ho38 (below_size (by repeat (first | (with_reducible first | exact HB.out | apply below_alloc | apply pw_below_drewN | apply below_drew1) | exact HB.out)))); have n1_ := Aside0.mk (below_step (by repeat (first | (with_reducible first | exact HB.out | apply below_alloc | apply pw_below_drewN | apply below_drew1) | exact HB.out)) hb); clear HB; have HO103 := n0_; have HB := n1_; clear n0_ n1_; clear hb ho38) | ((with_reducible refine gate_dst (N := 15) rfl ?_); (try (refine gate_guard (by rfl) ?_; dsimp only)); refine Kd.R_lit k47 _ 47 ?hg (N := 15) ?hd (xs := ([(⟨(⟨#[103]⟩ : ByteArray), 2⟩ : S47), (⟨(⟨#[97]⟩ : ByteArray), 0⟩ : S47), (⟨(⟨#[98]⟩ : ByteArray), 0⟩ : S47)] : List (S47))) (inner := [.string (⟨#[103]⟩ : ByteArray), .int .i64 2, .string (⟨#[97]⟩ : ByteArray), .int .i64 0, .string (⟨#[98]⟩ : ByteArray), .int .i64 0]) (ok := fun _ => True) (okp := fun _ => True) ?hr ?hp (fun _ hk => hk) trivial (Below.refl _ _) (Nat.le_refl _) (by simp) ?_; (case hd => rfl); (case hg => rfl); (case hr => first | (go_simp; done) | (go_simp; rfl)); (case hp => exact (Reps.c2 (show Kd.M k47 _ _ _ (⟨(⟨#[103]⟩ : ByteArray), 2⟩ : S47) [.string (⟨#[103]⟩ : ByteArray), .int .i64 2] from (k47_mkM _ _ _ (⟨(⟨#[103]⟩ : ByteArray), 2⟩ : S47) )) (Reps.c2 (show Kd.M k47 _ _ _ (⟨(⟨#[97]⟩ : ByteArray), 0⟩ : S47) [.string (⟨#[97]⟩ : ByteArray), .int .i64 0] from (k47_mkM _ _ _ (⟨(⟨#[97]⟩ : ByteArray), 0⟩ : S47) )) (Reps.c2 (show Kd.M k47 _ _ _ (⟨(⟨#[98]⟩ : ByteArray), 0⟩ : S47) [.string (⟨#[98]⟩ : ByteArray), .int .i64 0] from (k47_mkM _ _ _ (⟨(⟨#[98]⟩ : ByteArray), 0⟩ : S47) )) (Reps.none _ _))))); intro v105 w39 ho40 hb hg_ hnew_; clear hg_ hnew_; (first | rw [← Ny104.out] at ho40 | (simp only [Int.reduceToNat] at ho40; rw [← Ny104.out] at ho40)); have n0_ := Aside0.mk (Kd.R_elder' (by (with_reducible repeat (first | apply Kd.R_alloc | apply Kd.R_drewN | apply Kd.R_drew)); exact HO103.out) (Kd.R_base ho40) hb); have n1_ := Aside0.mk (Kd.R_lower (Kd.R_new' ho40 (Kd.R_lt (by (with_reducible repeat (first | apply Kd.R_alloc | apply Kd.R_drewN | apply Kd.R_drew)); exact HO103.out))) (below_size (by repeat (first | (with_reducible first | exact HB.out | apply below_alloc | apply pw_below_drewN | apply below_drew1) | exact HB.out)))); have n2_ := Aside0.mk (below_step (by repeat (first | (with_reducible first | exact HB.out | apply below_alloc | apply pw_below_drewN | apply below_drew1) | exact HB.out)) hb); clear HO103; clear HB; have HO103 := n0_; have HO106 := n1_; have HB := n2_; clear n0_ n1_ n2_; clear hb ho40; obtain ⟨Ao41, co41, eo41⟩ := Kd.R_slice HO103.out; subst eo41; obtain ⟨Ao42, co42, eo42⟩ := Kd.R_slice HO106.out; subst eo42) | ((with_reducible refine gate_callee (f := 10) rfl ?_); refine goesL_ (some 19) rfl rfl Try.func10 (by kernel_rfl) rfl #[.slice Ao41 y101.length co41, .slice Ao42 y104.length co42] rfl (by (try simp only [List.map_toArray, List.map_cons, List.map_nil]); first | done | rfl | (simp only [List.length_drop, List.length_take]; rfl)) ?_; (with_reducible refine (match_Match.calls k _ _ y101 _ _ y104 t107 true t109 _ ?side1 ?side2 ?side3 ?side4 A1.out).mono ?_); (case side1 => repeat (first | exact (Kd.R_reads' HO103.out).2.2 | (with_reducible refine Kd.C_alloc ?_ _) | (with_reducible refine Kd.C_drewN ?_ _) | (with_reducible refine Kd.C_drew ?_))); (case side2 => exact (Kd.R_reads' HO103.out).2.1); (case side3 => repeat (first | exact (Kd.R_reads' HO106.out).2.2 | (with_reducible refine Kd.C_alloc ?_ _) | (with_reducible refine Kd.C_drewN ?_ _) | (with_reducible refine Kd.C_drew ?_))); (case side4 => exact (Kd.R_reads' HO106.out).2.1); rintro e w43 ⟨v110, rfl, ho0, hb⟩; refine ⟨_, rfl, ?_⟩; have n0_ := Aside0.mk (Kd.R_below (by (with_reducible repeat (first | apply Kd.R_alloc | apply Kd.R_drewN | apply Kd.R_drew)); exact HO103.out) hb); have n1_ := Aside0.mk (Kd.R_below (by (with_reducible repeat (first | apply Kd.R_alloc | apply Kd.R_drewN | apply Kd.R_drew)); exact HO106.out) hb); have n2_ := Aside0.mk (Kd.S_lower (Kd.S_new' (Kd.S_new' ho0 (Kd.R_lt (by (with_reducible repeat (first | apply Kd.R_alloc | apply Kd.R_drewN | apply Kd.R_drew)); exact HO103.out))) (Kd.R_lt (by (with_reducible repeat (first | apply Kd.R_alloc | apply Kd.R_drewN | apply Kd.R_drew)); exact HO106.out))) (below_size (by repeat (first | (with_reducible first | exact HB.out | apply below_alloc | apply pw_below_drewN | apply below_drew1) | exact HB.out)))); have n3_ := Aside0.mk (below_step (by repeat (first | (with_reducible first | exact HB.out | apply below_alloc | apply pw_below_drewN | apply below_drew1) | exact HB.out)) hb); clear HO103; clear HO106; clear HB; have HO103 := n0_; have HO106 := n1_; have HO111 := n2_; have HB := n3_; clear n0_ n1_ n2_ n3_; (try clear hb); (try clear hb2); (try clear hk); (try clear hi); (try clear ho0)) | ((with_reducible refine gate_dst (N := 25) rfl ?_); (try (refine gate_guard (by rfl) ?_; dsimp only)); refine Kd.R_lit k47 _ 47 ?hg (N := 25) ?hd (xs := ([(⟨(⟨#[89]⟩ : ByteArray), 0⟩ : S47)] : List (S47))) (inner := [.string (⟨#[89]⟩ : ByteArray), .int .i64 0]) (ok := fun _ => True) (okp := fun _ => True) ?hr ?hp (fun _ hk => hk) trivial (Below.refl _ _) (Nat.le_refl _) (by simp) ?_; (case hd => rfl); (case hg => rfl); (case hr => first | (go_simp; done) | (go_simp; rfl)); (case hp => exact (Reps.c2 (show Kd.M k47 _ _ _ (⟨(⟨#[89]⟩ : ByteArray), 0⟩ : S47) [.string (⟨#[89]⟩ : ByteArray), .int .i64 0] from (k47_mkM _ _ _ (⟨(⟨#[89]⟩ : ByteArray), 0⟩ : S47) )) (Reps.none _ _))); intro v113 w44 ho45 hb hg_ hnew_; clear hg_ hnew_; (first | rw [← Ny112.out] at ho45 | (simp only [Int.reduceToNat] at ho45; rw [← Ny112.out] at ho45)); have n0_ := Aside0.mk (Kd.R_elder' (by (with_reducible repeat (first | apply Kd.R_alloc | apply Kd.R_drewN | apply Kd.R_drew)); exact HO103.out) (Kd.R_base ho45) hb); have n1_ := Aside0.mk (Kd.R_elder' (by (with_reducible repeat (first | apply Kd.R_alloc | apply Kd.R_drewN | apply Kd.R_drew)); exact HO106.out) (Kd.R_base ho45) hb); have n2_ := Aside0.mk (Kd.S_elder' (by (with_reducible repeat (first | apply Kd.S_alloc | apply Kd.S_drewN | apply Kd.S_drew)); exact HO111.out) (Kd.R_base ho45) hb); have n3_ := Aside0.mk (Kd.R_lower (Kd.R_new' (Kd.R_new' ho45 (Kd.R_lt (by (with_reducible repeat (first | apply Kd.R_alloc | apply Kd.R_drewN | apply Kd.R_drew)); exact HO103.out))) (Kd.R_lt (by (with_reducible repeat (first | apply Kd.R_alloc | apply Kd.R_drewN | apply Kd.R_drew)); exact HO106.out))) (below_size (by repeat (first | (with_reducible first | exact HB.out | apply below_alloc | apply pw_below_drewN | apply below_drew1) | exact HB.out)))); have n4_ := Aside0.mk (below_step (by repeat (first | (with_reducible first | exact HB.out | apply below_alloc | apply pw_below_drewN | apply below_drew1) | exact HB.out)) hb); clear HO103; clear HO106; clear HO111; clear HB; have HO103 := n0_; have HO106 := n1_; have HO111 := n2_; have HO114 := n3_; have HB := n4_; clear n0_ n1_ n2_ n3_ n4_; clear hb ho45; obtain ⟨Ao46, co46, eo46⟩ := Kd.R_slice HO114.out; subst eo46; obtain ⟨Ao47, co47, eo47⟩ := Kd.S_slice HO111.out; subst eo47) | ((with_reducible refine gate_callee (f := 14) rfl ?_); refine goesL_ (some 27) rfl rfl Try.func14 (by kernel_rfl) rfl #[.slice Ao46 y112.length co46, .slice Ao47 t107.length co47] rfl (by (try simp only [List.map_toArray, List.map_cons, List.map_nil]); first | done | rfl | (simp only [List.length_drop, List.length_take]; rfl)) ?_; (with_reducible refine (match_Fill.calls k _ _ y112 _ _ t107 t115 t116 _ ?side1 ?side2 ?side3 ?side4 A2.out).mono ?_); (case side1 => repeat (first | exact (Kd.R_reads' HO114.out).2.2 | (with_reducible refine Kd.C_alloc ?_ _) | (with_reducible refine Kd.C_drewN ?_ _) | (with_reducible refine Kd.C_drew ?_))); (case side2 => exact (Kd.R_reads' HO114.out).2.1); (case side3 => repeat (first | exact (Kd.S_reads' HO111.out).2.2 | (with_reducible refine Kd.C_alloc ?_ _) | (with_reducible refine Kd.C_drewN ?_ _) | (with_reducible refine Kd.C_drew ?_))); (case side4 => exact (Kd.S_reads' HO111.out).2.1); rintro e w48 ⟨v117, rfl, ho0, hb⟩; refine ⟨_, rfl, ?_⟩; have n0_ := Aside0.mk (Kd.R_elder' (by (with_reducible repeat (first | apply Kd.R_alloc | apply Kd.R_drewN | apply Kd.R_drew)); exact HO103.out) (Kd.R_base ho0) hb); have n1_ := Aside0.mk (Kd.R_elder' (by (with_reducible repeat (first | apply Kd.R_alloc | apply Kd.R_drewN | apply Kd.R_drew)); exact HO106.out) (Kd.R_base ho0) hb); have n2_ := Aside0.mk (Kd.S_elder' (by (with_reducible repeat (first | apply Kd.S_alloc | apply Kd.S_drewN | apply Kd.S_drew)); exact HO111.out) (Kd.R_base ho0) hb); have n3_ := Aside0.mk (Kd.R_elder' (by (with_reducible repeat (first | apply Kd.R_alloc | apply Kd.R_drewN | apply Kd.R_drew)); exact HO114.out) (Kd.R_base ho0) hb); have n4_ := Aside0.mk (Kd.R_lower (Kd.R_new' (Kd.R_new' (Kd.R_new' ho0 (Kd.R_lt (by (with_reducible repeat (first | apply Kd.R_alloc | apply Kd.R_drewN | apply Kd.R_drew)); exact HO103.out))) (Kd.R_lt (by (with_reducible repeat (first | apply Kd.R_alloc | apply Kd.R_drewN | apply Kd.R_drew)); exact HO106.out))) (Kd.R_lt (by (with_reducible repeat (first | apply Kd.R_alloc | apply Kd.R_drewN | apply Kd.R_drew)); exact HO114.out))) (below_size (by repeat (first | (with_reducible first | exact HB.out | apply below_alloc | apply pw_below_drewN | apply below_drew1) | exact HB.out)))); have n5_ := Aside0.mk (below_step (by repeat (first | (with_reducible first | exact HB.out | apply below_alloc | apply pw_below_drewN | apply below_drew1) | exact HB.out)) hb); clear HO103; clear HO106; clear HO111; clear HO114; clear HB; have HO103 := n0_; have HO106 := n1_; have HO111 := n2_; have HO114 := n3_; have HO118 := n4_; have HB := n5_; clear n0_ n1_ n2_ n3_ n4_ n5_; (try clear hb); (try clear hb2); (try clear hk); (try clear hi); (try clear ho0); have p119 : 0 ≤ (0 : Int) := (by omega); have q119 : 0 < (t107.length : Int) := of_decide_eq_true (by first | (with_reducible assumption) | assumption); obtain ⟨ad119, A119_1, c119_1, e119, hx119_0, hx119_1, hl119_1, hi119_1⟩ := at_T44 (Kd.S_reads' HO111.out).2.2 0 p119 q119; cases e119; obtain ⟨ce119, hce119, hMe119, hcc119⟩ := Kd.S_get HO111.out z44 0 p119 (by first | exact q119 | exact of_decide_eq_true (by first | (with_reducible assumption) | assumption) | (have e_ := (Kd.S_reads' HO111.out).1; omega)); obtain ⟨ve119_1, rfl, ge119_1⟩ := k44_openM hMe119; have hv119_1 := hcc119 1 _ rfl; rw [add_field _ _ 1 (by omega)] at hv119_1; replace hv119_1 := Option.some.inj (hv119_1.symm.trans hx119_1); rw [hv119_1] at ge119_1; have HL119_1 := Aside0.mk (show Kd.R k47 47 _ _ _ _ ((rd_T44 t107 0).f1) from ge119_1); clear hv119_1 ge119_1; clear hcc119 hce119; have qi119 : (0 < t107.length) = True := eq_true (by omega); (try rw [show ((0 : Int)).toNat = 0 from rfl] at hx119_0); (try rw [show 0 * 2 = 0 from rfl] at hx119_0); (try rw [Addr.add_zero'] at hx119_0); (try rw [show ((0 : Int)).toNat = 0 from rfl] at hx119_1); (try rw [show 0 * 2 = 0 from rfl] at hx119_1); (try rw [Addr.add_zero'] at hx119_1); have HR119_1 := Aside0.mk hi119_1; have HC119_1 := Aside0.mk hl119_1; clear hi119_1 hl119_1; replace p119 := eq_true p119; replace q119 := eq_true q119))
              go_ret
              exact ⟨by first | rfl | (simp [errW_none, errW_some] <;> rfl) | (simp [*, errW_none, errW_some] <;> rfl), by repeat (first | (with_reducible first | exact HB.out | apply below_alloc | apply pw_below_drewN | apply below_drew1) | exact HB.out)⟩
          · rw [if_neg c7] at H
            exact absurd H (by simp)
        · rw [if_neg c6] at H
          have c6b0 : ((t107.length : Int) == 2) = false := beq_eq_false_iff_ne.mpr c6
          have c6b1 : ((t107.length : Int) != 2) = true := bne_iff_ne.mpr c6
          obtain rfl := Option.some.inj H
          go_enter Try.func9, Try.ntmps9
          go_wp2_with (first | ((with_reducible refine gate_dst (N := 11) rfl ?_); (try (refine gate_guard (by rfl) ?_; dsimp only)); refine Kd.R_lit k47 _ 47 ?hg (N := 11) ?hd (xs := ([(⟨(⟨#[103]⟩ : ByteArray), 2⟩ : S47), (⟨(⟨#[88]⟩ : ByteArray), 0⟩ : S47), (⟨(⟨#[89]⟩ : ByteArray), 0⟩ : S47)] : List (S47))) (inner := [.string (⟨#[103]⟩ : ByteArray), .int .i64 2, .string (⟨#[88]⟩ : ByteArray), .int .i64 0, .string (⟨#[89]⟩ : ByteArray), .int .i64 0]) (ok := fun _ => True) (okp := fun _ => True) ?hr ?hp (fun _ hk => hk) trivial (Below.refl _ _) (Nat.le_refl _) (by simp) ?_; (case hd => rfl); (case hg => rfl); (case hr => first | (go_simp; done) | (go_simp; rfl)); (case hp => exact (Reps.c2 (show Kd.M k47 _ _ _ (⟨(⟨#[103]⟩ : ByteArray), 2⟩ : S47) [.string (⟨#[103]⟩ : ByteArray), .int .i64 2] from (k47_mkM _ _ _ (⟨(⟨#[103]⟩ : ByteArray), 2⟩ : S47) )) (Reps.c2 (show Kd.M k47 _ _ _ (⟨(⟨#[88]⟩ : ByteArray), 0⟩ : S47) [.string (⟨#[88]⟩ : ByteArray), .int .i64 0] from (k47_mkM _ _ _ (⟨(⟨#[88]⟩ : ByteArray), 0⟩ : S47) )) (Reps.c2 (show Kd.M k47 _ _ _ (⟨(⟨#[89]⟩ : ByteArray), 0⟩ : S47) [.string (⟨#[89]⟩ : ByteArray), .int .i64 0] from (k47_mkM _ _ _ (⟨(⟨#[89]⟩ : ByteArray), 0⟩ : S47) )) (Reps.none _ _))))); intro v102 w49 ho50 hb hg_ hnew_; clear hg_ hnew_; (first | rw [← Ny101.out] at ho50 | (simp only [Int.reduceToNat] at ho50; rw [← Ny101.out] at ho50)); have n0_ := Aside0.mk (Kd.R_lower ho50 (below_size (by repeat (first | (with_reducible first | exact HB.out | apply below_alloc | apply pw_below_drewN | apply below_drew1) | exact HB.out)))); have n1_ := Aside0.mk (below_step (by repeat (first | (with_reducible first | exact HB.out | apply below_alloc | apply pw_below_drewN | apply below_drew1) | exact HB.out)) hb); clear HB; have HO103 := n0_; have HB := n1_; clear n0_ n1_; clear hb ho50) | ((with_reducible refine gate_dst (N := 15) rfl ?_); (try (refine gate_guard (by rfl) ?_; dsimp only)); refine Kd.R_lit k47 _ 47 ?hg (N := 15) ?hd (xs := ([(⟨(⟨#[103]⟩ : ByteArray), 2⟩ : S47), (⟨(⟨#[97]⟩ : ByteArray), 0⟩ : S47), (⟨(⟨#[98]⟩ : ByteArray), 0⟩ : S47)] : List (S47))) (inner := [.string (⟨#[103]⟩ : ByteArray), .int .i64 2, .string (⟨#[97]⟩ : ByteArray), .int .i64 0, .string (⟨#[98]⟩ : ByteArray), .int .i64 0]) (ok := fun _ => True) (okp := fun _ => True) ?hr ?hp (fun _ hk => hk) trivial (Below.refl _ _) (Nat.le_refl _) (by simp) ?_; (case hd => rfl); (case hg => rfl); (case hr => first | (go_simp; done) | (go_simp; rfl)); (case hp => exact (Reps.c2 (show Kd.M k47 _ _ _ (⟨(⟨#[103]⟩ : ByteArray), 2⟩ : S47) [.string (⟨#[103]⟩ : ByteArray), .int .i64 2] from (k47_mkM _ _ _ (⟨(⟨#[103]⟩ : ByteArray), 2⟩ : S47) )) (Reps.c2 (show Kd.M k47 _ _ _ (⟨(⟨#[97]⟩ : ByteArray), 0⟩ : S47) [.string (⟨#[97]⟩ : ByteArray), .int .i64 0] from (k47_mkM _ _ _ (⟨(⟨#[97]⟩ : ByteArray), 0⟩ : S47) )) (Reps.c2 (show Kd.M k47 _ _ _ (⟨(⟨#[98]⟩ : ByteArray), 0⟩ : S47) [.string (⟨#[98]⟩ : ByteArray), .int .i64 0] from (k47_mkM _ _ _ (⟨(⟨#[98]⟩ : ByteArray), 0⟩ : S47) )) (Reps.none _ _))))); intro v105 w51 ho52 hb hg_ hnew_; clear hg_ hnew_; (first | rw [← Ny104.out] at ho52 | (simp only [Int.reduceToNat] at ho52; rw [← Ny104.out] at ho52)); have n0_ := Aside0.mk (Kd.R_elder' (by (with_reducible repeat (first | apply Kd.R_alloc | apply Kd.R_drewN | apply Kd.R_drew)); exact HO103.out) (Kd.R_base ho52) hb); have n1_ := Aside0.mk (Kd.R_lower (Kd.R_new' ho52 (Kd.R_lt (by (with_reducible repeat (first | apply Kd.R_alloc | apply Kd.R_drewN | apply Kd.R_drew)); exact HO103.out))) (below_size (by repeat (first | (with_reducible first | exact HB.out | apply below_alloc | apply pw_below_drewN | apply below_drew1) | exact HB.out)))); have n2_ := Aside0.mk (below_step (by repeat (first | (with_reducible first | exact HB.out | apply below_alloc | apply pw_below_drewN | apply below_drew1) | exact HB.out)) hb); clear HO103; clear HB; have HO103 := n0_; have HO106 := n1_; have HB := n2_; clear n0_ n1_ n2_; clear hb ho52; obtain ⟨Ao53, co53, eo53⟩ := Kd.R_slice HO103.out; subst eo53; obtain ⟨Ao54, co54, eo54⟩ := Kd.R_slice HO106.out; subst eo54) | ((with_reducible refine gate_callee (f := 10) rfl ?_); refine goesL_ (some 19) rfl rfl Try.func10 (by kernel_rfl) rfl #[.slice Ao53 y101.length co53, .slice Ao54 y104.length co54] rfl (by (try simp only [List.map_toArray, List.map_cons, List.map_nil]); first | done | rfl | (simp only [List.length_drop, List.length_take]; rfl)) ?_; (with_reducible refine (match_Match.calls k _ _ y101 _ _ y104 t107 true t109 _ ?side1 ?side2 ?side3 ?side4 A1.out).mono ?_); (case side1 => repeat (first | exact (Kd.R_reads' HO103.out).2.2 | (with_reducible refine Kd.C_alloc ?_ _) | (with_reducible refine Kd.C_drewN ?_ _) | (with_reducible refine Kd.C_drew ?_))); (case side2 => exact (Kd.R_reads' HO103.out).2.1); (case side3 => repeat (first | exact (Kd.R_reads' HO106.out).2.2 | (with_reducible refine Kd.C_alloc ?_ _) | (with_reducible refine Kd.C_drewN ?_ _) | (with_reducible refine Kd.C_drew ?_))); (case side4 => exact (Kd.R_reads' HO106.out).2.1); rintro e w55 ⟨v110, rfl, ho0, hb⟩; refine ⟨_, rfl, ?_⟩; have n0_ := Aside0.mk (Kd.R_below (by (with_reducible repeat (first | apply Kd.R_alloc | apply Kd.R_drewN | apply Kd.R_drew)); exact HO103.out) hb); have n1_ := Aside0.mk (Kd.R_below (by (with_reducible repeat (first | apply Kd.R_alloc | apply Kd.R_drewN | apply Kd.R_drew)); exact HO106.out) hb); have n2_ := Aside0.mk (Kd.S_lower (Kd.S_new' (Kd.S_new' ho0 (Kd.R_lt (by (with_reducible repeat (first | apply Kd.R_alloc | apply Kd.R_drewN | apply Kd.R_drew)); exact HO103.out))) (Kd.R_lt (by (with_reducible repeat (first | apply Kd.R_alloc | apply Kd.R_drewN | apply Kd.R_drew)); exact HO106.out))) (below_size (by repeat (first | (with_reducible first | exact HB.out | apply below_alloc | apply pw_below_drewN | apply below_drew1) | exact HB.out)))); have n3_ := Aside0.mk (below_step (by repeat (first | (with_reducible first | exact HB.out | apply below_alloc | apply pw_below_drewN | apply below_drew1) | exact HB.out)) hb); clear HO103; clear HO106; clear HB; have HO103 := n0_; have HO106 := n1_; have HO111 := n2_; have HB := n3_; clear n0_ n1_ n2_ n3_; (try clear hb); (try clear hb2); (try clear hk); (try clear hi); (try clear ho0)) | ((with_reducible refine gate_dst (N := 25) rfl ?_); (try (refine gate_guard (by rfl) ?_; dsimp only)); refine Kd.R_lit k47 _ 47 ?hg (N := 25) ?hd (xs := ([(⟨(⟨#[89]⟩ : ByteArray), 0⟩ : S47)] : List (S47))) (inner := [.string (⟨#[89]⟩ : ByteArray), .int .i64 0]) (ok := fun _ => True) (okp := fun _ => True) ?hr ?hp (fun _ hk => hk) trivial (Below.refl _ _) (Nat.le_refl _) (by simp) ?_; (case hd => rfl); (case hg => rfl); (case hr => first | (go_simp; done) | (go_simp; rfl)); (case hp => exact (Reps.c2 (show Kd.M k47 _ _ _ (⟨(⟨#[89]⟩ : ByteArray), 0⟩ : S47) [.string (⟨#[89]⟩ : ByteArray), .int .i64 0] from (k47_mkM _ _ _ (⟨(⟨#[89]⟩ : ByteArray), 0⟩ : S47) )) (Reps.none _ _))); intro v113 w56 ho57 hb hg_ hnew_; clear hg_ hnew_; (first | rw [← Ny112.out] at ho57 | (simp only [Int.reduceToNat] at ho57; rw [← Ny112.out] at ho57)); have n0_ := Aside0.mk (Kd.R_elder' (by (with_reducible repeat (first | apply Kd.R_alloc | apply Kd.R_drewN | apply Kd.R_drew)); exact HO103.out) (Kd.R_base ho57) hb); have n1_ := Aside0.mk (Kd.R_elder' (by (with_reducible repeat (first | apply Kd.R_alloc | apply Kd.R_drewN | apply Kd.R_drew)); exact HO106.out) (Kd.R_base ho57) hb); have n2_ := Aside0.mk (Kd.S_elder' (by (with_reducible repeat (first | apply Kd.S_alloc | apply Kd.S_drewN | apply Kd.S_drew)); exact HO111.out) (Kd.R_base ho57) hb); have n3_ := Aside0.mk (Kd.R_lower (Kd.R_new' (Kd.R_new' ho57 (Kd.R_lt (by (with_reducible repeat (first | apply Kd.R_alloc | apply Kd.R_drewN | apply Kd.R_drew)); exact HO103.out))) (Kd.R_lt (by (with_reducible repeat (first | apply Kd.R_alloc | apply Kd.R_drewN | apply Kd.R_drew)); exact HO106.out))) (below_size (by repeat (first | (with_reducible first | exact HB.out | apply below_alloc | apply pw_below_drewN | apply below_drew1) | exact HB.out)))); have n4_ := Aside0.mk (below_step (by repeat (first | (with_reducible first | exact HB.out | apply below_alloc | apply pw_below_drewN | apply below_drew1) | exact HB.out)) hb); clear HO103; clear HO106; clear HO111; clear HB; have HO103 := n0_; have HO106 := n1_; have HO111 := n2_; have HO114 := n3_; have HB := n4_; clear n0_ n1_ n2_ n3_ n4_; clear hb ho57; obtain ⟨Ao58, co58, eo58⟩ := Kd.R_slice HO114.out; subst eo58; obtain ⟨Ao59, co59, eo59⟩ := Kd.S_slice HO111.out; subst eo59) | ((with_reducible refine gate_callee (f := 14) rfl ?_); refine goesL_ (some 27) rfl rfl Try.func14 (by kernel_rfl) rfl #[.slice Ao58 y112.length co58, .slice Ao59 t107.length co59] rfl (by (try simp only [List.map_toArray, List.map_cons, List.map_nil]); first | done | rfl | (simp only [List.length_drop, List.length_take]; rfl)) ?_; (with_reducible refine (match_Fill.calls k _ _ y112 _ _ t107 t115 t116 _ ?side1 ?side2 ?side3 ?side4 A2.out).mono ?_); (case side1 => repeat (first | exact (Kd.R_reads' HO114.out).2.2 | (with_reducible refine Kd.C_alloc ?_ _) | (with_reducible refine Kd.C_drewN ?_ _) | (with_reducible refine Kd.C_drew ?_))); (case side2 => exact (Kd.R_reads' HO114.out).2.1); (case side3 => repeat (first | exact (Kd.S_reads' HO111.out).2.2 | (with_reducible refine Kd.C_alloc ?_ _) | (with_reducible refine Kd.C_drewN ?_ _) | (with_reducible refine Kd.C_drew ?_))); (case side4 => exact (Kd.S_reads' HO111.out).2.1); rintro e w60 ⟨v117, rfl, ho0, hb⟩; refine ⟨_, rfl, ?_⟩; have n0_ := Aside0.mk (Kd.R_elder' (by (with_reducible repeat (first | apply Kd.R_alloc | apply Kd.R_drewN | apply Kd.R_drew)); exact HO103.out) (Kd.R_base ho0) hb); have n1_ := Aside0.mk (Kd.R_elder' (by (with_reducible repeat (first | apply Kd.R_alloc | apply Kd.R_drewN | apply Kd.R_drew)); exact HO106.out) (Kd.R_base ho0) hb); have n2_ := Aside0.mk (Kd.S_elder' (by (with_reducible repeat (first | apply Kd.S_alloc | apply Kd.S_drewN | apply Kd.S_drew)); exact HO111.out) (Kd.R_base ho0) hb); have n3_ := Aside0.mk (Kd.R_elder' (by (with_reducible repeat (first | apply Kd.R_alloc | apply Kd.R_drewN | apply Kd.R_drew)); exact HO114.out) (Kd.R_base ho0) hb); have n4_ := Aside0.mk (Kd.R_lower (Kd.R_new' (Kd.R_new' (Kd.R_new' ho0 (Kd.R_lt (by (with_reducible repeat (first | apply Kd.R_alloc | apply Kd.R_drewN | apply Kd.R_drew)); exact HO103.out))) (Kd.R_lt (by (with_reducible repeat (first | apply Kd.R_alloc | apply Kd.R_drewN | apply Kd.R_drew)); exact HO106.out))) (Kd.R_lt (by (with_reducible repeat (first | apply Kd.R_alloc | apply Kd.R_drewN | apply Kd.R_drew)); exact HO114.out))) (below_size (by repeat (first | (with_reducible first | exact HB.out | apply below_alloc | apply pw_below_drewN | apply below_drew1) | exact HB.out)))); have n5_ := Aside0.mk (below_step (by repeat (first | (with_reducible first | exact HB.out | apply below_alloc | apply pw_below_drewN | apply below_drew1) | exact HB.out)) hb); clear HO103; clear HO106; clear HO111; clear HO114; clear HB; have HO103 := n0_; have HO106 := n1_; have HO111 := n2_; have HO114 := n3_; have HO118 := n4_; have HB := n5_; clear n0_ n1_ n2_ n3_ n4_ n5_; (try clear hb); (try clear hb2); (try clear hk); (try clear hi); (try clear ho0)))
          go_ret
          exact ⟨by first | rfl | (simp [errW_none, errW_some] <;> rfl) | (simp [*, errW_none, errW_some] <;> rfl), by repeat (first | (with_reducible first | exact HB.out | apply below_alloc | apply pw_below_drewN | apply below_drew1) | exact HB.out)⟩
      · rw [if_neg c5] at H
        have c5b0 : (t116 == 0) = false := beq_eq_false_iff_ne.mpr c5
        have c5b1 : (t116 != 0) = true := bne_iff_ne.mpr c5
        obtain rfl := Option.some.inj H
        go_enter Try.func9, Try.ntmps9
        go_wp2_with (first | ((with_reducible refine gate_dst (N := 11) rfl ?_); (try (refine gate_guard (by rfl) ?_; dsimp only)); refine Kd.R_lit k47 _ 47 ?hg (N := 11) ?hd (xs := ([(⟨(⟨#[103]⟩ : ByteArray), 2⟩ : S47), (⟨(⟨#[88]⟩ : ByteArray), 0⟩ : S47), (⟨(⟨#[89]⟩ : ByteArray), 0⟩ : S47)] : List (S47))) (inner := [.string (⟨#[103]⟩ : ByteArray), .int .i64 2, .string (⟨#[88]⟩ : ByteArray), .int .i64 0, .string (⟨#[89]⟩ : ByteArray), .int .i64 0]) (ok := fun _ => True) (okp := fun _ => True) ?hr ?hp (fun _ hk => hk) trivial (Below.refl _ _) (Nat.le_refl _) (by simp) ?_; (case hd => rfl); (case hg => rfl); (case hr => first | (go_simp; done) | (go_simp; rfl)); (case hp => exact (Reps.c2 (show Kd.M k47 _ _ _ (⟨(⟨#[103]⟩ : ByteArray), 2⟩ : S47) [.string (⟨#[103]⟩ : ByteArray), .int .i64 2] from (k47_mkM _ _ _ (⟨(⟨#[103]⟩ : ByteArray), 2⟩ : S47) )) (Reps.c2 (show Kd.M k47 _ _ _ (⟨(⟨#[88]⟩ : ByteArray), 0⟩ : S47) [.string (⟨#[88]⟩ : ByteArray), .int .i64 0] from (k47_mkM _ _ _ (⟨(⟨#[88]⟩ : ByteArray), 0⟩ : S47) )) (Reps.c2 (show Kd.M k47 _ _ _ (⟨(⟨#[89]⟩ : ByteArray), 0⟩ : S47) [.string (⟨#[89]⟩ : ByteArray), .int .i64 0] from (k47_mkM _ _ _ (⟨(⟨#[89]⟩ : ByteArray), 0⟩ : S47) )) (Reps.none _ _))))); intro v102 w61 ho62 hb hg_ hnew_; clear hg_ hnew_; (first | rw [← Ny101.out] at ho62 | (simp only [Int.reduceToNat] at ho62; rw [← Ny101.out] at ho62)); have n0_ := Aside0.mk (Kd.R_lower ho62 (below_size (by repeat (first | (with_reducible first | exact HB.out | apply below_alloc | apply pw_below_drewN | apply below_drew1) | exact HB.out)))); have n1_ := Aside0.mk (below_step (by repeat (first | (with_reducible first | exact HB.out | apply below_alloc | apply pw_below_drewN | apply below_drew1) | exact HB.out)) hb); clear HB; have HO103 := n0_; have HB := n1_; clear n0_ n1_; clear hb ho62) | ((with_reducible refine gate_dst (N := 15) rfl ?_); (try (refine gate_guard (by rfl) ?_; dsimp only)); refine Kd.R_lit k47 _ 47 ?hg (N := 15) ?hd (xs := ([(⟨(⟨#[103]⟩ : ByteArray), 2⟩ : S47), (⟨(⟨#[97]⟩ : ByteArray), 0⟩ : S47), (⟨(⟨#[98]⟩ : ByteArray), 0⟩ : S47)] : List (S47))) (inner := [.string (⟨#[103]⟩ : ByteArray), .int .i64 2, .string (⟨#[97]⟩ : ByteArray), .int .i64 0, .string (⟨#[98]⟩ : ByteArray), .int .i64 0]) (ok := fun _ => True) (okp := fun _ => True) ?hr ?hp (fun _ hk => hk) trivial (Below.refl _ _) (Nat.le_refl _) (by simp) ?_; (case hd => rfl); (case hg => rfl); (case hr => first | (go_simp; done) | (go_simp; rfl)); (case hp => exact (Reps.c2 (show Kd.M k47 _ _ _ (⟨(⟨#[103]⟩ : ByteArray), 2⟩ : S47) [.string (⟨#[103]⟩ : ByteArray), .int .i64 2] from (k47_mkM _ _ _ (⟨(⟨#[103]⟩ : ByteArray), 2⟩ : S47) )) (Reps.c2 (show Kd.M k47 _ _ _ (⟨(⟨#[97]⟩ : ByteArray), 0⟩ : S47) [.string (⟨#[97]⟩ : ByteArray), .int .i64 0] from (k47_mkM _ _ _ (⟨(⟨#[97]⟩ : ByteArray), 0⟩ : S47) )) (Reps.c2 (show Kd.M k47 _ _ _ (⟨(⟨#[98]⟩ : ByteArray), 0⟩ : S47) [.string (⟨#[98]⟩ : ByteArray), .int .i64 0] from (k47_mkM _ _ _ (⟨(⟨#[98]⟩ : ByteArray), 0⟩ : S47) )) (Reps.none _ _))))); intro v105 w63 ho64 hb hg_ hnew_; clear hg_ hnew_; (first | rw [← Ny104.out] at ho64 | (simp only [Int.reduceToNat] at ho64; rw [← Ny104.out] at ho64)); have n0_ := Aside0.mk (Kd.R_elder' (by (with_reducible repeat (first | apply Kd.R_alloc | apply Kd.R_drewN | apply Kd.R_drew)); exact HO103.out) (Kd.R_base ho64) hb); have n1_ := Aside0.mk (Kd.R_lower (Kd.R_new' ho64 (Kd.R_lt (by (with_reducible repeat (first | apply Kd.R_alloc | apply Kd.R_drewN | apply Kd.R_drew)); exact HO103.out))) (below_size (by repeat (first | (with_reducible first | exact HB.out | apply below_alloc | apply pw_below_drewN | apply below_drew1) | exact HB.out)))); have n2_ := Aside0.mk (below_step (by repeat (first | (with_reducible first | exact HB.out | apply below_alloc | apply pw_below_drewN | apply below_drew1) | exact HB.out)) hb); clear HO103; clear HB; have HO103 := n0_; have HO106 := n1_; have HB := n2_; clear n0_ n1_ n2_; clear hb ho64; obtain ⟨Ao65, co65, eo65⟩ := Kd.R_slice HO103.out; subst eo65; obtain ⟨Ao66, co66, eo66⟩ := Kd.R_slice HO106.out; subst eo66) | ((with_reducible refine gate_callee (f := 10) rfl ?_); refine goesL_ (some 19) rfl rfl Try.func10 (by kernel_rfl) rfl #[.slice Ao65 y101.length co65, .slice Ao66 y104.length co66] rfl (by (try simp only [List.map_toArray, List.map_cons, List.map_nil]); first | done | rfl | (simp only [List.length_drop, List.length_take]; rfl)) ?_; (with_reducible refine (match_Match.calls k _ _ y101 _ _ y104 t107 true t109 _ ?side1 ?side2 ?side3 ?side4 A1.out).mono ?_); (case side1 => repeat (first | exact (Kd.R_reads' HO103.out).2.2 | (with_reducible refine Kd.C_alloc ?_ _) | (with_reducible refine Kd.C_drewN ?_ _) | (with_reducible refine Kd.C_drew ?_))); (case side2 => exact (Kd.R_reads' HO103.out).2.1); (case side3 => repeat (first | exact (Kd.R_reads' HO106.out).2.2 | (with_reducible refine Kd.C_alloc ?_ _) | (with_reducible refine Kd.C_drewN ?_ _) | (with_reducible refine Kd.C_drew ?_))); (case side4 => exact (Kd.R_reads' HO106.out).2.1); rintro e w67 ⟨v110, rfl, ho0, hb⟩; refine ⟨_, rfl, ?_⟩; have n0_ := Aside0.mk (Kd.R_below (by (with_reducible repeat (first | apply Kd.R_alloc | apply Kd.R_drewN | apply Kd.R_drew)); exact HO103.out) hb); have n1_ := Aside0.mk (Kd.R_below (by (with_reducible repeat (first | apply Kd.R_alloc | apply Kd.R_drewN | apply Kd.R_drew)); exact HO106.out) hb); have n2_ := Aside0.mk (Kd.S_lower (Kd.S_new' (Kd.S_new' ho0 (Kd.R_lt (by (with_reducible repeat (first | apply Kd.R_alloc | apply Kd.R_drewN | apply Kd.R_drew)); exact HO103.out))) (Kd.R_lt (by (with_reducible repeat (first | apply Kd.R_alloc | apply Kd.R_drewN | apply Kd.R_drew)); exact HO106.out))) (below_size (by repeat (first | (with_reducible first | exact HB.out | apply below_alloc | apply pw_below_drewN | apply below_drew1) | exact HB.out)))); have n3_ := Aside0.mk (below_step (by repeat (first | (with_reducible first | exact HB.out | apply below_alloc | apply pw_below_drewN | apply below_drew1) | exact HB.out)) hb); clear HO103; clear HO106; clear HB; have HO103 := n0_; have HO106 := n1_; have HO111 := n2_; have HB := n3_; clear n0_ n1_ n2_ n3_; (try clear hb); (try clear hb2); (try clear hk); (try clear hi); (try clear ho0)) | ((with_reducible refine gate_dst (N := 25) rfl ?_); (try (refine gate_guard (by rfl) ?_; dsimp only)); refine Kd.R_lit k47 _ 47 ?hg (N := 25) ?hd (xs := ([(⟨(⟨#[89]⟩ : ByteArray), 0⟩ : S47)] : List (S47))) (inner := [.string (⟨#[89]⟩ : ByteArray), .int .i64 0]) (ok := fun _ => True) (okp := fun _ => True) ?hr ?hp (fun _ hk => hk) trivial (Below.refl _ _) (Nat.le_refl _) (by simp) ?_; (case hd => rfl); (case hg => rfl); (case hr => first | (go_simp; done) | (go_simp; rfl)); (case hp => exact (Reps.c2 (show Kd.M k47 _ _ _ (⟨(⟨#[89]⟩ : ByteArray), 0⟩ : S47) [.string (⟨#[89]⟩ : ByteArray), .int .i64 0] from (k47_mkM _ _ _ (⟨(⟨#[89]⟩ : ByteArray), 0⟩ : S47) )) (Reps.none _ _))); intro v113 w68 ho69 hb hg_ hnew_; clear hg_ hnew_; (first | rw [← Ny112.out] at ho69 | (simp only [Int.reduceToNat] at ho69; rw [← Ny112.out] at ho69)); have n0_ := Aside0.mk (Kd.R_elder' (by (with_reducible repeat (first | apply Kd.R_alloc | apply Kd.R_drewN | apply Kd.R_drew)); exact HO103.out) (Kd.R_base ho69) hb); have n1_ := Aside0.mk (Kd.R_elder' (by (with_reducible repeat (first | apply Kd.R_alloc | apply Kd.R_drewN | apply Kd.R_drew)); exact HO106.out) (Kd.R_base ho69) hb); have n2_ := Aside0.mk (Kd.S_elder' (by (with_reducible repeat (first | apply Kd.S_alloc | apply Kd.S_drewN | apply Kd.S_drew)); exact HO111.out) (Kd.R_base ho69) hb); have n3_ := Aside0.mk (Kd.R_lower (Kd.R_new' (Kd.R_new' ho69 (Kd.R_lt (by (with_reducible repeat (first | apply Kd.R_alloc | apply Kd.R_drewN | apply Kd.R_drew)); exact HO103.out))) (Kd.R_lt (by (with_reducible repeat (first | apply Kd.R_alloc | apply Kd.R_drewN | apply Kd.R_drew)); exact HO106.out))) (below_size (by repeat (first | (with_reducible first | exact HB.out | apply below_alloc | apply pw_below_drewN | apply below_drew1) | exact HB.out)))); have n4_ := Aside0.mk (below_step (by repeat (first | (with_reducible first | exact HB.out | apply below_alloc | apply pw_below_drewN | apply below_drew1) | exact HB.out)) hb); clear HO103; clear HO106; clear HO111; clear HB; have HO103 := n0_; have HO106 := n1_; have HO111 := n2_; have HO114 := n3_; have HB := n4_; clear n0_ n1_ n2_ n3_ n4_; clear hb ho69; obtain ⟨Ao70, co70, eo70⟩ := Kd.R_slice HO114.out; subst eo70; obtain ⟨Ao71, co71, eo71⟩ := Kd.S_slice HO111.out; subst eo71) | ((with_reducible refine gate_callee (f := 14) rfl ?_); refine goesL_ (some 27) rfl rfl Try.func14 (by kernel_rfl) rfl #[.slice Ao70 y112.length co70, .slice Ao71 t107.length co71] rfl (by (try simp only [List.map_toArray, List.map_cons, List.map_nil]); first | done | rfl | (simp only [List.length_drop, List.length_take]; rfl)) ?_; (with_reducible refine (match_Fill.calls k _ _ y112 _ _ t107 t115 t116 _ ?side1 ?side2 ?side3 ?side4 A2.out).mono ?_); (case side1 => repeat (first | exact (Kd.R_reads' HO114.out).2.2 | (with_reducible refine Kd.C_alloc ?_ _) | (with_reducible refine Kd.C_drewN ?_ _) | (with_reducible refine Kd.C_drew ?_))); (case side2 => exact (Kd.R_reads' HO114.out).2.1); (case side3 => repeat (first | exact (Kd.S_reads' HO111.out).2.2 | (with_reducible refine Kd.C_alloc ?_ _) | (with_reducible refine Kd.C_drewN ?_ _) | (with_reducible refine Kd.C_drew ?_))); (case side4 => exact (Kd.S_reads' HO111.out).2.1); rintro e w72 ⟨v117, rfl, ho0, hb⟩; refine ⟨_, rfl, ?_⟩; have n0_ := Aside0.mk (Kd.R_elder' (by (with_reducible repeat (first | apply Kd.R_alloc | apply Kd.R_drewN | apply Kd.R_drew)); exact HO103.out) (Kd.R_base ho0) hb); have n1_ := Aside0.mk (Kd.R_elder' (by (with_reducible repeat (first | apply Kd.R_alloc | apply Kd.R_drewN | apply Kd.R_drew)); exact HO106.out) (Kd.R_base ho0) hb); have n2_ := Aside0.mk (Kd.S_elder' (by (with_reducible repeat (first | apply Kd.S_alloc | apply Kd.S_drewN | apply Kd.S_drew)); exact HO111.out) (Kd.R_base ho0) hb); have n3_ := Aside0.mk (Kd.R_elder' (by (with_reducible repeat (first | apply Kd.R_alloc | apply Kd.R_drewN | apply Kd.R_drew)); exact HO114.out) (Kd.R_base ho0) hb); have n4_ := Aside0.mk (Kd.R_lower (Kd.R_new' (Kd.R_new' (Kd.R_new' ho0 (Kd.R_lt (by (with_reducible repeat (first | apply Kd.R_alloc | apply Kd.R_drewN | apply Kd.R_drew)); exact HO103.out))) (Kd.R_lt (by (with_reducible repeat (first | apply Kd.R_alloc | apply Kd.R_drewN | apply Kd.R_drew)); exact HO106.out))) (Kd.R_lt (by (with_reducible repeat (first | apply Kd.R_alloc | apply Kd.R_drewN | apply Kd.R_drew)); exact HO114.out))) (below_size (by repeat (first | (with_reducible first | exact HB.out | apply below_alloc | apply pw_below_drewN | apply below_drew1) | exact HB.out)))); have n5_ := Aside0.mk (below_step (by repeat (first | (with_reducible first | exact HB.out | apply below_alloc | apply pw_below_drewN | apply below_drew1) | exact HB.out)) hb); clear HO103; clear HO106; clear HO111; clear HO114; clear HB; have HO103 := n0_; have HO106 := n1_; have HO111 := n2_; have HO114 := n3_; have HO118 := n4_; have HB := n5_; clear n0_ n1_ n2_ n3_ n4_ n5_; (try clear hb); (try clear hb2); (try clear hk); (try clear hi); (try clear ho0)))
        go_ret
        exact ⟨by first | rfl | (simp [errW_none, errW_some] <;> rfl) | (simp [*, errW_none, errW_some] <;> rfl), by repeat (first | (with_reducible first | exact HB.out | apply below_alloc | apply pw_below_drewN | apply below_drew1) | exact HB.out)⟩
    · rw [if_neg c4] at H
      have c4b0 : (t109 == 0) = false := beq_eq_false_iff_ne.mpr c4
      have c4b1 : (t109 != 0) = true := bne_iff_ne.mpr c4
      obtain rfl := Option.some.inj H
      go_enter Try.func9, Try.ntmps9
      go_wp2_with (first | ((with_reducible refine gate_dst (N := 11) rfl ?_); (try (refine gate_guard (by rfl) ?_; dsimp only)); refine Kd.R_lit k47 _ 47 ?hg (N := 11) ?hd (xs := ([(⟨(⟨#[103]⟩ : ByteArray), 2⟩ : S47), (⟨(⟨#[88]⟩ : ByteArray), 0⟩ : S47), (⟨(⟨#[89]⟩ : ByteArray), 0⟩ : S47)] : List (S47))) (inner := [.string (⟨#[103]⟩ : ByteArray), .int .i64 2, .string (⟨#[88]⟩ : ByteArray), .int .i64 0, .string (⟨#[89]⟩ : ByteArray), .int .i64 0]) (ok := fun _ => True) (okp := fun _ => True) ?hr ?hp (fun _ hk => hk) trivial (Below.refl _ _) (Nat.le_refl _) (by simp) ?_; (case hd => rfl); (case hg => rfl); (case hr => first | (go_simp; done) | (go_simp; rfl)); (case hp => exact (Reps.c2 (show Kd.M k47 _ _ _ (⟨(⟨#[103]⟩ : ByteArray), 2⟩ : S47) [.string (⟨#[103]⟩ : ByteArray), .int .i64 2] from (k47_mkM _ _ _ (⟨(⟨#[103]⟩ : ByteArray), 2⟩ : S47) )) (Reps.c2 (show Kd.M k47 _ _ _ (⟨(⟨#[88]⟩ : ByteArray), 0⟩ : S47) [.string (⟨#[88]⟩ : ByteArray), .int .i64 0] from (k47_mkM _ _ _ (⟨(⟨#[88]⟩ : ByteArray), 0⟩ : S47) )) (Reps.c2 (show Kd.M k47 _ _ _ (⟨(⟨#[89]⟩ : ByteArray), 0⟩ : S47) [.string (⟨#[89]⟩ : ByteArray), .int .i64 0] from (k47_mkM _ _ _ (⟨(⟨#[89]⟩ : ByteArray), 0⟩ : S47) )) (Reps.none _ _))))); intro v102 w73 ho74 hb hg_ hnew_; clear hg_ hnew_; (first | rw [← Ny101.out] at ho74 | (simp only [Int.reduceToNat] at ho74; rw [← Ny101.out] at ho74)); have n0_ := Aside0.mk (Kd.R_lower ho74 (below_size (by repeat (first | (with_reducible first | exact HB.out | apply below_alloc | apply pw_below_drewN | apply below_drew1) | exact HB.out)))); have n1_ := Aside0.mk (below_step (by repeat (first | (with_reducible first | exact HB.out | apply below_alloc | apply pw_below_drewN | apply below_drew1) | exact HB.out)) hb); clear HB; have HO103 := n0_; have HB := n1_; clear n0_ n1_; clear hb ho74) | ((with_reducible refine gate_dst (N := 15) rfl ?_); (try (refine gate_guard (by rfl) ?_; dsimp only)); refine Kd.R_lit k47 _ 47 ?hg (N := 15) ?hd (xs := ([(⟨(⟨#[103]⟩ : ByteArray), 2⟩ : S47), (⟨(⟨#[97]⟩ : ByteArray), 0⟩ : S47), (⟨(⟨#[98]⟩ : ByteArray), 0⟩ : S47)] : List (S47))) (inner := [.string (⟨#[103]⟩ : ByteArray), .int .i64 2, .string (⟨#[97]⟩ : ByteArray), .int .i64 0, .string (⟨#[98]⟩ : ByteArray), .int .i64 0]) (ok := fun _ => True) (okp := fun _ => True) ?hr ?hp (fun _ hk => hk) trivial (Below.refl _ _) (Nat.le_refl _) (by simp) ?_; (case hd => rfl); (case hg => rfl); (case hr => first | (go_simp; done) | (go_simp; rfl)); (case hp => exact (Reps.c2 (show Kd.M k47 _ _ _ (⟨(⟨#[103]⟩ : ByteArray), 2⟩ : S47) [.string (⟨#[103]⟩ : ByteArray), .int .i64 2] from (k47_mkM _ _ _ (⟨(⟨#[103]⟩ : ByteArray), 2⟩ : S47) )) (Reps.c2 (show Kd.M k47 _ _ _ (⟨(⟨#[97]⟩ : ByteArray), 0⟩ : S47) [.string (⟨#[97]⟩ : ByteArray), .int .i64 0] from (k47_mkM _ _ _ (⟨(⟨#[97]⟩ : ByteArray), 0⟩ : S47) )) (Reps.c2 (show Kd.M k47 _ _ _ (⟨(⟨#[98]⟩ : ByteArray), 0⟩ : S47) [.string (⟨#[98]⟩ : ByteArray), .int .i64 0] from (k47_mkM _ _ _ (⟨(⟨#[98]⟩ : ByteArray), 0⟩ : S47) )) (Reps.none _ _))))); intro v105 w75 ho76 hb hg_ hnew_; clear hg_ hnew_; (first | rw [← Ny104.out] at ho76 | (simp only [Int.reduceToNat] at ho76; rw [← Ny104.out] at ho76)); have n0_ := Aside0.mk (Kd.R_elder' (by (with_reducible repeat (first | apply Kd.R_alloc | apply Kd.R_drewN | apply Kd.R_drew)); exact HO103.out) (Kd.R_base ho76) hb); have n1_ := Aside0.mk (Kd.R_lower (Kd.R_new' ho76 (Kd.R_lt (by (with_reducible repeat (first | apply Kd.R_alloc | apply Kd.R_drewN | apply Kd.R_drew)); exact HO103.out))) (below_size (by repeat (first | (with_reducible first | exact HB.out | apply below_alloc | apply pw_below_drewN | apply below_drew1) | exact HB.out)))); have n2_ := Aside0.mk (below_step (by repeat (first | (with_reducible first | exact HB.out | apply below_alloc | apply pw_below_drewN | apply below_drew1) | exact HB.out)) hb); clear HO103; clear HB; have HO103 := n0_; have HO106 := n1_; have HB := n2_; clear n0_ n1_ n2_; clear hb ho76; obtain ⟨Ao77, co77, eo77⟩ := Kd.R_slice HO103.out; subst eo77; obtain ⟨Ao78, co78, eo78⟩ := Kd.R_slice HO106.out; subst eo78) | ((with_reducible refine gate_callee (f := 10) rfl ?_); refine goesL_ (some 19) rfl rfl Try.func10 (by kernel_rfl) rfl #[.slice Ao77 y101.length co77, .slice Ao78 y104.length co78] rfl (by (try simp only [List.map_toArray, List.map_cons, List.map_nil]); first | done | rfl | (simp only [List.length_drop, List.length_take]; rfl)) ?_; (with_reducible refine (match_Match.calls k _ _ y101 _ _ y104 t107 true t109 _ ?side1 ?side2 ?side3 ?side4 A1.out).mono ?_); (case side1 => repeat (first | exact (Kd.R_reads' HO103.out).2.2 | (with_reducible refine Kd.C_alloc ?_ _) | (with_reducible refine Kd.C_drewN ?_ _) | (with_reducible refine Kd.C_drew ?_))); (case side2 => exact (Kd.R_reads' HO103.out).2.1); (case side3 => repeat (first | exact (Kd.R_reads' HO106.out).2.2 | (with_reducible refine Kd.C_alloc ?_ _) | (with_reducible refine Kd.C_drewN ?_ _) | (with_reducible refine Kd.C_drew ?_))); (case side4 => exact (Kd.R_reads' HO106.out).2.1); rintro e w79 ⟨v110, rfl, ho0, hb⟩; refine ⟨_, rfl, ?_⟩; have n0_ := Aside0.mk (Kd.R_below (by (with_reducible repeat (first | apply Kd.R_alloc | apply Kd.R_drewN | apply Kd.R_drew)); exact HO103.out) hb); have n1_ := Aside0.mk (Kd.R_below (by (with_reducible repeat (first | apply Kd.R_alloc | apply Kd.R_drewN | apply Kd.R_drew)); exact HO106.out) hb); have n2_ := Aside0.mk (Kd.S_lower (Kd.S_new' (Kd.S_new' ho0 (Kd.R_lt (by (with_reducible repeat (first | apply Kd.R_alloc | apply Kd.R_drewN | apply Kd.R_drew)); exact HO103.out))) (Kd.R_lt (by (with_reducible repeat (first | apply Kd.R_alloc | apply Kd.R_drewN | apply Kd.R_drew)); exact HO106.out))) (below_size (by repeat (first | (with_reducible first | exact HB.out | apply below_alloc | apply pw_below_drewN | apply below_drew1) | exact HB.out)))); have n3_ := Aside0.mk (below_step (by repeat (first | (with_reducible first | exact HB.out | apply below_alloc | apply pw_below_drewN | apply below_drew1) | exact HB.out)) hb); clear HO103; clear HO106; clear HB; have HO103 := n0_; have HO106 := n1_; have HO111 := n2_; have HB := n3_; clear n0_ n1_ n2_ n3_; (try clear hb); (try clear hb2); (try clear hk); (try clear hi); (try clear ho0)) | ((with_reducible refine gate_dst (N := 25) rfl ?_); (try (refine gate_guard (by rfl) ?_; dsimp only)); refine Kd.R_lit k47 _ 47 ?hg (N := 25) ?hd (xs := ([(⟨(⟨#[89]⟩ : ByteArray), 0⟩ : S47)] : List (S47))) (inner := [.string (⟨#[89]⟩ : ByteArray), .int .i64 0]) (ok := fun _ => True) (okp := fun _ => True) ?hr ?hp (fun _ hk => hk) trivial (Below.refl _ _) (Nat.le_refl _) (by simp) ?_; (case hd => rfl); (case hg => rfl); (case hr => first | (go_simp; done) | (go_simp; rfl)); (case hp => exact (Reps.c2 (show Kd.M k47 _ _ _ (⟨(⟨#[89]⟩ : ByteArray), 0⟩ : S47) [.string (⟨#[89]⟩ : ByteArray), .int .i64 0] from (k47_mkM _ _ _ (⟨(⟨#[89]⟩ : ByteArray), 0⟩ : S47) )) (Reps.none _ _))); intro v113 w80 ho81 hb hg_ hnew_; clear hg_ hnew_; (first | rw [← Ny112.out] at ho81 | (simp only [Int.reduceToNat] at ho81; rw [← Ny112.out] at ho81)); have n0_ := Aside0.mk (Kd.R_elder' (by (with_reducible repeat (first | apply Kd.R_alloc | apply Kd.R_drewN | apply Kd.R_drew)); exact HO103.out) (Kd.R_base ho81) hb); have n1_ := Aside0.mk (Kd.R_elder' (by (with_reducible repeat (first | apply Kd.R_alloc | apply Kd.R_drewN | apply Kd.R_drew)); exact HO106.out) (Kd.R_base ho81) hb); have n2_ := Aside0.mk (Kd.S_elder' (by (with_reducible repeat (first | apply Kd.S_alloc | apply Kd.S_drewN | apply Kd.S_drew)); exact HO111.out) (Kd.R_base ho81) hb); have n3_ := Aside0.mk (Kd.R_lower (Kd.R_new' (Kd.R_new' ho81 (Kd.R_lt (by (with_reducible repeat (first | apply Kd.R_alloc | apply Kd.R_drewN | apply Kd.R_drew)); exact HO103.out))) (Kd.R_lt (by (with_reducible repeat (first | apply Kd.R_alloc | apply Kd.R_drewN | apply Kd.R_drew)); exact HO106.out))) (below_size (by repeat (first | (with_reducible first | exact HB.out | apply below_alloc | apply pw_below_drewN | apply below_drew1) | exact HB.out)))); have n4_ := Aside0.mk (below_step (by repeat (first | (with_reducible first | exact HB.out | apply below_alloc | apply pw_below_drewN | apply below_drew1) | exact HB.out)) hb); clear HO103; clear HO106; clear HO111; clear HB; have HO103 := n0_; have HO106 := n1_; have HO111 := n2_; have HO114 := n3_; have HB := n4_; clear n0_ n1_ n2_ n3_ n4_; clear hb ho81; obtain ⟨Ao82, co82, eo82⟩ := Kd.R_slice HO114.out; subst eo82; obtain ⟨Ao83, co83, eo83⟩ := Kd.S_slice HO111.out; subst eo83) | ((with_reducible refine gate_callee (f := 14) rfl ?_); refine goesL_ (some 27) rfl rfl Try.func14 (by kernel_rfl) rfl #[.slice Ao82 y112.length co82, .slice Ao83 t107.length co83] rfl (by (try simp only [List.map_toArray, List.map_cons, List.map_nil]); first | done | rfl | (simp only [List.length_drop, List.length_take]; rfl)) ?_; (with_reducible refine (match_Fill.calls k _ _ y112 _ _ t107 t115 t116 _ ?side1 ?side2 ?side3 ?side4 A2.out).mono ?_); (case side1 => repeat (first | exact (Kd.R_reads' HO114.out).2.2 | (with_reducible refine Kd.C_alloc ?_ _) | (with_reducible refine Kd.C_drewN ?_ _) | (with_reducible refine Kd.C_drew ?_))); (case side2 => exact (Kd.R_reads' HO114.out).2.1); (case side3 => repeat (first | exact (Kd.S_reads' HO111.out).2.2 | (with_reducible refine Kd.C_alloc ?_ _) | (with_reducible refine Kd.C_drewN ?_ _) | (with_reducible refine Kd.C_drew ?_))); (case side4 => exact (Kd.S_reads' HO111.out).2.1); rintro e w84 ⟨v117, rfl, ho0, hb⟩; refine ⟨_, rfl, ?_⟩; have n0_ := Aside0.mk (Kd.R_elder' (by (with_reducible repeat (first | apply Kd.R_alloc | apply Kd.R_drewN | apply Kd.R_drew)); exact HO103.out) (Kd.R_base ho0) hb); have n1_ := Aside0.mk (Kd.R_elder' (by (with_reducible repeat (first | apply Kd.R_alloc | apply Kd.R_drewN | apply Kd.R_drew)); exact HO106.out) (Kd.R_base ho0) hb); have n2_ := Aside0.mk (Kd.S_elder' (by (with_reducible repeat (first | apply Kd.S_alloc | apply Kd.S_drewN | apply Kd.S_drew)); exact HO111.out) (Kd.R_base ho0) hb); have n3_ := Aside0.mk (Kd.R_elder' (by (with_reducible repeat (first | apply Kd.R_alloc | apply Kd.R_drewN | apply Kd.R_drew)); exact HO114.out) (Kd.R_base ho0) hb); have n4_ := Aside0.mk (Kd.R_lower (Kd.R_new' (Kd.R_new' (Kd.R_new' ho0 (Kd.R_lt (by (with_reducible repeat (first | apply Kd.R_alloc | apply Kd.R_drewN | apply Kd.R_drew)); exact HO103.out))) (Kd.R_lt (by (with_reducible repeat (first | apply Kd.R_alloc | apply Kd.R_drewN | apply Kd.R_drew)); exact HO106.out))) (Kd.R_lt (by (with_reducible repeat (first | apply Kd.R_alloc | apply Kd.R_drewN | apply Kd.R_drew)); exact HO114.out))) (below_size (by repeat (first | (with_reducible first | exact HB.out | apply below_alloc | apply pw_below_drewN | apply below_drew1) | exact HB.out)))); have n5_ := Aside0.mk (below_step (by repeat (first | (with_reducible first | exact HB.out | apply below_alloc | apply pw_below_drewN | apply below_drew1) | exact HB.out)) hb); clear HO103; clear HO106; clear HO111; clear HO114; clear HB; have HO103 := n0_; have HO106 := n1_; have HO111 := n2_; have HO114 := n3_; have HO118 := n4_; have HB := n5_; clear n0_ n1_ n2_ n3_ n4_ n5_; (try clear hb); (try clear hb2); (try clear hk); (try clear hi); (try clear ho0)))
      go_ret
      exact ⟨by first | rfl | (simp [errW_none, errW_some] <;> rfl) | (simp [*, errW_none, errW_some] <;> rfl), by repeat (first | (with_reducible first | exact HB.out | apply below_alloc | apply pw_below_drewN | apply below_drew1) | exact HB.out)⟩
  · replace c3 := Bool.eq_false_iff.mpr c3
    subst c3
    have H1 : (some false) = some r := by rw [if_neg (show ¬ (false = true) by decide)] at H; exact H
    clear H
    have H := H1
    clear H1
    obtain rfl := Option.some.inj H
    go_enter Try.func9, Try.ntmps9
    go_wp2_with (first | ((with_reducible refine gate_dst (N := 11) rfl ?_); (try (refine gate_guard (by rfl) ?_; dsimp only)); refine Kd.R_lit k47 _ 47 ?hg (N := 11) ?hd (xs := ([(⟨(⟨#[103]⟩ : ByteArray), 2⟩ : S47), (⟨(⟨#[88]⟩ : ByteArray), 0⟩ : S47), (⟨(⟨#[89]⟩ : ByteArray), 0⟩ : S47)] : List (S47))) (inner := [.string (⟨#[103]⟩ : ByteArray), .int .i64 2, .string (⟨#[88]⟩ : ByteArray), .int .i64 0, .string (⟨#[89]⟩ : ByteArray), .int .i64 0]) (ok := fun _ => True) (okp := fun _ => True) ?hr ?hp (fun _ hk => hk) trivial (Below.refl _ _) (Nat.le_refl _) (by simp) ?_; (case hd => rfl); (case hg => rfl); (case hr => first | (go_simp; done) | (go_simp; rfl)); (case hp => exact (Reps.c2 (show Kd.M k47 _ _ _ (⟨(⟨#[103]⟩ : ByteArray), 2⟩ : S47) [.string (⟨#[103]⟩ : ByteArray), .int .i64 2] from (k47_mkM _ _ _ (⟨(⟨#[103]⟩ : ByteArray), 2⟩ : S47) )) (Reps.c2 (show Kd.M k47 _ _ _ (⟨(⟨#[88]⟩ : ByteArray), 0⟩ : S47) [.string (⟨#[88]⟩ : ByteArray), .int .i64 0] from (k47_mkM _ _ _ (⟨(⟨#[88]⟩ : ByteArray), 0⟩ : S47) )) (Reps.c2 (show Kd.M k47 _ _ _ (⟨(⟨#[89]⟩ : ByteArray), 0⟩ : S47) [.string (⟨#[89]⟩ : ByteArray), .int .i64 0] from (k47_mkM _ _ _ (⟨(⟨#[89]⟩ : ByteArray), 0⟩ : S47) )) (Reps.none _ _))))); intro v102 w85 ho86 hb hg_ hnew_; clear hg_ hnew_; (first | rw [← Ny101.out] at ho86 | (simp only [Int.reduceToNat] at ho86; rw [← Ny101.out] at ho86)); have n0_ := Aside0.mk (Kd.R_lower ho86 (below_size (by repeat (first | (with_reducible first | exact HB.out | apply below_alloc | apply pw_below_drewN | apply below_drew1) | exact HB.out)))); have n1_ := Aside0.mk (below_step (by repeat (first | (with_reducible first | exact HB.out | apply below_alloc | apply pw_below_drewN | apply below_drew1) | exact HB.out)) hb); clear HB; have HO103 := n0_; have HB := n1_; clear n0_ n1_; clear hb ho86) | ((with_reducible refine gate_dst (N := 15) rfl ?_); (try (refine gate_guard (by rfl) ?_; dsimp only)); refine Kd.R_lit k47 _ 47 ?hg (N := 15) ?hd (xs := ([(⟨(⟨#[103]⟩ : ByteArray), 2⟩ : S47), (⟨(⟨#[97]⟩ : ByteArray), 0⟩ : S47), (⟨(⟨#[98]⟩ : ByteArray), 0⟩ : S47)] : List (S47))) (inner := [.string (⟨#[103]⟩ : ByteArray), .int .i64 2, .string (⟨#[97]⟩ : ByteArray), .int .i64 0, .string (⟨#[98]⟩ : ByteArray), .int .i64 0]) (ok := fun _ => True) (okp := fun _ => True) ?hr ?hp (fun _ hk => hk) trivial (Below.refl _ _) (Nat.le_refl _) (by simp) ?_; (case hd => rfl); (case hg => rfl); (case hr => first | (go_simp; done) | (go_simp; rfl)); (case hp => exact (Reps.c2 (show Kd.M k47 _ _ _ (⟨(⟨#[103]⟩ : ByteArray), 2⟩ : S47) [.string (⟨#[103]⟩ : ByteArray), .int .i64 2] from (k47_mkM _ _ _ (⟨(⟨#[103]⟩ : ByteArray), 2⟩ : S47) )) (Reps.c2 (show Kd.M k47 _ _ _ (⟨(⟨#[97]⟩ : ByteArray), 0⟩ : S47) [.string (⟨#[97]⟩ : ByteArray), .int .i64 0] from (k47_mkM _ _ _ (⟨(⟨#[97]⟩ : ByteArray), 0⟩ : S47) )) (Reps.c2 (show Kd.M k47 _ _ _ (⟨(⟨#[98]⟩ : ByteArray), 0⟩ : S47) [.string (⟨#[98]⟩ : ByteArray), .int .i64 0] from (k47_mkM _ _ _ (⟨(⟨#[98]⟩ : ByteArray), 0⟩ : S47) )) (Reps.none _ _))))); intro v105 w87 ho88 hb hg_ hnew_; clear hg_ hnew_; (first | rw [← Ny104.out] at ho88 | (simp only [Int.reduceToNat] at ho88; rw [← Ny104.out] at ho88)); have n0_ := Aside0.mk (Kd.R_elder' (by (with_reducible repeat (first | apply Kd.R_alloc | apply Kd.R_drewN | apply Kd.R_drew)); exact HO103.out) (Kd.R_base ho88) hb); have n1_ := Aside0.mk (Kd.R_lower (Kd.R_new' ho88 (Kd.R_lt (by (with_reducible repeat (first | apply Kd.R_alloc | apply Kd.R_drewN | apply Kd.R_drew)); exact HO103.out))) (below_size (by repeat (first | (with_reducible first | exact HB.out | apply below_alloc | apply pw_below_drewN | apply below_drew1) | exact HB.out)))); have n2_ := Aside0.mk (below_step (by repeat (first | (with_reducible first | exact HB.out | apply below_alloc | apply pw_below_drewN | apply below_drew1) | exact HB.out)) hb); clear HO103; clear HB; have HO103 := n0_; have HO106 := n1_; have HB := n2_; clear n0_ n1_ n2_; clear hb ho88; obtain ⟨Ao89, co89, eo89⟩ := Kd.R_slice HO103.out; subst eo89; obtain ⟨Ao90, co90, eo90⟩ := Kd.R_slice HO106.out; subst eo90) | ((with_reducible refine gate_callee (f := 10) rfl ?_); refine goesL_ (some 19) rfl rfl Try.func10 (by kernel_rfl) rfl #[.slice Ao89 y101.length co89, .slice Ao90 y104.length co90] rfl (by (try simp only [List.map_toArray, List.map_cons, List.map_nil]); first | done | rfl | (simp only [List.length_drop, List.length_take]; rfl)) ?_; (with_reducible refine (match_Match.calls k _ _ y101 _ _ y104 t107 false t109 _ ?side1 ?side2 ?side3 ?side4 A1.out).mono ?_); (case side1 => repeat (first | exact (Kd.R_reads' HO103.out).2.2 | (with_reducible refine Kd.C_alloc ?_ _) | (with_reducible refine Kd.C_drewN ?_ _) | (with_reducible refine Kd.C_drew ?_))); (case side2 => exact (Kd.R_reads' HO103.out).2.1); (case side3 => repeat (first | exact (Kd.R_reads' HO106.out).2.2 | (with_reducible refine Kd.C_alloc ?_ _) | (with_reducible refine Kd.C_drewN ?_ _) | (with_reducible refine Kd.C_drew ?_))); (case side4 => exact (Kd.R_reads' HO106.out).2.1); rintro e w91 ⟨v110, rfl, ho0, hb⟩; refine ⟨_, rfl, ?_⟩; have n0_ := Aside0.mk (Kd.R_below (by (with_reducible repeat (first | apply Kd.R_alloc | apply Kd.R_drewN | apply Kd.R_drew)); exact HO103.out) hb); have n1_ := Aside0.mk (Kd.R_below (by (with_reducible repeat (first | apply Kd.R_alloc | apply Kd.R_drewN | apply Kd.R_drew)); exact HO106.out) hb); have n2_ := Aside0.mk (Kd.S_lower (Kd.S_new' (Kd.S_new' ho0 (Kd.R_lt (by (with_reducible repeat (first | apply Kd.R_alloc | apply Kd.R_drewN | apply Kd.R_drew)); exact HO103.out))) (Kd.R_lt (by (with_reducible repeat (first | apply Kd.R_alloc | apply Kd.R_drewN | apply Kd.R_drew)); exact HO106.out))) (below_size (by repeat (first | (with_reducible first | exact HB.out | apply below_alloc | apply pw_below_drewN | apply below_drew1) | exact HB.out)))); have n3_ := Aside0.mk (below_step (by repeat (first | (with_reducible first | exact HB.out | apply below_alloc | apply pw_below_drewN | apply below_drew1) | exact HB.out)) hb); clear HO103; clear HO106; clear HB; have HO103 := n0_; have HO106 := n1_; have HO111 := n2_; have HB := n3_; clear n0_ n1_ n2_ n3_; (try clear hb); (try clear hb2); (try clear hk); (try clear hi); (try clear ho0)) | ((with_reducible refine gate_dst (N := 25) rfl ?_); (try (refine gate_guard (by rfl) ?_; dsimp only)); refine Kd.R_lit k47 _ 47 ?hg (N := 25) ?hd (xs := ([(⟨(⟨#[89]⟩ : ByteArray), 0⟩ : S47)] : List (S47))) (inner := [.string (⟨#[89]⟩ : ByteArray), .int .i64 0]) (ok := fun _ => True) (okp := fun _ => True) ?hr ?hp (fun _ hk => hk) trivial (Below.refl _ _) (Nat.le_refl _) (by simp) ?_; (case hd => rfl); (case hg => rfl); (case hr => first | (go_simp; done) | (go_simp; rfl)); (case hp => exact (Reps.c2 (show Kd.M k47 _ _ _ (⟨(⟨#[89]⟩ : ByteArray), 0⟩ : S47) [.string (⟨#[89]⟩ : ByteArray), .int .i64 0] from (k47_mkM _ _ _ (⟨(⟨#[89]⟩ : ByteArray), 0⟩ : S47) )) (Reps.none _ _))); intro v113 w92 ho93 hb hg_ hnew_; clear hg_ hnew_; (first | rw [← Ny112.out] at ho93 | (simp only [Int.reduceToNat] at ho93; rw [← Ny112.out] at ho93)); have n0_ := Aside0.mk (Kd.R_elder' (by (with_reducible repeat (first | apply Kd.R_alloc | apply Kd.R_drewN | apply Kd.R_drew)); exact HO103.out) (Kd.R_base ho93) hb); have n1_ := Aside0.mk (Kd.R_elder' (by (with_reducible repeat (first | apply Kd.R_alloc | apply Kd.R_drewN | apply Kd.R_drew)); exact HO106.out) (Kd.R_base ho93) hb); have n2_ := Aside0.mk (Kd.S_elder' (by (with_reducible repeat (first | apply Kd.S_alloc | apply Kd.S_drewN | apply Kd.S_drew)); exact HO111.out) (Kd.R_base ho93) hb); have n3_ := Aside0.mk (Kd.R_lower (Kd.R_new' (Kd.R_new' ho93 (Kd.R_lt (by (with_reducible repeat (first | apply Kd.R_alloc | apply Kd.R_drewN | apply Kd.R_drew)); exact HO103.out))) (Kd.R_lt (by (with_reducible repeat (first | apply Kd.R_alloc | apply Kd.R_drewN | apply Kd.R_drew)); exact HO106.out))) (below_size (by repeat (first | (with_reducible first | exact HB.out | apply below_alloc | apply pw_below_drewN | apply below_drew1) | exact HB.out)))); have n4_ := Aside0.mk (below_step (by repeat (first | (with_reducible first | exact HB.out | apply below_alloc | apply pw_below_drewN | apply below_drew1) | exact HB.out)) hb); clear HO103; clear HO106; clear HO111; clear HB; have HO103 := n0_; have HO106 := n1_; have HO111 := n2_; have HO114 := n3_; have HB := n4_; clear n0_ n1_ n2_ n3_ n4_; clear hb ho93; obtain ⟨Ao94, co94, eo94⟩ := Kd.R_slice HO114.out; subst eo94; obtain ⟨Ao95, co95, eo95⟩ := Kd.S_slice HO111.out; subst eo95) | ((with_reducible refine gate_callee (f := 14) rfl ?_); refine goesL_ (some 27) rfl rfl Try.func14 (by kernel_rfl) rfl #[.slice Ao94 y112.length co94, .slice Ao95 t107.length co95] rfl (by (try simp only [List.map_toArray, List.map_cons, List.map_nil]); first | done | rfl | (simp only [List.length_drop, List.length_take]; rfl)) ?_; (with_reducible refine (match_Fill.calls k _ _ y112 _ _ t107 t115 t116 _ ?side1 ?side2 ?side3 ?side4 A2.out).mono ?_); (case side1 => repeat (first | exact (Kd.R_reads' HO114.out).2.2 | (with_reducible refine Kd.C_alloc ?_ _) | (with_reducible refine Kd.C_drewN ?_ _) | (with_reducible refine Kd.C_drew ?_))); (case side2 => exact (Kd.R_reads' HO114.out).2.1); (case side3 => repeat (first | exact (Kd.S_reads' HO111.out).2.2 | (with_reducible refine Kd.C_alloc ?_ _) | (with_reducible refine Kd.C_drewN ?_ _) | (with_reducible refine Kd.C_drew ?_))); (case side4 => exact (Kd.S_reads' HO111.out).2.1); rintro e w96 ⟨v117, rfl, ho0, hb⟩; refine ⟨_, rfl, ?_⟩; have n0_ := Aside0.mk (Kd.R_elder' (by (with_reducible repeat (first | apply Kd.R_alloc | apply Kd.R_drewN | apply Kd.R_drew)); exact HO103.out) (Kd.R_base ho0) hb); have n1_ := Aside0.mk (Kd.R_elder' (by (with_reducible repeat (first | apply Kd.R_alloc | apply Kd.R_drewN | apply Kd.R_drew)); exact HO106.out) (Kd.R_base ho0) hb); have n2_ := Aside0.mk (Kd.S_elder' (by (with_reducible repeat (first | apply Kd.S_alloc | apply Kd.S_drewN | apply Kd.S_drew)); exact HO111.out) (Kd.R_base ho0) hb); have n3_ := Aside0.mk (Kd.R_elder' (by (with_reducible repeat (first | apply Kd.R_alloc | apply Kd.R_drewN | apply Kd.R_drew)); exact HO114.out) (Kd.R_base ho0) hb); have n4_ := Aside0.mk (Kd.R_lower (Kd.R_new' (Kd.R_new' (Kd.R_new' ho0 (Kd.R_lt (by (with_reducible repeat (first | apply Kd.R_alloc | apply Kd.R_drewN | apply Kd.R_drew)); exact HO103.out))) (Kd.R_lt (by (with_reducible repeat (first | apply Kd.R_alloc | apply Kd.R_drewN | apply Kd.R_drew)); exact HO106.out))) (Kd.R_lt (by (with_reducible repeat (first | apply Kd.R_alloc | apply Kd.R_drewN | apply Kd.R_drew)); exact HO114.out))) (below_size (by repeat (first | (with_reducible first | exact HB.out | apply below_alloc | apply pw_below_drewN | apply below_drew1) | exact HB.out)))); have n5_ := Aside0.mk (below_step (by repeat (first | (with_reducible first | exact HB.out | apply below_alloc | apply pw_below_drewN | apply below_drew1) | exact HB.out)) hb); clear HO103; clear HO106; clear HO111; clear HO114; clear HB; have HO103 := n0_; have HO106 := n1_; have HO111 := n2_; have HO114 := n3_; have HO118 := n4_; have HB := n5_; clear n0_ n1_ n2_ n3_ n4_ n5_; (try clear hb); (try clear hb2); (try clear hk); (try clear hi); (try clear ho0)))
    go_ret
    exact ⟨by first | rfl | (simp [errW_none, errW_some] <;> rfl) | (simp [*, errW_none, errW_some] <;> rfl), by repeat (first | (with_reducible first | exact HB.out | apply below_alloc | apply pw_below_drewN | apply below_drew1) | exact HB.out)⟩

end Go.Proofs.Ytlfhonekcmlomaa.P

-- ==== PF5
namespace Go.Proofs.Ytlfhonekcmlomaa.P
open Go.RowKit Go.Proofs.YtlfhonekcmlomaaW.PrintWords Go.Proofs.YtlfhonekcmlomaaW.PrintLast Go.Proofs.YtlfhonekcmlomaaW.PrintMore
attribute [local go_sem] max2_int min2_int max_two min_two max_three min_three max_four min_four   -- for this text's walks alone
set_option linter.unusedVariables false
set_option linter.unusedSimpArgs false

/-! ### aumbrylaw05_MatchBack: function 5 -/
mutual
def aumbrylaw05_MatchBack.j0 : Nat → List (S47) → List (S47) → List (S44) → Bool → Bool → Option (Bool)
  | 0, _, _, _, _, _ => none
  | k + 1, x0, x1, x5, x6, x31 => if x31 = true then (if (x5.length : Int) = 0 then (some (!x6)) else (some false)) else ((aumbrylaw05_own.f x0).bind fun t113 => ((match_Fill.f k t113 x5).bind fun bt116 => (if bt116.2 = 0 then ((aumbryref04_Same.f k bt116.1 x1).bind fun t120 => (if t120 = true then ((aumbryref04_Vars.f k x0).bind fun t121 => (aumbrylaw05_MatchBack.j1 k x1 ((x5.length : Int) != (t121.length : Int)))) else (aumbrylaw05_MatchBack.j1 k x1 true))) else (aumbrylaw05_MatchBack.j1 k x1 true))))
def aumbrylaw05_MatchBack.j1 : Nat → List (S47) → Bool → Option (Bool)
  | 0, _, _ => none
  | k + 1, x1, x61 => if x61 = true then (some false) else ((aumbrylaw05_own.f x1).bind fun t124 => ((aumbrylaw05_own.f x1).bind fun t127 => ((match_Match.f k t124 t127).bind fun bt130 => ((aumbrylaw05_own.f x1).bind fun t135 => ((match_Fill.f k t135 bt130.1).bind fun bt138 => (if bt130.2.1 = true then (if bt130.2.2 = 0 then (if bt138.2 = 0 then ((aumbryref04_Same.f k bt138.1 x1).bind fun t142 => (some t142)) else (some false)) else (some false)) else (some false)))))))
end
def aumbrylaw05_MatchBack.f (k : Nat) (l0 : List (S47)) (l1 : List (S47)) : Option (Bool) := (aumbrylaw05_wakes.f k).bind fun t101 => (if t101 = true then ((aumbrylaw05_own.f l0).bind fun t102 => ((aumbrylaw05_own.f l1).bind fun t105 => ((match_Match.f k t102 t105).bind fun bt108 => (if bt108.2.2 = 0 then (aumbrylaw05_MatchBack.j0 k l0 l1 bt108.1 bt108.2.1 (!bt108.2.1)) else (aumbrylaw05_MatchBack.j0 k l0 l1 bt108.1 bt108.2.1 true))))) else (some false))
set_option maxHeartbeats 8000000 in
set_option maxRecDepth 100000 in
theorem aumbrylaw05_MatchBack.calls (k : Nat) (A0 : Option Addr) (c0 : Nat) (l0 : List (S47)) (A1 : Option Addr) (c1 : Nat) (l1 : List (S47)) (r : Bool) (w : World) (hr0 : Kd.C k47 w A0 l0.length l0) (hc0 : l0.length ≤ c0) (hr1 : Kd.C k47 w A1 l1.length l1) (hc1 : l1.length ≤ c1) (h : aumbrylaw05_MatchBack.f k l0 l1 = some r) :
    Calls Try.prog 5 #[.slice A0 l0.length c0, .slice A1 l1.length c1] w fun e w' => e = .returned (.bool r) ∧ Below w.heap.size w w' := by
  have HR0 := Aside0.mk hr0
  have HC0 := Aside0.mk hc0
  clear hr0 hc0
  have HR1 := Aside0.mk hr1
  have HC1 := Aside0.mk hc1
  clear hr1 hc1
  have HB := Aside0.mk (Below.refl w.heap.size w)
  have H : ((aumbrylaw05_wakes.f k).bind fun t101 => (if t101 = true then ((aumbrylaw05_own.f l0).bind fun t102 => ((aumbrylaw05_own.f l1).bind fun t105 => ((match_Match.f k t102 t105).bind fun bt108 => (if bt108.2.2 = 0 then (aumbrylaw05_MatchBack.j0 k l0 l1 bt108.1 bt108.2.1 (!bt108.2.1)) else (aumbrylaw05_MatchBack.j0 k l0 l1 bt108.1 bt108.2.1 true))))) else (some false))) = some r := h
  clear h
  replace H := Option.bind_eq_some_iff.mp H
  obtain ⟨t101, A30, H⟩ := H
  replace H : (if t101 = true then ((aumbrylaw05_own.f l0).bind fun t102 => ((aumbrylaw05_own.f l1).bind fun t105 => ((match_Match.f k t102 t105).bind fun bt108 => (if bt108.2.2 = 0 then (aumbrylaw05_MatchBack.j0 k l0 l1 bt108.1 bt108.2.1 (!bt108.2.1)) else (aumbrylaw05_MatchBack.j0 k l0 l1 bt108.1 bt108.2.1 true))))) else (some false)) = some r := H
  have A3 := Aside0.mk A30
  clear A30
  by_cases c4 : t101 = true
  · subst c4
    have H1 : ((aumbrylaw05_own.f l0).bind fun t102 => ((aumbrylaw05_own.f l1).bind fun t105 => ((match_Match.f k t102 t105).bind fun bt108 => (if bt108.2.2 = 0 then (aumbrylaw05_MatchBack.j0 k l0 l1 bt108.1 bt108.2.1 (!bt108.2.1)) else (aumbrylaw05_MatchBack.j0 k l0 l1 bt108.1 bt108.2.1 true))))) = some r := by rw [if_pos rfl] at H; exact H
    clear H
    have H := H1
    clear H1
    replace H := Option.bind_eq_some_iff.mp H
    obtain ⟨t102, A50, H⟩ := H
    replace H : ((aumbrylaw05_own.f l1).bind fun t105 => ((match_Match.f k t102 t105).bind fun bt108 => (if bt108.2.2 = 0 then (aumbrylaw05_MatchBack.j0 k l0 l1 bt108.1 bt108.2.1 (!bt108.2.1)) else (aumbrylaw05_MatchBack.j0 k l0 l1 bt108.1 bt108.2.1 true)))) = some r := H
    have A5 := Aside0.mk A50
    clear A50
    replace H := Option.bind_eq_some_iff.mp H
    obtain ⟨t105, A60, H⟩ := H
    replace H : ((match_Match.f k t102 t105).bind fun bt108 => (if bt108.2.2 = 0 then (aumbrylaw05_MatchBack.j0 k l0 l1 bt108.1 bt108.2.1 (!bt108.2.1)) else (aumbrylaw05_MatchBack.j0 k l0 l1 bt108.1 bt108.2.1 true))) = some r := H
    have A6 := Aside0.mk A60
    clear A60
    replace H := Option.bind_eq_some_iff.mp H
    obtain ⟨⟨t108, t109, t110⟩, A70, H⟩ := H
    replace H : (if t110 = 0 then (aumbrylaw05_MatchBack.j0 k l0 l1 t108 t109 (!t109)) else (aumbrylaw05_MatchBack.j0 k l0 l1 t108 t109 true)) = some r := H
    have A7 := Aside0.mk A70
    clear A70
    have HC8 := Aside0.mk H
    clear H
    go_enter Try.func5, Try.ntmps5
    go_upto_region 4 with (first | ((with_reducible refine gate_callee (f := 9) rfl ?_); refine goesL_ (some 15) rfl rfl Try.func9 (by kernel_rfl) rfl #[] rfl (by (try simp only [List.map_toArray, List.map_cons, List.map_nil]); first | done | rfl | (simp only [List.length_drop, List.length_take]; rfl)) ?_; (with_reducible refine (aumbrylaw05_wakes.calls k  true _ A3.out).mono ?_); rintro e w9 ⟨rfl, hb⟩; refine ⟨_, rfl, ?_⟩; have n0_ := Aside0.mk (below_step (by repeat (first | (with_reducible first | exact HB.out | apply below_alloc | apply pw_below_drewN | apply below_drew1) | exact HB.out)) hb); clear HB; have HB := n0_; clear n0_; (try clear hb); (try clear hb2); (try clear hk); (try clear hi)) | ((with_reducible refine gate_callee (f := 11) rfl ?_); refine goesL_ (some 19) rfl rfl Try.func11 (by kernel_rfl) rfl #[.slice A0 l0.length c0] rfl (by (try simp only [List.map_toArray, List.map_cons, List.map_nil]); first | done | rfl | (simp only [List.length_drop, List.length_take]; rfl)) ?_; (with_reducible refine (aumbrylaw05_own.calls _ _ l0 t102 _ ?side1 ?side2 A5.out).mono ?_); (case side1 => repeat (first | exact (Kd.C_below HR0.out HB.out) | (with_reducible refine Kd.C_alloc ?_ _) | (with_reducible refine Kd.C_drewN ?_ _) | (with_reducible refine Kd.C_drew ?_))); (case side2 => exact HC0.out); rintro e w10 ⟨v103, rfl, ho0, hb⟩; refine ⟨_, rfl, ?_⟩; have n0_ := Aside0.mk (Kd.R_lower ho0 (below_size (by repeat (first | (with_reducible first | exact HB.out | apply below_alloc | apply pw_below_drewN | apply below_drew1) | exact HB.out)))); have n1_ := Aside0.mk (below_step (by repeat (first | (with_reducible first | exact HB.out | apply below_alloc | apply pw_below_drewN | apply below_drew1) | exact HB.out)) hb); clear HB; have HO104 := n0_; have HB := n1_; clear n0_ n1_; (try clear hb); (try clear hb2); (try clear hk); (try clear hi); (try clear ho0)) | ((with_reducible refine gate_callee (f := 11) rfl ?_); refine goesL_ (some 21) rfl rfl Try.func11 (by kernel_rfl) rfl #[.slice A1 l1.length c1] rfl (by (try simp only [List.map_toArray, List.map_cons, List.map_nil]); first | done | rfl | (simp only [List.length_drop, List.length_take]; rfl)) ?_; (with_reducible refine (aumbrylaw05_own.calls _ _ l1 t105 _ ?side1 ?side2 A6.out).mono ?_); (case side1 => repeat (first | exact (Kd.C_below HR1.out HB.out) | (with_reducible refine Kd.C_alloc ?_ _) | (with_reducible refine Kd.C_drewN ?_ _) | (with_reducible refine Kd.C_drew ?_))); (case side2 => exact HC1.out); rintro e w11 ⟨v106, rfl, ho0, hb⟩; refine ⟨_, rfl, ?_⟩; have n0_ := Aside0.mk (Kd.R_elder' (by (with_reducible repeat (first | apply Kd.R_alloc | apply Kd.R_drewN | apply Kd.R_drew)); exact HO104.out) (Kd.R_base ho0) hb); have n1_ := Aside0.mk (Kd.R_lower (Kd.R_new' ho0 (Kd.R_lt (by (with_reducible repeat (first | apply Kd.R_alloc | apply Kd.R_drewN | apply Kd.R_drew)); exact HO104.out))) (below_size (by repeat (first | (with_reducible first | exact HB.out | apply below_alloc | apply pw_below_drewN | apply below_drew1) | exact HB.out)))); have n2_ := Aside0.mk (below_step (by repeat (first | (with_reducible first | exact HB.out | apply below_alloc | apply pw_below_drewN | apply below_drew1) | exact HB.out)) hb); clear HO104; clear HB; have HO104 := n0_; have HO107 := n1_; have HB := n2_; clear n0_ n1_ n2_; (try clear hb); (try clear hb2); (try clear hk); (try clear hi); (try clear ho0); obtain ⟨Ao12, co12, eo12⟩ := Kd.R_slice HO104.out; subst eo12; obtain ⟨Ao13, co13, eo13⟩ := Kd.R_slice HO107.out; subst eo13) | ((with_reducible refine gate_callee (f := 10) rfl ?_); refine goesL_ (some 22) rfl rfl Try.func10 (by kernel_rfl) rfl #[.slice Ao12 t102.length co12, .slice Ao13 t105.length co13] rfl (by (try simp only [List.map_toArray, List.map_cons, List.map_nil]); first | done | rfl | (simp only [List.length_drop, List.length_take]; rfl)) ?_; (with_reducible refine (match_Match.calls k _ _ t102 _ _ t105 t108 t109 t110 _ ?side1 ?side2 ?side3 ?side4 A7.out).mono ?_); (case side1 => repeat (first | exact (Kd.R_reads' HO104.out).2.2 | (with_reducible refine Kd.C_alloc ?_ _) | (with_reducible refine Kd.C_drewN ?_ _) | (with_reducible refine Kd.C_drew ?_))); (case side2 => exact (Kd.R_reads' HO104.out).2.1); (case side3 => repeat (first | exact (Kd.R_reads' HO107.out).2.2 | (with_reducible refine Kd.C_alloc ?_ _) | (with_reducible refine Kd.C_drewN ?_ _) | (with_reducible refine Kd.C_drew ?_))); (case side4 => exact (Kd.R_reads' HO107.out).2.1); rintro e w14 ⟨v111, rfl, ho0, hb⟩; refine ⟨_, rfl, ?_⟩; have n0_ := Aside0.mk (Kd.R_below (by (with_reducible repeat (first | apply Kd.R_alloc | apply Kd.R_drewN | apply Kd.R_drew)); exact HO104.out) hb); have n1_ := Aside0.mk (Kd.R_below (by (with_reducible repeat (first | apply Kd.R_alloc | apply Kd.R_drewN | apply Kd.R_drew)); exact HO107.out) hb); have n2_ := Aside0.mk (Kd.S_lower (Kd.S_new' (Kd.S_new' ho0 (Kd.R_lt (by (with_reducible repeat (first | apply Kd.R_alloc | apply Kd.R_drewN | apply Kd.R_drew)); exact HO104.out))) (Kd.R_lt (by (with_reducible repeat (first | apply Kd.R_alloc | apply Kd.R_drewN | apply Kd.R_drew)); exact HO107.out))) (below_size (by repeat (first | (with_reducible first | exact HB.out | apply below_alloc | apply pw_below_drewN | apply below_drew1) | exact HB.out)))); have n3_ := Aside0.mk (below_step (by repeat (first | (with_reducible first | exact HB.out | apply below_alloc | apply pw_below_drewN | apply below_drew1) | exact HB.out)) hb); clear HO104; clear HO107; clear HB; have HO104 := n0_; have HO107 := n1_; have HO112 := n2_; have HB := n3_; clear n0_ n1_ n2_ n3_; (try clear hb); (try clear hb2); (try clear hk); (try clear hi); (try clear ho0)))
    (try simp only [Act.put, List.setIfInBounds_toArray, List.set_cons_zero, List.set_cons_succ])
    go_cut [31] (fun v31 wc => ∃ (kq : Nat) (x31_7 : Bool), v31 = .bool x31_7 ∧ Aside0 (aumbrylaw05_MatchBack.j0 kq l0 l1 t108 t109 x31_7 = some r) ∧ Aside0 (kq ≤ k) ∧ Aside0 (Kd.S k44 44 wc w.heap.size (fun _ => True) v111 t108) ∧ Aside0 (Below w.heap.size w wc))
    case first =>
      have H := HC8.out
      clear HC8
      by_cases c15 : t110 = 0
      · rw [if_pos c15] at H
        have c15b0 : (t110 == 0) = true := beq_iff_eq.mpr c15
        have c15b1 : (t110 != 0) = false := bne_eq_false_iff_eq.mpr c15
        clear c15
        (first | rw [c15b0] | (simp only [i64_w, i32_w]; rw [c15b0]) | skip)
        have H' := Aside0.mk H
        clear H
        go_wp2
        go_meet
        case rel => exact ⟨_, (!t109), (by first | rfl | (simp; done) | (simp [*]; done)), H', ⟨by first | omega | exact Nat.le_refl _⟩, ⟨by (with_reducible repeat (first | apply Kd.S_alloc | apply Kd.S_drewN | apply Kd.S_drew)); exact Kd.S_mono HO112.out (fun _ hk => trivial)⟩, ⟨by repeat (first | (with_reducible first | exact HB.out | apply below_alloc | apply pw_below_drewN | apply below_drew1) | exact HB.out)⟩⟩
      · rw [if_neg c15] at H
        have c15b0 : (t110 == 0) = false := beq_eq_false_iff_ne.mpr c15
        have c15b1 : (t110 != 0) = true := bne_iff_ne.mpr c15
        (first | rw [c15b0] | (simp only [i64_w, i32_w]; rw [c15b0]) | skip)
        have H' := Aside0.mk H
        clear H
        go_wp2
        go_meet
        case rel => exact ⟨_, (true), (by first | rfl | (simp; done) | (simp [*]; done)), H', ⟨by first | omega | exact Nat.le_refl _⟩, ⟨by (with_reducible repeat (first | apply Kd.S_alloc | apply Kd.S_drewN | apply Kd.S_drew)); exact Kd.S_mono HO112.out (fun _ hk => trivial)⟩, ⟨by repeat (first | (with_reducible first | exact HB.out | apply below_alloc | apply pw_below_drewN | apply below_drew1) | exact HB.out)⟩⟩
    case rest =>
      clear HC8
      try clear c1
      try clear p2
      try clear c4
      try clear c5
      try clear c9
      try clear c10
      try clear c11
      try clear c15
      try clear c15b0
      try clear c15b1
      obtain ⟨kq, x31_7, rfl, HA, HJ7, HO_5, HB⟩ := hcut
      cases kq with
      | zero => exact absurd HA.out (by simp [aumbrylaw05_MatchBack.j0])
      | succ kj7 =>
        have H := HA.out
        clear HA
        simp only [aumbrylaw05_MatchBack.j0] at H
        by_cases c16 : x31_7 = true
        · subst c16
          have H1 : (if (t108.length : Int) = 0 then (some (!t109)) else (some false)) = some r := by rw [if_pos rfl] at H; exact H
          clear H
          have H := H1
          clear H1
          by_cases c17 : (t108.length : Int) = 0
          · rw [if_pos c17] at H
            have c17b0 : ((t108.length : Int) == 0) = true := beq_iff_eq.mpr c17
            have c17b1 : ((t108.length : Int) != 0) = false := bne_eq_false_iff_eq.mpr c17
            clear c17
            obtain rfl := Option.some.inj H
            obtain ⟨Ao18, co18, eo18⟩ := Kd.S_slice HO_5.out
            subst eo18
            go_wp2
            go_ret
            exact ⟨by first | rfl | (simp [errW_none, errW_some] <;> rfl) | (simp [*, errW_none, errW_some] <;> rfl), by repeat (first | (with_reducible first | exact HB.out | apply below_alloc | apply pw_below_drewN | apply below_drew1) | exact HB.out)⟩
          · rw [if_neg c17] at H
            have c17b0 : ((t108.length : Int) == 0) = false := beq_eq_false_iff_ne.mpr c17
            have c17b1 : ((t108.length : Int) != 0) = true := bne_iff_ne.mpr c17
            have c17b2 : ¬ (t108 = []) := fun h_ => c17 (by rw [h_]; rfl)
            obtain rfl := Option.some.inj H
            obtain ⟨Ao19, co19, eo19⟩ := Kd.S_slice HO_5.out
            subst eo19
            go_wp2
            go_ret
            exact ⟨by first | rfl | (simp [errW_none, errW_some] <;> rfl) | (simp [*, errW_none, errW_some] <;> rfl), by repeat (first | (with_reducible first | exact HB.out | apply below_alloc | apply pw_below_drewN | apply below_drew1) | exact HB.out)⟩
        · replace c16 := Bool.eq_false_iff.mpr c16
          subst c16
          have H1 : ((aumbrylaw05_own.f l0).bind fun t113 => ((match_Fill.f kj7 t113 t108).bind fun bt116 => (if bt116.2 = 0 then ((aumbryref04_Same.f kj7 bt116.1 l1).bind fun t120 => (if t120 = true then ((aumbryref04_Vars.f kj7 l0).bind fun t121 => (aumbrylaw05_MatchBack.j1 kj7 l1 ((t108.length : Int) != (t121.length : Int)))) else (aumbrylaw05_MatchBack.j1 kj7 l1 true))) else (aumbrylaw05_MatchBack.j1 kj7 l1 true)))) = some r := by rw [if_neg (show ¬ (false = true) by decide)] at H; exact H
          clear H
          have H := H1
          clear H1
          replace H := Option.bind_eq_some_iff.mp H
          obtain ⟨t113, A200, H⟩ := H
          replace H : ((match_Fill.f kj7 t113 t108).bind fun bt116 => (if bt116.2 = 0 then ((aumbryref04_Same.f kj7 bt116.1 l1).bind fun t120 => (if t120 = true then ((aumbryref04_Vars.f kj7 l0).bind fun t121 => (aumbrylaw05_MatchBack.j1 kj7 l1 ((t108.length : Int) != (t121.length : Int)))) else (aumbrylaw05_MatchBack.j1 kj7 l1 true))) else (aumbrylaw05_MatchBack.j1 kj7 l1 true))) = some r := H
          have A20 := Aside0.mk A200
          clear A200
          replace H := Option.bind_eq_some_iff.mp H
          obtain ⟨⟨t116, t117⟩, A210, H⟩ := H
          replace H : (if t117 = 0 then ((aumbryref04_Same.f kj7 t116 l1).bind fun t120 => (if t120 = true then ((aumbryref04_Vars.f kj7 l0).bind fun t121 => (aumbrylaw05_MatchBack.j1 kj7 l1 ((t108.length : Int) != (t121.length : Int)))) else (aumbrylaw05_MatchBack.j1 kj7 l1 true))) else (aumbrylaw05_MatchBack.j1 kj7 l1 true)) = some r := H
          have A21 := Aside0.mk A210
          clear A210
          have HC22 := Aside0.mk H
          clear H
          go_upto_region 7 with (first | ((with_reducible refine gate_callee (f := 11) rfl ?_); refine goesL_ (some 41) rfl rfl Try.func11 (by kernel_rfl) rfl #[.slice A0 l0.length c0] rfl (by (try simp only [List.map_toArray, List.map_cons, List.map_nil]); first | done | rfl | (simp only [List.length_drop, List.length_take]; rfl)) ?_; (with_reducible refine (aumbrylaw05_own.calls _ _ l0 t113 _ ?side1 ?side2 A20.out).mono ?_); (case side1 => repeat (first | exact (Kd.C_below HR0.out HB.out) | (with_reducible refine Kd.C_alloc ?_ _) | (with_reducible refine Kd.C_drewN ?_ _) | (with_reducible refine Kd.C_drew ?_))); (case side2 => exact HC0.out); rintro e w23 ⟨v114, rfl, ho0, hb⟩; refine ⟨_, rfl, ?_⟩; have n0_ := Aside0.mk (Kd.S_elder' (by (with_reducible repeat (first | apply Kd.S_alloc | apply Kd.S_drewN | apply Kd.S_drew)); exact HO_5.out) (Kd.R_base ho0) hb); have n1_ := Aside0.mk (Kd.R_lower ho0 (below_size (by repeat (first | (with_reducible first | exact HB.out | apply below_alloc | apply pw_below_drewN | apply below_drew1) | exact HB.out)))); have n2_ := Aside0.mk (below_step (by repeat (first | (with_reducible first | exact HB.out | apply below_alloc | apply pw_below_drewN | apply below_drew1) | exact HB.out)) hb); clear HO_5; clear HB; have HO_5 := n0_; have HO115 := n1_; have HB := n2_; clear n0_ n1_ n2_; (try clear hb); (try clear hb2); (try clear hk); (try clear hi); (try clear ho0); obtain ⟨Ao24, co24, eo24⟩ := Kd.R_slice HO115.out; subst eo24; obtain ⟨Ao25, co25, eo25⟩ := Kd.S_slice HO_5.out; subst eo25) | ((with_reducible refine gate_callee (f := 14) rfl ?_); refine goesL_ (some 43) rfl rfl Try.func14 (by kernel_rfl) rfl #[.slice Ao24 t113.length co24, .slice Ao25 t108.length co25] rfl (by (try simp only [List.map_toArray, List.map_cons, List.map_nil]); first | done | rfl | (simp only [List.length_drop, List.length_take]; rfl)) ?_; (with_reducible refine (match_Fill.calls kj7 _ _ t113 _ _ t108 t116 t117 _ ?side1 ?side2 ?side3 ?side4 A21.out).mono ?_); (case side1 => repeat (first | exact (Kd.R_reads' HO115.out).2.2 | (with_reducible refine Kd.C_alloc ?_ _) | (with_reducible refine Kd.C_drewN ?_ _) | (with_reducible refine Kd.C_drew ?_))); (case side2 => exact (Kd.R_reads' HO115.out).2.1); (case side3 => repeat (first | exact (Kd.S_reads' HO_5.out).2.2 | (with_reducible refine Kd.C_alloc ?_ _) | (with_reducible refine Kd.C_drewN ?_ _) | (with_reducible refine Kd.C_drew ?_))); (case side4 => exact (Kd.S_reads' HO_5.out).2.1); rintro e w26 ⟨v118, rfl, ho0, hb⟩; refine ⟨_, rfl, ?_⟩; have n0_ := Aside0.mk (Kd.S_elder' (by (with_reducible repeat (first | apply Kd.S_alloc | apply Kd.S_drewN | apply Kd.S_drew)); exact HO_5.out) (Kd.R_base ho0) hb); have n1_ := Aside0.mk (Kd.R_elder' (by (with_reducible repeat (first | apply Kd.R_alloc | apply Kd.R_drewN | apply Kd.R_drew)); exact HO115.out) (Kd.R_base ho0) hb); have n2_ := Aside0.mk (Kd.R_lower (Kd.R_new' ho0 (Kd.R_lt (by (with_reducible repeat (first | apply Kd.R_alloc | apply Kd.R_drewN | apply Kd.R_drew)); exact HO115.out))) (below_size (by repeat (first | (with_reducible first | exact HB.out | apply below_alloc | apply pw_below_drewN | apply below_drew1) | exact HB.out)))); have n3_ := Aside0.mk (below_step (by repeat (first | (with_reducible first | exact HB.out | apply below_alloc | apply pw_below_drewN | apply below_drew1) | exact HB.out)) hb); clear HO_5; clear HO115; clear HB; have HO_5 := n0_; have HO115 := n1_; have HO119 := n2_; have HB := n3_; clear n0_ n1_ n2_ n3_; (try clear hb); (try clear hb2); (try clear hk); (try clear hi); (try clear ho0)))
          (try simp only [Act.put, List.setIfInBounds_toArray, List.set_cons_zero, List.set_cons_succ])
          go_cut [61] (fun v61 wc => ∃ (kq : Nat) (x61_21 : Bool), v61 = .bool x61_21 ∧ Aside0 (aumbrylaw05_MatchBack.j1 kq l1 x61_21 = some r) ∧ Aside0 (kq ≤ kj7) ∧ Aside0 (Below w.heap.size w wc))
          case first =>
            have H := HC22.out
            clear HC22
            by_cases c27 : t117 = 0
            · rw [if_pos c27] at H
              have c27b0 : (t117 == 0) = true := beq_iff_eq.mpr c27
              have c27b1 : (t117 != 0) = false := bne_eq_false_iff_eq.mpr c27
              clear c27
              (first | rw [c27b0] | (simp only [i64_w, i32_w]; rw [c27b0]) | skip)
              replace H := Option.bind_eq_some_iff.mp H
              obtain ⟨t120, A280, H⟩ := H
              replace H : (if t120 = true then ((aumbryref04_Vars.f kj7 l0).bind fun t121 => (aumbrylaw05_MatchBack.j1 kj7 l1 ((t108.length : Int) != (t121.length : Int)))) else (aumbrylaw05_MatchBack.j1 kj7 l1 true)) = some r := H
              have A28 := Aside0.mk A280
              clear A280
              by_cases c29 : t120 = true
              · subst c29
                have H1 : ((aumbryref04_Vars.f kj7 l0).bind fun t121 => (aumbrylaw05_MatchBack.j1 kj7 l1 ((t108.length : Int) != (t121.length : Int)))) = some r := by rw [if_pos rfl] at H; exact H
                clear H
                have H := H1
                clear H1
                replace H := Option.bind_eq_some_iff.mp H
                obtain ⟨t121, A300, H⟩ := H
                replace H : (aumbrylaw05_MatchBack.j1 kj7 l1 ((t108.length : Int) != (t121.length : Int))) = some r := H
                have A30 := Aside0.mk A300
                clear A300
                have H' := Aside0.mk H
                clear H
                obtain ⟨Ao31, co31, eo31⟩ := Kd.R_slice HO119.out
                subst eo31
                go_wp2_with (first | (go_at_call 17; (with_reducible refine (aumbryref04_Same.calls kj7 _ _ t116 _ _ l1 true _ ?side1 ?side2 ?side3 ?side4 A28.out).mono ?_); (case side1 => repeat (first | exact (Kd.R_reads' HO119.out).2.2 | (with_reducible refine Kd.C_alloc ?_ _) | (with_reducible refine Kd.C_drewN ?_ _) | (with_reducible refine Kd.C_drew ?_))); (case side2 => exact (Kd.R_reads' HO119.out).2.1); (case side3 => repeat (first | exact (Kd.C_below HR1.out HB.out) | (with_reducible refine Kd.C_alloc ?_ _) | (with_reducible refine Kd.C_drewN ?_ _) | (with_reducible refine Kd.C_drew ?_))); (case side4 => exact HC1.out); rintro e w' ⟨rfl, ⟨nd, rfl⟩⟩) | (go_at_call 18; (with_reducible refine (aumbryref04_Vars.calls kj7 _ _ l0 t121 _ ?side1 ?side2 A30.out).mono ?_); (case side1 => repeat (first | exact (Kd.C_below HR0.out (by repeat (first | (with_reducible first | exact HB.out | apply below_alloc | apply pw_below_drewN | apply below_drew1) | exact HB.out))) | (with_reducible refine Kd.C_alloc ?_ _) | (with_reducible refine Kd.C_drewN ?_ _) | (with_reducible refine Kd.C_drew ?_))); (case side2 => exact HC0.out); rintro e w32 ⟨v122, rfl, ho0, hb⟩; have n0_ := Aside0.mk (Kd.S_below (by (with_reducible repeat (first | apply Kd.S_alloc | apply Kd.S_drewN | apply Kd.S_drew)); exact HO_5.out) hb); have n1_ := Aside0.mk (Kd.R_below (by (with_reducible repeat (first | apply Kd.R_alloc | apply Kd.R_drewN | apply Kd.R_drew)); exact HO115.out) hb); have n2_ := Aside0.mk (Kd.R_below (by (with_reducible repeat (first | apply Kd.R_alloc | apply Kd.R_drewN | apply Kd.R_drew)); exact HO119.out) hb); have n3_ := Aside0.mk (Kd.R_lower ho0 (below_size (by repeat (first | (with_reducible first | exact HB.out | apply below_alloc | apply pw_below_drewN | apply below_drew1) | exact HB.out)))); have n4_ := Aside0.mk (below_step (by repeat (first | (with_reducible first | exact HB.out | apply below_alloc | apply pw_below_drewN | apply below_drew1) | exact HB.out)) hb); clear HO_5; clear HO115; clear HO119; clear HB; have HO_5 := n0_; have HO115 := n1_; have HO119 := n2_; have HO123 := n3_; have HB := n4_; clear n0_ n1_ n2_ n3_ n4_; (try clear hb); (try clear hb2); (try clear hk); (try clear hi); (try clear ho0); obtain ⟨Ao33, co33, eo33⟩ := Kd.R_slice HO123.out; subst eo33))
                go_meet
                case rel => exact ⟨_, (((t108.length : Int) != (t121.length : Int))), (by first | rfl | (simp; done) | (simp [*]; done)), H', ⟨by have := HJ7.out; first | omega | exact Nat.le_refl _⟩, ⟨by repeat (first | (with_reducible first | exact HB.out | apply below_alloc | apply pw_below_drewN | apply below_drew1) | exact HB.out)⟩⟩
              · replace c29 := Bool.eq_false_iff.mpr c29
                subst c29
                have H1 : (aumbrylaw05_MatchBack.j1 kj7 l1 true) = some r := by rw [if_neg (show ¬ (false = true) by decide)] at H; exact H
                clear H
                have H := H1
                clear H1
                have H' := Aside0.mk H
                clear H
                obtain ⟨Ao34, co34, eo34⟩ := Kd.R_slice HO119.out
                subst eo34
                go_wp2_with (first | (go_at_call 17; (with_reducible refine (aumbryref04_Same.calls kj7 _ _ t116 _ _ l1 false _ ?side1 ?side2 ?side3 ?side4 A28.out).mono ?_); (case side1 => repeat (first | exact (Kd.R_reads' HO119.out).2.2 | (with_reducible refine Kd.C_alloc ?_ _) | (with_reducible refine Kd.C_drewN ?_ _) | (with_reducible refine Kd.C_drew ?_))); (case side2 => exact (Kd.R_reads' HO119.out).2.1); (case side3 => repeat (first | exact (Kd.C_below HR1.out HB.out) | (with_reducible refine Kd.C_alloc ?_ _) | (with_reducible refine Kd.C_drewN ?_ _) | (with_reducible refine Kd.C_drew ?_))); (case side4 => exact HC1.out); rintro e w' ⟨rfl, ⟨nd, rfl⟩⟩))
                go_meet
                case rel => exact ⟨_, (true), (by first | rfl | (simp; done) | (simp [*]; done)), H', ⟨by have := HJ7.out; first | omega | exact Nat.le_refl _⟩, ⟨by repeat (first | (with_reducible first | exact HB.out | apply below_alloc | apply pw_below_drewN | apply below_drew1) | exact HB.out)⟩⟩
            · rw [if_neg c27] at H
              have c27b0 : (t117 == 0) = false := beq_eq_false_iff_ne.mpr c27
              have c27b1 : (t117 != 0) = true := bne_iff_ne.mpr c27
              (first | rw [c27b0] | (simp only [i64_w, i32_w]; rw [c27b0]) | skip)
              have H' := Aside0.mk H
              clear H
              go_wp2
              go_meet
              case rel => exact ⟨_, (true), (by first | rfl | (simp; done) | (simp [*]; done)), H', ⟨by have := HJ7.out; first | omega | exact Nat.le_refl _⟩, ⟨by repeat (first | (with_reducible first | exact HB.out | apply below_alloc | apply pw_below_drewN | apply below_drew1) | exact HB.out)⟩⟩
          case rest =>
            clear HC22
            try clear c1
            try clear c2
            try clear p2
            try clear c4
            try clear c5
            try clear c9
            try clear c10
            try clear c11
            try clear c14
            try clear c15
            try clear c15b0
            try clear c15b1
            try clear c16
            try clear c17
            try clear c17b0
            try clear c17b1
            try clear c17b2
            try clear c27
            try clear c27b0
            try clear c27b1
            try clear c29
            try clear p2
            obtain ⟨kq, x61_21, rfl, HA, HJ21, HB⟩ := hcut
            cases kq with
            | zero => exact absurd HA.out (by simp [aumbrylaw05_MatchBack.j1])
            | succ kj21 =>
              have H := HA.out
              clear HA
              simp only [aumbrylaw05_MatchBack.j1] at H
              by_cases c35 : x61_21 = true
              · subst c35
                have H1 : (some false) = some r := by rw [if_pos rfl] at H; exact H
                clear H
                have H := H1
                clear H1
                obtain rfl := Option.some.inj H
                go_wp2
                go_ret
                exact ⟨by first | rfl | (simp [errW_none, errW_some] <;> rfl) | (simp [*, errW_none, errW_some] <;> rfl), by repeat (first | (with_reducible first | exact HB.out | apply below_alloc | apply pw_below_drewN | apply below_drew1) | exact HB.out)⟩
              · replace c35 := Bool.eq_false_iff.mpr c35
                subst c35
                have H1 : ((aumbrylaw05_own.f l1).bind fun t124 => ((aumbrylaw05_own.f l1).bind fun t127 => ((match_Match.f kj21 t124 t127).bind fun bt130 => ((aumbrylaw05_own.f l1).bind fun t135 => ((match_Fill.f kj21 t135 bt130.1).bind fun bt138 => (if bt130.2.1 = true then (if bt130.2.2 = 0 then (if bt138.2 = 0 then ((aumbryref04_Same.f kj21 bt138.1 l1).bind fun t142 => (some t142)) else (some false)) else (some false)) else (some false))))))) = some r := by rw [if_neg (show ¬ (false = true) by decide)] at H; exact H
                clear H
                have H := H1
                clear H1
                replace H := Option.bind_eq_some_iff.mp H
                obtain ⟨t124, A360, H⟩ := H
                replace H : ((aumbrylaw05_own.f l1).bind fun t127 => ((match_Match.f kj21 t124 t127).bind fun bt130 => ((aumbrylaw05_own.f l1).bind fun t135 => ((match_Fill.f kj21 t135 bt130.1).bind fun bt138 => (if bt130.2.1 = true then (if bt130.2.2 = 0 then (if bt138.2 = 0 then ((aumbryref04_Same.f kj21 bt138.1 l1).bind fun t142 => (some t142)) else (some false)) else (some false)) else (some false)))))) = some r := H
                have A36 := Aside0.mk A360
                clear A360
                replace H := Option.bind_eq_some_iff.mp H
                obtain ⟨t127, A370, H⟩ := H
                replace H : ((match_Match.f kj21 t124 t127).bind fun bt130 => ((aumbrylaw05_own.f l1).bind fun t135 => ((match_Fill.f kj21 t135 bt130.1).bind fun bt138 => (if bt130.2.1 = true then (if bt130.2.2 = 0 then (if bt138.2 = 0 then ((aumbryref04_Same.f kj21 bt138.1 l1).bind fun t142 => (some t142)) else (some false)) else (some false)) else (some false))))) = some r := H
                have A37 := Aside0.mk A370
                clear A370
                replace H := Option.bind_eq_some_iff.mp H
                obtain ⟨⟨t130, t131, t132⟩, A380, H⟩ := H
                replace H : ((aumbrylaw05_own.f l1).bind fun t135 => ((match_Fill.f kj21 t135 t130).bind fun bt138 => (if t131 = true then (if t132 = 0 then (if bt138.2 = 0 then ((aumbryref04_Same.f kj21 bt138.1 l1).bind fun t142 => (some t142)) else (some false)) else (some false)) else (some false)))) = some r := H
                have A38 := Aside0.mk A380
                clear A380
                replace H := Option.bind_eq_some_iff.mp H
                obtain ⟨t135, A390, H⟩ := H
                replace H : ((match_Fill.f kj21 t135 t130).bind fun bt138 => (if t131 = true then (if t132 = 0 then (if bt138.2 = 0 then ((aumbryref04_Same.f kj21 bt138.1 l1).bind fun t142 => (some t142)) else (some false)) else (some false)) else (some false))) = some r := H
                have A39 := Aside0.mk A390
                clear A390
                replace H := Option.bind_eq_some_iff.mp H
                obtain ⟨⟨t138, t139⟩, A400, H⟩ := H
                replace H : (if t131 = true then (if t132 = 0 then (if t139 = 0 then ((aumbryref04_Same.f kj21 t138 l1).bind fun t142 => (some t142)) else (some false)) else (some false)) else (some false)) = some r := H
                have A40 := Aside0.mk A400
                clear A400
                by_cases c41 : t131 = true
                · subst c41
                  have H1 : (if t132 = 0 then (if t139 = 0 then ((aumbryref04_Same.f kj21 t138 l1).bind fun t142 => (some t142)) else (some false)) else (some false)) = some r := by rw [if_pos rfl] at H; exact H
                  clear H
                  have H := H1
                  clear H1
                  by_cases c42 : t132 = 0
                  · rw [if_pos c42] at H
                    have c42b0 : (t132 == 0) = true := beq_iff_eq.mpr c42
                    have c42b1 : (t132 != 0) = false := bne_eq_false_iff_eq.mpr c42
                    clear c42
                    by_cases c43 : t139 = 0
                    · rw [if_pos c43] at H
                      have c43b0 : (t139 == 0) = true := beq_iff_eq.mpr c43
                      have c43b1 : (t139 != 0) = false := bne_eq_false_iff_eq.mpr c43
                      clear c43
                      replace H := Option.bind_eq_some_iff.mp H
                      obtain ⟨t142, A440, H⟩ := H
                      replace H : (some t142) = some r := H
                      have A44 := Aside0.mk A440
                      clear A440
                      obtain rfl := Option.some.inj H
                      go_wp2_with (first | ((with_reducible refine gate_callee (f := 11) rfl ?_); refine goesL_ (some 64) rfl rfl Try.func11 (by kernel_rfl) rfl #[.slice A1 l1.length c1] rfl (by (try simp only [List.map_toArray, List.map_cons, List.map_nil]); first | done | rfl | (simp only [List.length_drop, List.length_take]; rfl)) ?_; (with_reducible refine (aumbrylaw05_own.calls _ _ l1 t124 _ ?side1 ?side2 A36.out).mono ?_); (case side1 => repeat (first | exact (Kd.C_below HR1.out HB.out) | (with_reducible refine Kd.C_alloc ?_ _) | (with_reducible refine Kd.C_drewN ?_ _) | (with_reducible refine Kd.C_drew ?_))); (case side2 => exact HC1.out); rintro e w45 ⟨v125, rfl, ho0, hb⟩; refine ⟨_, rfl, ?_⟩; have n0_ := Aside0.mk (Kd.R_lower ho0 (below_size (by repeat (first | (with_reducible first | exact HB.out | apply below_alloc | apply pw_below_drewN | apply below_drew1) | exact HB.out)))); have n1_ := Aside0.mk (below_step (by repeat (first | (with_reducible first | exact HB.out | apply below_alloc | apply pw_below_drewN | apply below_drew1) | exact HB.out)) hb); clear HB; have HO126 := n0_; have HB := n1_; clear n0_ n1_; (try clear hb); (try clear hb2); (try clear hk); (try clear hi); (try clear ho0)) | ((with_reducible refine gate_callee (f := 11) rfl ?_); refine goesL_ (some 66) rfl rfl Try.func11 (by kernel_rfl) rfl #[.slice A1 l1.length c1] rfl (by (try simp only [List.map_toArray, List.map_cons, List.map_nil]); first | done | rfl | (simp only [List.length_drop, List.length_take]; rfl)) ?_; (with_reducible refine (aumbrylaw05_own.calls _ _ l1 t127 _ ?side1 ?side2 A37.out).mono ?_); (case side1 => repeat (first | exact (Kd.C_below HR1.out HB.out) | (with_reducible refine Kd.C_alloc ?_ _) | (with_reducible refine Kd.C_drewN ?_ _) | (with_reducible refine Kd.C_drew ?_))); (case side2 => exact HC1.out); rintro e w46 ⟨v128, rfl, ho0, hb⟩; refine ⟨_, rfl, ?_⟩; have n0_ := Aside0.mk (Kd.R_elder' (by (with_reducible repeat (first | apply Kd.R_alloc | apply Kd.R_drewN | apply Kd.R_drew)); exact HO126.out) (Kd.R_base ho0) hb); have n1_ := Aside0.mk (Kd.R_lower (Kd.R_new' ho0 (Kd.R_lt (by (with_reducible repeat (first | apply Kd.R_alloc | apply Kd.R_drewN | apply Kd.R_drew)); exact HO126.out))) (below_size (by repeat (first | (with_reducible first | exact HB.out | apply below_alloc | apply pw_below_drewN | apply below_drew1) | exact HB.out)))); have n2_ := Aside0.mk (below_step (by repeat (first | (with_reducible first | exact HB.out | apply below_alloc | apply pw_below_drewN | apply below_drew1) | exact HB.out)) hb); clear HO126; clear HB; have HO126 := n0_; have HO129 := n1_; have HB := n2_; clear n0_ n1_ n2_; (try clear hb); (try clear hb2); (try clear hk); (try clear hi); (try clear ho0); obtain ⟨Ao47, co47, eo47⟩ := Kd.R_slice HO126.out; subst eo47; obtain ⟨Ao48, co48, eo48⟩ := Kd.R_slice HO129.out; subst eo48) | ((with_reducible refine gate_callee (f := 10) rfl ?_); refine goesL_ (some 67) rfl rfl Try.func10 (by kernel_rfl) rfl #[.slice Ao47 t124.length co47, .slice Ao48 t127.length co48] rfl (by (try simp only [List.map_toArray, List.map_cons, List.map_nil]); first | done | rfl | (simp only [List.length_drop, List.length_take]; rfl)) ?_; (with_reducible refine (match_Match.calls kj21 _ _ t124 _ _ t127 t130 true t132 _ ?side1 ?side2 ?side3 ?side4 A38.out).mono ?_); (case side1 => repeat (first | exact (Kd.R_reads' HO126.out).2.2 | (with_reducible refine Kd.C_alloc ?_ _) | (with_reducible refine Kd.C_drewN ?_ _) | (with_reducible refine Kd.C_drew ?_))); (case side2 => exact (Kd.R_reads' HO126.out).2.1); (case side3 => repeat (first | exact (Kd.R_reads' HO129.out).2.2 | (with_reducible refine Kd.C_alloc ?_ _) | (with_reducible refine Kd.C_drewN ?_ _) | (with_reducible refine Kd.C_drew ?_))); (case side4 => exact (Kd.R_reads' HO129.out).2.1); rintro e w49 ⟨v133, rfl, ho0, hb⟩; refine ⟨_, rfl, ?_⟩; have n0_ := Aside0.mk (Kd.R_below (by (with_reducible repeat (first | apply Kd.R_alloc | apply Kd.R_drewN | apply Kd.R_drew)); exact HO126.out) hb); have n1_ := Aside0.mk (Kd.R_below (by (with_reducible repeat (first | apply Kd.R_alloc | apply Kd.R_drewN | apply Kd.R_drew)); exact HO129.out) hb); have n2_ := Aside0.mk (Kd.S_lower (Kd.S_new' (Kd.S_new' ho0 (Kd.R_lt (by (with_reducible repeat (first | apply Kd.R_alloc | apply Kd.R_drewN | apply Kd.R_drew)); exact HO126.out))) (Kd.R_lt (by (with_reducible repeat (first | apply Kd.R_alloc | apply Kd.R_drewN | apply Kd.R_drew)); exact HO129.out))) (below_size (by repeat (first | (with_reducible first | exact HB.out | apply below_alloc | apply pw_below_drewN | apply below_drew1) | exact HB.out)))); have n3_ := Aside0.mk (below_step (by repeat (first | (with_reducible first | exact HB.out | apply below_alloc | apply pw_below_drewN | apply below_drew1) | exact HB.out)) hb); clear HO126; clear HO129; clear HB; have HO126 := n0_; have HO129 := n1_; have HO134 := n2_; have HB := n3_; clear n0_ n1_ n2_ n3_; (try clear hb); (try clear hb2); (try clear hk); (try clear hi); (try clear ho0)) | ((with_reducible refine gate_callee (f := 11) rfl ?_); refine goesL_ (some 73) rfl rfl Try.func11 (by kernel_rfl) rfl #[.slice A1 l1.length c1] rfl (by (try simp only [List.map_toArray, List.map_cons, List.map_nil]); first | done | rfl | (simp only [List.length_drop, List.length_take]; rfl)) ?_; (with_reducible refine (aumbrylaw05_own.calls _ _ l1 t135 _ ?side1 ?side2 A39.out).mono ?_); (case side1 => repeat (first | exact (Kd.C_below HR1.out HB.out) | (with_reducible refine Kd.C_alloc ?_ _) | (with_reducible refine Kd.C_drewN ?_ _) | (with_reducible refine Kd.C_drew ?_))); (case side2 => exact HC1.out); rintro e w50 ⟨v136, rfl, ho0, hb⟩; refine ⟨_, rfl, ?_⟩; have n0_ := Aside0.mk (Kd.R_elder' (by (with_reducible repeat (first | apply Kd.R_alloc | apply Kd.R_drewN | apply Kd.R_drew)); exact HO126.out) (Kd.R_base ho0) hb); have n1_ := Aside0.mk (Kd.R_elder' (by (with_reducible repeat (first | apply Kd.R_alloc | apply Kd.R_drewN | apply Kd.R_drew)); exact HO129.out) (Kd.R_base ho0) hb); have n2_ := Aside0.mk (Kd.S_elder' (by (with_reducible repeat (first | apply Kd.S_alloc | apply Kd.S_drewN | apply Kd.S_drew)); exact HO134.out) (Kd.R_base ho0) hb); have n3_ := Aside0.mk (Kd.R_lower (Kd.R_new' (Kd.R_new' ho0 (Kd.R_lt (by (with_reducible repeat (first | apply Kd.R_alloc | apply Kd.R_drewN | apply Kd.R_drew)); exact HO126.out))) (Kd.R_lt (by (with_reducible repeat (first | apply Kd.R_alloc | apply Kd.R_drewN | apply Kd.R_drew)); exact HO129.out))) (below_size (by repeat (first | (with_reducible first | exact HB.out | apply below_alloc | apply pw_below_drewN | apply below_drew1) | exact HB.out)))); have n4_ := Aside0.mk (below_step (by repeat (first | (with_reducible first | exact HB.out | apply below_alloc | apply pw_below_drewN | apply below_drew1) | exact HB.out)) hb); clear HO126; clear HO129; clear HO134; clear HB; have HO126 := n0_; have HO129 := n1_; have HO134 := n2_; have HO137 := n3_; have HB := n4_; clear n0_ n1_ n2_ n3_ n4_; (try clear hb); (try clear hb2); (try clear hk); (try clear hi); (try clear ho0); obtain ⟨Ao51, co51, eo51⟩ := Kd.R_slice HO137.out; subst eo51; obtain ⟨Ao52, co52, eo52⟩ := Kd.S_slice HO134.out; subst eo52) | ((with_reducible refine gate_callee (f := 14) rfl ?_); refine goesL_ (some 75) rfl rfl Try.func14 (by kernel_rfl) rfl #[.slice Ao51 t135.length co51, .slice Ao52 t130.length co52] rfl (by (try simp only [List.map_toArray, List.map_cons, List.map_nil]); first | done | rfl | (simp only [List.length_drop, List.length_take]; rfl)) ?_; (with_reducible refine (match_Fill.calls kj21 _ _ t135 _ _ t130 t138 t139 _ ?side1 ?side2 ?side3 ?side4 A40.out).mono ?_); (case side1 => repeat (first | exact (Kd.R_reads' HO137.out).2.2 | (with_reducible refine Kd.C_alloc ?_ _) | (with_reducible refine Kd.C_drewN ?_ _) | (with_reducible refine Kd.C_drew ?_))); (case side2 => exact (Kd.R_reads' HO137.out).2.1); (case side3 => repeat (first | exact (Kd.S_reads' HO134.out).2.2 | (with_reducible refine Kd.C_alloc ?_ _) | (with_reducible refine Kd.C_drewN ?_ _) | (with_reducible refine Kd.C_drew ?_))); (case side4 => exact (Kd.S_reads' HO134.out).2.1); rintro e w53 ⟨v140, rfl, ho0, hb⟩; refine ⟨_, rfl, ?_⟩; have n0_ := Aside0.mk (Kd.R_elder' (by (with_reducible repeat (first | apply Kd.R_alloc | apply Kd.R_drewN | apply Kd.R_drew)); exact HO126.out) (Kd.R_base ho0) hb); have n1_ := Aside0.mk (Kd.R_elder' (by (with_reducible repeat (first | apply Kd.R_alloc | apply Kd.R_drewN | apply Kd.R_drew)); exact HO129.out) (Kd.R_base ho0) hb); have n2_ := Aside0.mk (Kd.S_elder' (by (with_reducible repeat (first | apply Kd.S_alloc | apply Kd.S_drewN | apply Kd.S_drew)); exact HO134.out) (Kd.R_base ho0) hb); have n3_ := Aside0.mk (Kd.R_elder' (by (with_reducible repeat (first | apply Kd.R_alloc | apply Kd.R_drewN | apply Kd.R_drew)); exact HO137.out) (Kd.R_base ho0) hb); have n4_ := Aside0.mk (Kd.R_lower (Kd.R_new' (Kd.R_new' (Kd.R_new' ho0 (Kd.R_lt (by (with_reducible repeat (first | apply Kd.R_alloc | apply Kd.R_drewN | apply Kd.R_drew)); exact HO126.out))) (Kd.R_lt (by (with_reducible repeat (first | apply Kd.R_alloc | apply Kd.R_drewN | apply Kd.R_drew)); exact HO129.out))) (Kd.R_lt (by (with_reducible repeat (first | apply Kd.R_alloc | apply Kd.R_drewN | apply Kd.R_drew)); exact HO137.out))) (below_size (by repeat (first | (with_reducible first | exact HB.out | apply below_alloc | apply pw_below_drewN | apply below_drew1) | exact HB.out)))); have n5_ := Aside0.mk (below_step (by repeat (first | (with_reducible first | exact HB.out | apply below_alloc | apply pw_below_drewN | apply below_drew1) | exact HB.out)) hb); clear HO126; clear HO129; clear HO134; clear HO137; clear HB; have HO126 := n0_; have HO129 := n1_; have HO134 := n2_; have HO137 := n3_; have HO141 := n4_; have HB := n5_; clear n0_ n1_ n2_ n3_ n4_ n5_; (try clear hb); (try clear hb2); (try clear hk); (try clear hi); (try clear ho0); obtain ⟨Ao54, co54, eo54⟩ := Kd.R_slice HO141.out; subst eo54) | (go_at_call 17; (with_reducible refine (aumbryref04_Same.calls kj21 _ _ t138 _ _ l1 t142 _ ?side1 ?side2 ?side3 ?side4 A44.out).mono ?_); (case side1 => repeat (first | exact (Kd.R_reads' HO141.out).2.2 | (with_reducible refine Kd.C_alloc ?_ _) | (with_reducible refine Kd.C_drewN ?_ _) | (with_reducible refine Kd.C_drew ?_))); (case side2 => exact (Kd.R_reads' HO141.out).2.1); (case side3 => repeat (first | exact (Kd.C_below HR1.out HB.out) | (with_reducible refine Kd.C_alloc ?_ _) | (with_reducible refine Kd.C_drewN ?_ _) | (with_reducible refine Kd.C_drew ?_))); (case side4 => exact HC1.out); rintro e w' ⟨rfl, ⟨nd, rfl⟩⟩))
                      go_ret
                      exact ⟨by first | rfl | (simp [errW_none, errW_some] <;> rfl) | (simp [*, errW_none, errW_some] <;> rfl), by repeat (first | (with_reducible first | exact HB.out | apply below_alloc | apply pw_below_drewN | apply below_drew1) | exact HB.out)⟩
                    · rw [if_neg c43] at H
                      have c43b0 : (t139 == 0) = false := beq_eq_false_iff_ne.mpr c43
                      have c43b1 : (t139 != 0) = true := bne_iff_ne.mpr c43
                      obtain rfl := Option.some.inj H
                      go_wp2_with (first | ((with_reducible refine gate_callee (f := 11) rfl ?_); refine goesL_ (some 64) rfl rfl Try.func11 (by kernel_rfl) rfl #[.slice A1 l1.length c1] rfl (by (try simp only [List.map_toArray, List.map_cons, List.map_nil]); first | done | rfl | (simp only [List.length_drop, List.length_take]; rfl)) ?_; (with_reducible refine (aumbrylaw05_own.calls _ _ l1 t124 _ ?side1 ?side2 A36.out).mono ?_); (case side1 => repeat (first | exact (Kd.C_below HR1.out HB.out) | (with_reducible refine Kd.C_alloc ?_ _) | (with_reducible refine Kd.C_drewN ?_ _) | (with_reducible refine Kd.C_drew ?_))); (case side2 => exact HC1.out); rintro e w55 ⟨v125, rfl, ho0, hb⟩; refine ⟨_, rfl, ?_⟩; have n0_ := Aside0.mk (Kd.R_lower ho0 (below_size (by repeat (first | (with_reducible first | exact HB.out | apply below_alloc | apply pw_below_drewN | apply below_drew1) | exact HB.out)))); have n1_ := Aside0.mk (below_step (by repeat (first | (with_reducible first | exact HB.out | apply below_alloc | apply pw_below_drewN | apply below_drew1) | exact HB.out)) hb); clear HB; have HO126 := n0_; have HB := n1_; clear n0_ n1_; (try clear hb); (try clear hb2); (try clear hk); (try clear hi); (try clear ho0)) | ((with_reducible refine gate_callee (f := 11) rfl ?_); refine goesL_ (some 66) rfl rfl Try.func11 (by kernel_rfl) rfl #[.slice A1 l1.length c1] rfl (by (try simp only [List.map_toArray, List.map_cons, List.map_nil]); first | done | rfl | (simp only [List.length_drop, List.length_take]; rfl)) ?_; (with_reducible refine (aumbrylaw05_own.calls _ _ l1 t127 _ ?side1 ?side2 A37.out).mono ?_); (case side1 => repeat (first | exact (Kd.C_below HR1.out HB.out) | (with_reducible refine Kd.C_alloc ?_ _) | (with_reducible refine Kd.C_drewN ?_ _) | (with_reducible refine Kd.C_drew ?_))); (case side2 => exact HC1.out); rintro e w56 ⟨v128, rfl, ho0, hb⟩; refine ⟨_, rfl, ?_⟩; have n0_ := Aside0.mk (Kd.R_elder' (by (with_reducible repeat (first | apply Kd.R_alloc | apply Kd.R_drewN | apply Kd.R_drew)); exact HO126.out) (Kd.R_base ho0) hb); have n1_ := Aside0.mk (Kd.R_lower (Kd.R_new' ho0 (Kd.R_lt (by (with_reducible repeat (first | apply Kd.R_alloc | apply Kd.R_drewN | apply Kd.R_drew)); exact HO126.out))) (below_size (by repeat (first | (with_reducible first | exact HB.out | apply below_alloc | apply pw_below_drewN | apply below_drew1) | exact HB.out)))); have n2_ := Aside0.mk (below_step (by repeat (first | (with_reducible first | exact HB.out | apply below_alloc | apply pw_below_drewN | apply below_drew1) | exact HB.out)) hb); clear HO126; clear HB; have HO126 := n0_; have HO129 := n1_; have HB := n2_; clear n0_ n1_ n2_; (try clear hb); (try clear hb2); (try clear hk); (try clear hi); (try clear ho0); obtain ⟨Ao57, co57, eo57⟩ := Kd.R_slice HO126.out; subst eo57; obtain ⟨Ao58, co58, eo58⟩ := Kd.R_slice HO129.out; subst eo58) | ((with_reducible refine gate_callee (f := 10) rfl ?_); refine goesL_ (some 67) rfl rfl Try.func10 (by kernel_rfl) rfl #[.slice Ao57 t124.length co57, .slice Ao58 t127.length co58] rfl (by (try simp only [List.map_toArray, List.map_cons, List.map_nil]); first | done | rfl | (simp only [List.length_drop, List.length_take]; rfl)) ?_; (with_reducible refine (match_Match.calls kj21 _ _ t124 _ _ t127 t130 true t132 _ ?side1 ?side2 ?side3 ?side4 A38.out).mono ?_); (case side1 => repeat (first | exact (Kd.R_reads' HO126.out).2.2 | (with_reducible refine Kd.C_alloc ?_ _) | (with_reducible refine Kd.C_drewN ?_ _) | (with_reducible refine Kd.C_drew ?_))); (case side2 => exact (Kd.R_reads' HO126.out).2.1); (case side3 => repeat (first | exact (Kd.R_reads' HO129.out).2.2 | (with_reducible refine Kd.C_alloc ?_ _) | (with_reducible refine Kd.C_drewN ?_ _) | (with_reducible refine Kd.C_drew ?_))); (case side4 => exact (Kd.R_reads' HO129.out).2.1); rintro e w59 ⟨v133, rfl, ho0, hb⟩; refine ⟨_, rfl, ?_⟩; have n0_ := Aside0.mk (Kd.R_below (by (with_reducible repeat (first | apply Kd.R_alloc | apply Kd.R_drewN | apply Kd.R_drew)); exact HO126.out) hb); have n1_ := Aside0.mk (Kd.R_below (by (with_reducible repeat (first | apply Kd.R_alloc | apply Kd.R_drewN | apply Kd.R_drew)); exact HO129.out) hb); have n2_ := Aside0.mk (Kd.S_lower (Kd.S_new' (Kd.S_new' ho0 (Kd.R_lt (by (with_reducible repeat (first | apply Kd.R_alloc | apply Kd.R_drewN | apply Kd.R_drew)); exact HO126.out))) (Kd.R_lt (by (with_reducible repeat (first | apply Kd.R_alloc | apply Kd.R_drewN | apply Kd.R_drew)); exact HO129.out))) (below_size (by repeat (first | (with_reducible first | exact HB.out | apply below_alloc | apply pw_below_drewN | apply below_drew1) | exact HB.out)))); have n3_ := Aside0.mk (below_step (by repeat (first | (with_reducible first | exact HB.out | apply below_alloc | apply pw_below_drewN | apply below_drew1) | exact HB.out)) hb); clear HO126; clear HO129; clear HB; have HO126 := n0_; have HO129 := n1_; have HO134 := n2_; have HB := n3_; clear n0_ n1_ n2_ n3_; (try clear hb); (try clear hb2); (try clear hk); (try clear hi); (try clear ho0)) | ((with_reducible refine gate_callee (f := 11) rfl ?_); refine goesL_ (some 73) rfl rfl Try.func11 (by kernel_rfl) rfl #[.slice A1 l1.length c1] rfl (by (try simp only [List.map_toArray, List.map_cons, List.map_nil]); first | done | rfl | (simp only [List.length_drop, List.length_take]; rfl)) ?_; (with_reducible refine (aumbrylaw05_own.calls _ _ l1 t135 _ ?side1 ?side2 A39.out).mono ?_); (case side1 => repeat (first | exact (Kd.C_below HR1.out HB.out) | (with_reducible refine Kd.C_alloc ?_ _) | (with_reducible refine Kd.C_drewN ?_ _) | (with_reducible refine Kd.C_drew ?_))); (case side2 => exact HC1.out); rintro e w60 ⟨v136, rfl, ho0, hb⟩; refine ⟨_, rfl, ?_⟩; have n0_ := Aside0.mk (Kd.R_elder' (by (with_reducible repeat (first | apply Kd.R_alloc | apply Kd.R_drewN | apply Kd.R_drew)); exact HO126.out) (Kd.R_base ho0) hb); have n1_ := Aside0.mk (Kd.R_elder' (by (with_reducible repeat (first | apply Kd.R_alloc | apply Kd.R_drewN | apply Kd.R_drew)); exact HO129.out) (Kd.R_base ho0) hb); have n2_ := Aside0.mk (Kd.S_elder' (by (with_reducible repeat (first | apply Kd.S_alloc | apply Kd.S_drewN | apply Kd.S_drew)); exact HO134.out) (Kd.R_base ho0) hb); have n3_ := Aside0.mk (Kd.R_lower (Kd.R_new' (Kd.R_new' ho0 (Kd.R_lt (by (with_reducible repeat (first | apply Kd.R_alloc | apply Kd.R_drewN | apply Kd.R_drew)); exact HO126.out))) (Kd.R_lt (by (with_reducible repeat (first | apply Kd.R_alloc | apply Kd.R_drewN | apply Kd.R_drew)); exact HO129.out))) (below_size (by repeat (first | (with_reducible first | exact HB.out | apply below_alloc | apply pw_below_drewN | apply below_drew1) | exact HB.out)))); have n4_ := Aside0.mk (below_step (by repeat (first | (with_reducible first | exact HB.out | apply below_alloc | apply pw_below_drewN | apply below_drew1) | exact HB.out)) hb); clear HO126; clear HO129; clear HO134; clear HB; have HO126 := n0_; have HO129 := n1_; have HO134 := n2_; have HO137 := n3_; have HB := n4_; clear n0_ n1_ n2_ n3_ n4_; (try clear hb); (try clear hb2); (try clear hk); (try clear hi); (try clear ho0); obtain ⟨Ao61, co61, eo61⟩ := Kd.R_slice HO137.out; subst eo61; obtain ⟨Ao62, co62, eo62⟩ := Kd.S_slice HO134.out; subst eo62) | ((with_reducible refine gate_callee (f := 14) rfl ?_); refine goesL_ (some 75) rfl rfl Try.func14 (by kernel_rfl) rfl #[.slice Ao61 t135.length co61, .slice Ao62 t130.length co62] rfl (by (try simp only [List.map_toArray, List.map_cons, List.map_nil]); first | done | rfl | (simp only [List.length_drop, List.length_take]; rfl)) ?_; (with_reducible refine (match_Fill.calls kj21 _ _ t135 _ _ t130 t138 t139 _ ?side1 ?side2 ?side3 ?side4 A40.out).mono ?_); (case side1 => repeat (first | exact (Kd.R_reads' HO137.out).2.2 | (with_reducible refine Kd.C_alloc ?_ _) | (with_reducible refine Kd.C_drewN ?_ _) | (with_reducible refine Kd.C_drew ?_))); (case side2 => exact (Kd.R_reads' HO137.out).2.1); (case side3 => repeat (first | exact (Kd.S_reads' HO134.out).2.2 | (with_reducible refine Kd.C_alloc ?_ _) | (with_reducible refine Kd.C_drewN ?_ _) | (with_reducible refine Kd.C_drew ?_))); (case side4 => exact (Kd.S_reads' HO134.out).2.1); rintro e w63 ⟨v140, rfl, ho0, hb⟩; refine ⟨_, rfl, ?_⟩; have n0_ := Aside0.mk (Kd.R_elder' (by (with_reducible repeat (first | apply Kd.R_alloc | apply Kd.R_drewN | apply Kd.R_drew)); exact HO126.out) (Kd.R_base ho0) hb); have n1_ := Aside0.mk (Kd.R_elder' (by (with_reducible repeat (first | apply Kd.R_alloc | apply Kd.R_drewN | apply Kd.R_drew)); exact HO129.out) (Kd.R_base ho0) hb); have n2_ := Aside0.mk (Kd.S_elder' (by (with_reducible repeat (first | apply Kd.S_alloc | apply Kd.S_drewN | apply Kd.S_drew)); exact HO134.out) (Kd.R_base ho0) hb); have n3_ := Aside0.mk (Kd.R_elder' (by (with_reducible repeat (first | apply Kd.R_alloc | apply Kd.R_drewN | apply Kd.R_drew)); exact HO137.out) (Kd.R_base ho0) hb); have n4_ := Aside0.mk (Kd.R_lower (Kd.R_new' (Kd.R_new' (Kd.R_new' ho0 (Kd.R_lt (by (with_reducible repeat (first | apply Kd.R_alloc | apply Kd.R_drewN | apply Kd.R_drew)); exact HO126.out))) (Kd.R_lt (by (with_reducible repeat (first | apply Kd.R_alloc | apply Kd.R_drewN | apply Kd.R_drew)); exact HO129.out))) (Kd.R_lt (by (with_reducible repeat (first | apply Kd.R_alloc | apply Kd.R_drewN | apply Kd.R_drew)); exact HO137.out))) (below_size (by repeat (first | (with_reducible first | exact HB.out | apply below_alloc | apply pw_below_drewN | apply below_drew1) | exact HB.out)))); have n5_ := Aside0.mk (below_step (by repeat (first | (with_reducible first | exact HB.out | apply below_alloc | apply pw_below_drewN | apply below_drew1) | exact HB.out)) hb); clear HO126; clear HO129; clear HO134; clear HO137; clear HB; have HO126 := n0_; have HO129 := n1_; have HO134 := n2_; have HO137 := n3_; have HO141 := n4_; have HB := n5_; clear n0_ n1_ n2_ n3_ n4_ n5_; (try clear hb); (try clear hb2); (try clear hk); (try clear hi); (try clear ho0)))
                      go_ret
                      exact ⟨by first | rfl | (simp [errW_none, errW_some] <;> rfl) | (simp [*, errW_none, errW_some] <;> rfl), by repeat (first | (with_reducible first | exact HB.out | apply below_alloc | apply pw_below_drewN | apply below_drew1) | exact HB.out)⟩
                  · rw [if_neg c42] at H
                    have c42b0 : (t132 == 0) = false := beq_eq_false_iff_ne.mpr c42
                    have c42b1 : (t132 != 0) = true := bne_iff_ne.mpr c42
                    obtain rfl := Option.some.inj H
                    go_wp2_with (first | ((with_reducible refine gate_callee (f := 11) rfl ?_); refine goesL_ (some 64) rfl rfl Try.func11 (by kernel_rfl) rfl #[.slice A1 l1.length c1] rfl (by (try simp only [List.map_toArray, List.map_cons, List.map_nil]); first | done | rfl | (simp only [List.length_drop, List.length_take]; rfl)) ?_; (with_reducible refine (aumbrylaw05_own.calls _ _ l1 t124 _ ?side1 ?side2 A36.out).mono ?_); (case side1 => repeat (first | exact (Kd.C_below HR1.out HB.out) | (with_reducible refine Kd.C_alloc ?_ _) | (with_reducible refine Kd.C_drewN ?_ _) | (with_reducible refine Kd.C_drew ?_))); (case side2 => exact HC1.out); rintro e w64 ⟨v125, rfl, ho0, hb⟩; refine ⟨_, rfl, ?_⟩; have n0_ := Aside0.mk (Kd.R_lower ho0 (below_size (by repeat (first | (with_reducible first | exact HB.out | apply below_alloc | apply pw_below_drewN | apply below_drew1) | exact HB.out)))); have n1_ := Aside0.mk (below_step (by repeat (first | (with_reducible first | exact HB.out | apply below_alloc | apply pw_below_drewN | apply below_drew1) | exact HB.out)) hb); clear HB; have HO126 := n0_; have HB := n1_; clear n0_ n1_; (try clear hb); (try clear hb2); (try clear hk); (try clear hi); (try clear ho0)) | ((with_reducible refine gate_callee (f := 11) rfl ?_); refine goesL_ (some 66) rfl rfl Try.func11 (by kernel_rfl) rfl #[.slice A1 l1.length c1] rfl (by (try simp only [List.map_toArray, List.map_cons, List.map_nil]); first | done | rfl | (simp only [List.length_drop, List.length_take]; rfl)) ?_; (with_reducible refine (aumbrylaw05_own.calls _ _ l1 t127 _ ?side1 ?side2 A37.out).mono ?_); (case side1 => repeat (first | exact (Kd.C_below HR1.out HB.out) | (with_reducible refine Kd.C_alloc ?_ _) | (with_reducible refine Kd.C_drewN ?_ _) | (with_reducible refine Kd.C_drew ?_))); (case side2 => exact HC1.out); rintro e w65 ⟨v128, rfl, ho0, hb⟩; refine ⟨_, rfl, ?_⟩; have n0_ := Aside0.mk (Kd.R_elder' (by (with_reducible repeat (first | apply Kd.R_alloc | apply Kd.R_drewN | apply Kd.R_drew)); exact HO126.out) (Kd.R_base ho0) hb); have n1_ := Aside0.mk (Kd.R_lower (Kd.R_new' ho0 (Kd.R_lt (by (with_reducible repeat (first | apply Kd.R_alloc | apply Kd.R_drewN | apply Kd.R_drew)); exact HO126.out))) (below_size (by repeat (first | (with_reducible first | exact HB.out | apply below_alloc | apply pw_below_drewN | apply below_drew1) | exact HB.out)))); have n2_ := Aside0.mk (below_step (by repeat (first | (with_reducible first | exact HB.out | apply below_alloc | apply pw_below_drewN | apply below_drew1) | exact HB.out)) hb); clear HO126; clear HB; have HO126 := n0_; have HO129 := n1_; have HB := n2_; clear n0_ n1_ n2_; (try clear hb); (try clear hb2); (try clear hk); (try clear hi); (try clear ho0); obtain ⟨Ao66, co66, eo66⟩ := Kd.R_slice HO126.out; subst eo66; obtain ⟨Ao67, co67, eo67⟩ := Kd.R_slice HO129.out; subst eo67) | ((with_reducible refine gate_callee (f := 10) rfl ?_); refine goesL_ (some 67) rfl rfl Try.func10 (by kernel_rfl) rfl #[.slice Ao66 t124.length co66, .slice Ao67 t127.length co67] rfl (by (try simp only [List.map_toArray, List.map_cons, List.map_nil]); first | done | rfl | (simp only [List.length_drop, List.length_take]; rfl)) ?_; (with_reducible refine (match_Match.calls kj21 _ _ t124 _ _ t127 t130 true t132 _ ?side1 ?side2 ?side3 ?side4 A38.out).mono ?_); (case side1 => repeat (first | exact (Kd.R_reads' HO126.out).2.2 | (with_reducible refine Kd.C_alloc ?_ _) | (with_reducible refine Kd.C_drewN ?_ _) | (with_reducible refine Kd.C_drew ?_))); (case side2 => exact (Kd.R_reads' HO126.out).2.1); (case side3 => repeat (first | exact (Kd.R_reads' HO129.out).2.2 | (with_reducible refine Kd.C_alloc ?_ _) | (with_reducible refine Kd.C_drewN ?_ _) | (with_reducible refine Kd.C_drew ?_))); (case side4 => exact (Kd.R_reads' HO129.out).2.1); rintro e w68 ⟨v133, rfl, ho0, hb⟩; refine ⟨_, rfl, ?_⟩; have n0_ := Aside0.mk (Kd.R_below (by (with_reducible repeat (first | apply Kd.R_alloc | apply Kd.R_drewN | apply Kd.R_drew)); exact HO126.out) hb); have n1_ := Aside0.mk (Kd.R_below (by (with_reducible repeat (first | apply Kd.R_alloc | apply Kd.R_drewN | apply Kd.R_drew)); exact HO129.out) hb); have n2_ := Aside0.mk (Kd.S_lower (Kd.S_new' (Kd.S_new' ho0 (Kd.R_lt (by (with_reducible repeat (first | apply Kd.R_alloc | apply Kd.R_drewN | apply Kd.R_drew)); exact HO126.out))) (Kd.R_lt (by (with_reducible repeat (first | apply Kd.R_alloc | apply Kd.R_drewN | apply Kd.R_drew)); exact HO129.out))) (below_size (by repeat (first | (with_reducible first | exact HB.out | apply below_alloc | apply pw_below_drewN | apply below_drew1) | exact HB.out)))); have n3_ := Aside0.mk (below_step (by repeat (first | (with_reducible first | exact HB.out | apply below_alloc | apply pw_below_drewN | apply below_drew1) | exact HB.out)) hb); clear HO126; clear HO129; clear HB; have HO126 := n0_; have HO129 := n1_; have HO134 := n2_; have HB := n3_; clear n0_ n1_ n2_ n3_; (try clear hb); (try clear hb2); (try clear hk); (try clear hi); (try clear ho0)) | ((with_reducible refine gate_callee (f := 11) rfl ?_); refine goesL_ (some 73) rfl rfl Try.func11 (by kernel_rfl) rfl #[.slice A1 l1.length c1] rfl (by (try simp only [List.map_toArray, List.map_cons, List.map_nil]); first | done | rfl | (simp only [List.length_drop, List.length_take]; rfl)) ?_; (with_reducible refine (aumbrylaw05_own.calls _ _ l1 t135 _ ?side1 ?side2 A39.out).mono ?_); (case side1 => repeat (first | exact (Kd.C_below HR1.out HB.out) | (with_reducible refine Kd.C_alloc ?_ _) | (with_reducible refine Kd.C_drewN ?_ _) | (with_reducible refine Kd.C_drew ?_))); (case side2 => exact HC1.out); rintro e w69 ⟨v136, rfl, ho0, hb⟩; refine ⟨_, rfl, ?_⟩; have n0_ := Aside0.mk (Kd.R_elder' (by (with_reducible repeat (first | apply Kd.R_alloc | apply Kd.R_drewN | apply Kd.R_drew)); exact HO126.out) (Kd.R_base ho0) hb); have n1_ := Aside0.mk (Kd.R_elder' (by (with_reducible repeat (first | apply Kd.R_alloc | apply Kd.R_drewN | apply Kd.R_drew)); exact HO129.out) (Kd.R_base ho0) hb); have n2_ := Aside0.mk (Kd.S_elder' (by (with_reducible repeat (first | apply Kd.S_alloc | apply Kd.S_drewN | apply Kd.S_drew)); exact HO134.out) (Kd.R_base ho0) hb); have n3_ := Aside0.mk (Kd.R_lower (Kd.R_new' (Kd.R_new' ho0 (Kd.R_lt (by (with_reducible repeat (first | apply Kd.R_alloc | apply Kd.R_drewN | apply Kd.R_drew)); exact HO126.out))) (Kd.R_lt (by (with_reducible repeat (first | apply Kd.R_alloc | apply Kd.R_drewN | apply Kd.R_drew)); exact HO129.out))) (below_size (by repeat (first | (with_reducible first | exact HB.out | apply below_alloc | apply pw_below_drewN | apply below_drew1) | exact HB.out)))); have n4_ := Aside0.mk (below_step (by repeat (first | (with_reducible first | exact HB.out | apply below_alloc | apply pw_below_drewN | apply below_drew1) | exact HB.out)) hb); clear HO126; clear HO129; clear HO134; clear HB; have HO126 := n0_; have HO129 := n1_; have HO134 := n2_; have HO137 := n3_; have HB := n4_; clear n0_ n1_ n2_ n3_ n4_; (try clear hb); (try clear hb2); (try clear hk); (try clear hi); (try clear ho0); obtain ⟨Ao70, co70, eo70⟩ := Kd.R_slice HO137.out; subst eo70; obtain ⟨Ao71, co71, eo71⟩ := Kd.S_slice HO134.out; subst eo71) | ((with_reducible refine gate_callee (f := 14) rfl ?_); refine goesL_ (some 75) rfl rfl Try.func14 (by kernel_rfl) rfl #[.slice Ao70 t135.length co70, .slice Ao71 t130.length co71] rfl (by (try simp only [List.map_toArray, List.map_cons, List.map_nil]); first | done | rfl | (simp only [List.length_drop, List.length_take]; rfl)) ?_; (with_reducible refine (match_Fill.calls kj21 _ _ t135 _ _ t130 t138 t139 _ ?side1 ?side2 ?side3 ?side4 A40.out).mono ?_); (case side1 => repeat (first | exact (Kd.R_reads' HO137.out).2.2 | (with_reducible refine Kd.C_alloc ?_ _) | (with_reducible refine Kd.C_drewN ?_ _) | (with_reducible refine Kd.C_drew ?_))); (case side2 => exact (Kd.R_reads' HO137.out).2.1); (case side3 => repeat (first | exact (Kd.S_reads' HO134.out).2.2 | (with_reducible refine Kd.C_alloc ?_ _) | (with_reducible refine Kd.C_drewN ?_ _) | (with_reducible refine Kd.C_drew ?_))); (case side4 => exact (Kd.S_reads' HO134.out).2.1); rintro e w72 ⟨v140, rfl, ho0, hb⟩; refine ⟨_, rfl, ?_⟩; have n0_ := Aside0.mk (Kd.R_elder' (by (with_reducible repeat (first | apply Kd.R_alloc | apply Kd.R_drewN | apply Kd.R_drew)); exact HO126.out) (Kd.R_base ho0) hb); have n1_ := Aside0.mk (Kd.R_elder' (by (with_reducible repeat (first | apply Kd.R_alloc | apply Kd.R_drewN | apply Kd.R_drew)); exact HO129.out) (Kd.R_base ho0) hb); have n2_ := Aside0.mk (Kd.S_elder' (by (with_reducible repeat (first | apply Kd.S_alloc | apply Kd.S_drewN | apply Kd.S_drew)); exact HO134.out) (Kd.R_base ho0) hb); have n3_ := Aside0.mk (Kd.R_elder' (by (with_reducible repeat (first | apply Kd.R_alloc | apply Kd.R_drewN | apply Kd.R_drew)); exact HO137.out) (Kd.R_base ho0) hb); have n4_ := Aside0.mk (Kd.R_lower (Kd.R_new' (Kd.R_new' (Kd.R_new' ho0 (Kd.R_lt (by (with_reducible repeat (first | apply Kd.R_alloc | apply Kd.R_drewN | apply Kd.R_drew)); exact HO126.out))) (Kd.R_lt (by (with_reducible repeat (first | apply Kd.R_alloc | apply Kd.R_drewN | apply Kd.R_drew)); exact HO129.out))) (Kd.R_lt (by (with_reducible repeat (first | apply Kd.R_alloc | apply Kd.R_drewN | apply Kd.R_drew)); exact HO137.out))) (below_size (by repeat (first | (with_reducible first | exact HB.out | apply below_alloc | apply pw_below_drewN | apply below_drew1) | exact HB.out)))); have n5_ := Aside0.mk (below_step (by repeat (first | (with_reducible first | exact HB.out | apply below_alloc | apply pw_below_drewN | apply below_drew1) | exact HB.out)) hb); clear HO126; clear HO129; clear HO134; clear HO137; clear HB; have HO126 := n0_; have HO129 := n1_; have HO134 := n2_; have HO137 := n3_; have HO141 := n4_; have HB := n5_; clear n0_ n1_ n2_ n3_ n4_ n5_; (try clear hb); (try clear hb2); (try clear hk); (try clear hi); (try clear ho0)))
                    go_ret
                    exact ⟨by first | rfl | (simp [errW_none, errW_some] <;> rfl) | (simp [*, errW_none, errW_some] <;> rfl), by repeat (first | (with_reducible first | exact HB.out | apply below_alloc | apply pw_below_drewN | apply below_drew1) | exact HB.out)⟩
                · replace c41 := Bool.eq_false_iff.mpr c41
                  subst c41
                  have H1 : (some false) = some r := by rw [if_neg (show ¬ (false = true) by decide)] at H; exact H
                  clear H
                  have H := H1
                  clear H1
                  obtain rfl := Option.some.inj H
                  go_wp2_with (first | ((with_reducible refine gate_callee (f := 11) rfl ?_); refine goesL_ (some 64) rfl rfl Try.func11 (by kernel_rfl) rfl #[.slice A1 l1.length c1] rfl (by (try simp only [List.map_toArray, List.map_cons, List.map_nil]); first | done | rfl | (simp only [List.length_drop, List.length_take]; rfl)) ?_; (with_reducible refine (aumbrylaw05_own.calls _ _ l1 t124 _ ?side1 ?side2 A36.out).mono ?_); (case side1 => repeat (first | exact (Kd.C_below HR1.out HB.out) | (with_reducible refine Kd.C_alloc ?_ _) | (with_reducible refine Kd.C_drewN ?_ _) | (with_reducible refine Kd.C_drew ?_))); (case side2 => exact HC1.out); rintro e w73 ⟨v125, rfl, ho0, hb⟩; refine ⟨_, rfl, ?_⟩; have n0_ := Aside0.mk (Kd.R_lower ho0 (below_size (by repeat (first | (with_reducible first | exact HB.out | apply below_alloc | apply pw_below_drewN | apply below_drew1) | exact HB.out)))); have n1_ := Aside0.mk (below_step (by repeat (first | (with_reducible first | exact HB.out | apply below_alloc | apply pw_below_drewN | apply below_drew1) | exact HB.out)) hb); clear HB; have HO126 := n0_; have HB := n1_; clear n0_ n1_; (try clear hb); (try clear hb2); (try clear hk); (try clear hi); (try clear ho0)) | ((with_reducible refine gate_callee (f := 11) rfl ?_); refine goesL_ (some 66) rfl rfl Try.func11 (by kernel_rfl) rfl #[.slice A1 l1.length c1] rfl (by (try simp only [List.map_toArray, List.map_cons, List.map_nil]); first | done | rfl | (simp only [List.length_drop, List.length_take]; rfl)) ?_; (with_reducible refine (aumbrylaw05_own.calls _ _ l1 t127 _ ?side1 ?side2 A37.out).mono ?_); (case side1 => repeat (first | exact (Kd.C_below HR1.out HB.out) | (with_reducible refine Kd.C_alloc ?_ _) | (with_reducible refine Kd.C_drewN ?_ _) | (with_reducible refine Kd.C_drew ?_))); (case side2 => exact HC1.out); rintro e w74 ⟨v128, rfl, ho0, hb⟩; refine ⟨_, rfl, ?_⟩; have n0_ := Aside0.mk (Kd.R_elder' (by (with_reducible repeat (first | apply Kd.R_alloc | apply Kd.R_drewN | apply Kd.R_drew)); exact HO126.out) (Kd.R_base ho0) hb); have n1_ := Aside0.mk (Kd.R_lower (Kd.R_new' ho0 (Kd.R_lt (by (with_reducible repeat (first | apply Kd.R_alloc | apply Kd.R_drewN | apply Kd.R_drew)); exact HO126.out))) (below_size (by repeat (first | (with_reducible first | exact HB.out | apply below_alloc | apply pw_below_drewN | apply below_drew1) | exact HB.out)))); have n2_ := Aside0.mk (below_step (by repeat (first | (with_reducible first | exact HB.out | apply below_alloc | apply pw_below_drewN | apply below_drew1) | exact HB.out)) hb); clear HO126; clear HB; have HO126 := n0_; have HO129 := n1_; have HB := n2_; clear n0_ n1_ n2_; (try clear hb); (try clear hb2); (try clear hk); (try clear hi); (try clear ho0); obtain ⟨Ao75, co75, eo75⟩ := Kd.R_slice HO126.out; subst eo75; obtain ⟨Ao76, co76, eo76⟩ := Kd.R_slice HO129.out; subst eo76) | ((with_reducible refine gate_callee (f := 10) rfl ?_); refine goesL_ (some 67) rfl rfl Try.func10 (by kernel_rfl) rfl #[.slice Ao75 t124.length co75, .slice Ao76 t127.length co76] rfl (by (try simp only [List.map_toArray, List.map_cons, List.map_nil]); first | done | rfl | (simp only [List.length_drop, List.length_take]; rfl)) ?_; (with_reducible refine (match_Match.calls kj21 _ _ t124 _ _ t127 t130 false t132 _ ?side1 ?side2 ?side3 ?side4 A38.out).mono ?_); (case side1 => repeat (first | exact (Kd.R_reads' HO126.out).2.2 | (with_reducible refine Kd.C_alloc ?_ _) | (with_reducible refine Kd.C_drewN ?_ _) | (with_reducible refine Kd.C_drew ?_))); (case side2 => exact (Kd.R_reads' HO126.out).2.1); (case side3 => repeat (first | exact (Kd.R_reads' HO129.out).2.2 | (with_reducible refine Kd.C_alloc ?_ _) | (with_reducible refine Kd.C_drewN ?_ _) | (with_reducible refine Kd.C_drew ?_))); (case side4 => exact (Kd.R_reads' HO129.out).2.1); rintro e w77 ⟨v133, rfl, ho0, hb⟩; refine ⟨_, rfl, ?_⟩; have n0_ := Aside0.mk (Kd.R_below (by (with_reducible repeat (first | apply Kd.R_alloc | apply Kd.R_drewN | apply Kd.R_drew)); exact HO126.out) hb); have n1_ := Aside0.mk (Kd.R_below (by (with_reducible repeat (first | apply Kd.R_alloc | apply Kd.R_drewN | apply Kd.R_drew)); exact HO129.out) hb); have n2_ := Aside0.mk (Kd.S_lower (Kd.S_new' (Kd.S_new' ho0 (Kd.R_lt (by (with_reducible repeat (first | apply Kd.R_alloc | apply Kd.R_drewN | apply Kd.R_drew)); exact HO126.out))) (Kd.R_lt (by (with_reducible repeat (first | apply Kd.R_alloc | apply Kd.R_drewN | apply Kd.R_drew)); exact HO129.out))) (below_size (by repeat (first | (with_reducible first | exact HB.out | apply below_alloc | apply pw_below_drewN | apply below_drew1) | exact HB.out)))); have n3_ := Aside0.mk (below_step (by repeat (first | (with_reducible first | exact HB.out | apply below_alloc | apply pw_below_drewN | apply below_drew1) | exact HB.out)) hb); clear HO126; clear HO129; clear HB; have HO126 := n0_; have HO129 := n1_; have HO134 := n2_; have HB := n3_; clear n0_ n1_ n2_ n3_; (try clear hb); (try clear hb2); (try clear hk); (try clear hi); (try clear ho0)) | ((with_reducible refine gate_callee (f := 11) rfl ?_); refine goesL_ (some 73) rfl rfl Try.func11 (by kernel_rfl) rfl #[.slice A1 l1.length c1] rfl (by (try simp only [List.map_toArray, List.map_cons, List.map_nil]); first | done | rfl | (simp only [List.length_drop, List.length_take]; rfl)) ?_; (with_reducible refine (aumbrylaw05_own.calls _ _ l1 t135 _ ?side1 ?side2 A39.out).mono ?_); (case side1 => repeat (first | exact (Kd.C_below HR1.out HB.out) | (with_reducible refine Kd.C_alloc ?_ _) | (with_reducible refine Kd.C_drewN ?_ _) | (with_reducible refine Kd.C_drew ?_))); (case side2 => exact HC1.out); rintro e w78 ⟨v136, rfl, ho0, hb⟩; refine ⟨_, rfl, ?_⟩; have n0_ := Aside0.mk (Kd.R_elder' (by (with_reducible repeat (first | apply Kd.R_alloc | apply Kd.R_drewN | apply Kd.R_drew)); exact HO126.out) (Kd.R_base ho0) hb); have n1_ := Aside0.mk (Kd.R_elder' (by (with_reducible repeat (first | apply Kd.R_alloc | apply Kd.R_drewN | apply Kd.R_drew)); exact HO129.out) (Kd.R_base ho0) hb); have n2_ := Aside0.mk (Kd.S_elder' (by (with_reducible repeat (first | apply Kd.S_alloc | apply Kd.S_drewN | apply Kd.S_drew)); exact HO134.out) (Kd.R_base ho0) hb); have n3_ := Aside0.mk (Kd.R_lower (Kd.R_new' (Kd.R_new' ho0 (Kd.R_lt (by (with_reducible repeat (first | apply Kd.R_alloc | apply Kd.R_drewN | apply Kd.R_drew)); exact HO126.out))) (Kd.R_lt (by (with_reducible repeat (first | apply Kd.R_alloc | apply Kd.R_drewN | apply Kd.R_drew)); exact HO129.out))) (below_size (by repeat (first | (with_reducible first | exact HB.out | apply below_alloc | apply pw_below_drewN | apply below_drew1) | exact HB.out)))); have n4_ := Aside0.mk (below_step (by repeat (first | (with_reducible first | exact HB.out | apply below_alloc | apply pw_below_drewN | apply below_drew1) | exact HB.out)) hb); clear HO126; clear HO129; clear HO134; clear HB; have HO126 := n0_; have HO129 := n1_; have HO134 := n2_; have HO137 := n3_; have HB := n4_; clear n0_ n1_ n2_ n3_ n4_; (try clear hb); (try clear hb2); (try clear hk); (try clear hi); (try clear ho0); obtain ⟨Ao79, co79, eo79⟩ := Kd.R_slice HO137.out; subst eo79; obtain ⟨Ao80, co80, eo80⟩ := Kd.S_slice HO134.out; subst eo80) | ((with_reducible refine gate_callee (f := 14) rfl ?_); refine goesL_ (some 75) rfl rfl Try.func14 (by kernel_rfl) rfl #[.slice Ao79 t135.length co79, .slice Ao80 t130.length co80] rfl (by (try simp only [List.map_toArray, List.map_cons, List.map_nil]); first | done | rfl | (simp only [List.length_drop, List.length_take]; rfl)) ?_; (with_reducible refine (match_Fill.calls kj21 _ _ t135 _ _ t130 t138 t139 _ ?side1 ?side2 ?side3 ?side4 A40.out).mono ?_); (case side1 => repeat (first | exact (Kd.R_reads' HO137.out).2.2 | (with_reducible refine Kd.C_alloc ?_ _) | (with_reducible refine Kd.C_drewN ?_ _) | (with_reducible refine Kd.C_drew ?_))); (case side2 => exact (Kd.R_reads' HO137.out).2.1); (case side3 => repeat (first | exact (Kd.S_reads' HO134.out).2.2 | (with_reducible refine Kd.C_alloc ?_ _) | (with_reducible refine Kd.C_drewN ?_ _) | (with_reducible refine Kd.C_drew ?_))); (case side4 => exact (Kd.S_reads' HO134.out).2.1); rintro e w81 ⟨v140, rfl, ho0, hb⟩; refine ⟨_, rfl, ?_⟩; have n0_ := Aside0.mk (Kd.R_elder' (by (with_reducible repeat (first | apply Kd.R_alloc | apply Kd.R_drewN | apply Kd.R_drew)); exact HO126.out) (Kd.R_base ho0) hb); have n1_ := Aside0.mk (Kd.R_elder' (by (with_reducible repeat (first | apply Kd.R_alloc | apply Kd.R_drewN | apply Kd.R_drew)); exact HO129.out) (Kd.R_base ho0) hb); have n2_ := Aside0.mk (Kd.S_elder' (by (with_reducible repeat (first | apply Kd.S_alloc | apply Kd.S_drewN | apply Kd.S_drew)); exact HO134.out) (Kd.R_base ho0) hb); have n3_ := Aside0.mk (Kd.R_elder' (by (with_reducible repeat (first | apply Kd.R_alloc | apply Kd.R_drewN | apply Kd.R_drew)); exact HO137.out) (Kd.R_base ho0) hb); have n4_ := Aside0.mk (Kd.R_lower (Kd.R_new' (Kd.R_new' (Kd.R_new' ho0 (Kd.R_lt (by (with_reducible repeat (first | apply Kd.R_alloc | apply Kd.R_drewN | apply Kd.R_drew)); exact HO126.out))) (Kd.R_lt (by (with_reducible repeat (first | apply Kd.R_alloc | apply Kd.R_drewN | apply Kd.R_drew)); exact HO129.out))) (Kd.R_lt (by (with_reducible repeat (first | apply Kd.R_alloc | apply Kd.R_drewN | apply Kd.R_drew)); exact HO137.out))) (below_size (by repeat (first | (with_reducible first | exact HB.out | apply below_alloc | apply pw_below_drewN | apply below_drew1) | exact HB.out)))); have n5_ := Aside0.mk (below_step (by repeat (first | (with_reducible first | exact HB.out | apply below_alloc | apply pw_below_drewN | apply below_drew1) | exact HB.out)) hb); clear HO126; clear HO129; clear HO134; clear HO137; clear HB; have HO126 := n0_; have HO129 := n1_; have HO134 := n2_; have HO137 := n3_; have HO141 := n4_; have HB := n5_; clear n0_ n1_ n2_ n3_ n4_ n5_; (try clear hb); (try clear hb2); (try clear hk); (try clear hi); (try clear ho0)))
                  go_ret
                  exact ⟨by first | rfl | (simp [errW_none, errW_some] <;> rfl) | (simp [*, errW_none, errW_some] <;> rfl), by repeat (first | (with_reducible first | exact HB.out | apply below_alloc | apply pw_below_drewN | apply below_drew1) | exact HB.out)⟩
  · replace c4 := Bool.eq_false_iff.mpr c4
    subst c4
    have H1 : (some false) = some r := by rw [if_neg (show ¬ (false = true) by decide)] at H; exact H
    clear H
    have H := H1
    clear H1
    obtain rfl := Option.some.inj H
    go_enter Try.func5, Try.ntmps5
    go_wp2_with (first | ((with_reducible refine gate_callee (f := 9) rfl ?_); refine goesL_ (some 15) rfl rfl Try.func9 (by kernel_rfl) rfl #[] rfl (by (try simp only [List.map_toArray, List.map_cons, List.map_nil]); first | done | rfl | (simp only [List.length_drop, List.length_take]; rfl)) ?_; (with_reducible refine (aumbrylaw05_wakes.calls k  false _ A3.out).mono ?_); rintro e w82 ⟨rfl, hb⟩; refine ⟨_, rfl, ?_⟩; have n0_ := Aside0.mk (below_step (by repeat (first | (with_reducible first | exact HB.out | apply below_alloc | apply pw_below_drewN | apply below_drew1) | exact HB.out)) hb); clear HB; have HB := n0_; clear n0_; (try clear hb); (try clear hb2); (try clear hk); (try clear hi)))
    go_ret
    exact ⟨by first | rfl | (simp [errW_none, errW_some] <;> rfl) | (simp [*, errW_none, errW_some] <;> rfl), by repeat (first | (with_reducible first | exact HB.out | apply below_alloc | apply pw_below_drewN | apply below_drew1) | exact HB.out)⟩

end Go.Proofs.Ytlfhonekcmlomaa.P

-- ==== Open
/- What came in and can be read as data, read as the print's kinds: for each kind one fact, put together by the types' shapes. -/
set_option linter.unusedVariables false
namespace Go.Proofs.Ytlfhonekcmlomaa.Open
open Go.RowKit Go.Proofs.YtlfhonekcmlomaaW.PrintWords Go.Proofs.Ytlfhonekcmlomaa.Rows

structure Opens {α : Type} (P : Program) (t : TypeId) (d : Kd α) (Sz : α → Prop) (Bk : α → Nat) : Prop where
  cells : P.cellsOf t = d.sz
  go : ∀ {H : Type} {enc : TypeId × Value → H} {w : World} {base : Nat} {spare : Nat → Bool} {held : Bool} {n : Nat} {cs : List Value} {x : DataW H × List MemPlace},
    DataW.trod enc P w base spare held n t cs = some x → (∀ m ∈ x.1.weights P t, m ≤ reachBytes) → ∃ v : α, d.K w v cs ∧ Sz v ∧ Bk v ≤ uptoBulk x.1

theorem opens_int {P : Program} {t : TypeId} {k : IntKind} (ht : P.underlying t = some (.int k)) (hc : P.cellsOf t = 1) : Opens P t (Kd.int k) (fun a => (Lit.int k a).wf = true) (fun _ => 1) := by
  refine ⟨hc, fun h _ => ?_⟩
  obtain ⟨a, rfl, rfl, hw⟩ := DataW.trod_int ht h
  exact ⟨a, rfl, hw, by simp [uptoBulk]⟩

theorem opens_string {P : Program} {t : TypeId} (ht : P.underlying t = some .string) (hc : P.cellsOf t = 1) : Opens P t Kd.string (fun s => s.size ≤ 140737488351232) (fun s => s.size + 1) := by
  refine ⟨hc, fun h hw => ?_⟩
  obtain ⟨a, rfl, rfl, hs⟩ := DataW.trod_string ht h
  have hl : a.data.toList.length = a.size := data_length a
  refine ⟨a, rfl, ?_, ?_⟩
  · have := hw a.data.toList.length (by simp [DataW.weights])
    rw [hl] at this
    exact this
  · simp only [uptoBulk]
    omega

theorem mem_weightsAll {H : Type} {P : Program} {e : TypeId} {d : DataW H} : ∀ {l : List (DataW H)}, d ∈ l → ∀ {m : Nat}, m ∈ d.weights P e → m ∈ DataW.weightsAll P e l
  | a :: l, h, m, hm => by
    simp only [DataW.weightsAll, List.mem_append]
    rcases List.mem_cons.1 h with rfl | h
    · exact .inl hm
    · exact .inr (mem_weightsAll h hm)
  | [], h, _, _ => by cases h

def bulkAll {α : Type} (Bk : α → Nat) (l : List α) : Nat := (l.map Bk).sum

theorem bulk_all_le {H α : Type} (Bk : α → Nat) : ∀ (xs : List α) (ds : List (DataW H)), xs.length = ds.length → (∀ (i : Nat) x d, xs[i]? = some x → ds[i]? = some d → Bk x ≤ uptoBulk d) → bulkAll Bk xs ≤ uptoBulkAll ds
  | [], [], _, _ => by simp [bulkAll, uptoBulkAll]
  | x :: xs, d :: ds, hl, h => by
    have h0 := h 0 x d rfl rfl
    have h1 := bulk_all_le Bk xs ds (by simpa using hl) (fun i x' d' hx hd => h (i + 1) x' d' (by simpa using hx) (by simpa using hd))
    simp only [bulkAll, uptoBulkAll, List.map_cons, List.sum_cons] at h1 ⊢
    omega
  | [], _ :: _, hl, _ => by simp at hl
  | _ :: _, [], hl, _ => by simp at hl

theorem opens_slice {α : Type} {P : Program} {t e : TypeId} {d : Kd α} {Sz : α → Prop} {Bk : α → Nat} {b : Nat} (ht : P.underlying t = some (.slice e)) (hc : P.cellsOf t = 1) (hb : P.bytesOf e = b) (ho : Opens P e d Sz Bk) :
    Opens P t (Kd.slice e d) (fun l => l.length * b ≤ 140737488351232 ∧ ∀ x ∈ l, Sz x) (fun l => bulkAll Bk l + 1) := by
  refine ⟨hc, ?_⟩
  intro H enc w base spare held n cs x h hw
  rcases Go.Deep.open_slice ht h with ⟨rfl, rfl⟩ | ⟨a, len, cap, m, n', D, Pl, rfl, _, hl, hm, hmm, rfl, hx⟩
  · exact ⟨[], ⟨none, 0, rfl, Nat.le_refl _, Kd.C_nil d w⟩, ⟨by simp, by simp⟩, by simp [bulkAll, uptoBulk]⟩
  · have hlm : len ≤ m := by rw [hmm]; split <;> omega
    have hel : ∀ i, i < len → ∃ v : α, (∃ cs', w.cells? base (a.add (i * P.cellsOf e)) (P.cellsOf e) = some cs' ∧ d.K w v cs') ∧ Sz v ∧ Bk v ≤ uptoBulk (D i) := by
      intro i hi
      obtain ⟨cs', h1, h2⟩ := hx i (by omega)
      obtain ⟨v, hv, hs, hbk⟩ := ho.go h2 (fun m' hm' => hw m' (by
        simp only [DataW.weights, ht, List.mem_cons, List.mem_append]
        exact .inr (.inl (mem_weightsAll (List.mem_map.2 ⟨i, List.mem_range.2 hi, rfl⟩) hm'))))
      exact ⟨v, ⟨cs', h1, hv⟩, hs, hbk⟩
    have hex : ∃ l : List α, l.length = len ∧ ∀ (i : Nat) v, l[i]? = some v → (∃ cs', w.cells? base (a.add (i * P.cellsOf e)) (P.cellsOf e) = some cs' ∧ d.K w v cs') ∧ Sz v ∧ Bk v ≤ uptoBulk (D i) := by
      clear hx hw h hmm hlm hl hm
      induction len with
      | zero => exact ⟨[], rfl, fun i v hv => by simp at hv⟩
      | succ k ih =>
        obtain ⟨l, h1, h2⟩ := ih (fun i hi => hel i (by omega))
        obtain ⟨v, hv⟩ := hel k (by omega)
        refine ⟨l ++ [v], by simp [h1], fun i u hu => ?_⟩
        by_cases hi : i < l.length
        · rw [List.getElem?_append_left hi] at hu
          exact h2 i u hu
        · have hik : i = l.length := by
            have := (List.getElem?_eq_some_iff.1 hu).1
            simp at this
            omega
          subst hik
          simp at hu
          subst hu
          rw [h1]
          exact hv
    obtain ⟨l, hll, hlv⟩ := hex
    subst hll
    refine ⟨l, ⟨some a, cap, rfl, hl, rfl, ?_, fun hp => ⟨a, rfl, fun j v hj => ?_⟩⟩, ⟨?_, ?_⟩, ?_⟩
    · have : maxLen ≤ 9223372036854775807 := by decide
      omega
    · obtain ⟨⟨cs', h1, h2⟩, _, _⟩ := hlv j v hj
      refine ⟨cs', d.K_len h2, h2, fun i u hu => ?_⟩
      obtain ⟨_, hlen, hcell⟩ := World.cells?_some h1
      have hi : i < cs'.length := (List.getElem?_eq_some_iff.1 hu).1
      have hsz := d.K_len h2
      rw [ho.cells] at hcell hlen
      have := hcell i (by omega)
      rw [hu] at this
      rw [← this, add_add]
    · have := hw ((((List.range l.length).map D).length + ((List.range (m - l.length)).map fun j => D (l.length + j)).length) * P.bytesOf e) (by simp [DataW.weights, ht])
      simp only [List.length_map, List.length_range] at this
      rw [hb] at this
      have h3 : reachBytes = 140737488351232 := by decide
      rw [h3] at this
      have h4 : l.length * b ≤ (l.length + (m - l.length)) * b := Nat.mul_le_mul_right _ (by omega)
      omega
    · intro v hv
      obtain ⟨i, hi, rfl⟩ := List.mem_iff_getElem.1 hv
      exact (hlv i _ (List.getElem?_eq_getElem hi)).2.1
    · have := bulk_all_le Bk l ((List.range l.length).map D) (by simp) (fun i v dd hv hd => by
        have hi : i < l.length := (List.getElem?_eq_some_iff.1 hv).1
        simp [hi] at hd
        rw [← hd]
        exact (hlv i v hv).2.2)
      simp only [uptoBulk]
      omega

/-! Structs: the fields, one behind the other. -/
def offs (P : Program) : List TypeId → Nat → Nat
  | [], _ => 0
  | _, 0 => 0
  | t :: ts, i + 1 => P.cellsOf t + offs P ts i

structure OpensF {α : Type} (P : Program) (ts : List TypeId) (d : Kd α) (Sz : α → Prop) (Bk : α → Nat) : Prop where
  cells : (ts.map P.cellsOf).sum = d.sz
  go : ∀ {H : Type} {enc : TypeId × Value → H} {w : World} {base : Nat} {spare : Nat → Bool} {held : Bool} {n : Nat} {cs : List Value} {xs : List (DataW H × List MemPlace)},
    cs.length = d.sz → xs.length = ts.length → (∀ (i : Nat) t, ts[i]? = some t → DataW.trod enc P w base spare held n t ((cs.drop (offs P ts i)).take (P.cellsOf t)) = xs[i]?) →
    (∀ m ∈ DataW.weightsEach P ts (xs.map (·.1)), m ≤ reachBytes) → ∃ v : α, d.K w v cs ∧ Sz v ∧ Bk v ≤ uptoBulkAll (xs.map (·.1))

theorem opensF_one {α : Type} {P : Program} {t : TypeId} {d : Kd α} {Sz : α → Prop} {Bk : α → Nat} (ho : Opens P t d Sz Bk) : OpensF P [t] d Sz Bk := by
  refine ⟨by simp [ho.cells], fun {H enc w base spare held n cs xs} hl hx h hw => ?_⟩
  match xs, hx with
  | [y], _ =>
    have h0 := h 0 t rfl
    rw [show offs P [t] 0 = 0 from rfl, List.drop_zero, List.take_of_length_le (by rw [ho.cells]; omega)] at h0
    obtain ⟨v, h1, h2, h3⟩ := ho.go h0 (fun m hm => hw m (by simp [DataW.weightsEach, hm]))
    exact ⟨v, h1, h2, by simpa [uptoBulkAll] using h3⟩

theorem opensF_cons {α β : Type} {P : Program} {t : TypeId} {ts : List TypeId} {d : Kd α} {ds : Kd β} {Sz : α → Prop} {Bk : α → Nat} {Szs : β → Prop} {Bks : β → Nat} (ho : Opens P t d Sz Bk) (hs : OpensF P ts ds Szs Bks) :
    OpensF P (t :: ts) (Kd.pair d ds) (fun x => Sz x.1 ∧ Szs x.2) (fun x => Bk x.1 + Bks x.2) := by
  refine ⟨by simp [ho.cells, hs.cells, Kd.pair], fun {H enc w base spare held n cs xs} hl hx h hw => ?_⟩
  match xs, hx with
  | y :: ys, hx =>
    have hl' : cs.length = d.sz + ds.sz := hl
    have h0 := h 0 t rfl
    rw [show offs P (t :: ts) 0 = 0 from rfl, List.drop_zero, ho.cells] at h0
    obtain ⟨v, h1, h2, h3⟩ := ho.go h0 (fun m hm => hw m (by simp [DataW.weightsEach, hm]))
    obtain ⟨u, g1, g2, g3⟩ := hs.go (cs := cs.drop d.sz) (xs := ys) (enc := enc) (w := w) (base := base) (spare := spare) (held := held) (n := n) (by rw [List.length_drop]; omega) (by simpa using hx) (fun i t' ht' => by
      have := h (i + 1) t' (by simpa using ht')
      rw [show offs P (t :: ts) (i + 1) = P.cellsOf t + offs P ts i from rfl, ho.cells] at this
      rw [List.drop_drop]
      simpa using this) (fun m hm => hw m (by simp only [List.map_cons, DataW.weightsEach, List.mem_append]; exact .inr hm))
    refine ⟨(v, u), ⟨cs.take d.sz, cs.drop d.sz, (List.take_append_drop _ _).symm, h1, g1⟩, ⟨h2, g2⟩, ?_⟩
    simp only [List.map_cons, uptoBulkAll]
    omega

theorem opens_struct {α β : Type} {P : Program} {t : TypeId} {fs : Array Field} {ts : List TypeId} {d : Kd α} {f : β → α} {Sz : α → Prop} {Bk : α → Nat} (ht : P.underlying t = some (.struct fs)) (hts : fs.toList.map (·.type) = ts)
    (hoff : ∀ (i : Nat) fl, fs[i]? = some fl → fl.offset = offs P ts i) (hc : P.cellsOf t = d.sz) (ho : OpensF P ts d Sz Bk) (g : α → β) (hg : ∀ v, f (g v) = v) :
    Opens P t (Kd.iso d f) (fun x => Sz (f x)) (fun x => Bk (f x) + 1) := by
  refine ⟨hc, fun {H enc w base spare held n cs x} h hw => ?_⟩
  obtain ⟨xs, n', _, rfl, hl, hlen, hf⟩ := DataW.trod_struct ht h
  have hlt : ts.length = fs.size := by rw [← hts]; simp
  obtain ⟨v, h1, h2, h3⟩ := ho.go (cs := cs) (xs := xs) (enc := enc) (w := w) (base := base) (spare := spare) (held := held) (n := n') (by rw [hl, hc]) (by omega) (fun i t' ht' => by
    have hi : i < fs.size := by rw [← hlt]; exact (List.getElem?_eq_some_iff.1 ht').1
    have hfi : fs[i]? = some fs[i] := Array.getElem?_eq_getElem hi
    have := hf i fs[i] hfi
    rw [hoff i _ hfi] at this
    have he : fs[i].type = t' := by
      rw [← hts, List.getElem?_map, Array.getElem?_toList, hfi] at ht'
      simpa using ht'
    rw [he] at this
    exact this) (fun m hm => hw m (by simp only [DataW.weights, ht, hts]; exact hm))
  exact ⟨g v, by show d.K w (f (g v)) cs; rw [hg]; exact h1, by rw [hg]; exact h2, by rw [hg]; simp only [uptoBulk]; omega⟩

end Go.Proofs.Ytlfhonekcmlomaa.Open

-- ==== PO
set_option linter.unusedVariables false
namespace Go.Proofs.Ytlfhonekcmlomaa.P
open Go.RowKit Go.Proofs.YtlfhonekcmlomaaW.PrintWords Go.Proofs.Ytlfhonekcmlomaa.Open
def sz9 (s : ByteArray) : Prop := s.size ≤ 140737488351232
def bk9 (s : ByteArray) : Nat := s.size + 1
theorem op9 : Opens Try.prog 9 Kd.string sz9 bk9 := opens_string Try.underlying9 (by kernel_rfl)
def sz3 (a : Int) : Prop := (Lit.int .i64 a).wf = true
def bk3 (_ : Int) : Nat := 1
theorem op3 : Opens Try.prog 3 (Kd.int .i64) sz3 bk3 := opens_int Try.underlying3 (by kernel_rfl)
def sz47 (x : S47) : Prop := sz9 x.f0 ∧ sz3 x.f1
def bk47 (x : S47) : Nat := (bk9 x.f0 + bk3 x.f1) + 1
theorem op47 : Opens Try.prog 47 k47 sz47 bk47 := opens_struct (P := Try.prog) (ts := [9, 3]) (f := fun x : S47 => (x.f0, x.f1)) Try.underlying47 (by kernel_rfl) (fun i fl h => by
    match i, h with
    | 0, h => obtain rfl := Option.some.inj h; show (0 : Nat) = offs Try.prog [9, 3] 0; kernel_rfl
    | 1, h => obtain rfl := Option.some.inj h; show (1 : Nat) = offs Try.prog [9, 3] 1; kernel_rfl
    | i + 2, h => simp at h) (by kernel_rfl) (opensF_cons op9 (opensF_one op3)) (fun x => ⟨x.1, x.2⟩) (fun _ => rfl)
def sz23 (l : List (S47)) : Prop := l.length * 24 ≤ 140737488351232 ∧ ∀ x ∈ l, sz47 x
def bk23 (l : List (S47)) : Nat := bulkAll bk47 l + 1
theorem op23 : Opens Try.prog 23 (Kd.slice 47 k47) sz23 bk23 := opens_slice Try.underlying23 (by kernel_rfl) (by kernel_rfl) op47
end Go.Proofs.Ytlfhonekcmlomaa.P

-- ==== PS5
namespace Go.Proofs.Ytlfhonekcmlomaa.P
open Go.RowKit Go.Proofs.YtlfhonekcmlomaaW.PrintWords
def aumbrylaw05_MatchBack.Pure : Prop := ∀ (l0 : List (S47)) (l1 : List (S47)), sz23 l0 → sz23 l1 → ∃ k, aumbrylaw05_MatchBack.f k l0 l1 = some true
end Go.Proofs.Ytlfhonekcmlomaa.P

-- ==== PLa
/- Plain laws, part a: what kind a text is: the program's way and the document's way come to one function. -/
namespace Go.Proofs.Ytlfhonekcmlomaa.P
open Go.RowKit Go.Proofs.YtlfhonekcmlomaaW.PrintWords
set_option linter.unusedVariables false
set_option linter.unusedSimpArgs false

theorem wrap_up {i : Int} (h0 : 0 ≤ i) (h : i < 9223372036854775807) : wrap64 (i + 1) = i + 1 := by
  unfold wrap64
  omega
theorem wrap_id {i : Int} (h0 : -9223372036854775808 ≤ i) (h : i ≤ 9223372036854775807) : wrap64 i = i := by
  unfold wrap64
  omega

theorem evIfp {α : Type} {c : Prop} [Decidable c] {f g : Nat → Option α} {r : α} (h : c) (hf : Ev f r) : Ev (fun k => if c then f k else g k) r :=
  Ev.congr (fun _ => if_pos h) hf
theorem evIfn {α : Type} {c : Prop} [Decidable c] {f g : Nat → Option α} {r : α} (h : ¬ c) (hf : Ev g r) : Ev (fun k => if c then f k else g k) r :=
  Ev.congr (fun _ => if_neg h) hf
theorem evIs {α : Type} {x : Option α} {a : α} (h : x = some a) : Ev (fun _ => x) a := ⟨0, fun _ _ => h⟩

def lowB (s : ByteArray) (i : Int) : Bool := (decide (97 ≤ bt s i) && decide (bt s i ≤ 122)) || (decide (48 ≤ bt s i) && decide (bt s i ≤ 57) && decide (0 < i))
def upB (s : ByteArray) (i : Int) : Bool := (decide (65 ≤ bt s i) && decide (bt s i ≤ 90)) || (decide (48 ≤ bt s i) && decide (bt s i ≤ 57) && decide (0 < i))
/-- p holds at i, i + 1, .. (d places). -/
def allN (p : Int → Bool) : Nat → Int → Bool
  | 0, _ => true
  | d + 1, i => p i && allN p d (i + 1)
theorem allN_congr {p q : Int → Bool} : ∀ (d : Nat) (i : Int), (∀ j, i ≤ j → j < i + d → p j = q j) → allN p d i = allN q d i
  | 0, _, _ => rfl
  | d + 1, i, h => by
    simp only [allN]
    rw [h i (Int.le_refl _) (by omega), allN_congr d (i + 1) (fun j h1 h2 => h j (by omega) (by omega))]
def kindS (s : ByteArray) : Int :=
  if s.size < 1 ∨ 8 < s.size then 0 else if allN (lowB s) s.size 0 = true then 1 else if allN (upB s) s.size 0 = true then 2 else 0

theorem kindS_bad {s : ByteArray} (h : s.size < 1 ∨ 8 < s.size) : kindS s = 0 := by
  unfold kindS
  exact if_pos h
theorem kindS_good {s : ByteArray} (h1 : 1 ≤ s.size) (h8 : s.size ≤ 8) : kindS s = (if allN (lowB s) s.size 0 = true then 1 else if allN (upB s) s.size 0 = true then 2 else 0) := by
  unfold kindS
  exact if_neg (by omega)
theorem kindS_size {s : ByteArray} (h : kindS s ≠ 0) : 1 ≤ s.size ∧ s.size ≤ 8 := by
  unfold kindS at h
  split at h
  · exact absurd rfl h
  · omega

/-! ### the document's -/
theorem refKind_step (k : Nat) (s : ByteArray) (a b : Bool) (i : Int) (h0 : 0 ≤ i) (h1 : i < (s.size : Int)) :
    aumbryref03_Kind.l0 (k + 1) s a b i = aumbryref03_Kind.l0 k s (a && lowB s i) (b && upB s i) (wrap64 (i + 1)) := by
  simp only [aumbryref03_Kind.l0]
  rw [if_pos h1, if_pos h0]
  unfold lowB upB
  generalize bt s i = c
  by_cases c1 : c ≥ 48 <;> by_cases c2 : c ≤ 57 <;> by_cases c3 : c ≥ 97 <;> by_cases c4 : c ≤ 122 <;> by_cases c5 : c ≥ 65 <;> by_cases c6 : c ≤ 90 <;> first | (exfalso; omega) | (cases a <;> cases b <;> simp [c1, c2, c3, c4, c5, c6])
theorem refKind_end (k : Nat) (s : ByteArray) (a b : Bool) (i : Int) (h1 : ¬ i < (s.size : Int)) :
    aumbryref03_Kind.l0 (k + 1) s a b i = some (if a = true then 1 else if b = true then 2 else 0) := by
  simp only [aumbryref03_Kind.l0]
  rw [if_neg h1]
  cases a <;> cases b <;> rfl
theorem refKind_loop (s : ByteArray) (hs : s.size ≤ 8) : ∀ (d : Nat) (k : Nat) (a b : Bool) (i : Int), 0 ≤ i → (s.size : Int) - i = d → d < k →
    aumbryref03_Kind.l0 k s a b i = some (if (a && allN (lowB s) d i) = true then 1 else if (b && allN (upB s) d i) = true then 2 else 0)
  | 0, k, a, b, i, h0, hd, hk => by
    obtain ⟨k, rfl⟩ : ∃ m, k = m + 1 := ⟨k - 1, by omega⟩
    rw [refKind_end k s a b i (by omega)]
    simp [allN]
  | d + 1, k, a, b, i, h0, hd, hk => by
    obtain ⟨k, rfl⟩ : ∃ m, k = m + 1 := ⟨k - 1, by omega⟩
    rw [refKind_step k s a b i h0 (by omega), wrap_up h0 (by omega), refKind_loop s hs d k _ _ (i + 1) (by omega) (by omega) (by omega)]
    simp [allN, Bool.and_assoc]
theorem ev_refKind (s : ByteArray) : Ev (fun k => aumbryref03_Kind.f k s) (kindS s) := by
  refine ⟨12, fun k hk => ?_⟩
  show aumbryref03_Kind.f k s = _
  unfold aumbryref03_Kind.f
  obtain ⟨k, rfl⟩ : ∃ m, k = m + 1 := ⟨k - 1, by omega⟩
  by_cases h1 : (s.size : Int) < 1
  · rw [if_pos h1]
    simp [aumbryref03_Kind.j0, kindS_bad (s := s) (.inl (by omega))]
  · rw [if_neg h1]
    simp only [aumbryref03_Kind.j0]
    by_cases h2 : (s.size : Int) > 8
    · rw [if_pos (by simpa using h2), kindS_bad (s := s) (.inr (by omega))]
    · rw [kindS_good (s := s) (by omega) (by omega), if_neg (by simpa using h2), refKind_loop s (by omega) s.size k true true 0 (by omega) (by omega) (by omega)]
      simp

/-! ### the program's -/
def signS (c : Int) : Int × Int := if 97 ≤ c ∧ c ≤ 122 then (1, 1) else if 65 ≤ c ∧ c ≤ 90 then (2, 2) else if 48 ≤ c ∧ c ≤ 57 then (0, 3) else (0, 0)
theorem sign_at (c : Int) (k : Nat) (hk : 2 ≤ k) : name_sign.f k c = some (signS c) := by
  obtain ⟨k, rfl⟩ : ∃ m, k = m + 2 := ⟨k - 2, by omega⟩
  unfold name_sign.f signS
  by_cases c1 : c ≥ 48 <;> by_cases c2 : c ≤ 57 <;> by_cases c3 : c ≥ 97 <;> by_cases c4 : c ≤ 122 <;> by_cases c5 : c ≥ 65 <;> by_cases c6 : c ≤ 90 <;> first | (exfalso; omega) | (simp [name_sign.j0, name_sign.j1, c1, c2, c3, c4, c5, c6])
theorem bits_and_ (a b : Int) (ha : a = 0 ∨ a = 1 ∨ a = 2 ∨ a = 3) (hb : b = 0 ∨ b = 1 ∨ b = 2) : (Go.bits .and .i64 a b = 0) ↔ (b = 0 ∨ (b = 1 ∧ (a = 0 ∨ a = 2)) ∨ (b = 2 ∧ (a = 0 ∨ a = 1))) := by
  rcases ha with rfl | rfl | rfl | rfl <;> rcases hb with rfl | rfl | rfl <;> decide
def goesB (s : ByteArray) (b : Int) (i : Int) : Bool := decide (¬ (Go.bits .and .i64 (signS (bt s i)).2 b = 0))
theorem kind_loop (s : ByteArray) (b : Int) (hs : s.size ≤ 8) : ∀ (d : Nat) (k : Nat) (i : Int), 0 ≤ i → (s.size : Int) - i = d → d + 2 < k →
    name_Kind.l0 k s b (s.size : Int) i = some (if allN (goesB s b) d i = true then b else 0)
  | 0, k, i, h0, hd, hk => by
    obtain ⟨k, rfl⟩ : ∃ m, k = m + 1 := ⟨k - 1, by omega⟩
    simp only [name_Kind.l0]
    rw [if_neg (by omega)]
    simp [allN]
  | d + 1, k, i, h0, hd, hk => by
    obtain ⟨k, rfl⟩ : ∃ m, k = m + 1 := ⟨k - 1, by omega⟩
    simp only [name_Kind.l0]
    rw [if_pos (by omega), if_pos h0, if_pos (by omega), sign_at _ _ (by omega)]
    simp only [Option.bind_some]
    by_cases hg : Go.bits .and .i64 (signS (bt s i)).2 b = 0
    · rw [if_pos hg]
      simp [allN, goesB, hg]
    · rw [if_neg hg, wrap_up h0 (by omega), kind_loop s b hs d k (i + 1) (by omega) (by omega) (by omega)]
      simp [allN, goesB, hg]
theorem signS_two (c : Int) : (signS c).2 = 0 ∨ (signS c).2 = 1 ∨ (signS c).2 = 2 ∨ (signS c).2 = 3 := by
  unfold signS
  repeat' split
  all_goals simp
theorem goes_one (s : ByteArray) (i : Int) (hi : 0 < i) : goesB s 1 i = lowB s i := by
  have h := bits_and_ (signS (bt s i)).2 1 (signS_two _) (by simp)
  unfold goesB lowB
  rw [Bool.eq_iff_iff]
  simp only [decide_eq_true_eq, h, Bool.or_eq_true, Bool.and_eq_true]
  unfold signS
  repeat' split
  all_goals simp
  all_goals omega
theorem goes_two (s : ByteArray) (i : Int) (hi : 0 < i) : goesB s 2 i = upB s i := by
  have h := bits_and_ (signS (bt s i)).2 2 (signS_two _) (by simp)
  unfold goesB upB
  rw [Bool.eq_iff_iff]
  simp only [decide_eq_true_eq, h, Bool.or_eq_true, Bool.and_eq_true]
  unfold signS
  repeat' split
  all_goals simp
  all_goals omega
theorem kind_eq (s : ByteArray) (h1 : 1 ≤ s.size) (h8 : s.size ≤ 8) : (if allN (goesB s (signS (bt s 0)).1) s.size 0 = true then (signS (bt s 0)).1 else 0) = kindS s := by
  rw [kindS_good h1 h8]
  obtain ⟨n, hn⟩ : ∃ n, s.size = n + 1 := ⟨s.size - 1, by omega⟩
  have e1 : allN (goesB s 1) n (0 + 1) = allN (lowB s) n (0 + 1) := allN_congr _ _ (fun j h1 _ => goes_one s j (by omega))
  have e2 : allN (goesB s 2) n (0 + 1) = allN (upB s) n (0 + 1) := allN_congr _ _ (fun j h1 _ => goes_two s j (by omega))
  by_cases hl : 97 ≤ bt s 0 ∧ bt s 0 ≤ 122
  · have hs : signS (bt s 0) = (1, 1) := by unfold signS; rw [if_pos hl]
    have g0 : goesB s 1 0 = true := by unfold goesB; rw [hs]; decide
    have l0 : lowB s 0 = true := by unfold lowB; simp [hl]
    have u0 : upB s 0 = false := by unfold upB; simp; omega
    simp only [hn, hs, allN, e1, g0, l0, u0, Bool.true_and, Bool.false_and]
    split <;> simp
  · by_cases hu : 65 ≤ bt s 0 ∧ bt s 0 ≤ 90
    · have hs : signS (bt s 0) = (2, 2) := by unfold signS; rw [if_neg hl, if_pos hu]
      have g0 : goesB s 2 0 = true := by unfold goesB; rw [hs]; decide
      have l0 : lowB s 0 = false := by unfold lowB; simp; omega
      have u0 : upB s 0 = true := by unfold upB; simp [hu]
      simp only [hn, hs, allN, e2, g0, l0, u0, Bool.true_and, Bool.false_and]
      simp
    · have hs : (signS (bt s 0)).1 = 0 := by unfold signS; rw [if_neg hl, if_neg hu]; split <;> rfl
      have l0 : lowB s 0 = false := by unfold lowB; simp; omega
      have u0 : upB s 0 = false := by unfold upB; simp; omega
      simp only [hn, hs, allN, l0, u0, Bool.true_and, Bool.false_and]
      simp
theorem toList_nil (s : ByteArray) : s.toList = ([] : List UInt8) ↔ s.size = 0 := by
  rw [ByteArray.toList_eq]
  constructor
  · intro h
    have := congrArg List.length h
    simpa [data_length] using this
  · intro h
    apply List.eq_nil_of_length_eq_zero
    rw [data_length]
    exact h
theorem ev_kind (s : ByteArray) : Ev (fun k => name_Kind.f k s) (kindS s) := by
  refine ⟨16, fun k hk => ?_⟩
  show name_Kind.f k s = _
  unfold name_Kind.f
  obtain ⟨k, rfl⟩ : ∃ m, k = m + 1 := ⟨k - 1, by omega⟩
  by_cases h1 : s.toList = ([] : List UInt8)
  · rw [if_pos h1]
    have := (toList_nil s).1 h1
    simp [name_Kind.j0, kindS_bad (s := s) (.inl (by omega))]
  · have h1' : s.size ≠ 0 := fun h => h1 ((toList_nil s).2 h)
    rw [if_neg h1]
    simp only [name_Kind.j0]
    by_cases h2 : (s.size : Int) > 8
    · rw [if_pos (by simpa using h2), kindS_bad (s := s) (.inr (by omega))]
    · rw [if_neg (by simpa using h2), if_pos (by omega), sign_at _ _ (by omega)]
      simp only [Option.bind_some]
      rw [kind_loop s _ (by omega) s.size k 0 (by omega) (by omega) (by omega), kind_eq s (by omega) (by omega)]
end Go.Proofs.Ytlfhonekcmlomaa.P

-- ==== PF34
namespace Go.Proofs.Ytlfhonekcmlomaa.P
open Go.RowKit Go.Proofs.YtlfhonekcmlomaaW.PrintWords Go.Proofs.YtlfhonekcmlomaaW.PrintLast Go.Proofs.YtlfhonekcmlomaaW.PrintMore
attribute [local go_sem] max2_int min2_int max_two min_two max_three min_three max_four min_four   -- for this text's walks alone
set_option linter.unusedVariables false
set_option linter.unusedSimpArgs false

/-! ### aumbryref04_Behind: function 34 -/
mutual
def aumbryref04_Behind.j0 : Nat → List (S47) → Int → Bool → Option (Int)
  | 0, _, _, _ => none
  | k + 1, x0, x1, x14 => if x14 = true then (some (-1)) else (if 0 ≤ x1 then (if x1 < (x0.length : Int) then (aumbryref04_Behind.l0 k x0 (wrap64 (x1 + 1)) ((rd_T47 x0 x1).f1) 0) else (none)) else (none))
def aumbryref04_Behind.l0 : Nat → List (S47) → Int → Int → Int → Option (Int)
  | 0, _, _, _, _ => none
  | k + 1, x0, x1, x5, x6 => if x6 < x5 then (if x1 ≥ 0 then ((aumbryref04_Behind.f k x0 x1).bind fun t102 => (aumbryref04_Behind.l0 k x0 t102 x5 (wrap64 (x6 + 1)))) else (some x1)) else (some x1)
def aumbryref04_Behind.f : Nat → List (S47) → Int → Option (Int)
  | 0, _, _ => none
  | k + 1, l0, a1 => if a1 < 0 then (aumbryref04_Behind.j0 k l0 a1 true) else (aumbryref04_Behind.j0 k l0 a1 (decide (a1 ≥ (l0.length : Int))))
end
end Go.Proofs.Ytlfhonekcmlomaa.P

-- ==== PF26
namespace Go.Proofs.Ytlfhonekcmlomaa.P
open Go.RowKit Go.Proofs.YtlfhonekcmlomaaW.PrintWords Go.Proofs.YtlfhonekcmlomaaW.PrintLast Go.Proofs.YtlfhonekcmlomaaW.PrintMore
attribute [local go_sem] max2_int min2_int max_two min_two max_three min_three max_four min_four   -- for this text's walks alone
set_option linter.unusedVariables false
set_option linter.unusedSimpArgs false

/-! ### aumbryref04_Check: function 26 -/
def aumbryref04_Check.l0 : Nat → List (S47) → Int → Int → Option (Int)
  | 0, _, _, _ => none
  | k + 1, x0, x9, x10 => if x10 < x9 then (if 0 ≤ x10 then (if x10 < (x0.length : Int) then ((aumbryref03_Kind.f k ((rd_T47 x0 x10).f0)).bind fun t103 => (if t103 = 0 then (some 4) else (if ((rd_T47 x0 x10).f1) < 0 then (some 5) else (if ((rd_T47 x0 x10).f1) > 4 then (some 5) else (if t103 = 2 then (if ((rd_T47 x0 x10).f1) = 0 then (aumbryref04_Check.l0 k x0 x9 (wrap64 (x10 + 1))) else (some 5)) else (aumbryref04_Check.l0 k x0 x9 (wrap64 (x10 + 1)))))))) else (none)) else (none)) else ((aumbryref04_Behind.f k x0 0).bind fun t101 => (if t101 = (x0.length : Int) then (some 0) else (some 3)))
def aumbryref04_Check.f (k : Nat) (l0 : List (S47)) : Option (Int) := if (l0.length : Int) > 64 then (some 6) else (aumbryref04_Check.l0 k l0 (l0.length : Int) 0)
end Go.Proofs.Ytlfhonekcmlomaa.P

-- ==== PLb
/- Plain laws, part b: a list of cells as terms one behind the other; whether it is a term (both ways come to one function). -/
namespace Go.Proofs.Ytlfhonekcmlomaa.P
open Go.RowKit Go.Proofs.YtlfhonekcmlomaaW.PrintWords
set_option linter.unusedVariables false
set_option linter.unusedSimpArgs false

abbrev Cel := S47
instance celEq : DecidableEq Cel := fun a b =>
  if h : a.f0 = b.f0 ∧ a.f1 = b.f1 then isTrue (by cases a; cases b; simp only at h; rw [h.1, h.2]) else isFalse (fun e => h (by rw [e]; exact ⟨rfl, rfl⟩))
theorem drop_cons {α : Type} {t : List α} {n : Nat} {c : α} {s : List α} (h : t.drop n = c :: s) : n < t.length ∧ (∀ d, t.getD n d = c) ∧ t.drop (n + 1) = s := by
  have h1 : n < t.length := by
    rcases Nat.lt_or_ge n t.length with h1 | h1
    · exact h1
    · rw [List.drop_eq_nil_of_le h1] at h
      cases h
  rw [List.drop_eq_getElem_cons h1] at h
  injection h with h2 h3
  exact ⟨h1, fun d => by rw [List.getD_eq_getElem?_getD, List.getElem?_eq_getElem h1]; exact h2, h3⟩
theorem drop_nil_len {α : Type} {t : List α} {n : Nat} (hn : n ≤ t.length) (h : t.drop n = []) : n = t.length := by
  have := congrArg List.length h
  simp at this
  omega
theorem rd_cel {t : List Cel} {n : Nat} {c : Cel} {s : List Cel} (h : t.drop n = c :: s) : rd_T47 t (n : Int) = c := by
  unfold rd_T47
  exact (drop_cons h).2.1 _

def ar (c : Cel) : Nat := c.f1.toNat
def cellErr (c : Cel) : Int := if kindS c.f0 = 0 then 4 else if c.f1 < 0 then 5 else if c.f1 > 4 then 5 else if kindS c.f0 = 2 then (if c.f1 > 0 then 5 else 0) else 0
def errs : List Cel → Int
  | [] => 0
  | c :: l => if cellErr c = 0 then errs l else cellErr c
/-- What is left behind the first n terms. -/
def segN : List Cel → Nat → Option (List Cel)
  | l, 0 => some l
  | [], _ + 1 => none
  | c :: l, n + 1 => segN l (n + ar c)
def checkS (t : List Cel) : Int := if t.length > 64 then 6 else if errs t = 0 then (if segN t 1 = some [] then 0 else 3) else errs t

theorem segN_zero (l : List Cel) : segN l 0 = some l := by cases l <;> rfl
theorem segN_add : ∀ (l : List Cel) (a b : Nat), segN l (a + b) = (segN l a).bind fun r => segN r b
  | l, 0, b => by rw [segN_zero]; simp
  | [], a + 1, b => by rw [show a + 1 + b = (a + b) + 1 by omega]; rfl
  | c :: l, a + 1, b => by
    rw [show a + 1 + b = (a + b) + 1 by omega]
    show segN l (a + b + ar c) = (segN l (a + ar c)).bind _
    rw [show a + b + ar c = (a + ar c) + b by omega]
    exact segN_add l (a + ar c) b
theorem segN_len : ∀ {l r : List Cel} {n : Nat}, segN l n = some r → r.length ≤ l.length ∧ (0 < n → r.length < l.length)
  | l, r, 0, h => by
    rw [segN_zero] at h
    injection h with h
    subst h
    exact ⟨Nat.le_refl _, fun h => absurd h (by omega)⟩
  | [], r, n + 1, h => by cases h
  | c :: l, r, n + 1, h => by
    have := (segN_len (l := l) (r := r) (n := n + ar c) h).1
    simp only [List.length_cons]
    exact ⟨by omega, fun _ => by omega⟩
theorem segN_suffix : ∀ {l r : List Cel} {n : Nat}, segN l n = some r → ∃ m, m ≤ l.length ∧ l.drop m = r
  | l, r, 0, h => by
    rw [segN_zero] at h
    injection h with h
    exact ⟨0, by omega, h⟩
  | [], r, n + 1, h => by cases h
  | c :: l, r, n + 1, h => by
    obtain ⟨m, h1, h2⟩ := segN_suffix (l := l) (r := r) (n := n + ar c) h
    exact ⟨m + 1, by simp; omega, h2⟩

/-- What the cells of a term that is right are. -/
structure Okc (c : Cel) : Prop where
  kind : kindS c.f0 ≠ 0
  lo : 0 ≤ c.f1
  hi : c.f1 ≤ 4
  var : kindS c.f0 = 2 → c.f1 = 0
theorem okc_of {c : Cel} (h : cellErr c = 0) : Okc c := by
  unfold cellErr at h
  by_cases h1 : kindS c.f0 = 0
  · rw [if_pos h1] at h; cases h
  · rw [if_neg h1] at h
    by_cases h2 : c.f1 < 0
    · rw [if_pos h2] at h; cases h
    · rw [if_neg h2] at h
      by_cases h3 : c.f1 > 4
      · rw [if_pos h3] at h; cases h
      · rw [if_neg h3] at h
        refine ⟨h1, by omega, by omega, fun hk => ?_⟩
        rw [if_pos hk] at h
        by_cases h4 : c.f1 > 0
        · rw [if_pos h4] at h; cases h
        · omega
theorem errs_ok : ∀ {l : List Cel}, errs l = 0 → ∀ c ∈ l, Okc c
  | [], _, _, h => by cases h
  | a :: l, h, c, hc => by
    unfold errs at h
    by_cases h1 : cellErr a = 0
    · rw [if_pos h1] at h
      rcases List.mem_cons.1 hc with rfl | hc
      · exact okc_of h1
      · exact errs_ok h c hc
    · rw [if_neg h1] at h
      exact absurd h h1
/-! ### the program's: behind, Check -/
theorem ev_cell (c : Cel) : Ev (fun k => term_cell.f k c.f0 c.f1) (cellErr c) := by
  unfold term_cell.f
  refine Ev.bind (ev_kind c.f0) ?_
  refine Ev.congr (f := fun _ => some (cellErr c)) (fun k => ?_) (Ev.now _)
  unfold cellErr
  simp only [apply_ite some]
/-- The place behind n terms that begin at 'at'; -1: they have no end. -/
def behS (t : List Cel) (a n : Nat) : Int := match segN (t.drop a) n with
  | none => -1
  | some r => ((t.length - r.length : Nat) : Int)
theorem ev_behind_loop (t : List Cel) (ht : t.length ≤ 64) (hok : ∀ c ∈ t, Okc c) : ∀ (s : List Cel) (a n : Nat), a ≤ t.length → t.drop a = s → n ≤ 1 + 4 * a →
    Ev (fun k => term_behind.l0 k t (a : Int) (n : Int)) (behS t a n)
  | s, a, 0, ha, hs, hn => by
    refine Ev.step (f := fun _ => some (a : Int)) (fun k => by simp only [term_behind.l0]; rw [if_neg (by omega)]) ?_
    have : behS t a 0 = (a : Int) := by
      unfold behS
      rw [segN_zero]
      simp only [List.length_drop]
      omega
    rw [this]
    exact Ev.now _
  | [], a, n + 1, ha, hs, hn => by
    have hl := drop_nil_len ha hs
    refine Ev.step (f := fun _ => some (-1 : Int)) (fun k => by simp only [term_behind.l0]; rw [if_pos (by omega), if_pos (by omega)]) ?_
    have : behS t a (n + 1) = -1 := by
      unfold behS
      rw [hs]
      rfl
    rw [this]
    exact Ev.now _
  | c :: s, a, n + 1, ha, hs, hn => by
    obtain ⟨h1, h2, h3⟩ := drop_cons hs
    have hc : Okc c := hok c (List.mem_of_mem_drop (hs ▸ List.mem_cons_self ..))
    have har : (ar c : Int) = c.f1 := by unfold ar; have := hc.lo; omega
    have hh := hc.hi
    have hl0 := hc.lo
    refine Ev.step (f := fun k => term_behind.l0 k t ((a + 1 : Nat) : Int) ((n + ar c : Nat) : Int)) (fun k => ?_) ?_
    · simp only [term_behind.l0]
      rw [if_pos (by omega), if_neg (by omega), if_pos (by omega), if_pos (by omega), rd_cel hs, wrap_up (by omega) (by omega)]
      have e : wrap64 (((n + 1 : Nat) : Int) + wrap64 (c.f1 - 1)) = ((n + ar c : Nat) : Int) := by
        rw [wrap_id (i := c.f1 - 1) (by omega) (by omega), wrap_id (by omega) (by omega)]
        omega
      rw [e]
      rfl
    · have : behS t a (n + 1) = behS t (a + 1) (n + ar c) := by
        unfold behS
        rw [hs, h3]
        rfl
      rw [this]
      exact ev_behind_loop t ht hok s (a + 1) (n + ar c) (by omega) h3 (by omega)
theorem ev_behind (t : List Cel) (ht : t.length ≤ 64) (hok : ∀ c ∈ t, Okc c) (a : Nat) (ha : a ≤ t.length) : Ev (fun k => term_behind.f k t (a : Int)) (behS t a 1) := by
  unfold term_behind.f
  exact ev_behind_loop t ht hok _ a 1 ha rfl (by omega)
theorem behS_whole (t : List Cel) : (behS t 0 1 = (t.length : Int)) ↔ segN t 1 = some [] := by
  unfold behS
  rw [List.drop_zero]
  cases h : segN t 1 with
  | none => simp
  | some r =>
    have := segN_len h
    simp only [Option.some.injEq]
    constructor
    · intro h1
      apply List.eq_nil_of_length_eq_zero
      omega
    · rintro rfl
      simp
theorem ev_check_loop (t : List Cel) (ht : t.length ≤ 64) : ∀ (s : List Cel) (a : Nat), a ≤ t.length → t.drop a = s → (∀ c ∈ t.take a, Okc c) →
    Ev (fun k => term_Check.l0 k t t (t.length : Int) (a : Int)) (if errs s = 0 then (if segN t 1 = some [] then 0 else 3) else errs s)
  | [], a, ha, hs, hok => by
    have hl := drop_nil_len ha hs
    rw [hl, List.take_length] at hok
    refine Ev.step (f := fun k => (term_behind.f k t 0).bind fun r => (if r = (t.length : Int) then (some 0) else (some 3))) (fun k => by simp only [term_Check.l0]; rw [if_neg (by omega)]) ?_
    refine Ev.bind (ev_behind t ht hok 0 (by omega)) ?_
    refine Ev.congr (f := fun _ => some (if segN t 1 = some [] then 0 else 3)) (fun k => ?_) (Ev.now _)
    by_cases h : segN t 1 = some []
    · rw [if_pos ((behS_whole t).2 h), if_pos h]
    · rw [if_neg (fun h' => h ((behS_whole t).1 h')), if_neg h]
  | c :: s, a, ha, hs, hok => by
    obtain ⟨h1, h2, h3⟩ := drop_cons hs
    refine Ev.step (f := fun k => (term_cell.f k c.f0 c.f1).bind fun e => (if e = 0 then (term_Check.l0 k t t (t.length : Int) ((a + 1 : Nat) : Int)) else (some e))) (fun k => ?_) ?_
    · simp only [term_Check.l0]
      rw [if_pos (by omega), if_pos (by omega), if_pos (by omega), rd_cel hs, wrap_up (by omega) (by omega)]
      rfl
    · refine Ev.bind (ev_cell c) ?_
      by_cases he : cellErr c = 0
      · refine Ev.congr (f := fun k => term_Check.l0 k t t (t.length : Int) ((a + 1 : Nat) : Int)) (fun k => by rw [if_pos he]) ?_
        have : errs (c :: s) = errs s := by simp only [errs]; rw [if_pos he]
        rw [this]
        refine ev_check_loop t ht s (a + 1) (by omega) h3 (fun x hx => ?_)
        rw [List.take_succ_eq_append_getElem h1] at hx
        rcases List.mem_append.1 hx with hx | hx
        · exact hok x hx
        · have hce : t[a] = c := by have := h2 c; rw [List.getD_eq_getElem?_getD, List.getElem?_eq_getElem h1] at this; exact this
          rw [List.mem_singleton.1 hx, hce]
          exact okc_of he
      · refine Ev.congr (f := fun _ => some (cellErr c)) (fun k => by rw [if_neg he]) ?_
        have : errs (c :: s) = cellErr c := by simp only [errs]; rw [if_neg he]
        rw [this, if_neg he]
        exact Ev.now _
theorem ev_check (t : List Cel) : Ev (fun k => term_Check.f k t) (checkS t) := by
  unfold term_Check.f checkS
  by_cases h : t.length > 64
  · rw [if_pos h]
    exact Ev.congr (f := fun _ => some 6) (fun k => if_pos (by omega)) (Ev.now _)
  · rw [if_neg h]
    exact Ev.congr (f := fun k => term_Check.l0 k t t (t.length : Int) ((0 : Nat) : Int)) (fun k => if_neg (by omega)) (ev_check_loop t (by omega) t 0 (by omega) rfl (by simp))

/-! ### the document's: Behind, Check -/
end Go.Proofs.Ytlfhonekcmlomaa.P

-- ==== PF19
namespace Go.Proofs.Ytlfhonekcmlomaa.P
open Go.RowKit Go.Proofs.YtlfhonekcmlomaaW.PrintWords Go.Proofs.YtlfhonekcmlomaaW.PrintLast Go.Proofs.YtlfhonekcmlomaaW.PrintMore
attribute [local go_sem] max2_int min2_int max_two min_two max_three min_three max_four min_four   -- for this text's walks alone
set_option linter.unusedVariables false
set_option linter.unusedSimpArgs false

/-! ### aumbryref05_At: function 19 -/
def aumbryref05_At.l0 : Nat → List (S44) → ByteArray → Int → Int → Option (Int)
  | 0, _, _, _, _ => none
  | k + 1, x0, x1, x7, x8 => if x8 < x7 then (if 0 ≤ x8 then (if x8 < (x0.length : Int) then (if ((rd_T44 x0 x8).f0).toList = x1.toList then (some x8) else (aumbryref05_At.l0 k x0 x1 x7 (wrap64 (x8 + 1)))) else (none)) else (none)) else (some (-1))
def aumbryref05_At.f (k : Nat) (l0 : List (S44)) (a1 : ByteArray) : Option (Int) := aumbryref05_At.l0 k l0 a1 (l0.length : Int) 0
end Go.Proofs.Ytlfhonekcmlomaa.P

-- ==== PF35
namespace Go.Proofs.Ytlfhonekcmlomaa.P
open Go.RowKit Go.Proofs.YtlfhonekcmlomaaW.PrintWords Go.Proofs.YtlfhonekcmlomaaW.PrintLast Go.Proofs.YtlfhonekcmlomaaW.PrintMore
attribute [local go_sem] max2_int min2_int max_two min_two max_three min_three max_four min_four   -- for this text's walks alone
set_option linter.unusedVariables false
set_option linter.unusedSimpArgs false

/-! ### aumbryref05_Var: function 35 -/
def aumbryref05_Var.f (k : Nat) (l0 : List (S47)) : Option (Bool) := if (l0.length : Int) = 1 then (if 0 < (l0.length : Int) then ((aumbryref03_Kind.f k ((rd_T47 l0 0).f0)).bind fun t102 => (some (t102 == 2))) else (none)) else (some false)
end Go.Proofs.Ytlfhonekcmlomaa.P

-- ==== PF36
namespace Go.Proofs.Ytlfhonekcmlomaa.P
open Go.RowKit Go.Proofs.YtlfhonekcmlomaaW.PrintWords Go.Proofs.YtlfhonekcmlomaaW.PrintLast Go.Proofs.YtlfhonekcmlomaaW.PrintMore
attribute [local go_sem] max2_int min2_int max_two min_two max_three min_three max_four min_four   -- for this text's walks alone
set_option linter.unusedVariables false
set_option linter.unusedSimpArgs false

/-! ### aumbryref04_Kids: function 36 -/
def aumbryref04_Kids.l0 : Nat → List (S47) → List (List (S47)) → Int → Option ((List (List (S47))))
  | 0, _, _, _ => none
  | k + 1, x0, x3, x4 => if x4 < (x0.length : Int) then ((aumbryref04_Behind.f k x0 x4).bind fun t101 => (if 0 ≤ x4 then (if x4 ≤ t101 then (if t101 ≤ (x0.length : Int) then ((aumbryref04_Copy.f ((x0.take (t101 : Int).toNat).drop (x4 : Int).toNat)).bind fun t106 => (if x3.length < 5864062014805 then ((aumbryref04_Behind.f k x0 x4).bind fun t112 => (aumbryref04_Kids.l0 k x0 (x3 ++ [t106]) t112)) else (none))) else (none)) else (none)) else (none))) else (some x3)
def aumbryref04_Kids.f (k : Nat) (l0 : List (S47)) : Option ((List (List (S47)))) := aumbryref04_Kids.l0 k l0 ([] : List (List (S47))) 1
end Go.Proofs.Ytlfhonekcmlomaa.P

-- ==== PF27
namespace Go.Proofs.Ytlfhonekcmlomaa.P
open Go.RowKit Go.Proofs.YtlfhonekcmlomaaW.PrintWords Go.Proofs.YtlfhonekcmlomaaW.PrintLast Go.Proofs.YtlfhonekcmlomaaW.PrintMore
attribute [local go_sem] max2_int min2_int max_two min_two max_three min_three max_four min_four   -- for this text's walks alone
set_option linter.unusedVariables false
set_option linter.unusedSimpArgs false

attribute [local go_sem high] eqA47
/-! ### aumbryref05_Fit: function 27 -/
mutual
def aumbryref05_Fit.l0 : Nat → List (S44) → List (List (S47)) → List (List (S47)) → Int → Int → Option ((List (S44)) × Bool)
  | 0, _, _, _, _, _ => none
  | k + 1, x2, x9, x10, x54, x55 => if x55 < x54 then (if 0 ≤ x55 then (if x55 < (x9.length : Int) then (if x55 < (x10.length : Int) then ((aumbryref05_Fit.f k (rd_L3 x9 x55) (rd_L3 x10 x55) x2).bind fun bt123 => (if bt123.2 = true then (aumbryref05_Fit.l0 k bt123.1 x9 x10 x54 (wrap64 (x55 + 1))) else (some (([] : List (S44)), false)))) else (none)) else (none)) else (none)) else (some (x2, true))
def aumbryref05_Fit.f : Nat → List (S47) → List (S47) → List (S44) → Option ((List (S44)) × Bool)
  | 0, _, _, _ => none
  | k + 1, l0, l1, l2 => (aumbryref05_Var.f k l0).bind fun t101 => (if t101 = true then (if 0 < (l0.length : Int) then ((aumbryref05_At.f k l2 ((rd_T47 l0 0).f0)).bind fun t103 => (if t103 < 0 then ((aumbryref04_Copy.f l1).bind fun t105 => (if l2.length < 3518437208883 then (some ((l2 ++ [(⟨(rd_T47 l0 0).f0, t105⟩ : S44)]), true)) else (none))) else (if 0 ≤ t103 then (if t103 < (l2.length : Int) then ((aumbryref04_Same.f k ((rd_T44 l2 t103).f1) l1).bind fun t112 => (some (l2, t112))) else (none)) else (none)))) else (none)) else (if 0 < (l0.length : Int) then (if 0 < (l1.length : Int) then (if (!((((rd_T47 l0 0).f0).toList) == (((rd_T47 l1 0).f0).toList)) || (!(((rd_T47 l0 0).f1) == ((rd_T47 l1 0).f1)))) = true then (some (([] : List (S44)), false)) else ((aumbryref04_Kids.f k l0).bind fun t115 => ((aumbryref04_Kids.f k l1).bind fun t118 => (aumbryref05_Fit.l0 k l2 t115 t118 (t115.length : Int) 0)))) else (none)) else (none)))
end
end Go.Proofs.Ytlfhonekcmlomaa.P

-- ==== PF12
namespace Go.Proofs.Ytlfhonekcmlomaa.P
open Go.RowKit Go.Proofs.YtlfhonekcmlomaaW.PrintWords Go.Proofs.YtlfhonekcmlomaaW.PrintLast Go.Proofs.YtlfhonekcmlomaaW.PrintMore
attribute [local go_sem] max2_int min2_int max_two min_two max_three min_three max_four min_four   -- for this text's walks alone
set_option linter.unusedVariables false
set_option linter.unusedSimpArgs false

/-! ### aumbryref05_Match: function 12 -/
def aumbryref05_Match.f (k : Nat) (l0 : List (S47)) (l1 : List (S47)) : Option ((List (S44)) × Bool × Int) := (aumbryref04_Check.f k l0).bind fun t101 => (if t101 = 0 then ((aumbryref04_Check.f k l1).bind fun t102 => (if t102 = 0 then ((aumbryref05_Fit.f k l0 l1 ([] : List (S44))).bind fun bt103 => (if bt103.2 = true then (some (bt103.1, true, 0)) else (some (([] : List (S44)), false, 0)))) else (some (([] : List (S44)), false, t102)))) else (some (([] : List (S44)), false, t101)))
end Go.Proofs.Ytlfhonekcmlomaa.P

-- ==== PF13
namespace Go.Proofs.Ytlfhonekcmlomaa.P
open Go.RowKit Go.Proofs.YtlfhonekcmlomaaW.PrintWords Go.Proofs.YtlfhonekcmlomaaW.PrintLast Go.Proofs.YtlfhonekcmlomaaW.PrintMore
attribute [local go_sem] max2_int min2_int max_two min_two max_three min_three max_four min_four   -- for this text's walks alone
set_option linter.unusedVariables false
set_option linter.unusedSimpArgs false

/-! ### aumbryref05_Same: function 13 -/
def aumbryref05_Same.l0 : Nat → List (S44) → List (S44) → Int → Int → Option (Bool)
  | 0, _, _, _, _ => none
  | k + 1, x0, x1, x12, x13 => if x13 < x12 then (if 0 ≤ x13 then (if x13 < (x0.length : Int) then (if x13 < (x1.length : Int) then (if ((rd_T44 x0 x13).f0).toList = ((rd_T44 x1 x13).f0).toList then ((aumbryref04_Same.f k ((rd_T44 x0 x13).f1) ((rd_T44 x1 x13).f1)).bind fun t105 => (if t105 = true then (aumbryref05_Same.l0 k x0 x1 x12 (wrap64 (x13 + 1))) else (some false))) else (some false)) else (none)) else (none)) else (none)) else (some true)
def aumbryref05_Same.f (k : Nat) (l0 : List (S44)) (l1 : List (S44)) : Option (Bool) := if (l0.length : Int) = (l1.length : Int) then (aumbryref05_Same.l0 k l0 l1 (l0.length : Int) 0) else (some false)
end Go.Proofs.Ytlfhonekcmlomaa.P

-- ==== PLc
/- Plain laws, part c: where a pattern fits: along the cells, and part by part. -/
namespace Go.Proofs.Ytlfhonekcmlomaa.P
open Go.RowKit Go.Proofs.YtlfhonekcmlomaaW.PrintWords
set_option linter.unusedVariables false
set_option linter.unusedSimpArgs false

abbrev Bnd := S44
def lookB (out : List Bnd) (s : ByteArray) : Option (List Cel) := (out.find? (fun b => decide (b.f0 = s))).map (·.f1)
/-- The first term of a list. -/
def fstT (t r : List Cel) : List Cel := t.take (t.length - r.length)
def mat : List Cel → List Cel → List Bnd → Option (List Bnd × List Cel)
  | [], t, out => some (out, t)
  | c :: p, t, out =>
    if kindS c.f0 = 2 then
      match segN t 1 with
      | none => none
      | some r => match lookB out c.f0 with
        | none => mat p r (out ++ [⟨c.f0, fstT t r⟩])
        | some v => if v = fstT t r then mat p r out else none
    else match t with
      | [] => none
      | d :: t' => if d = c then mat p t' out else none

/-! ### segments -/
theorem segN_append : ∀ {l r : List Cel} {n : Nat} (q : List Cel), segN l n = some r → segN (l ++ q) n = some (r ++ q)
  | l, r, 0, q, h => by
    rw [segN_zero] at h ⊢
    injection h with h
    rw [h]
  | [], r, n + 1, q, h => by cases h
  | c :: l, r, n + 1, q, h => segN_append (l := l) (r := r) (n := n + ar c) q h
theorem segN_split {t : List Cel} {n : Nat} (h : segN t (n + 1) = some []) : ∃ r, segN t 1 = some r ∧ segN r n = some [] := by
  rw [show n + 1 = 1 + n by omega, segN_add] at h
  cases hr : segN t 1 with
  | none => rw [hr] at h; cases h
  | some r => rw [hr] at h; exact ⟨r, rfl, h⟩
theorem segN_nil_pos {n : Nat} (h : segN [] n = some []) : n = 0 := by
  cases n with
  | zero => rfl
  | succ n => cases h
theorem segN_fst {t r : List Cel} {n : Nat} (h : segN t n = some r) : t = fstT t r ++ r ∧ segN (fstT t r) n = some [] := by
  obtain ⟨m, hm, hd⟩ := segN_suffix h
  have hl : r.length = t.length - m := by rw [← hd, List.length_drop]
  have he : fstT t r = t.take m := by unfold fstT; rw [show t.length - r.length = m by omega]
  rw [he]
  refine ⟨by rw [← hd]; exact (List.take_append_drop m t).symm, ?_⟩
  have : ∀ (l : List Cel) (n m : Nat), m ≤ l.length → segN l n = some (l.drop m) → segN (l.take m) n = some [] := by
    intro l
    induction l with
    | nil =>
      intro n m hm h
      have hm0 : m = 0 := by simpa using hm
      subst hm0
      simpa using h
    | cons c l ih =>
      intro n m hm h
      cases n with
      | zero =>
        rw [segN_zero] at h ⊢
        injection h with h
        have := congrArg List.length h
        simp only [List.length_cons, List.length_drop] at this
        have hm0 : m = 0 := by simp at hm; omega
        rw [hm0]
        rfl
      | succ n =>
        cases m with
        | zero =>
          have := segN_len h
          simp at this
        | succ m =>
          simp only [List.drop_succ_cons] at h
          exact ih (n + ar c) m (by simpa using hm) h
  rw [← hd] at h
  exact this t n m hm h

/-! ### the program's Match -/
theorem ev_variable (c : Cel) : Ev (fun k => match_variable.f k c.f0 c.f1) (kindS c.f0 == 2) := by
  unfold match_variable.f
  exact Ev.bind (ev_kind c.f0) (Ev.now _)
theorem ev_end_loop (t : List Cel) (ht : t.length ≤ 64) (hok : ∀ c ∈ t, Okc c) : ∀ (s : List Cel) (a n : Nat) (r : List Cel), a ≤ t.length → t.drop a = s → n ≤ 1 + 4 * a → segN s n = some r →
    Ev (fun k => match_end.l0 k t (a : Int) (n : Int)) ((t.length - r.length : Nat) : Int)
  | s, a, 0, r, ha, hs, hn, hr => by
    refine Ev.step (f := fun _ => some (a : Int)) (fun k => by simp only [match_end.l0]; rw [if_neg (by omega)]) ?_
    rw [segN_zero] at hr
    injection hr with hr
    have : ((t.length - r.length : Nat) : Int) = (a : Int) := by rw [← hr, ← hs, List.length_drop]; omega
    rw [this]
    exact Ev.now _
  | [], a, n + 1, r, ha, hs, hn, hr => by cases hr
  | c :: s, a, n + 1, r, ha, hs, hn, hr => by
    obtain ⟨h1, h2, h3⟩ := drop_cons hs
    have hc : Okc c := hok c (List.mem_of_mem_drop (hs ▸ List.mem_cons_self ..))
    have har : (ar c : Int) = c.f1 := by unfold ar; have := hc.lo; omega
    have hh := hc.hi
    have hl0 := hc.lo
    refine Ev.step (f := fun k => match_end.l0 k t ((a + 1 : Nat) : Int) ((n + ar c : Nat) : Int)) (fun k => ?_) (ev_end_loop t ht hok s (a + 1) (n + ar c) r (by omega) h3 (by omega) hr)
    simp only [match_end.l0]
    rw [if_pos (by omega), if_pos (by omega), if_pos (by omega), rd_cel hs, wrap_up (by omega) (by omega)]
    have e : wrap64 (((n + 1 : Nat) : Int) + wrap64 (c.f1 - 1)) = ((n + ar c : Nat) : Int) := by
      rw [wrap_id (i := c.f1 - 1) (by omega) (by omega), wrap_id (by omega) (by omega)]
      omega
    rw [e]
    rfl
theorem ev_end (t : List Cel) (ht : t.length ≤ 64) (hok : ∀ c ∈ t, Okc c) (a : Nat) (ha : a ≤ t.length) {r : List Cel} (hr : segN (t.drop a) 1 = some r) : Ev (fun k => match_end.f k t (a : Int)) ((t.length - r.length : Nat) : Int) := by
  unfold match_end.f
  exact ev_end_loop t ht hok _ a 1 r ha rfl (by omega) hr
theorem bytes_eq (a b : ByteArray) : a.toList = b.toList ↔ a = b := by
  rw [ByteArray.toList_eq, ByteArray.toList_eq]
  constructor
  · intro h
    cases a; cases b
    simp only [ByteArray.mk.injEq]
    exact Array.toList_inj.1 h
  · intro h
    rw [h]
theorem cel_ne (c d : Cel) : ((!((c.f0.toList) == (d.f0.toList)) || (!(c.f1 == d.f1))) = true) ↔ c ≠ d := by
  cases c with | mk a b => cases d with | mk a' b' =>
  simp only [Bool.or_eq_true, Bool.not_eq_true', beq_eq_false_iff_ne, ne_eq, bytes_eq, S47.mk.injEq]
  by_cases h : a = a' <;> simp [h]
theorem ev_cels_loop (F : Nat → List Cel → List Cel → Int → Int → Option Bool)
    (hF : ∀ k x y n i, F (k + 1) x y n i = if i < n then (if 0 ≤ i then (if i < (x.length : Int) then (if i < (y.length : Int) then (if (!((((rd_T47 x i).f0).toList) == (((rd_T47 y i).f0).toList)) || (!(((rd_T47 x i).f1) == ((rd_T47 y i).f1)))) = true then (some false) else (F k x y n (wrap64 (i + 1)))) else (none)) else (none)) else (none)) else (some true))
    (x y : List Cel) (hl : x.length = y.length) (hb : x.length ≤ 9223372036854775806) : ∀ (s u : List Cel) (a : Nat), a ≤ x.length → x.drop a = s → y.drop a = u → Ev (fun k => F k x y (x.length : Int) (a : Int)) (decide (s = u))
  | [], u, a, ha, hs, hu => by
    have h1 := drop_nil_len ha hs
    have h2 : u = [] := by rw [← hu]; exact List.drop_eq_nil_of_le (by omega)
    refine Ev.step (f := fun _ => some true) (fun k => by rw [hF, if_neg (by omega)]) ?_
    rw [h2]
    exact Ev.now _
  | c :: s, u, a, ha, hs, hu => by
    obtain ⟨h1, _, h3⟩ := drop_cons hs
    rcases u with _ | ⟨d, u⟩
    · have := drop_nil_len (by omega) hu
      omega
    obtain ⟨_, _, h4⟩ := drop_cons hu
    by_cases hcd : c = d
    · refine Ev.step (f := fun k => F k x y (x.length : Int) ((a + 1 : Nat) : Int)) (fun k => by
        rw [hF, if_pos (by omega), if_pos (by omega), if_pos (by omega), if_pos (by omega), rd_cel hs, rd_cel hu, if_neg (fun h => (cel_ne c d).1 h hcd), wrap_up (by omega) (by omega)]
        rfl) ?_
      have : decide (c :: s = d :: u) = decide (s = u) := by subst hcd; simp
      rw [this]
      exact ev_cels_loop F hF x y hl hb s u (a + 1) (by omega) h3 h4
    · refine Ev.step (f := fun _ => some false) (fun k => by
        rw [hF, if_pos (by omega), if_pos (by omega), if_pos (by omega), if_pos (by omega), rd_cel hs, rd_cel hu, if_pos ((cel_ne c d).2 hcd)]) ?_
      have : decide (c :: s = d :: u) = false := by simp [hcd]
      rw [this]
      exact Ev.now _
theorem ev_equal (x y : List Cel) (hb : x.length ≤ 9223372036854775806 ∨ y.length ≤ 9223372036854775806) : Ev (fun k => api_Cell_24.f k x y) (decide (x = y)) := by
  unfold api_Cell_24.f
  by_cases h : (x.length : Int) = (y.length : Int)
  · exact Ev.congr (f := fun k => api_Cell_24.l0 k x y (x.length : Int) ((0 : Nat) : Int)) (fun k => by rw [if_pos h]; rfl) (ev_cels_loop _ (fun k x y n i => rfl) x y (by omega) (by omega) x y 0 (by omega) rfl rfl)
  · refine Ev.congr (f := fun _ => some (decide (x = y))) (fun k => ?_) (Ev.now _)
    rw [if_neg h]
    congr 1
    rw [Eq.comm, decide_eq_false_iff_not]
    rintro rfl
    exact h rfl
theorem ev_refSame4 (x y : List Cel) (hb : x.length ≤ 9223372036854775806 ∨ y.length ≤ 9223372036854775806) : Ev (fun k => aumbryref04_Same.f k x y) (decide (x = y)) := by
  unfold aumbryref04_Same.f
  by_cases h : (x.length : Int) = (y.length : Int)
  · exact Ev.congr (f := fun k => aumbryref04_Same.l0 k x y (x.length : Int) ((0 : Nat) : Int)) (fun k => by rw [if_pos h]; rfl) (ev_cels_loop _ (fun k x y n i => rfl) x y (by omega) (by omega) x y 0 (by omega) rfl rfl)
  · refine Ev.congr (f := fun _ => some (decide (x = y))) (fun k => ?_) (Ev.now _)
    rw [if_neg h]
    congr 1
    rw [Eq.comm, decide_eq_false_iff_not]
    rintro rfl
    exact h rfl
theorem clone_at (x : List Cel) (h : x.length < 5864062014805) : api_Cell_23.f x = some x := by
  unfold api_Cell_23.f
  rw [if_pos (by simpa using h)]
  rfl
theorem copy_at (x : List Cel) (h : x.length < 5864062014805) : aumbryref04_Copy.f x = some x := by
  unfold aumbryref04_Copy.f
  rw [if_pos (by simpa using h)]
  rfl

/-- The map of places is that of the binds. -/
structure MapOk (m : List Cel) (out : List Bnd) : Prop where
  len : m.length = out.length
  has : ∀ s, mapHas m s = (lookB out s).isSome
  at_ : ∀ s v, lookB out s = some v → ∃ j : Nat, mapAt m s = (j : Int) ∧ j < out.length ∧ ∃ b, out[j]? = some b ∧ b.f1 = v
theorem data_eq (a b : ByteArray) : a.data.toList = b.data.toList ↔ a = b := by
  rw [← bytes_eq, ByteArray.toList_eq, ByteArray.toList_eq]
theorem mapOk_nil : MapOk [] [] := ⟨rfl, fun s => rfl, fun s v h => by cases h⟩
theorem mapOk_put {m : List Cel} {out : List Bnd} (h : MapOk m out) (s : ByteArray) (v : List Cel) (hn : lookB out s = none) : MapOk (mapPut m s (out.length : Int)) (out ++ [⟨s, v⟩]) := by
  have hlook : ∀ s', lookB (out ++ [⟨s, v⟩]) s' = if s = s' then some v else lookB out s' := by
    intro s'
    unfold lookB at hn ⊢
    rw [List.find?_append]
    by_cases hs : s = s'
    · subst hs
      rw [if_pos rfl]
      cases hf : out.find? (fun b => decide (b.f0 = s)) with
      | none => simp
      | some b => rw [hf] at hn; cases hn
    · rw [if_neg hs]
      cases hf : out.find? (fun b => decide (b.f0 = s')) with
      | none => simp [hs]
      | some b => simp
  refine ⟨by simp [mapPut, h.len], fun s' => ?_, fun s' v' hv => ?_⟩
  · rw [hlook]
    by_cases hs : s = s'
    · subst hs
      simp [mapHas, mapPut]
    · rw [if_neg hs, ← h.has s']
      have : (s.data.toList == s'.data.toList) = false := by simp only [beq_eq_false_iff_ne, ne_eq, data_eq]; exact hs
      simp only [mapHas, mapPut, List.any_cons, this, Bool.false_or]
  · rw [hlook] at hv
    by_cases hs : s = s'
    · subst hs
      rw [if_pos rfl] at hv
      injection hv with hv
      subst hv
      exact ⟨out.length, by simp [mapAt, mapPut], by simp, ⟨s, v⟩, by simp, rfl⟩
    · rw [if_neg hs] at hv
      obtain ⟨j, h1, h2, b, h3, h4⟩ := h.at_ s' v' hv
      have : (s.data.toList == s'.data.toList) = false := by simp only [beq_eq_false_iff_ne, ne_eq, data_eq]; exact hs
      refine ⟨j, ?_, by simp; omega, b, by rw [List.getElem?_append_left h2]; exact h3, h4⟩
      rw [← h1]
      simp only [mapAt, mapPut, List.find?_cons, this]
def matR (x : Option (List Bnd × List Cel)) : List Bnd × Bool × Int := match x with
  | none => ([], false, 0)
  | some y => (y.1, true, 0)
theorem ev_match_loop (p t : List Cel) (hp : p.length ≤ 64) (ht : t.length ≤ 64) (hokp : ∀ c ∈ p, Okc c) (hokt : ∀ c ∈ t, Okc c) :
    ∀ (s : List Cel) (i a n : Nat) (out : List Bnd) (m : List Cel), i ≤ p.length → a ≤ t.length → p.drop i = s → segN s n = some [] → segN (t.drop a) n = some [] → MapOk m out → out.length ≤ i →
    Ev (fun k => match_Match.l0 k t out m (a : Int) p (p.length : Int) (i : Int)) (matR (mat s (t.drop a) out))
  | [], i, a, n, out, m, hi, ha, hs, hn, hnt, hm, ho => by
    have h1 := drop_nil_len hi hs
    refine Ev.step (f := fun _ => some (out, true, 0)) (fun k => by simp only [match_Match.l0]; rw [if_neg (by omega)]) ?_
    exact Ev.now _
  | c :: s, i, a, n, out, m, hi, ha, hs, hn, hnt, hm, ho => by
    obtain ⟨h1, _, h3⟩ := drop_cons hs
    have hc : Okc c := hokp c (List.mem_of_mem_drop (hs ▸ List.mem_cons_self ..))
    obtain ⟨n, rfl⟩ : ∃ q, n = q + 1 := by
      cases n with
      | zero => rw [segN_zero] at hn; injection hn with hn; cases hn
      | succ n => exact ⟨n, rfl⟩
    have hn' : segN s (n + ar c) = some [] := hn
    obtain ⟨r, hr1, hrn⟩ := segN_split hnt
    have hks := kindS_size hc.kind
    by_cases hv : kindS c.f0 = 2
    · have hac : ar c = 0 := by unfold ar; rw [hc.var hv]; rfl
      rw [hac, Nat.add_zero] at hn'
      obtain ⟨q, hq, hqr⟩ := segN_suffix hr1
      rw [List.drop_drop] at hqr
      rw [List.length_drop] at hq
      have hrl : r.length = t.length - (a + q) := by rw [← hqr, List.length_drop]
      have hpart : ((t.take (((t.length - r.length : Nat) : Int)).toNat).drop ((a : Int)).toNat : List Cel) = fstT (t.drop a) r := by
        unfold fstT
        rw [List.length_drop]
        simp only [Int.toNat_natCast]
        rw [List.drop_take]
        congr 1
        omega
      have hfl : (fstT (t.drop a) r).length = q := by unfold fstT; rw [List.length_take, List.length_drop]; omega
      have hw1 : True → wrap64 ((a : Int) + ((fstT (t.drop a) r).length : Int)) = ((a + q : Nat) : Int) := fun _ => by rw [hfl, wrap_id (by omega) (by omega)]; omega
      have hw2 : True → wrap64 ((i : Int) + 1) = ((i + 1 : Nat) : Int) := fun _ => by rw [wrap_up (by omega) (by omega)]; rfl
      refine Ev.step (fun k => (show match_Match.l0 (k + 1) t out m (a : Int) p (p.length : Int) (i : Int) = _ from by rw [match_Match.l0])) ?_
      refine evIfp (by omega) (evIfp (by omega) (evIfp (by omega) ?_))
      simp only [rd_cel hs]
      refine Ev.bind (ev_variable c) ?_
      refine evIfp (by simp [hv]) ?_
      refine Ev.bind (ev_end t ht hokt a ha hr1) ?_
      refine evIfp (by omega) (evIfp (by omega) (evIfp (by omega) ?_))
      refine Ev.bind (Ev.now _) ?_
      simp only [hpart, hw1 trivial, hw2 trivial]
      refine evIfp (by omega) ?_
      have hmat : mat (c :: s) (t.drop a) out = (match lookB out c.f0 with | none => mat s r (out ++ [⟨c.f0, fstT (t.drop a) r⟩]) | some v => if v = fstT (t.drop a) r then mat s r out else none) := by
        show (if kindS c.f0 = 2 then _ else _) = _
        rw [if_pos hv, hr1]
      rw [hmat]
      cases hl : lookB out c.f0 with
      | none =>
        refine evIfn (by rw [hm.has, hl]; simp) ?_
        have hml := hm.len
        refine evIfp (by omega) ?_
        refine Ev.bind (evIs (clone_at _ (by omega))) ?_
        refine evIfp (by omega) ?_
        have := ev_match_loop p t hp ht hokp hokt s (i + 1) (a + q) n (out ++ [⟨c.f0, fstT (t.drop a) r⟩]) (mapPut m c.f0 (out.length : Int)) (by omega) (by omega) h3 hn' (by rw [hqr]; exact hrn) (mapOk_put hm _ _ hl) (by simp; omega)
        rw [hqr] at this
        exact this
      | some v =>
        obtain ⟨j, hj1, hj2, b, hj3, hj4⟩ := hm.at_ _ _ hl
        have hrd : (rd_T44 out (mapAt m c.f0)).f1 = v := by
          rw [hj1]
          unfold rd_T44
          rw [List.getD_eq_getElem?_getD, Int.toNat_natCast, hj3]
          exact hj4
        refine evIfp (by rw [hm.has, hl]; simp) ?_
        refine evIfp (by omega) (evIfp (by omega) ?_)
        simp only [hrd]
        refine Ev.bind (ev_equal _ _ (.inr (by omega))) ?_
        by_cases he : v = fstT (t.drop a) r
        · refine evIfp (by simpa using he) ?_
          have := ev_match_loop p t hp ht hokp hokt s (i + 1) (a + q) n out m (by omega) (by omega) h3 hn' (by rw [hqr]; exact hrn) hm (by omega)
          rw [hqr] at this
          simp only [he, if_true]
          exact this
        · refine evIfn (by simpa using he) ?_
          simp only [he, if_false]
          exact Ev.now _
    · rcases ht' : t.drop a with _ | ⟨d, u⟩
      · rw [ht'] at hnt
        cases hnt
      obtain ⟨g1, _, g3⟩ := drop_cons ht'
      have hw1 : True → wrap64 ((a : Int) + 1) = ((a + 1 : Nat) : Int) := fun _ => by rw [wrap_up (by omega) (by omega)]; rfl
      have hw2 : True → wrap64 ((i : Int) + 1) = ((i + 1 : Nat) : Int) := fun _ => by rw [wrap_up (by omega) (by omega)]; rfl
      refine Ev.step (fun k => (show match_Match.l0 (k + 1) t out m (a : Int) p (p.length : Int) (i : Int) = _ from by rw [match_Match.l0])) ?_
      refine evIfp (by omega) (evIfp (by omega) (evIfp (by omega) ?_))
      simp only [rd_cel hs, rd_cel ht']
      refine Ev.bind (ev_variable c) ?_
      refine evIfn (by simp [hv]) ?_
      refine evIfp (by omega) (evIfp (by omega) ?_)
      have hmat : mat (c :: s) (d :: u) out = if d = c then mat s u out else none := by
        show (if kindS c.f0 = 2 then _ else _) = _
        rw [if_neg hv]
      rw [hmat]
      by_cases hdc : d = c
      · refine evIfn (fun h => (cel_ne d c).1 h hdc) ?_
        rw [if_pos hdc]
        simp only [hw1 trivial, hw2 trivial]
        have := ev_match_loop p t hp ht hokp hokt s (i + 1) (a + 1) (n + ar c) out m (by omega) (by omega) h3 hn' (by rw [ht'] at hnt; rw [g3, ← hdc]; exact hnt) hm (by omega)
        rw [g3] at this
        exact this
      · refine evIfp ((cel_ne d c).2 hdc) ?_
        rw [if_neg hdc]
        exact Ev.now _
theorem checkS_ok {t : List Cel} (h : checkS t = 0) : t.length ≤ 64 ∧ (∀ c ∈ t, Okc c) ∧ segN t 1 = some [] := by
  unfold checkS at h
  by_cases h1 : t.length > 64
  · rw [if_pos h1] at h
    cases h
  · rw [if_neg h1] at h
    by_cases h2 : errs t = 0
    · rw [if_pos h2] at h
      by_cases h3 : segN t 1 = some []
      · exact ⟨by omega, errs_ok h2, h3⟩
      · rw [if_neg h3] at h
        cases h
    · rw [if_neg h2] at h
      exact absurd h h2
def matchS (p t : List Cel) : List Bnd × Bool × Int := if checkS p = 0 then (if checkS t = 0 then matR (mat p t []) else ([], false, checkS t)) else ([], false, checkS p)
theorem ev_match (p t : List Cel) : Ev (fun k => match_Match.f k p t) (matchS p t) := by
  unfold match_Match.f matchS
  refine Ev.bind (ev_check p) ?_
  by_cases hp : checkS p = 0
  · rw [if_pos hp]
    refine evIfp hp ?_
    refine Ev.bind (ev_check t) ?_
    by_cases ht : checkS t = 0
    · rw [if_pos ht]
      refine evIfp ht ?_
      obtain ⟨p1, p2, p3⟩ := checkS_ok hp
      obtain ⟨t1, t2, t3⟩ := checkS_ok ht
      exact ev_match_loop p t p1 t1 p2 t2 p 0 0 1 [] [] (by omega) (by omega) rfl p3 t3 mapOk_nil (by simp)
    · rw [if_neg ht]
      exact evIfn ht (Ev.now _)
  · rw [if_neg hp]
    exact evIfn hp (Ev.now _)

/-! ### the document's Match -/
theorem mat_append : ∀ (p t : List Cel) (n : Nat) (out : List Bnd) (p2 t2 : List Cel), (∀ c ∈ p, Okc c) → segN p n = some [] → segN t n = some [] →
    mat (p ++ p2) (t ++ t2) out = (mat p t out).bind fun x => mat p2 t2 x.1
  | [], t, n, out, p2, t2, hp, h1, h2 => by
    have h0 := segN_nil_pos h1
    subst h0
    rw [segN_zero] at h2
    injection h2 with h2
    subst h2
    rfl
  | c :: p, t, n, out, p2, t2, hp, h1, h2 => by
    have hc := hp c (List.mem_cons_self ..)
    have hp' : ∀ x ∈ p, Okc x := fun x hx => hp x (List.mem_cons_of_mem _ hx)
    obtain ⟨n, rfl⟩ : ∃ q, n = q + 1 := by
      cases n with
      | zero => rw [segN_zero] at h1; injection h1 with h1; cases h1
      | succ n => exact ⟨n, rfl⟩
    have h1' : segN p (n + ar c) = some [] := h1
    show (if kindS c.f0 = 2 then _ else _) = Option.bind (if kindS c.f0 = 2 then _ else _) _
    by_cases hv : kindS c.f0 = 2
    · have hac : ar c = 0 := by unfold ar; rw [hc.var hv]; rfl
      rw [hac, Nat.add_zero] at h1'
      rw [if_pos hv, if_pos hv]
      obtain ⟨q, hq1, hq2⟩ := segN_split h2
      have hf : fstT (t ++ t2) (q ++ t2) = fstT t q := by
        have := segN_len hq1
        unfold fstT
        simp only [List.length_append]
        rw [List.take_append_of_le_length (by omega)]
        congr 1
        omega
      rw [segN_append t2 hq1, hq1]
      simp only [hf]
      cases hl : lookB out c.f0 with
      | none => exact mat_append p q n _ p2 t2 hp' h1' hq2
      | some v =>
        simp only
        by_cases he : v = fstT t q
        · rw [if_pos he, if_pos he]
          exact mat_append p q n _ p2 t2 hp' h1' hq2
        · rw [if_neg he, if_neg he]
          rfl
    · rw [if_neg hv, if_neg hv]
      rcases t with _ | ⟨d, t⟩
      · cases h2
      · show (if d = c then mat (p ++ p2) (t ++ t2) out else none) = Option.bind (if d = c then mat p t out else none) _
        by_cases he : d = c
        · rw [if_pos he, if_pos he]
          subst he
          exact mat_append p t (n + ar d) out p2 t2 hp' h1' h2
        · rw [if_neg he, if_neg he]
          rfl
end Go.Proofs.Ytlfhonekcmlomaa.P

-- ==== PLd
/- Plain laws, part d: the document's Match is the program's. -/
namespace Go.Proofs.Ytlfhonekcmlomaa.P
open Go.RowKit Go.Proofs.YtlfhonekcmlomaaW.PrintWords
set_option linter.unusedVariables false
set_option linter.unusedSimpArgs false

theorem rd_bnd {t : List Bnd} {n : Nat} {c : Bnd} {s : List Bnd} (h : t.drop n = c :: s) : rd_T44 t (n : Int) = c := by
  unfold rd_T44
  exact (drop_cons h).2.1 _
theorem up_cast (a : Nat) (h : a < 9223372036854775807) : wrap64 ((a : Int) + 1) = ((a + 1 : Nat) : Int) := by rw [wrap_up (by omega) (by omega)]; rfl

theorem mat_len : ∀ (p t : List Cel) (out o : List Bnd) (r : List Cel), mat p t out = some (o, r) → o.length ≤ out.length + p.length
  | [], t, out, o, r, h => by
    have h' : some (out, t) = some (o, r) := h
    injection h' with h'
    injection h' with h' _
    rw [← h']
    simp
  | c :: p, t, out, o, r, h => by
    have h : (if kindS c.f0 = 2 then _ else _) = some (o, r) := h
    by_cases hv : kindS c.f0 = 2
    · rw [if_pos hv] at h
      cases hq : segN t 1 with
      | none => rw [hq] at h; cases h
      | some q =>
        rw [hq] at h
        simp only at h
        cases hl : lookB out c.f0 with
        | none =>
          rw [hl] at h
          have := mat_len p q _ o r h
          simp at this
          simp
          omega
        | some v =>
          rw [hl] at h
          simp only at h
          by_cases he : v = fstT t q
          · rw [if_pos he] at h
            have := mat_len p q _ o r h
            simp
            omega
          · rw [if_neg he] at h
            cases h
    · rw [if_neg hv] at h
      rcases t with _ | ⟨d, t⟩
      · cases h
      · have h9 : (if d = c then mat p t out else none) = some (o, r) := h
        by_cases he : d = c
        · rw [if_pos he] at h9
          have := mat_len p t _ o r h9
          simp
          omega
        · rw [if_neg he] at h9
          cases h9
/-! ### binds alike -/
theorem mat_vals : ∀ (p t : List Cel) (out o : List Bnd) (r : List Cel) (N : Nat), t.length ≤ N → (∀ b ∈ out, b.f1.length ≤ N) → mat p t out = some (o, r) → ∀ b ∈ o, b.f1.length ≤ N
  | [], t, out, o, r, N, ht, ho, h => by
    have h' : some (out, t) = some (o, r) := h
    injection h' with h'
    injection h' with h' _
    rw [← h']
    exact ho
  | c :: p, t, out, o, r, N, ht, ho, h => by
    have h : (if kindS c.f0 = 2 then _ else _) = some (o, r) := h
    by_cases hv : kindS c.f0 = 2
    · rw [if_pos hv] at h
      cases hq : segN t 1 with
      | none => rw [hq] at h; cases h
      | some q =>
        rw [hq] at h
        have hql := segN_len hq
        simp only at h
        cases hl : lookB out c.f0 with
        | none =>
          rw [hl] at h
          refine mat_vals p q _ o r N (by omega) (fun b hb => ?_) h
          rcases List.mem_append.1 hb with hb | hb
          · exact ho b hb
          · rw [List.mem_singleton.1 hb]
            unfold fstT
            simp only [List.length_take]
            omega
        | some v =>
          rw [hl] at h
          simp only at h
          by_cases he : v = fstT t q
          · rw [if_pos he] at h
            exact mat_vals p q _ o r N (by omega) ho h
          · rw [if_neg he] at h
            cases h
    · rw [if_neg hv] at h
      rcases t with _ | ⟨d, t⟩
      · cases h
      · have h9 : (if d = c then mat p t out else none) = some (o, r) := h
        by_cases he : d = c
        · rw [if_pos he] at h9
          simp only [List.length_cons] at ht
          exact mat_vals p t _ o r N (by omega) ho h9
        · rw [if_neg he] at h9
          cases h9
theorem matchS_small (p t : List Cel) : (matchS p t).1.length ≤ 64 ∧ ∀ b ∈ (matchS p t).1, b.f1.length ≤ 64 := by
  unfold matchS
  by_cases hp : checkS p = 0
  · rw [if_pos hp]
    by_cases ht : checkS t = 0
    · rw [if_pos ht]
      obtain ⟨p1, p2, p3⟩ := checkS_ok hp
      obtain ⟨t1, t2, t3⟩ := checkS_ok ht
      cases hm : mat p t [] with
      | none => exact ⟨by simp [matR], fun b hb => by cases hb⟩
      | some y =>
        obtain ⟨o, r⟩ := y
        have h1 := mat_len p t [] o r hm
        exact ⟨by simp only [matR]; simp at h1; omega, fun b hb => mat_vals p t [] o r 64 t1 (fun b hb => by cases hb) hm b hb⟩
    · rw [if_neg ht]
      exact ⟨by simp, fun b hb => by cases hb⟩
  · rw [if_neg hp]
    exact ⟨by simp, fun b hb => by cases hb⟩
end Go.Proofs.Ytlfhonekcmlomaa.P

-- ==== PLe
/- Plain laws, part e: what the statements ask ahead (wakes), and copies. -/
namespace Go.Proofs.Ytlfhonekcmlomaa.P
open Go.RowKit Go.Proofs.YtlfhonekcmlomaaW.PrintWords
set_option linter.unusedVariables false
set_option linter.unusedSimpArgs false

set_option maxRecDepth 100000 in
theorem ev_wakes : Ev (fun k => aumbrylaw05_wakes.f k) true := Ev.of (g := fun k => aumbrylaw05_wakes.f k) aumbrylaw05_wakes.mono (k := 40) (by kernel_rfl)
theorem own_at (x : List Cel) (h : x.length < 5864062014805) : aumbrylaw05_own.f x = some x := by
  unfold aumbrylaw05_own.f
  rw [copy_at x h]
  rfl
theorem sz_len {l : List Cel} (h : sz23 l) : l.length < 5864062014805 := by
  have := h.1
  omega
end Go.Proofs.Ytlfhonekcmlomaa.P

-- ==== PF30
namespace Go.Proofs.Ytlfhonekcmlomaa.P
open Go.RowKit Go.Proofs.YtlfhonekcmlomaaW.PrintWords Go.Proofs.YtlfhonekcmlomaaW.PrintLast Go.Proofs.YtlfhonekcmlomaaW.PrintMore
attribute [local go_sem] max2_int min2_int max_two min_two max_three min_three max_four min_four   -- for this text's walks alone
set_option linter.unusedVariables false
set_option linter.unusedSimpArgs false

/-! ### aumbryref05_Put: function 30 -/
def aumbryref05_Put.l0 : Nat → List (S47) → List (S44) → List (S47) → Int → Int → Option ((List (S47)))
  | 0, _, _, _, _, _ => none
  | k + 1, x0, x1, x5, x8, x9 => if x9 < x8 then (if 0 ≤ x9 then (if x9 < (x0.length : Int) then ((aumbryref03_Kind.f k ((rd_T47 x0 x9).f0)).bind fun t102 => (if t102 = 2 then ((aumbryref05_At.f k x1 ((rd_T47 x0 x9).f0)).bind fun t104 => (if 0 ≤ t104 then (if t104 < (x1.length : Int) then (if x5.length + ((rd_T44 x1 t104).f1).length < 5864062014805 then (aumbryref05_Put.l0 k x0 x1 (x5 ++ ((rd_T44 x1 t104).f1)) x8 (wrap64 (x9 + 1))) else (none)) else (none)) else (none))) else (if x5.length < 5864062014805 then (aumbryref05_Put.l0 k x0 x1 (x5 ++ [(⟨(rd_T47 x0 x9).f0, (rd_T47 x0 x9).f1⟩ : S47)]) x8 (wrap64 (x9 + 1))) else (none)))) else (none)) else (none)) else (some x5)
def aumbryref05_Put.f (k : Nat) (l0 : List (S47)) (l1 : List (S44)) : Option ((List (S47))) := aumbryref05_Put.l0 k l0 l1 ([] : List (S47)) (l0.length : Int) 0
end Go.Proofs.Ytlfhonekcmlomaa.P

-- ==== PF16
namespace Go.Proofs.Ytlfhonekcmlomaa.P
open Go.RowKit Go.Proofs.YtlfhonekcmlomaaW.PrintWords Go.Proofs.YtlfhonekcmlomaaW.PrintLast Go.Proofs.YtlfhonekcmlomaaW.PrintMore
attribute [local go_sem] max2_int min2_int max_two min_two max_three min_three max_four min_four   -- for this text's walks alone
set_option linter.unusedVariables false
set_option linter.unusedSimpArgs false

/-! ### aumbryref05_Fill: function 16 -/
mutual
def aumbryref05_Fill.l0 : Nat → List (S47) → List (S44) → Int → Int → Option ((List (S47)) × Int)
  | 0, _, _, _, _ => none
  | k + 1, x0, x1, x18, x19 => if x19 < x18 then (if 0 ≤ x19 then (if x19 < (x1.length : Int) then ((aumbryref03_Kind.f k ((rd_T44 x1 x19).f0)).bind fun t103 => (if t103 = 2 then ((aumbryref05_At.f k x1 ((rd_T44 x1 x19).f0)).bind fun t105 => (if t105 < x19 then (some (([] : List (S47)), 9)) else ((aumbryref04_Check.f k ((rd_T44 x1 x19).f1)).bind fun t107 => (if t107 = 0 then (aumbryref05_Fill.l0 k x0 x1 x18 (wrap64 (x19 + 1))) else (some (([] : List (S47)), t107)))))) else (some (([] : List (S47)), 4)))) else (none)) else (none)) else ((aumbryref04_Vars.f k x0).bind fun t108 => (aumbryref05_Fill.l1 k x0 x1 t108 (t108.length : Int) 0))
def aumbryref05_Fill.l1 : Nat → List (S47) → List (S44) → List ByteArray → Int → Int → Option ((List (S47)) × Int)
  | 0, _, _, _, _, _ => none
  | k + 1, x0, x1, x9, x51, x52 => if x52 < x51 then (if 0 ≤ x52 then (if x52 < (x9.length : Int) then ((aumbryref05_At.f k x1 (rdOf ByteArray.empty x9 x52)).bind fun t112 => (if t112 < 0 then (some (([] : List (S47)), 7)) else (aumbryref05_Fill.l1 k x0 x1 x9 x51 (wrap64 (x52 + 1))))) else (none)) else (none)) else ((aumbryref05_Put.f k x0 x1).bind fun t113 => (if (t113.length : Int) > 64 then (some (([] : List (S47)), 6)) else (some (t113, 0))))
end
def aumbryref05_Fill.f (k : Nat) (l0 : List (S47)) (l1 : List (S44)) : Option ((List (S47)) × Int) := (aumbryref04_Check.f k l0).bind fun t101 => (if t101 = 0 then (aumbryref05_Fill.l0 k l0 l1 (l1.length : Int) 0) else (some (([] : List (S47)), t101)))
end Go.Proofs.Ytlfhonekcmlomaa.P

-- ==== PF15
namespace Go.Proofs.Ytlfhonekcmlomaa.P
open Go.RowKit Go.Proofs.YtlfhonekcmlomaaW.PrintWords Go.Proofs.YtlfhonekcmlomaaW.PrintLast Go.Proofs.YtlfhonekcmlomaaW.PrintMore
attribute [local go_sem] max2_int min2_int max_two min_two max_three min_three max_four min_four   -- for this text's walks alone
set_option linter.unusedVariables false
set_option linter.unusedSimpArgs false

/-! ### aumbryref05_Copy: function 15 -/
def aumbryref05_Copy.l0 : Nat → List (S44) → List (S44) → Int → Int → Option ((List (S44)))
  | 0, _, _, _, _ => none
  | k + 1, x0, x3, x6, x7 => if x7 < x6 then (if 0 ≤ x7 then (if x7 < (x0.length : Int) then ((aumbryref04_Copy.f ((rd_T44 x0 x7).f1)).bind fun t103 => (if x3.length < 3518437208883 then (aumbryref05_Copy.l0 k x0 (x3 ++ [(⟨(rd_T44 x0 x7).f0, t103⟩ : S44)]) x6 (wrap64 (x7 + 1))) else (none))) else (none)) else (none)) else (some x3)
def aumbryref05_Copy.f (k : Nat) (l0 : List (S44)) : Option ((List (S44))) := aumbryref05_Copy.l0 k l0 ([] : List (S44)) (l0.length : Int) 0
end Go.Proofs.Ytlfhonekcmlomaa.P

-- ==== PLf
/- Plain laws, part f: what a pattern becomes by binds: the program's Fill is the document's. -/
namespace Go.Proofs.Ytlfhonekcmlomaa.P
open Go.RowKit Go.Proofs.YtlfhonekcmlomaaW.PrintWords
set_option linter.unusedVariables false
set_option linter.unusedSimpArgs false

def bErr : List Bnd → List Bnd → Int
  | _, [] => 0
  | seen, b :: u => if kindS b.f0 = 2 then (if (lookB seen b.f0).isSome = true then 9 else if checkS b.f1 = 0 then bErr (seen ++ [b]) u else checkS b.f1) else 4
def putS : List Cel → List Bnd → Option (List Cel)
  | [], _ => some []
  | c :: p, l => if kindS c.f0 = 2 then (match lookB l c.f0 with | none => none | some v => (putS p l).map (v ++ ·)) else (putS p l).map (c :: ·)
def putR (x : Option (List Cel)) : List Cel × Int := match x with
  | none => ([], 7)
  | some o => if o.length > 64 then ([], 6) else (o, 0)
def fillS (p : List Cel) (l : List Bnd) : List Cel × Int := if checkS p = 0 then (if bErr [] l = 0 then putR (putS p l) else ([], bErr [] l)) else ([], checkS p)

theorem lookB_snoc (out : List Bnd) (b : Bnd) (s : ByteArray) : lookB (out ++ [b]) s = (match lookB out s with | some v => some v | none => if b.f0 = s then some b.f1 else none) := by
  unfold lookB
  rw [List.find?_append]
  cases out.find? (fun b => decide (b.f0 = s)) with
  | some x => simp
  | none => by_cases h : b.f0 = s <;> simp [h]
theorem lookB_mem {l : List Bnd} {s : ByteArray} {v : List Cel} (h : lookB l s = some v) : ∃ b ∈ l, b.f0 = s ∧ b.f1 = v := by
  unfold lookB at h
  cases hf : l.find? (fun b => decide (b.f0 = s)) with
  | none => rw [hf] at h; cases h
  | some b =>
    rw [hf] at h
    exact ⟨b, List.mem_of_find?_eq_some hf, by simpa using List.find?_some hf, by simpa using h⟩

/-! ### the program's -/
theorem ev_fill2 (p : List Cel) (l : List Bnd) (m : List Cel) (hp : p.length ≤ 64) (hok : ∀ c ∈ p, Okc c) (hm : MapOk m l) (hv : ∀ b ∈ l, b.f1.length ≤ 64) (hl : l.length ≤ 9223372036854775806) :
    ∀ (s : List Cel) (i : Nat) (out : List Cel), i ≤ p.length → p.drop i = s → out.length ≤ 64 * i → Ev (fun k => match_Fill.l1 k l m out p (p.length : Int) (i : Int)) (putR ((putS s l).map (out ++ ·)))
  | [], i, out, hi, hs, ho => by
    have h1 := drop_nil_len hi hs
    refine Ev.step (fun k => (show match_Fill.l1 (k + 1) l m out p (p.length : Int) (i : Int) = _ from by rw [match_Fill.l1])) ?_
    refine evIfn (by omega) ?_
    simp only [putS, Option.map_some, List.append_nil, putR]
    by_cases h : out.length > 64
    · rw [if_pos h]
      exact evIfp (by omega) (Ev.now _)
    · rw [if_neg h]
      exact evIfn (by omega) (Ev.now _)
  | c :: s, i, out, hi, hs, ho => by
    obtain ⟨h1, _, h3⟩ := drop_cons hs
    have hc : Okc c := hok c (List.mem_of_mem_drop (hs ▸ List.mem_cons_self ..))
    have hks := kindS_size hc.kind
    refine Ev.step (fun k => (show match_Fill.l1 (k + 1) l m out p (p.length : Int) (i : Int) = _ from by rw [match_Fill.l1])) ?_
    refine evIfp (by omega) (evIfp (by omega) (evIfp (by omega) ?_))
    simp only [rd_cel hs, up_cast i (by omega)]
    refine evIfp (by omega) ?_
    refine Ev.bind (ev_variable c) ?_
    by_cases hk : kindS c.f0 = 2
    · refine evIfp (by simp [hk]) ?_
      cases hlk : lookB l c.f0 with
      | none =>
        refine evIfn (by rw [hm.has, hlk]; simp) ?_
        have : putS (c :: s) l = none := by simp only [putS, hk, if_true, hlk]
        rw [this]
        exact Ev.now _
      | some v =>
        obtain ⟨j, hj1, hj2, b, hj3, hj4⟩ := hm.at_ _ _ hlk
        have hrd : (rd_T44 l (mapAt m c.f0)).f1 = v := by
          rw [hj1]
          unfold rd_T44
          rw [List.getD_eq_getElem?_getD, Int.toNat_natCast, hj3]
          exact hj4
        obtain ⟨b', hb', _, hb2⟩ := lookB_mem hlk
        have hvl : v.length ≤ 64 := by rw [← hb2]; exact hv b' hb'
        refine evIfp (by rw [hm.has, hlk]; simp) ?_
        refine evIfp (by omega) (evIfp (by omega) ?_)
        simp only [hrd]
        refine evIfp (by omega) ?_
        have := ev_fill2 p l m hp hok hm hv hl s (i + 1) (out ++ v) (by omega) h3 (by simp; omega)
        have e : (putS (c :: s) l).map (out ++ ·) = (putS s l).map (out ++ v ++ ·) := by
          simp only [putS, hk, if_true, hlk, Option.map_map]
          congr 1
          funext x
          simp
        rw [e]
        exact this
    · refine evIfn (by simp [hk]) ?_
      refine evIfp (by omega) ?_
      have := ev_fill2 p l m hp hok hm hv hl s (i + 1) (out ++ [c]) (by omega) h3 (by simp; omega)
      have e : (putS (c :: s) l).map (out ++ ·) = (putS s l).map (out ++ [c] ++ ·) := by
        simp only [putS, hk, if_false, Option.map_map]
        congr 1
        funext x
        simp
      rw [e]
      exact this
theorem ev_fill1 (p : List Cel) (l : List Bnd) (hp : p.length ≤ 64) (hok : ∀ c ∈ p, Okc c) (hl : l.length ≤ 9223372036854775806) :
    ∀ (u : List Bnd) (i : Nat) (m : List Cel), i ≤ l.length → l.drop i = u → MapOk m (l.take i) → (∀ b ∈ l.take i, b.f1.length ≤ 64) →
    Ev (fun k => match_Fill.l0 k p l m l (l.length : Int) (i : Int)) (if bErr (l.take i) u = 0 then putR (putS p l) else ([], bErr (l.take i) u))
  | [], i, m, hi, hu, hm, hv => by
    have h1 := drop_nil_len hi hu
    refine Ev.step (fun k => (show match_Fill.l0 (k + 1) p l m l (l.length : Int) (i : Int) = _ from by rw [match_Fill.l0])) ?_
    refine evIfn (by omega) ?_
    rw [h1, List.take_length] at hm hv
    have := ev_fill2 p l m hp hok hm hv hl p 0 [] (by omega) rfl (by simp)
    simp only [bErr, if_true]
    have e : (putS p l).map (([] : List Cel) ++ ·) = putS p l := by cases putS p l <;> rfl
    rw [e] at this
    exact this
  | b :: u, i, m, hi, hu, hm, hv => by
    obtain ⟨h1, h2, h3⟩ := drop_cons hu
    have htk : l.take (i + 1) = l.take i ++ [b] := by
      rw [List.take_succ_eq_append_getElem h1]
      have := h2 b
      rw [List.getD_eq_getElem?_getD, List.getElem?_eq_getElem h1] at this
      rw [show l[i] = b from this]
    have hln : (l.take i).length = i := by rw [List.length_take]; omega
    have hml := hm.len
    refine Ev.step (fun k => (show match_Fill.l0 (k + 1) p l m l (l.length : Int) (i : Int) = _ from by rw [match_Fill.l0])) ?_
    refine evIfp (by omega) (evIfp (by omega) (evIfp (by omega) ?_))
    simp only [rd_bnd hu, up_cast i (by omega)]
    refine Ev.bind (ev_kind b.f0) ?_
    by_cases hk : kindS b.f0 = 2
    · have hks := kindS_size (s := b.f0) (by rw [hk]; decide)
      refine evIfp hk (evIfp (by omega) ?_)
      by_cases hh : (lookB (l.take i) b.f0).isSome = true
      · refine evIfp (by rw [hm.has]; exact hh) ?_
        simp only [bErr, hk, if_true, hh]
        exact Ev.now _
      · refine evIfn (by rw [hm.has]; exact hh) ?_
        refine Ev.bind (ev_check b.f1) ?_
        by_cases hc : checkS b.f1 = 0
        · refine evIfp hc (evIfp (by omega) ?_)
          have hlk : lookB (l.take i) b.f0 = none := by
            cases hq : lookB (l.take i) b.f0 with
            | none => rfl
            | some v => rw [hq] at hh; exact absurd rfl hh
          have hm' : MapOk (mapPut m b.f0 (i : Int)) (l.take (i + 1)) := by
            have := mapOk_put hm b.f0 b.f1 hlk
            rw [hln] at this
            rw [htk]
            exact this
          have := ev_fill1 p l hp hok hl u (i + 1) (mapPut m b.f0 (i : Int)) (by omega) h3 hm' (fun x hx => by
            rw [htk] at hx
            rcases List.mem_append.1 hx with hx | hx
            · exact hv x hx
            · rw [List.mem_singleton.1 hx]
              exact (checkS_ok hc).1)
          have e : bErr (l.take i) (b :: u) = bErr (l.take (i + 1)) u := by
            simp only [bErr, hk, if_true, hh, hc, htk]
            simp
          rw [e]
          exact this
        · refine evIfn hc ?_
          have e : bErr (l.take i) (b :: u) = checkS b.f1 := by
            simp only [bErr, hk, if_true, hh, hc, if_false]
            simp
          rw [e, if_neg hc]
          exact Ev.now _
    · refine evIfn hk ?_
      simp only [bErr, hk, if_false]
      exact Ev.now _
theorem ev_fill (p : List Cel) (l : List Bnd) (hl : l.length ≤ 9223372036854775806) : Ev (fun k => match_Fill.f k p l) (fillS p l) := by
  unfold match_Fill.f fillS
  refine Ev.bind (ev_check p) ?_
  by_cases hp : checkS p = 0
  · obtain ⟨p1, p2, _⟩ := checkS_ok hp
    rw [if_pos hp]
    refine evIfp hp ?_
    have := ev_fill1 p l p1 p2 hl l 0 [] (by omega) rfl mapOk_nil (fun b hb => by simp at hb)
    simp only [List.take_zero] at this
    exact this
  · rw [if_neg hp]
    exact evIfn hp (Ev.now _)

/-! ### the document's -/
instance decMemB (c : ByteArray) (l : List ByteArray) : Decidable (c ∈ l) := decidable_of_iff (l.any (fun x => decide (x = c)) = true) (by simp)
def varsS : List Cel → List ByteArray → List ByteArray
  | [], acc => acc
  | c :: p, acc => if kindS c.f0 = 2 then (if c.f0 ∈ acc then varsS p acc else varsS p (acc ++ [c.f0])) else varsS p acc
theorem rd_str {t : List ByteArray} {n : Nat} {c : ByteArray} {s : List ByteArray} (h : t.drop n = c :: s) : rdOf ByteArray.empty t (n : Int) = c := by
  unfold rdOf
  exact (drop_cons h).2.1 _
theorem ev_has_loop (l : List ByteArray) (s : ByteArray) (hl : l.length ≤ 9223372036854775806) : ∀ (u : List ByteArray) (a : Nat), a ≤ l.length → l.drop a = u → Ev (fun k => aumbryref03_Has.l0 k l s (l.length : Int) (a : Int)) (decide (s ∈ u))
  | [], a, ha, hu => by
    have h1 := drop_nil_len ha hu
    refine Ev.step (fun k => (show aumbryref03_Has.l0 (k + 1) l s (l.length : Int) (a : Int) = _ from by rw [aumbryref03_Has.l0])) ?_
    exact evIfn (by omega) (Ev.now _)
  | b :: u, a, ha, hu => by
    obtain ⟨h1, _, h3⟩ := drop_cons hu
    refine Ev.step (fun k => (show aumbryref03_Has.l0 (k + 1) l s (l.length : Int) (a : Int) = _ from by rw [aumbryref03_Has.l0])) ?_
    refine evIfp (by omega) (evIfp (by omega) (evIfp (by omega) ?_))
    simp only [rd_str hu, up_cast a (by omega)]
    by_cases hb : b = s
    · refine evIfp ((bytes_eq _ _).2 hb) ?_
      simp only [hb, List.mem_cons, true_or, decide_true]
      exact Ev.now _
    · refine evIfn (fun h => hb ((bytes_eq _ _).1 h)) ?_
      have := ev_has_loop l s hl u (a + 1) (by omega) h3
      have e : decide (s ∈ b :: u) = decide (s ∈ u) := by
        have : ¬ s = b := fun h => hb h.symm
        simp [this]
      rw [e]
      exact this
theorem ev_has (l : List ByteArray) (s : ByteArray) (hl : l.length ≤ 9223372036854775806) : Ev (fun k => aumbryref03_Has.f k l s) (decide (s ∈ l)) := by
  unfold aumbryref03_Has.f
  exact ev_has_loop l s hl l 0 (by omega) rfl
theorem ev_vars_loop (p : List Cel) (hp : p.length ≤ 5864062014805) : ∀ (s : List Cel) (i : Nat) (acc : List ByteArray), i ≤ p.length → p.drop i = s → acc.length ≤ i → Ev (fun k => aumbryref04_Vars.l0 k p acc (p.length : Int) (i : Int)) (varsS s acc)
  | [], i, acc, hi, hs, ha => by
    have h1 := drop_nil_len hi hs
    refine Ev.step (fun k => (show aumbryref04_Vars.l0 (k + 1) p acc (p.length : Int) (i : Int) = _ from by rw [aumbryref04_Vars.l0])) ?_
    exact evIfn (by omega) (Ev.now _)
  | c :: s, i, acc, hi, hs, ha => by
    obtain ⟨h1, _, h3⟩ := drop_cons hs
    refine Ev.step (fun k => (show aumbryref04_Vars.l0 (k + 1) p acc (p.length : Int) (i : Int) = _ from by rw [aumbryref04_Vars.l0])) ?_
    refine evIfp (by omega) (evIfp (by omega) (evIfp (by omega) ?_))
    simp only [rd_cel hs, up_cast i (by omega)]
    refine Ev.bind (ev_refKind c.f0) ?_
    simp only [varsS]
    by_cases hk : kindS c.f0 = 2
    · rw [if_pos hk]
      refine evIfp hk ?_
      refine Ev.bind (ev_has acc c.f0 (by omega)) ?_
      by_cases hm : c.f0 ∈ acc
      · rw [if_pos hm]
        exact evIfp (by simpa using hm) (ev_vars_loop p hp s (i + 1) acc (by omega) h3 (by omega))
      · rw [if_neg hm]
        refine evIfn (by simpa using hm) (evIfp (by omega) ?_)
        exact ev_vars_loop p hp s (i + 1) (acc ++ [c.f0]) (by omega) h3 (by simp; omega)
    · rw [if_neg hk]
      exact evIfn hk (ev_vars_loop p hp s (i + 1) acc (by omega) h3 (by omega))
theorem ev_vars (p : List Cel) (hp : p.length ≤ 5864062014805) : Ev (fun k => aumbryref04_Vars.f k p) (varsS p []) := by
  unfold aumbryref04_Vars.f
  exact ev_vars_loop p hp p 0 [] (by omega) rfl (by simp)
/-! ### copies of binds -/
end Go.Proofs.Ytlfhonekcmlomaa.P
