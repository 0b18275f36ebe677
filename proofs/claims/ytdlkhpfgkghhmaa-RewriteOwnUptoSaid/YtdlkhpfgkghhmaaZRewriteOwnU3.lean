/- RewriteOwn: the law answers true at every input that the given row speaks of. Conditions: those of the given row, none besides. (Part 4 of 5; written by programs of this session, which drive the kit's print, and by hand.) -/
import Derived.KernelRfl
import Derived.Test.YtdlkhpfgkghhmaaZRewriteOwnU0
import Derived.Test.YtdlkhpfgkghhmaaZRewriteOwnU1
import Derived.Test.YtdlkhpfgkghhmaaZRewriteOwnU2
set_option maxHeartbeats 8000000
set_option maxRecDepth 100000
set_option linter.unusedVariables false
set_option linter.unusedSimpArgs false
-- ==== PF11
namespace Go.Proofs.Ytdlkhpfgkghhmaa.P
open Go.RowKit Go.Proofs.YtdlkhpfgkghhmaaW.PrintWords Go.Proofs.YtdlkhpfgkghhmaaW.PrintLast Go.Proofs.YtdlkhpfgkghhmaaW.PrintMore
attribute [local go_sem] max2_int min2_int max_two min_two max_three min_three max_four min_four

def aumbrylaw07_wakes.f (k : Nat)  : Option (Bool) := (rewrite_Normal.f k (([(⟨1, (([(⟨(⟨#[102]⟩ : ByteArray), 1⟩ : S54), (⟨(⟨#[88]⟩ : ByteArray), 0⟩ : S54)] : List (S54))), (([(⟨(⟨#[115]⟩ : ByteArray), 1⟩ : S54), (⟨(⟨#[88]⟩ : ByteArray), 0⟩ : S54)] : List (S54)))⟩ : S73)] : List (S73))) (([(⟨(⟨#[102]⟩ : ByteArray), 1⟩ : S54), (⟨(⟨#[97]⟩ : ByteArray), 0⟩ : S54)] : List (S54))) 5).bind fun bt113 => ((rewrite_Start.f k (([(⟨(⟨#[103]⟩ : ByteArray), 2⟩ : S54), (⟨(⟨#[97]⟩ : ByteArray), 0⟩ : S54), (⟨(⟨#[98]⟩ : ByteArray), 0⟩ : S54)] : List (S54)))).bind fun bt121 => (if bt113.2.2 = 0 then (if bt113.2.1 = 1 then (if (bt113.1.length : Int) = 2 then (if 0 < (bt113.1.length : Int) then (if ((rd_T54 bt113.1 0).f0).toList = ([115] : List UInt8) then (if bt121.2.2.2.2 = 0 then (if (bt121.1.length : Int) = 3 then (if 0 < (bt121.1.length : Int) then (if ((rd_T70 bt121.1 0).f1.f0).toList = ([103] : List UInt8) then (if 2 < (bt121.1.length : Int) then (some (((rd_T70 bt121.1 2).f1.f0).toList == ([97] : List UInt8))) else (none)) else (some false)) else (none)) else (some false)) else (some false)) else (some false)) else (none)) else (some false)) else (some false)) else (some false)))
theorem aumbrylaw07_wakes.mono : ∀ k, LeO (aumbrylaw07_wakes.f k ) (aumbrylaw07_wakes.f (k + 1) ) := by
 intro  k
 unfold aumbrylaw07_wakes.f
 repeat' first
  | (with_reducible exact rewrite_Normal.mono _ _ _ _)
  | (with_reducible exact rewrite_Start.mono _ _)
  | (with_reducible exact LeO.refl _)
  | (with_reducible exact LeO.none _)
  | (with_reducible refine LeO.ite ?_ ?_)
  | (with_reducible refine LeO.bind ?_ (fun _ => ?_))
theorem aumbrylaw07_wakes.ev_true : Ev (fun k => aumbrylaw07_wakes.f k) true := Ev.of (g := fun k => aumbrylaw07_wakes.f k) aumbrylaw07_wakes.mono (k := 40) (by kernel_rfl)
theorem aumbrylaw07_wakes.is_true (k : Nat) (r : Bool) (h : aumbrylaw07_wakes.f k = some r) : r = true := by
 obtain ⟨K1, h1⟩ := Ev.of (g := fun k => aumbrylaw07_wakes.f k) aumbrylaw07_wakes.mono h
 obtain ⟨K2, h2⟩ := aumbrylaw07_wakes.ev_true
 exact zS ((h1 (max K1 K2) (Nat.le_max_left _ _)).symm.trans (h2 _ (Nat.le_max_right _ _)))
theorem aumbrylaw07_wakes.calls (k : Nat)  (r : Bool) (w : World) (h : aumbrylaw07_wakes.f k  = some r) :
 Calls Try.prog 11 #[] w fun e w' => e = .returned (.bool r) ∧ Below w.heap.size w w' := by
 have HRT := zM (aumbrylaw07_wakes.is_true k r h)
 have hu54 := Try.underlying54
 have hu73 := Try.underlying73
 have hu28 := Try.underlying28
 have HB := zM (Below.refl w.heap.size w)
 have H : ((rewrite_Normal.f k (([(⟨1, (([(⟨(⟨#[102]⟩ : ByteArray), 1⟩ : S54), (⟨(⟨#[88]⟩ : ByteArray), 0⟩ : S54)] : List (S54))), (([(⟨(⟨#[115]⟩ : ByteArray), 1⟩ : S54), (⟨(⟨#[88]⟩ : ByteArray), 0⟩ : S54)] : List (S54)))⟩ : S73)] : List (S73))) (([(⟨(⟨#[102]⟩ : ByteArray), 1⟩ : S54), (⟨(⟨#[97]⟩ : ByteArray), 0⟩ : S54)] : List (S54))) 5).bind fun bt113 => ((rewrite_Start.f k (([(⟨(⟨#[103]⟩ : ByteArray), 2⟩ : S54), (⟨(⟨#[97]⟩ : ByteArray), 0⟩ : S54), (⟨(⟨#[98]⟩ : ByteArray), 0⟩ : S54)] : List (S54)))).bind fun bt121 => (if bt113.2.2 = 0 then (if bt113.2.1 = 1 then (if (bt113.1.length : Int) = 2 then (if 0 < (bt113.1.length : Int) then (if ((rd_T54 bt113.1 0).f0).toList = ([115] : List UInt8) then (if bt121.2.2.2.2 = 0 then (if (bt121.1.length : Int) = 3 then (if 0 < (bt121.1.length : Int) then (if ((rd_T70 bt121.1 0).f1.f0).toList = ([103] : List UInt8) then (if 2 < (bt121.1.length : Int) then (some (((rd_T70 bt121.1 2).f1.f0).toList == ([97] : List UInt8))) else (none)) else (some false)) else (none)) else (some false)) else (some false)) else (some false)) else (none)) else (some false)) else (some false)) else (some false)))) = some r := h
 clear h
 obtain ⟨y101, hy101⟩ : ∃ y_ : List (S54), y_ = (([(⟨(⟨#[102]⟩ : ByteArray), 1⟩ : S54), (⟨(⟨#[88]⟩ : ByteArray), 0⟩ : S54)] : List (S54))) := ⟨_, rfl⟩
 replace H : ((rewrite_Normal.f k (([(⟨1, y101, (([(⟨(⟨#[115]⟩ : ByteArray), 1⟩ : S54), (⟨(⟨#[88]⟩ : ByteArray), 0⟩ : S54)] : List (S54)))⟩ : S73)] : List (S73))) (([(⟨(⟨#[102]⟩ : ByteArray), 1⟩ : S54), (⟨(⟨#[97]⟩ : ByteArray), 0⟩ : S54)] : List (S54))) 5).bind fun bt113 => ((rewrite_Start.f k (([(⟨(⟨#[103]⟩ : ByteArray), 2⟩ : S54), (⟨(⟨#[97]⟩ : ByteArray), 0⟩ : S54), (⟨(⟨#[98]⟩ : ByteArray), 0⟩ : S54)] : List (S54)))).bind fun bt121 => (if bt113.2.2 = 0 then (if bt113.2.1 = 1 then (if (bt113.1.length : Int) = 2 then (if 0 < (bt113.1.length : Int) then (if ((rd_T54 bt113.1 0).f0).toList = ([115] : List UInt8) then (if bt121.2.2.2.2 = 0 then (if (bt121.1.length : Int) = 3 then (if 0 < (bt121.1.length : Int) then (if ((rd_T70 bt121.1 0).f1.f0).toList = ([103] : List UInt8) then (if 2 < (bt121.1.length : Int) then (some (((rd_T70 bt121.1 2).f1.f0).toList == ([97] : List UInt8))) else (none)) else (some false)) else (none)) else (some false)) else (some false)) else (some false)) else (none)) else (some false)) else (some false)) else (some false)))) = some r := by first | (rw [hy101]; with_reducible exact H) | (have H2_ := (Option.bind_some _ _).symm.trans H; rw [hy101]; with_reducible exact H2_) | (have H2_ := (Option.bind_some _ _).symm.trans H; with_reducible exact H2_) | with_reducible exact H | (rw [hy101]; exact H) | exact H
 have Ny101 := zM hy101
 clear hy101
 obtain ⟨y104, hy104⟩ : ∃ y_ : List (S54), y_ = (([(⟨(⟨#[115]⟩ : ByteArray), 1⟩ : S54), (⟨(⟨#[88]⟩ : ByteArray), 0⟩ : S54)] : List (S54))) := ⟨_, rfl⟩
 replace H : ((rewrite_Normal.f k (([(⟨1, y101, y104⟩ : S73)] : List (S73))) (([(⟨(⟨#[102]⟩ : ByteArray), 1⟩ : S54), (⟨(⟨#[97]⟩ : ByteArray), 0⟩ : S54)] : List (S54))) 5).bind fun bt113 => ((rewrite_Start.f k (([(⟨(⟨#[103]⟩ : ByteArray), 2⟩ : S54), (⟨(⟨#[97]⟩ : ByteArray), 0⟩ : S54), (⟨(⟨#[98]⟩ : ByteArray), 0⟩ : S54)] : List (S54)))).bind fun bt121 => (if bt113.2.2 = 0 then (if bt113.2.1 = 1 then (if (bt113.1.length : Int) = 2 then (if 0 < (bt113.1.length : Int) then (if ((rd_T54 bt113.1 0).f0).toList = ([115] : List UInt8) then (if bt121.2.2.2.2 = 0 then (if (bt121.1.length : Int) = 3 then (if 0 < (bt121.1.length : Int) then (if ((rd_T70 bt121.1 0).f1.f0).toList = ([103] : List UInt8) then (if 2 < (bt121.1.length : Int) then (some (((rd_T70 bt121.1 2).f1.f0).toList == ([97] : List UInt8))) else (none)) else (some false)) else (none)) else (some false)) else (some false)) else (some false)) else (none)) else (some false)) else (some false)) else (some false)))) = some r := by first | (rw [hy104]; with_reducible exact H) | (have H2_ := (Option.bind_some _ _).symm.trans H; rw [hy104]; with_reducible exact H2_) | (have H2_ := (Option.bind_some _ _).symm.trans H; with_reducible exact H2_) | with_reducible exact H | (rw [hy104]; exact H) | exact H
 have Ny104 := zM hy104
 clear hy104
 obtain ⟨y107, hy107⟩ : ∃ y_ : List (S73), y_ = (([(⟨1, y101, y104⟩ : S73)] : List (S73))) := ⟨_, rfl⟩
 replace H : ((rewrite_Normal.f k y107 (([(⟨(⟨#[102]⟩ : ByteArray), 1⟩ : S54), (⟨(⟨#[97]⟩ : ByteArray), 0⟩ : S54)] : List (S54))) 5).bind fun bt113 => ((rewrite_Start.f k (([(⟨(⟨#[103]⟩ : ByteArray), 2⟩ : S54), (⟨(⟨#[97]⟩ : ByteArray), 0⟩ : S54), (⟨(⟨#[98]⟩ : ByteArray), 0⟩ : S54)] : List (S54)))).bind fun bt121 => (if bt113.2.2 = 0 then (if bt113.2.1 = 1 then (if (bt113.1.length : Int) = 2 then (if 0 < (bt113.1.length : Int) then (if ((rd_T54 bt113.1 0).f0).toList = ([115] : List UInt8) then (if bt121.2.2.2.2 = 0 then (if (bt121.1.length : Int) = 3 then (if 0 < (bt121.1.length : Int) then (if ((rd_T70 bt121.1 0).f1.f0).toList = ([103] : List UInt8) then (if 2 < (bt121.1.length : Int) then (some (((rd_T70 bt121.1 2).f1.f0).toList == ([97] : List UInt8))) else (none)) else (some false)) else (none)) else (some false)) else (some false)) else (some false)) else (none)) else (some false)) else (some false)) else (some false)))) = some r := by first | (rw [hy107]; with_reducible exact H) | (have H2_ := (Option.bind_some _ _).symm.trans H; rw [hy107]; with_reducible exact H2_) | (have H2_ := (Option.bind_some _ _).symm.trans H; with_reducible exact H2_) | with_reducible exact H | (rw [hy107]; exact H) | exact H
 have Ny107 := zM hy107
 clear hy107
 obtain ⟨y110, hy110⟩ : ∃ y_ : List (S54), y_ = (([(⟨(⟨#[102]⟩ : ByteArray), 1⟩ : S54), (⟨(⟨#[97]⟩ : ByteArray), 0⟩ : S54)] : List (S54))) := ⟨_, rfl⟩
 replace H : ((rewrite_Normal.f k y107 y110 5).bind fun bt113 => ((rewrite_Start.f k (([(⟨(⟨#[103]⟩ : ByteArray), 2⟩ : S54), (⟨(⟨#[97]⟩ : ByteArray), 0⟩ : S54), (⟨(⟨#[98]⟩ : ByteArray), 0⟩ : S54)] : List (S54)))).bind fun bt121 => (if bt113.2.2 = 0 then (if bt113.2.1 = 1 then (if (bt113.1.length : Int) = 2 then (if 0 < (bt113.1.length : Int) then (if ((rd_T54 bt113.1 0).f0).toList = ([115] : List UInt8) then (if bt121.2.2.2.2 = 0 then (if (bt121.1.length : Int) = 3 then (if 0 < (bt121.1.length : Int) then (if ((rd_T70 bt121.1 0).f1.f0).toList = ([103] : List UInt8) then (if 2 < (bt121.1.length : Int) then (some (((rd_T70 bt121.1 2).f1.f0).toList == ([97] : List UInt8))) else (none)) else (some false)) else (none)) else (some false)) else (some false)) else (some false)) else (none)) else (some false)) else (some false)) else (some false)))) = some r := by first | (rw [hy110]; with_reducible exact H) | (have H2_ := (Option.bind_some _ _).symm.trans H; rw [hy110]; with_reducible exact H2_) | (have H2_ := (Option.bind_some _ _).symm.trans H; with_reducible exact H2_) | with_reducible exact H | (rw [hy110]; exact H) | exact H
 have Ny110 := zM hy110
 clear hy110
 replace H := zB H
 obtain ⟨⟨t113, t116, t117⟩, A10, H⟩ := H
 try dsimp only at H
 have A1 := zM A10
 clear A10
 obtain ⟨y118, hy118⟩ : ∃ y_ : List (S54), y_ = (([(⟨(⟨#[103]⟩ : ByteArray), 2⟩ : S54), (⟨(⟨#[97]⟩ : ByteArray), 0⟩ : S54), (⟨(⟨#[98]⟩ : ByteArray), 0⟩ : S54)] : List (S54))) := ⟨_, rfl⟩
 replace H : ((rewrite_Start.f k y118).bind fun bt121 => (if t117 = 0 then (if t116 = 1 then (if (t113.length : Int) = 2 then (if 0 < (t113.length : Int) then (if ((rd_T54 t113 0).f0).toList = ([115] : List UInt8) then (if bt121.2.2.2.2 = 0 then (if (bt121.1.length : Int) = 3 then (if 0 < (bt121.1.length : Int) then (if ((rd_T70 bt121.1 0).f1.f0).toList = ([103] : List UInt8) then (if 2 < (bt121.1.length : Int) then (some (((rd_T70 bt121.1 2).f1.f0).toList == ([97] : List UInt8))) else (none)) else (some false)) else (none)) else (some false)) else (some false)) else (some false)) else (none)) else (some false)) else (some false)) else (some false))) = some r := by first | (rw [hy118]; with_reducible exact H) | (have H2_ := (Option.bind_some _ _).symm.trans H; rw [hy118]; with_reducible exact H2_) | (have H2_ := (Option.bind_some _ _).symm.trans H; with_reducible exact H2_) | with_reducible exact H | (rw [hy118]; exact H) | exact H
 have Ny118 := zM hy118
 clear hy118
 replace H := zB H
 obtain ⟨⟨t121, t124, t127, t128, t131⟩, A20, H⟩ := H
 try dsimp only at H
 have A2 := zM A20
 clear A20
 by_cases c3 : t117 = 0
 ·
  rw [if_pos c3] at H
  have c3b0 : (t117 == 0) = true := zG c3
  have c3b1 : (t117 != 0) = false := zH c3
  clear c3
  by_cases c4 : t116 = 1
  ·
   rw [if_pos c4] at H
   have c4b0 : (t116 == 1) = true := zG c4
   have c4b1 : (t116 != 1) = false := zH c4
   clear c4
   by_cases c5 : (t113.length : Int) = 2
   ·
    rw [if_pos c5] at H
    have c5b0 : ((t113.length : Int) == 2) = true := zG c5
    have c5b1 : ((t113.length : Int) != 2) = false := zH c5
    clear c5
    by_cases c6 : 0 < (t113.length : Int)
    ·
     rw [if_pos c6] at H
     have c6b0 : decide (0 < (t113.length : Int)) = true := zQ c6
     have c6b1 : decide (0 < t113.length) = true := zQ (by omega)
     clear c6
     by_cases c7 : ((rd_T54 t113 0).f0).toList = ([115] : List UInt8)
     ·
      rw [if_pos c7] at H
      have c7b0 : (((rd_T54 t113 0).f0).toList == ([115] : List UInt8)) = true := zG c7
      have c7b1 : (((rd_T54 t113 0).f0).toList != ([115] : List UInt8)) = false := zH c7
      clear c7
      by_cases c8 : t131 = 0
      ·
       rw [if_pos c8] at H
       have c8b0 : (t131 == 0) = true := zG c8
       have c8b1 : (t131 != 0) = false := zH c8
       clear c8
       by_cases c9 : (t121.length : Int) = 3
       ·
        rw [if_pos c9] at H
        have c9b0 : ((t121.length : Int) == 3) = true := zG c9
        have c9b1 : ((t121.length : Int) != 3) = false := zH c9
        clear c9
        by_cases c10 : 0 < (t121.length : Int)
        ·
         rw [if_pos c10] at H
         have c10b0 : decide (0 < (t121.length : Int)) = true := zQ c10
         have c10b1 : decide (0 < t121.length) = true := zQ (by omega)
         clear c10
         by_cases c11 : ((rd_T70 t121 0).f1.f0).toList = ([103] : List UInt8)
         ·
          rw [if_pos c11] at H
          have c11b0 : (((rd_T70 t121 0).f1.f0).toList == ([103] : List UInt8)) = true := zG c11
          have c11b1 : (((rd_T70 t121 0).f1.f0).toList != ([103] : List UInt8)) = false := zH c11
          clear c11
          by_cases c12 : 2 < (t121.length : Int)
          ·
           rw [if_pos c12] at H
           have c12b0 : decide (2 < (t121.length : Int)) = true := zQ c12
           have c12b1 : decide (2 < t121.length) = true := zQ (by omega)
           clear c12
           obtain rfl := zS H
           go_enter Try.func11, Try.ntmps11
           go_wp2_with (first | ((with_reducible refine gate_dst (N := 9) rfl ?_); (try (refine gate_guard (by rfl) ?_; dsimp only)); refine Kd.R_lit k54 _ 54 ?hg (N := 9) ?hd (xs := ([(⟨(⟨#[102]⟩ : ByteArray), 1⟩ : S54), (⟨(⟨#[88]⟩ : ByteArray), 0⟩ : S54)] : List (S54))) (inner := [.string (⟨#[102]⟩ : ByteArray), .int .i64 1, .string (⟨#[88]⟩ : ByteArray), .int .i64 0]) (ok := fun _ => True) (okp := fun _ => True) ?hr ?hp (fun _ hk => hk) trivial (Below.refl _ _) (Nat.le_refl _) (by simp) ?_; (case hd => rfl); (case hg => rfl); (case hr => first | (go_simp; done) | (go_simp; rfl)); (case hp => exact (Reps.c2 (show Kd.M k54 _ _ _ (⟨(⟨#[102]⟩ : ByteArray), 1⟩ : S54) [.string (⟨#[102]⟩ : ByteArray), .int .i64 1] from (k54_mkM _ _ _ (⟨(⟨#[102]⟩ : ByteArray), 1⟩ : S54) )) (Reps.c2 (show Kd.M k54 _ _ _ (⟨(⟨#[88]⟩ : ByteArray), 0⟩ : S54) [.string (⟨#[88]⟩ : ByteArray), .int .i64 0] from (k54_mkM _ _ _ (⟨(⟨#[88]⟩ : ByteArray), 0⟩ : S54) )) (Reps.none _ _)))); intro v102 w13 ho14 hb hg_ hnew_; clear hg_ hnew_; (first | rw [← Ny101.out] at ho14 | (simp only [Int.reduceToNat] at ho14; rw [← Ny101.out] at ho14)); have HO103 := zM (Kd.R_lower ho14 (below_size zb)); replace HB := zM (below_step zb hb); clear hb ho14) | ((with_reducible refine gate_dst (N := 12) rfl ?_); (try (refine gate_guard (by rfl) ?_; dsimp only)); refine Kd.R_lit k54 _ 54 ?hg (N := 12) ?hd (xs := ([(⟨(⟨#[115]⟩ : ByteArray), 1⟩ : S54), (⟨(⟨#[88]⟩ : ByteArray), 0⟩ : S54)] : List (S54))) (inner := [.string (⟨#[115]⟩ : ByteArray), .int .i64 1, .string (⟨#[88]⟩ : ByteArray), .int .i64 0]) (ok := fun _ => True) (okp := fun _ => True) ?hr ?hp (fun _ hk => hk) trivial (Below.refl _ _) (Nat.le_refl _) (by simp) ?_; (case hd => rfl); (case hg => rfl); (case hr => first | (go_simp; done) | (go_simp; rfl)); (case hp => exact (Reps.c2 (show Kd.M k54 _ _ _ (⟨(⟨#[115]⟩ : ByteArray), 1⟩ : S54) [.string (⟨#[115]⟩ : ByteArray), .int .i64 1] from (k54_mkM _ _ _ (⟨(⟨#[115]⟩ : ByteArray), 1⟩ : S54) )) (Reps.c2 (show Kd.M k54 _ _ _ (⟨(⟨#[88]⟩ : ByteArray), 0⟩ : S54) [.string (⟨#[88]⟩ : ByteArray), .int .i64 0] from (k54_mkM _ _ _ (⟨(⟨#[88]⟩ : ByteArray), 0⟩ : S54) )) (Reps.none _ _)))); intro v105 w15 ho16 hb hg_ hnew_; clear hg_ hnew_; (first | rw [← Ny104.out] at ho16 | (simp only [Int.reduceToNat] at ho16; rw [← Ny104.out] at ho16)); have HO106 := zM (Kd.R_lower (Kd.R_new' ho16 (Kd.R_lt (zr HO103.out))) (below_size zb)); replace HO103 := zM (Kd.R_elder' (zr HO103.out) (Kd.R_base ho16) hb); replace HB := zM (below_step zb hb); clear hb ho16; obtain ⟨Ao17, co17, eo17⟩ := Kd.R_slice HO106.out; subst eo17; obtain ⟨Ao18, co18, eo18⟩ := Kd.R_slice HO103.out; subst eo18) | ((with_reducible refine gate_dst (N := 14) rfl ?_); (try (refine gate_guard (by rfl) ?_; dsimp only)); refine Kd.N_lit k73 _ 73 ?hg (N' := 14) ?hd (xs := ([(⟨1, y101, y104⟩ : S73)] : List (S73))) (inner := [.int .i64 1, .slice Ao18 y101.length co18, .slice Ao17 y104.length co17]) (ok := (fun _ => True)) (okp := (fun _ => True)) ?hr ?hp (fun _ hk => hk) ((show ∀ k_, w15.heap.size ≤ k_ → (fun _ => True) k_ from fun k_ hk => trivial) _ (Nat.le_refl _)) (Below.refl _ _) (Nat.le_refl _) (by simp) ?_; (case hd => rfl); (case hg => rfl); (case hr => first | (go_simp; done) | (go_simp; rfl)); (case hp => exact (Reps.c3 (show Kd.FK k73 _ _ (⟨1, y101, y104⟩ : S73) [.int .i64 1, .slice Ao18 y101.length co18, .slice Ao17 y104.length co17] from (k73_mkF _ _ (⟨1, y101, y104⟩ : S73) (Kd.R_reads' (Kd.R_mono (ok' := (fun _ => True)) (HO103.out) (fun k_ hk => trivial))).2.1 (Kd.R_F (Kd.R_mono (ok' := (fun _ => True)) (HO103.out) (fun k_ hk => trivial))) (Kd.R_reads' (Kd.R_mono (ok' := (fun _ => True)) (HO106.out) (fun k_ hk => trivial))).2.1 (Kd.R_F (Kd.R_mono (ok' := (fun _ => True)) (HO106.out) (fun k_ hk => trivial))))) (Reps.none _ _))); intro v108 w19 ho20 hb hg_ hnew_; clear hg_ hnew_; (first | rw [← Ny107.out] at ho20 | (simp only [Int.reduceToNat] at ho20; rw [← Ny107.out] at ho20)); have HO109 := zM (Kd.N_lower ho20 (below_size zb)); replace HB := zM (below_step zb hb); clear HO103 HO106; clear hb ho20) | ((with_reducible refine gate_dst (N := 19) rfl ?_); (try (refine gate_guard (by rfl) ?_; dsimp only)); refine Kd.R_lit k54 _ 54 ?hg (N := 19) ?hd (xs := ([(⟨(⟨#[102]⟩ : ByteArray), 1⟩ : S54), (⟨(⟨#[97]⟩ : ByteArray), 0⟩ : S54)] : List (S54))) (inner := [.string (⟨#[102]⟩ : ByteArray), .int .i64 1, .string (⟨#[97]⟩ : ByteArray), .int .i64 0]) (ok := fun _ => True) (okp := fun _ => True) ?hr ?hp (fun _ hk => hk) trivial (Below.refl _ _) (Nat.le_refl _) (by simp) ?_; (case hd => rfl); (case hg => rfl); (case hr => first | (go_simp; done) | (go_simp; rfl)); (case hp => exact (Reps.c2 (show Kd.M k54 _ _ _ (⟨(⟨#[102]⟩ : ByteArray), 1⟩ : S54) [.string (⟨#[102]⟩ : ByteArray), .int .i64 1] from (k54_mkM _ _ _ (⟨(⟨#[102]⟩ : ByteArray), 1⟩ : S54) )) (Reps.c2 (show Kd.M k54 _ _ _ (⟨(⟨#[97]⟩ : ByteArray), 0⟩ : S54) [.string (⟨#[97]⟩ : ByteArray), .int .i64 0] from (k54_mkM _ _ _ (⟨(⟨#[97]⟩ : ByteArray), 0⟩ : S54) )) (Reps.none _ _)))); intro v111 w21 ho22 hb hg_ hnew_; clear hg_ hnew_; (first | rw [← Ny110.out] at ho22 | (simp only [Int.reduceToNat] at ho22; rw [← Ny110.out] at ho22)); replace HO109 := zM (Kd.N_elder' (Kd.N_below HO109.out zg) (Kd.R_base ho22) hb); have HO112 := zM (Kd.R_lower ho22 (below_size zb)); replace HB := zM (below_step zb hb); clear hb ho22; obtain ⟨Ao23, co23, eo23⟩ := Kd.N_slice HO109.out; subst eo23; obtain ⟨Ao24, co24, eo24⟩ := Kd.R_slice HO112.out; subst eo24) | ((with_reducible refine gate_callee (f := 24) rfl ?_); refine goesL_ (some 20) rfl rfl Try.func24 (by kernel_rfl) rfl #[.slice Ao23 y107.length co23, .slice Ao24 y110.length co24, .int .i64 5] rfl zl ?_; (with_reducible refine (rewrite_Normal.calls k _ _ y107 _ _ y110 5 t113 t116 t117 _ ?side1 ?side2 ?side3 ?side4 A1.out).mono ?_); (case side1 => exact Kd.C_below (Kd.N_reads' HO109.out).2.2 zg); (case side2 => exact (Kd.N_reads' HO109.out).2.1); (case side3 => exact Kd.C_below (Kd.R_reads' HO112.out).2.2 zg); (case side4 => exact (Kd.R_reads' HO112.out).2.1); rintro e w25 ⟨v114, rfl, ho0, hb⟩; refine ⟨_, rfl, ?_⟩; have HO115 := zM (Kd.V_lower (Kd.V_mono (ok' := fun k_ => some k_ ≠ (.slice Ao23 y107.length co23 : Value).ownBlock ∧ some k_ ≠ (.slice Ao24 y110.length co24 : Value).ownBlock) ho0 (fun k_ hk_ => ⟨(Kd.fresh' (Kd.N_lt (Kd.N_below HO109.out zg)) k_ hk_), (Kd.fresh' (Kd.R_lt (zr HO112.out)) k_ hk_)⟩)) (below_size zb)); replace HO109 := zM (Kd.N_below (Kd.N_below HO109.out zg) hb); replace HO112 := zM (Kd.R_below (zr HO112.out) hb); replace HB := zM (below_step zb hb); (try clear hb); (try clear ho0)) | ((with_reducible refine gate_dst (N := 28) rfl ?_); (try (refine gate_guard (by rfl) ?_; dsimp only)); refine Kd.R_lit k54 _ 54 ?hg (N := 28) ?hd (xs := ([(⟨(⟨#[103]⟩ : ByteArray), 2⟩ : S54), (⟨(⟨#[97]⟩ : ByteArray), 0⟩ : S54), (⟨(⟨#[98]⟩ : ByteArray), 0⟩ : S54)] : List (S54))) (inner := [.string (⟨#[103]⟩ : ByteArray), .int .i64 2, .string (⟨#[97]⟩ : ByteArray), .int .i64 0, .string (⟨#[98]⟩ : ByteArray), .int .i64 0]) (ok := fun _ => True) (okp := fun _ => True) ?hr ?hp (fun _ hk => hk) trivial (Below.refl _ _) (Nat.le_refl _) (by simp) ?_; (case hd => rfl); (case hg => rfl); (case hr => first | (go_simp; done) | (go_simp; rfl)); (case hp => exact (Reps.c2 (show Kd.M k54 _ _ _ (⟨(⟨#[103]⟩ : ByteArray), 2⟩ : S54) [.string (⟨#[103]⟩ : ByteArray), .int .i64 2] from (k54_mkM _ _ _ (⟨(⟨#[103]⟩ : ByteArray), 2⟩ : S54) )) (Reps.c2 (show Kd.M k54 _ _ _ (⟨(⟨#[97]⟩ : ByteArray), 0⟩ : S54) [.string (⟨#[97]⟩ : ByteArray), .int .i64 0] from (k54_mkM _ _ _ (⟨(⟨#[97]⟩ : ByteArray), 0⟩ : S54) )) (Reps.c2 (show Kd.M k54 _ _ _ (⟨(⟨#[98]⟩ : ByteArray), 0⟩ : S54) [.string (⟨#[98]⟩ : ByteArray), .int .i64 0] from (k54_mkM _ _ _ (⟨(⟨#[98]⟩ : ByteArray), 0⟩ : S54) )) (Reps.none _ _))))); intro v119 w26 ho27 hb hg_ hnew_; clear hg_ hnew_; (first | rw [← Ny118.out] at ho27 | (simp only [Int.reduceToNat] at ho27; rw [← Ny118.out] at ho27)); replace HO109 := zM (Kd.N_elder' (Kd.N_below HO109.out zg) (Kd.R_base ho27) hb); replace HO115 := zM (Kd.V_elder' (Kd.V_below HO115.out zg) (Kd.R_base ho27) hb); have HO120 := zM (Kd.R_lower (Kd.R_new' ho27 (Kd.R_lt (zr HO112.out))) (below_size zb)); replace HO112 := zM (Kd.R_elder' (zr HO112.out) (Kd.R_base ho27) hb); replace HB := zM (below_step zb hb); clear hb ho27; obtain ⟨Ao28, co28, eo28⟩ := Kd.R_slice HO120.out; subst eo28) | ((with_reducible refine gate_callee (f := 12) rfl ?_); refine goesL_ (some 29) rfl rfl Try.func12 (by kernel_rfl) rfl #[.slice Ao28 y118.length co28] rfl zl ?_; (with_reducible refine (rewrite_Start.calls k _ _ y118 t121 t124 t127 t128 t131 _ ?side1 ?side2 A2.out).mono ?_); (case side1 => exact Kd.C_below (Kd.R_reads' HO120.out).2.2 zg); (case side2 => exact (Kd.R_reads' HO120.out).2.1); rintro e w29 ⟨v122, v125, v129, rfl, ho0, ho1, ho2, hb⟩; refine ⟨_, rfl, ?_⟩; replace HO115 := zM (Kd.V_mono (Kd.V_told (Kd.V_told (Kd.V_told (Kd.V_old (Kd.V_below HO115.out zg) hb) (Kd.N_base ho0)) (Kd.N_base ho1)) (Kd.R_base ho2)) (fun _ h_ => h_.1)); have HO123 := zM (Kd.N_lower (Kd.N_mono (ok' := fun k_ => some k_ ≠ (v125 : Value).ownBlock ∧ some k_ ≠ (v129 : Value).ownBlock ∧ some k_ ≠ (.slice Ao23 y107.length co23 : Value).ownBlock ∧ some k_ ≠ (.slice Ao24 y110.length co24 : Value).ownBlock ∧ some k_ ≠ (.slice Ao28 y118.length co28 : Value).ownBlock) ho0 (fun k_ hk_ => ⟨hk_.2.1, hk_.2.2, (Kd.fresh' (Kd.N_lt (Kd.N_below HO109.out zg)) k_ hk_.1), (Kd.fresh' (Kd.R_lt (zr HO112.out)) k_ hk_.1), (Kd.fresh' (Kd.R_lt (zr HO120.out)) k_ hk_.1)⟩)) (below_size zb)); have HO126 := zM (Kd.N_lower (Kd.N_mono (ok' := fun k_ => some k_ ≠ (v122 : Value).ownBlock ∧ some k_ ≠ (v129 : Value).ownBlock ∧ some k_ ≠ (.slice Ao23 y107.length co23 : Value).ownBlock ∧ some k_ ≠ (.slice Ao24 y110.length co24 : Value).ownBlock ∧ some k_ ≠ (.slice Ao28 y118.length co28 : Value).ownBlock) ho1 (fun k_ hk_ => ⟨hk_.2.1, hk_.2.2, (Kd.fresh' (Kd.N_lt (Kd.N_below HO109.out zg)) k_ hk_.1), (Kd.fresh' (Kd.R_lt (zr HO112.out)) k_ hk_.1), (Kd.fresh' (Kd.R_lt (zr HO120.out)) k_ hk_.1)⟩)) (below_size zb)); replace HO109 := zM (Kd.N_mono (Kd.N_told (Kd.N_told (Kd.N_told (Kd.N_old (Kd.N_below HO109.out zg) hb) (Kd.N_base ho0)) (Kd.N_base ho1)) (Kd.R_base ho2)) (fun _ h_ => h_.1)); replace HO112 := zM (Kd.R_below (zr HO112.out) hb); replace HO120 := zM (Kd.R_below (zr HO120.out) hb); have HO130 := zM (Kd.R_lower (Kd.R_mono (ok' := fun k_ => True) ho2 (fun _ hk_ => trivial)) (below_size zb)); replace HB := zM (below_step zb hb); (try clear hb); (try clear ho0); (try clear ho1); (try clear ho2)) | ((with_reducible refine gate_dst (N := 5) rfl ?_); (try (refine gate_guard (by rfl) ?_; dsimp only)); refine box_event ?hg (N := 5) ?hd (cs := #[.slice none 0 0, .slice none 0 0, .int .i64 0, .slice none 0 0]) (t := 28) ?hr ?_; (case hd => rfl); (case hg => rfl); (case hr => first | (go_simp; done) | (go_simp; rfl)); intro gb132 hg w30 hbox hb; replace HO109 := zM (Kd.N_below (Kd.N_elderB (Kd.N_below HO109.out zg) gb132 (Nat.le_of_eq hg.symm)) hb); replace HO112 := zM (Kd.R_below (zr HO112.out) hb); replace HO115 := zM (Kd.V_below (Kd.V_elderB (Kd.V_below HO115.out zg) gb132 (Nat.le_of_eq hg.symm)) hb); replace HO120 := zM (Kd.R_below (zr HO120.out) hb); replace HO123 := zM (Kd.N_below (Kd.N_elderB (Kd.N_below HO123.out zg) gb132 (Nat.le_of_eq hg.symm)) hb); replace HO126 := zM (Kd.N_below (Kd.N_elderB (Kd.N_below HO126.out zg) gb132 (Nat.le_of_eq hg.symm)) hb); replace HO130 := zM (Kd.R_below (zr HO130.out) hb); have BK132 := zM (hbox); have GW132 := zM (zh hg : w.heap.size ≤ gb132); have GE132 := zM (zh hg : w.heap.size ≤ gb132); replace HB := zM (below_step zb hb); clear hb hbox hg; obtain ⟨Ao31, co31, eo31⟩ := Kd.N_slice HO123.out; subst eo31; have hcz32_0 : w30.cell? ⟨gb132, 0, none⟩ = some (.slice none 0 0) := (zX BK132.out 0).trans rfl; have hcz32_1 : w30.cell? ⟨gb132, 1, none⟩ = some (.slice none 0 0) := (zX BK132.out 1).trans rfl; have hcz32_2 : w30.cell? ⟨gb132, 2, none⟩ = some (.int .i64 0) := (zX BK132.out 2).trans rfl; have hcz32_3 : w30.cell? ⟨gb132, 3, none⟩ = some (.slice none 0 0) := (zX BK132.out 3).trans rfl; have hfz32_0 := zY BK132.out 0; have hfz32_1 := zY BK132.out 1; have hfz32_2 := zY BK132.out 2; have hfz32_3 := zY BK132.out 3; obtain ⟨Ao33, co33, eo33⟩ := Kd.N_slice HO126.out; subst eo33; obtain ⟨Ao34, co34, eo34⟩ := Kd.R_slice HO130.out; subst eo34) | ((with_reducible refine gate_store (t := 28) (p := 5) rfl ?_); refine store_event (t := 28) (p := 5) (v := ?vo_w35) (w1 := ((((w30.setCell ⟨gb132, 0, none⟩ (.slice Ao31 t121.length co31)).setCell ⟨gb132, 1, none⟩ (.slice Ao33 t124.length co33)).setCell ⟨gb132, 2, none⟩ (.int .i64 t127)).setCell ⟨gb132, 3, none⟩ (.slice Ao34 t128.length co34))) ?hg ?ho ?hn ?hr ?_; (case ho => rfl); (case hg => rfl); (case hn => rfl); (case hr => first | (go_simp; done) | (go_simp; rfl)); intro w35 hw; have n0_ : Aside0 (Kd.N k73 73 w35 w.heap.size (fun k_ => some k_ ≠ (.slice Ao24 y110.length co24 : Value).ownBlock ∧ some k_ ≠ (.slice Ao28 y118.length co28 : Value).ownBlock ∧ some k_ ≠ (.slice Ao31 t121.length co31 : Value).ownBlock ∧ some k_ ≠ (.slice Ao33 t124.length co33 : Value).ownBlock ∧ some k_ ≠ (.slice Ao34 t128.length co34 : Value).ownBlock ∧ k_ ≠ gb132) (.slice Ao23 y107.length co23) y107) := ⟨(by rw [hw]; exact (by (with_reducible repeat (first | apply Kd.N_alloc | apply Kd.N_drewN | apply Kd.N_drew)); exact Kd.N_mono (Kd.N_far (p := ⟨gb132, 3, none⟩) (Kd.N_far (p := ⟨gb132, 2, none⟩) (Kd.N_far (p := ⟨gb132, 1, none⟩) (Kd.N_far (p := ⟨gb132, 0, none⟩) (Kd.N_mono HO109.out (fun k_ hk => (⟨hk, hk.2⟩ : _ ∧ k_ ≠ gb132))) (fun _ hk => hk.2) (.slice Ao31 t121.length co31)) (fun _ hk => hk.2) (.slice Ao33 t124.length co33)) (fun _ hk => hk.2) (.int .i64 t127)) (fun _ hk => hk.2) (.slice Ao34 t128.length co34)) (fun _ hk => ⟨hk.1.1.1.1.1.1.2, ⟨hk.1.1.1.1.1.2, ⟨hk.1.1.1.1.2, ⟨hk.1.1.1.2, ⟨hk.1.1.2, hk.1.2⟩⟩⟩⟩⟩)))⟩; have n1_ : Aside0 (Kd.R k54 54 w35 w.heap.size (fun k_ => some k_ ≠ (.slice Ao28 y118.length co28 : Value).ownBlock) (.slice Ao24 y110.length co24) y110) := ⟨(by rw [hw]; exact (by (with_reducible repeat (first | apply Kd.R_alloc | apply Kd.R_drewN | apply Kd.R_drew)); exact Kd.R_mono (Kd.R_far (p := ⟨gb132, 3, none⟩) (Kd.R_far (p := ⟨gb132, 2, none⟩) (Kd.R_far (p := ⟨gb132, 1, none⟩) (Kd.R_far (p := ⟨gb132, 0, none⟩) (Kd.R_types HO112.out BK132.out (by decide)) (fun _ hk => hk.2) (.slice Ao31 t121.length co31)) (fun _ hk => hk.2) (.slice Ao33 t124.length co33)) (fun _ hk => hk.2) (.int .i64 t127)) (fun _ hk => hk.2) (.slice Ao34 t128.length co34)) (fun _ hk => hk.1.2)))⟩; have n2_ : Aside0 (Kd.V k54 54 w35 w.heap.size (fun k_ => some k_ ≠ (.slice Ao23 y107.length co23 : Value).ownBlock ∧ some k_ ≠ (.slice Ao24 y110.length co24 : Value).ownBlock ∧ some k_ ≠ (.slice Ao28 y118.length co28 : Value).ownBlock ∧ some k_ ≠ (.slice Ao31 t121.length co31 : Value).ownBlock ∧ some k_ ≠ (.slice Ao33 t124.length co33 : Value).ownBlock ∧ some k_ ≠ (.slice Ao34 t128.length co34 : Value).ownBlock ∧ k_ ≠ gb132) v114 t113) := ⟨(by rw [hw]; exact (by (with_reducible repeat (first | apply Kd.V_alloc | apply Kd.V_drewN | apply Kd.V_drew)); exact Kd.V_mono (Kd.V_far (p := ⟨gb132, 3, none⟩) (Kd.V_far (p := ⟨gb132, 2, none⟩) (Kd.V_far (p := ⟨gb132, 1, none⟩) (Kd.V_far (p := ⟨gb132, 0, none⟩) (Kd.V_mono HO115.out (fun k_ hk => (⟨hk, hk.2⟩ : _ ∧ k_ ≠ gb132))) (fun _ hk => hk.2) (.slice Ao31 t121.length co31)) (fun _ hk => hk.2) (.slice Ao33 t124.length co33)) (fun _ hk => hk.2) (.int .i64 t127)) (fun _ hk => hk.2) (.slice Ao34 t128.length co34)) (fun _ hk => ⟨hk.1.1.1.1.1.1.1, ⟨hk.1.1.1.1.1.1.2, ⟨hk.1.1.1.1.1.2, ⟨hk.1.1.1.1.2, ⟨hk.1.1.1.2, ⟨hk.1.1.2, hk.1.2⟩⟩⟩⟩⟩⟩)))⟩; have n3_ : Aside0 (Kd.R k54 54 w35 w.heap.size (fun k_ => some k_ ≠ (.slice Ao24 y110.length co24 : Value).ownBlock) (.slice Ao28 y118.length co28) y118) := ⟨(by rw [hw]; exact (by (with_reducible repeat (first | apply Kd.R_alloc | apply Kd.R_drewN | apply Kd.R_drew)); exact Kd.R_mono (Kd.R_far (p := ⟨gb132, 3, none⟩) (Kd.R_far (p := ⟨gb132, 2, none⟩) (Kd.R_far (p := ⟨gb132, 1, none⟩) (Kd.R_far (p := ⟨gb132, 0, none⟩) (Kd.R_types HO120.out BK132.out (by decide)) (fun _ hk => hk.2) (.slice Ao31 t121.length co31)) (fun _ hk => hk.2) (.slice Ao33 t124.length co33)) (fun _ hk => hk.2) (.int .i64 t127)) (fun _ hk => hk.2) (.slice Ao34 t128.length co34)) (fun _ hk => hk.1.2)))⟩; have n4_ : Aside0 (Kd.N k70 70 w35 w.heap.size (fun k_ => some k_ ≠ (.slice Ao23 y107.length co23 : Value).ownBlock ∧ some k_ ≠ (.slice Ao24 y110.length co24 : Value).ownBlock ∧ some k_ ≠ (.slice Ao28 y118.length co28 : Value).ownBlock ∧ some k_ ≠ (.slice Ao33 t124.length co33 : Value).ownBlock ∧ some k_ ≠ (.slice Ao34 t128.length co34 : Value).ownBlock ∧ k_ ≠ gb132) (.slice Ao31 t121.length co31) t121) := ⟨(by rw [hw]; exact (by (with_reducible repeat (first | apply Kd.N_alloc | apply Kd.N_drewN | apply Kd.N_drew)); exact Kd.N_mono (Kd.N_far (p := ⟨gb132, 3, none⟩) (Kd.N_far (p := ⟨gb132, 2, none⟩) (Kd.N_far (p := ⟨gb132, 1, none⟩) (Kd.N_far (p := ⟨gb132, 0, none⟩) (Kd.N_mono HO123.out (fun k_ hk => (⟨hk, hk.2⟩ : _ ∧ k_ ≠ gb132))) (fun _ hk => hk.2) (.slice Ao31 t121.length co31)) (fun _ hk => hk.2) (.slice Ao33 t124.length co33)) (fun _ hk => hk.2) (.int .i64 t127)) (fun _ hk => hk.2) (.slice Ao34 t128.length co34)) (fun _ hk => ⟨hk.1.1.2.2.1, ⟨hk.1.1.2.2.2.1, ⟨hk.1.1.2.2.2.2, ⟨hk.1.1.1, ⟨hk.1.1.2.1, hk.1.2⟩⟩⟩⟩⟩)))⟩; have n5_ : Aside0 (Kd.N (Kd.slice 54 k54) 23 w35 w.heap.size (fun k_ => some k_ ≠ (.slice Ao23 y107.length co23 : Value).ownBlock ∧ some k_ ≠ (.slice Ao24 y110.length co24 : Value).ownBlock ∧ some k_ ≠ (.slice Ao28 y118.length co28 : Value).ownBlock ∧ some k_ ≠ (.slice Ao31 t121.length co31 : Value).ownBlock ∧ some k_ ≠ (.slice Ao34 t128.length co34 : Value).ownBlock ∧ k_ ≠ gb132) (.slice Ao33 t124.length co33) t124) := ⟨(by rw [hw]; exact (by (with_reducible repeat (first | apply Kd.N_alloc | apply Kd.N_drewN | apply Kd.N_drew)); exact Kd.N_mono (Kd.N_far (p := ⟨gb132, 3, none⟩) (Kd.N_far (p := ⟨gb132, 2, none⟩) (Kd.N_far (p := ⟨gb132, 1, none⟩) (Kd.N_far (p := ⟨gb132, 0, none⟩) (Kd.N_mono HO126.out (fun k_ hk => (⟨hk, hk.2⟩ : _ ∧ k_ ≠ gb132))) (fun _ hk => hk.2) (.slice Ao31 t121.length co31)) (fun _ hk => hk.2) (.slice Ao33 t124.length co33)) (fun _ hk => hk.2) (.int .i64 t127)) (fun _ hk => hk.2) (.slice Ao34 t128.length co34)) (fun _ hk => ⟨hk.1.1.2.2.1, ⟨hk.1.1.2.2.2.1, ⟨hk.1.1.2.2.2.2, ⟨hk.1.1.1, ⟨hk.1.1.2.1, hk.1.2⟩⟩⟩⟩⟩)))⟩; have n6_ : Aside0 (Kd.R Kd.string 9 w35 w.heap.size (fun _ => True) (.slice Ao34 t128.length co34) t128) := ⟨(by rw [hw]; exact (by (with_reducible repeat (first | apply Kd.R_alloc | apply Kd.R_drewN | apply Kd.R_drew)); exact Kd.R_mono (Kd.R_far (p := ⟨gb132, 3, none⟩) (Kd.R_far (p := ⟨gb132, 2, none⟩) (Kd.R_far (p := ⟨gb132, 1, none⟩) (Kd.R_far (p := ⟨gb132, 0, none⟩) (Kd.R_types HO130.out BK132.out (by decide)) (fun _ hk => hk.2) (.slice Ao31 t121.length co31)) (fun _ hk => hk.2) (.slice Ao33 t124.length co33)) (fun _ hk => hk.2) (.int .i64 t127)) (fun _ hk => hk.2) (.slice Ao34 t128.length co34)) (fun _ hk => trivial)))⟩; have n7_ : Aside0 (w35.heap[gb132]? = some (.cells #[.slice Ao31 t121.length co31, .slice Ao33 t124.length co33, .int .i64 t127, .slice Ao34 t128.length co34] 28 (0, 0))) := ⟨(by rw [hw]; exact (by refine zk ?_; refine blk_put (cs := #[.slice Ao31 t121.length co31, .slice Ao33 t124.length co33, .int .i64 t127, .slice none 0 0]) ?_ 3 _ rfl; refine zk ?_; refine blk_put (cs := #[.slice Ao31 t121.length co31, .slice Ao33 t124.length co33, .int .i64 0, .slice none 0 0]) ?_ 2 _ rfl; refine zk ?_; refine blk_put (cs := #[.slice Ao31 t121.length co31, .slice none 0 0, .int .i64 0, .slice none 0 0]) ?_ 1 _ rfl; refine zk ?_; refine blk_put (cs := #[.slice none 0 0, .slice none 0 0, .int .i64 0, .slice none 0 0]) ?_ 0 _ rfl; refine zk ?_; exact BK132.out))⟩; have n8_ : Aside0 (Below w.heap.size w w35) := ⟨(by rw [hw]; exact zb)⟩; clear hw; clear HO109; clear HO112; clear HO115; clear HO120; clear HO123; clear HO126; clear HO130; clear BK132; clear HB; have HO109 := n0_; have HO112 := n1_; have HO115 := n2_; have HO120 := n3_; have HO123 := n4_; have HO126 := n5_; have HO130 := n6_; have BK132 := n7_; have HB := n8_; clear n0_ n1_ n2_ n3_ n4_ n5_ n6_ n7_ n8_; obtain ⟨Ao36, co36, eo36⟩ := Kd.V_slice HO115.out; subst eo36; have p133 : 0 ≤ (0 : Int) := (by omega); have q133 : 0 < (t113.length : Int) := zT zv; obtain ⟨ad133, e133, hx133_0, hx133_1⟩ := at_T54 (Kd.V_reads' HO115.out).2.2 0 p133 q133; cases e133; have qi133 : (0 < t113.length) = True := eq_true (by omega); (try rw [show ((0 : Int)).toNat = 0 from rfl] at hx133_0); (try rw [show 0 * 2 = 0 from rfl] at hx133_0); (try rw [Addr.add_zero'] at hx133_0); (try rw [show ((0 : Int)).toNat = 0 from rfl] at hx133_1); (try rw [show 0 * 2 = 0 from rfl] at hx133_1); (try rw [Addr.add_zero'] at hx133_1); replace p133 := eq_true p133; replace q133 := eq_true q133; have hcz37_0 : w35.cell? ⟨gb132, 0, none⟩ = some (.slice Ao31 t121.length co31) := (zX BK132.out 0).trans rfl; have hcz37_1 : w35.cell? ⟨gb132, 1, none⟩ = some (.slice Ao33 t124.length co33) := (zX BK132.out 1).trans rfl; have hcz37_2 : w35.cell? ⟨gb132, 2, none⟩ = some (.int .i64 t127) := (zX BK132.out 2).trans rfl; have hcz37_3 : w35.cell? ⟨gb132, 3, none⟩ = some (.slice Ao34 t128.length co34) := (zX BK132.out 3).trans rfl; have hfz37_0 := zY BK132.out 0; have hfz37_1 := zY BK132.out 1; have hfz37_2 := zY BK132.out 2; have hfz37_3 := zY BK132.out 3; have p134 : 0 ≤ (0 : Int) := (by omega); have q134 : 0 < (t121.length : Int) := zT zv; obtain ⟨ad134, A134_3, c134_3, e134, hx134_0, hx134_1, hx134_2, hx134_3, hl134_3, hi134_3⟩ := at_T70 (Kd.N_reads' HO123.out).2.2 0 p134 q134; cases e134; obtain ⟨ce134, hce134, hMe134, hcc134⟩ := Kd.N_get HO123.out z70 0 p134 (by first | exact q134 | exact zT zv | (have e_ := (Kd.N_reads' HO123.out).1; omega)); obtain ⟨ua134_3, uc134_3, rfl, ul134_3, ge134_3⟩ := k70_openF hMe134; have hv134_3 := hcc134 3 _ rfl; rw [add_field _ _ 3 (by omega)] at hv134_3; replace hv134_3 := zS (hv134_3.symm.trans hx134_3); injection hv134_3 with hva_ hvn_ hvc_; rw [hva_] at ge134_3; rw [hvc_] at ul134_3; have HL134_3 := zM (show Kd.V k54 54 _ w.heap.size _ _ ((rd_T70 t121 0).f2) from Kd.V_mk ul134_3 ge134_3); clear hva_ hvn_ hvc_ ge134_3 ul134_3; clear hcc134 hce134; have qi134 : (0 < t121.length) = True := eq_true (by omega); (try rw [show ((0 : Int)).toNat = 0 from rfl] at hx134_0); (try rw [show 0 * 4 = 0 from rfl] at hx134_0); (try rw [Addr.add_zero'] at hx134_0); (try rw [show ((0 : Int)).toNat = 0 from rfl] at hx134_1); (try rw [show 0 * 4 = 0 from rfl] at hx134_1); (try rw [Addr.add_zero'] at hx134_1); (try rw [show ((0 : Int)).toNat = 0 from rfl] at hx134_2); (try rw [show 0 * 4 = 0 from rfl] at hx134_2); (try rw [Addr.add_zero'] at hx134_2); (try rw [show ((0 : Int)).toNat = 0 from rfl] at hx134_3); (try rw [show 0 * 4 = 0 from rfl] at hx134_3); (try rw [Addr.add_zero'] at hx134_3); have HR134_3 := zM hi134_3; have HC134_3 := zM hl134_3; clear hi134_3 hl134_3; replace p134 := eq_true p134; replace q134 := eq_true q134; have p135 : 0 ≤ (2 : Int) := (by omega); have q135 : 2 < (t121.length : Int) := zT zv; obtain ⟨ad135, A135_3, c135_3, e135, hx135_0, hx135_1, hx135_2, hx135_3, hl135_3, hi135_3⟩ := at_T70 (Kd.N_reads' HO123.out).2.2 2 p135 q135; obtain rfl : ad134 = ad135 := (by injection e135); obtain ⟨ce135, hce135, hMe135, hcc135⟩ := Kd.N_get HO123.out z70 2 p135 (by first | exact q135 | exact zT zv | (have e_ := (Kd.N_reads' HO123.out).1; omega)); obtain ⟨ua135_3, uc135_3, rfl, ul135_3, ge135_3⟩ := k70_openF hMe135; have hv135_3 := hcc135 3 _ rfl; rw [add_field _ _ 3 (by omega)] at hv135_3; replace hv135_3 := zS (hv135_3.symm.trans hx135_3); injection hv135_3 with hva_ hvn_ hvc_; rw [hva_] at ge135_3; rw [hvc_] at ul135_3; have HL135_3 := zM (show Kd.V k54 54 _ w.heap.size _ _ ((rd_T70 t121 2).f2) from Kd.V_mk ul135_3 ge135_3); clear hva_ hvn_ hvc_ ge135_3 ul135_3; clear hcc135 hce135; (try simp only [show (2 : Int).toNat = 2 from rfl, Nat.reduceMul, Nat.reduceEqDiff, Go.Addr.add, ↓reduceIte] at hx135_0); (try simp only [show (2 : Int).toNat = 2 from rfl, Nat.reduceMul, Nat.reduceEqDiff, Go.Addr.add, ↓reduceIte] at hx135_1); (try simp only [show (2 : Int).toNat = 2 from rfl, Nat.reduceMul, Nat.reduceEqDiff, Go.Addr.add, ↓reduceIte] at hx135_2); (try simp only [show (2 : Int).toNat = 2 from rfl, Nat.reduceMul, Nat.reduceEqDiff, Go.Addr.add, ↓reduceIte] at hx135_3); have qi135 : (2 < t121.length) = True := eq_true (by omega); (try rw [show ((2 : Int)).toNat = 2 from rfl] at hx135_0); (try rw [show 2 * 4 = 8 from rfl] at hx135_0); (try rw [show ((2 : Int)).toNat = 2 from rfl] at hx135_1); (try rw [show 2 * 4 = 8 from rfl] at hx135_1); (try rw [show ((2 : Int)).toNat = 2 from rfl] at hx135_2); (try rw [show 2 * 4 = 8 from rfl] at hx135_2); (try rw [show ((2 : Int)).toNat = 2 from rfl] at hx135_3); (try rw [show 2 * 4 = 8 from rfl] at hx135_3); have HR135_3 := zM hi135_3; have HC135_3 := zM hl135_3; clear hi135_3 hl135_3; replace p135 := eq_true p135; replace q135 := eq_true q135))
           go_ret
           exact ⟨zw, zb⟩
          ·
           rw [if_neg c12] at H
           exact absurd H (by simp)
         ·
          rw [if_neg c11] at H
          have c11b0 : (((rd_T70 t121 0).f1.f0).toList == ([103] : List UInt8)) = false := zE c11
          have c11b1 : (((rd_T70 t121 0).f1.f0).toList != ([103] : List UInt8)) = true := zF c11
          exact absurd ((zS H).trans HRT.out) (by decide)
        ·
         rw [if_neg c10] at H
         exact absurd H (by simp)
       ·
        rw [if_neg c9] at H
        have c9b0 : ((t121.length : Int) == 3) = false := zE c9
        have c9b1 : ((t121.length : Int) != 3) = true := zF c9
        exact absurd ((zS H).trans HRT.out) (by decide)
      ·
       rw [if_neg c8] at H
       have c8b0 : (t131 == 0) = false := zE c8
       have c8b1 : (t131 != 0) = true := zF c8
       exact absurd ((zS H).trans HRT.out) (by decide)
     ·
      rw [if_neg c7] at H
      have c7b0 : (((rd_T54 t113 0).f0).toList == ([115] : List UInt8)) = false := zE c7
      have c7b1 : (((rd_T54 t113 0).f0).toList != ([115] : List UInt8)) = true := zF c7
      exact absurd ((zS H).trans HRT.out) (by decide)
    ·
     rw [if_neg c6] at H
     exact absurd H (by simp)
   ·
    rw [if_neg c5] at H
    have c5b0 : ((t113.length : Int) == 2) = false := zE c5
    have c5b1 : ((t113.length : Int) != 2) = true := zF c5
    exact absurd ((zS H).trans HRT.out) (by decide)
  ·
   rw [if_neg c4] at H
   have c4b0 : (t116 == 1) = false := zE c4
   have c4b1 : (t116 != 1) = true := zF c4
   exact absurd ((zS H).trans HRT.out) (by decide)
 ·
  rw [if_neg c3] at H
  have c3b0 : (t117 == 0) = false := zE c3
  have c3b1 : (t117 != 0) = true := zF c3
  exact absurd ((zS H).trans HRT.out) (by decide)

end Go.Proofs.Ytdlkhpfgkghhmaa.P

-- ==== Sb3
namespace Go.Proofs.Ytdlkhpfgkghhmaa.P
open Go.RowKit Go.Proofs.YtdlkhpfgkghhmaaW.PrintWords Go.Proofs.YtdlkhpfgkghhmaaW.PrintLast Go.Proofs.YtdlkhpfgkghhmaaW.PrintMore
abbrev R5 := List S70 × List (List S54) × Int × List ByteArray × Int
def goL : Nat → List S73 → Int → List S70 → List (List S54) → Int → List ByteArray → Option R5
 | 0, _, _, _, _, _, _ => none
 | k + 1, rules, fu, ops, vals, st, hd => if 0 < ops.length then (oneF k rules ops vals st hd fu).bind fun r => if r.2.2.2.2.2 = 0 then goL k rules r.2.2.2.2.1 r.1 r.2.1 r.2.2.1 r.2.2.2.1 else some (ops, vals, st, hd, r.2.2.2.2.2) else some (ops, vals, st, hd, 0)
theorem set4_off {W : World} {b : Nat} (b1 b2 b3 b4 : Value) : ∀ k, k ≠ b → ((((W.setCell ⟨b, 0, none⟩ b1).setCell ⟨b, 1, none⟩ b2).setCell ⟨b, 2, none⟩ b3).setCell ⟨b, 3, none⟩ b4).heap[k]? = W.heap[k]? := fun k hk =>
 (Below.heap_setCell _ _ _ k hk).trans ((Below.heap_setCell _ _ _ k hk).trans ((Below.heap_setCell _ _ _ k hk).trans (Below.heap_setCell _ _ _ k hk)))
theorem stF_put4 {W : World} {ok : Nat → Prop} {b : Nat} {v : Value} {ops : List S70} {vals : List (List S54)} {st : Int} {hd : List ByteArray} (h : StF W ok v ops vals st hd) (hb : ∀ k, ok k → k ≠ b) (b1 b2 b3 b4 : Value) : StF ((((W.setCell ⟨b, 0, none⟩ b1).setCell ⟨b, 1, none⟩ b2).setCell ⟨b, 2, none⟩ b3).setCell ⟨b, 3, none⟩ b4) ok v ops vals st hd :=
 stF_step h (fun k hk _ => set4_off _ _ _ _ k (hb k hk))

-- ==== Sb4
def cpL : List S70 → Option (List S70)
 | [] => some []
 | o :: u => (aumbryref04_Copy.f o.f2).bind fun t => (cpL u).bind fun v => some (⟨o.f0, ⟨o.f1.f0, o.f1.f1⟩, t⟩ :: v)
def copyF (k : Nat) (ops : List S70) (vals : List (List S54)) (st : Int) (hd : List ByteArray) : Option (List S70 × List (List S54) × Int × List ByteArray) :=
 if ops.length < 2513169434900 ∧ hd.length < 8796093022200 then (aumbryref04_CopyAll.f k vals).bind fun v => (cpL ops).bind fun o => some (o, v, st, hd) else none
theorem copy7_calls {k : Nat} {v : Value} {ops ops' : List S70} {vals vals' : List (List S54)} {st st' : Int} {hd hd' : List ByteArray} {w : World} (hS : StV w v ops vals st hd) (h : copyF k ops vals st hd = some (ops', vals', st', hd')) :
 Calls Try.prog 17 #[v] w fun e w' => ∃ v', e = .returned v' ∧ StF w' (fun k => w.heap.size ≤ k) v' ops' vals' st' hd' ∧ Below w.heap.size w w' := by
 obtain ⟨Ao, co, Av, cv, Ah, ch, rfl, hO, hco, hV, hcv, hH, hch⟩ := hS
 unfold copyF at h
 by_cases hg : ops.length < 2513169434900 ∧ hd.length < 8796093022200
 case neg => rw [if_neg hg] at h; cases h
 rw [if_pos hg] at h
 obtain ⟨vs, hA, h⟩ := Option.bind_eq_some_iff.mp h
 obtain ⟨os, hT, h⟩ := Option.bind_eq_some_iff.mp h
 simp only [Option.some.injEq, Prod.mk.injEq] at h
 obtain ⟨rfl, rfl, rfl, rfl⟩ := h
 have HO := Aside0.mk hO
 have HV := Aside0.mk hV
 have HH := Aside0.mk hH
 have HG := Aside0.mk hg
 have HT := Aside0.mk hT
 have hB := below_alloc (below_alloc (Below.refl w.heap.size w) (.cells #[.slice Ao ops.length co, .slice Av vals.length cv, .int .i64 st, .slice Ah hd.length ch] 28)) (.cells #[.slice none 0 0, .slice none 0 0, .int .i64 0, .slice none 0 0] 28)
 have HZ0 := Aside0.mk (show ((w.alloc (.cells #[.slice Ao ops.length co, .slice Av vals.length cv, .int .i64 st, .slice Ah hd.length ch] 28)).alloc (.cells #[.slice none 0 0, .slice none 0 0, .int .i64 0, .slice none 0 0] 28)).heap[w.heap.size]? = some (.cells #[.slice Ao ops.length co, .slice Av vals.length cv, .int .i64 st, .slice Ah hd.length ch] 28 (0, 0)) from ((below_alloc (Below.refl _ _) _).block _ (by simp)).trans (heap_alloc_new w _))
 have HZ1 := Aside0.mk (show ((w.alloc (.cells #[.slice Ao ops.length co, .slice Av vals.length cv, .int .i64 st, .slice Ah hd.length ch] 28)).alloc (.cells #[.slice none 0 0, .slice none 0 0, .int .i64 0, .slice none 0 0] 28)).heap[w.heap.size + 1]? = some (.cells #[.slice none 0 0, .slice none 0 0, .int .i64 0, .slice none 0 0] 28 (0, 0)) from by simpa using heap_alloc_new (w.alloc _) _)
 have HB := Aside0.mk hB
 have HSZ := Aside0.mk (show ((w.alloc (.cells #[.slice Ao ops.length co, .slice Av vals.length cv, .int .i64 st, .slice Ah hd.length ch] 28)).alloc (.cells #[.slice none 0 0, .slice none 0 0, .int .i64 0, .slice none 0 0] 28)).heap.size = w.heap.size + 2 from by simp)
 have C1 := fun (W : World) (hW : Below ((w.alloc (.cells #[.slice Ao ops.length co, .slice Av vals.length cv, .int .i64 st, .slice Ah hd.length ch] 28)).alloc (.cells #[.slice none 0 0, .slice none 0 0, .int .i64 0, .slice none 0 0] 28)).heap.size ((w.alloc (.cells #[.slice Ao ops.length co, .slice Av vals.length cv, .int .i64 st, .slice Ah hd.length ch] 28)).alloc (.cells #[.slice none 0 0, .slice none 0 0, .int .i64 0, .slice none 0 0] 28)) W) => aumbryref04_CopyAll.calls k Av cv vals vs W (Kd.C_below (Kd.C_below hV hB) hW) hcv hA
 clear hO hV hH hg hT hB hA hcv
 go_enter Try.func17, Try.ntmps17
 go_upto_region 1 with fail
 generalize ((w.alloc (.cells #[.slice Ao ops.length co, .slice Av vals.length cv, .int .i64 st, .slice Ah hd.length ch] 28)).alloc (.cells #[.slice none 0 0, .slice none 0 0, .int .i64 0, .slice none 0 0] 28)) = W0 at HZ0 HZ1 HB HSZ C1 ⊢
 have HX := Aside0.mk (Below.refl W0.heap.size W0)
 have x1 : W0.cell? ⟨w.heap.size, 1, none⟩ = some (.slice Av vals.length cv) := (blk_cell HZ0.out 1).trans rfl
 have x2 : W0.cell? ⟨w.heap.size, 2, none⟩ = some (.int .i64 st) := (blk_cell HZ0.out 2).trans rfl
 have hne : w.heap.size ≠ W0.heap.size := by have := HSZ.out; omega
 have hne2 : W0.heap.size ≠ w.heap.size := by have := HSZ.out; omega
 go_region_held3 (fun w' => w'.cell? ⟨w.heap.size, 1, none⟩ = some (.slice Av vals.length cv) ∧ w'.cell? ⟨w.heap.size, 2, none⟩ = some (.int .i64 st)) (first | go_keep | (go_split_ands; refine ⟨?_, ?_⟩ <;> assumption)) (first | (go_at_call 44; (with_reducible refine (C1 _ ?side1).mono ?_); (case side1 => exact (zq HX.out)); rintro e w5 ⟨v5, rfl, hS, hb⟩; obtain ⟨A5, c5, rfl⟩ := Kd.S_slice hS; have hsz_ := below_sz (zq HX.out) hb; have hne3 : w.heap.size ≠ w5.heap.size := (by have h2_ := hb.size; have h3_ := HSZ.out; omega); have hne4 : w5.heap.size ≠ w.heap.size := fun e => hne3 e.symm; have n0_ := Aside0.mk (below_step (zq HX.out) hb); have hf_ := Kd.N_F (Kd.S_N (Kd.S_bound hS)); have HC5 := Aside0.mk (Kd.N_reads' (Kd.S_N hS)).2.1; (first | (have hz_ := (hb.block W0.heap.size (by simp)).trans (heap_alloc_new W0.drew _); have HZQ := Aside0.mk hz_; have HF5 := Aside0.mk (Kd.F_mono hf_ (fun k hk => show W0.heap.size ≤ k ∧ k ≠ W0.heap.size from by have h_ := hk.2.1; simp at h_; omega)); obtain ⟨z0, z1, z2, z3, y0, y1, y2, y3⟩ := zcf hz_; clear hz_) | (have HF5 := Aside0.mk (Kd.F_mono hf_ (fun k hk => show W0.heap.size ≤ k ∧ k ≠ w5.heap.size from ⟨Nat.le_trans hsz_ hk.2.1, by have := hk.2.2; omega⟩)))); clear HX hb hS hf_ hsz_; have HX := n0_; clear n0_; have q1 := (blk_cell (blk_below HZ0.out HX.out) 1).trans rfl; have q2 := (blk_cell (blk_below HZ0.out HX.out) 2).trans rfl))
 all_goals first
  | (have HY := Aside0.mk (set4_blk HZQ.out (.slice none 0 0) (.slice A5 vs.length c5) (.int .i64 st) (.slice none 0 0)); have HX1 := Aside0.mk (set4_below HX.out (Nat.le_refl _) (.slice none 0 0) (.slice A5 vs.length c5) (.int .i64 st) (.slice none 0 0)); have HF1 := Aside0.mk (Kd.F_step HF5.out (fun k hk _ => set4_off (.slice none 0 0) (.slice A5 vs.length c5) (.int .i64 st) (.slice none 0 0) k hk.2)); clear HF5 HX HZQ q1 q2 z0 z1 z2 z3 y0 y1 y2 y3; generalize ((((w5.setCell ⟨W0.heap.size, 0, none⟩ (.slice none 0 0)).setCell ⟨W0.heap.size, 1, none⟩ (.slice A5 vs.length c5)).setCell ⟨W0.heap.size, 2, none⟩ (.int .i64 st)).setCell ⟨W0.heap.size, 3, none⟩ (.slice none 0 0)) = W1 at HY HX1 HF1 ⊢; obtain ⟨b2, hb2⟩ : ∃ b, b = W0.heap.size := ⟨_, rfl⟩; have HE := Aside0.mk (show W0.heap.size ≤ b2 from Nat.le_of_eq hb2.symm); replace HF1 := Aside0.mk (Kd.F_mono (ok' := fun k => W0.heap.size ≤ k ∧ k ≠ b2) HF1.out (fun k hk => by rw [hb2]; exact hk)); rw [← hb2] at HY ⊢; clear hb2)
  | (have HY := Aside0.mk (heap_alloc_new w5 (.cells #[.slice none 0 0, .slice A5 vs.length c5, .int .i64 st, .slice none 0 0] 28)); have HX1 := Aside0.mk (below_alloc HX.out (.cells #[.slice none 0 0, .slice A5 vs.length c5, .int .i64 st, .slice none 0 0] 28)); have HF1 := Aside0.mk (Kd.F_below HF5.out (below_alloc (Below.refl _ _) (.cells #[.slice none 0 0, .slice A5 vs.length c5, .int .i64 st, .slice none 0 0] 28))); obtain ⟨b2, hb2⟩ : ∃ b, b = w5.heap.size := ⟨_, rfl⟩; have HE := Aside0.mk (show W0.heap.size ≤ b2 from by rw [hb2]; exact HX.out.size); replace HF1 := Aside0.mk (Kd.F_mono (ok' := fun k => W0.heap.size ≤ k ∧ k ≠ b2) HF1.out (fun k hk => by rw [hb2]; exact hk)); clear HF5 HX q1 q2; generalize (w5.alloc (.cells #[.slice none 0 0, .slice A5 vs.length c5, .int .i64 st, .slice none 0 0] 28)) = W1 at HY HX1 HF1 ⊢; rw [← hb2] at HY ⊢; clear hb2)
 all_goals
  clear hne hne2 hne3 hne4 x1 x2
  have HXB := Aside0.mk (below_step HB.out HX1.out)
  have HY0 := Aside0.mk (blk_below HZ0.out HX1.out)
  have HY1 := Aside0.mk (blk_below HZ1.out HX1.out)
  have HLT := Aside0.mk (show b2 < W1.heap.size from blk_lt HY.out)
  have t0 := (blk_cell HY0.out 0).trans rfl
  have HF2 := Aside0.mk (Kd.F_mono (Kd.F_bound HF1.out) (fun k hk => show (w.heap.size + 2 ≤ k ∧ k < W1.heap.size) ∧ k ≠ b2 from ⟨⟨by have := HSZ.out; have := hk.1.1; omega, hk.2⟩, hk.1.2⟩))
  have HE2 := Aside0.mk (show w.heap.size + 2 ≤ b2 from by have := HSZ.out; have := HE.out; omega)
  clear HZ0 HZ1 HB HX1 HF1 HE HSZ C1 HV
  go_wp2
  go_loopg [15] ops.length (fun kq v15 w' => ∃ (x : Int) (A : Option Addr) (c : Nat) (out : List S70), v15 = .int .i64 x ∧ Aside0 (0 ≤ x ∧ x + kq = (ops.length : Int) ∧ out.length + kq = ops.length) ∧ Aside0 (∃ rest, cpL (ops.drop x.toNat) = some rest ∧ out ++ rest = os) ∧ Aside0 (w'.heap[b2]? = some (.cells #[.slice A out.length c, .slice A5 vs.length c5, .int .i64 st, .slice none 0 0] 28 (0, 0))) ∧ Aside0 (Kd.N k70 70 w' W1.heap.size (fun k => W1.heap.size ≤ k) (.slice A out.length c) out) ∧ Aside0 (Kd.F (Kd.slice 54 k54) w' (fun k => (w.heap.size + 2 ≤ k ∧ k < W1.heap.size) ∧ k ≠ b2) A5 vs.length vs) ∧ Aside0 (w'.heap[w.heap.size]? = some (.cells #[.slice Ao ops.length co, .slice Av vals.length cv, .int .i64 st, .slice Ah hd.length ch] 28 (0, 0))) ∧ Aside0 (w'.heap[w.heap.size + 1]? = some (.cells #[.slice none 0 0, .slice none 0 0, .int .i64 0, .slice none 0 0] 28 (0, 0))) ∧ Aside0 (Below w.heap.size w w') ∧ Aside0 (Below 0 W1 w'))
  case atStart => exact ⟨0, none, 0, [], rfl, ⟨by simp⟩, ⟨os, by simpa using HT.out, rfl⟩, HY, ⟨Kd.N_nil _ _ _ _ _⟩, HF2, HY0, HY1, HXB, ⟨Below.refl _ _⟩⟩
  case round =>
   clear HY HF2 HY0 HY1 HXB t0 HT
   obtain ⟨x, A, c, out, rfl, HI, HD, HY, HN, HF, HY0, HY1, HB, HS⟩ := hrel
   have hi := HI.out
   obtain ⟨rest, hr1, hr2⟩ := HD.out
   cases gk with
   | succ k1 =>
    have hx : 0 ≤ x ∧ x < (ops.length : Int) := by omega
    have hdr : ops.drop x.toNat = rd_T70 ops x :: ops.drop (x.toNat + 1) := by
     rw [List.drop_eq_getElem_cons (show x.toNat < ops.length by omega)]
     congr 1
     simp [rd_T70, List.getD_eq_getElem?_getD, show x.toNat < ops.length by omega]
    rw [hdr, cpL] at hr1
    obtain ⟨t, ht, hr1⟩ := Option.bind_eq_some_iff.mp hr1
    obtain ⟨rest2, hr3, hr1⟩ := Option.bind_eq_some_iff.mp hr1
    obtain rfl := Option.some.inj hr1
    obtain ⟨ad, A3, c3, eA, a0, a1, a2, a3, al, ag⟩ := at_T70 (Kd.C_below HO.out HB.out) x hx.1 hx.2
    subst eA
    have t0 := (blk_cell HY0.out 0).trans rfl
    have p1 : (0 ≤ x) = True := eq_true hx.1
    have p2 : (x < (ops.length : Int)) = True := eq_true hx.2
    have p3 : decide (x < (ops.length : Int)) = true := decide_eq_true hx.2
    have HD2 := Aside0.mk (And.intro hr3 hr2)
    generalize rd_T70 ops x = o at a0 a1 a2 a3 al ag ht HD2
    have HAG := Aside0.mk ag
    have HAL := Aside0.mk al
    have HTT := Aside0.mk ht
    clear hdr hr3 hr2 al ag ht hi hx HD
    go_upto_region 6 with fail
    have HZ5 := Aside0.mk (heap_alloc_new wr (.cells #[.int .i64 o.f0, .string o.f1.f0, .int .i64 o.f1.f1, .slice A3 o.f2.length c3] 70))
    have HX5 := Aside0.mk (below_alloc (Below.refl wr.heap.size wr) (.cells #[.int .i64 o.f0, .string o.f1.f0, .int .i64 o.f1.f1, .slice A3 o.f2.length c3] 70))
    clear t0 a0 a1 a2 a3 p1 p2 p3
    generalize (wr.alloc (.cells #[.int .i64 o.f0, .string o.f1.f0, .int .i64 o.f1.f1, .slice A3 o.f2.length c3] 70)) = w5 at HZ5 HX5 ⊢
    have C2 := aumbryref04_Copy.calls A3 c3 o.f2 t w5 (Kd.C_below HAG.out HX5.out) HAL.out HTT.out
    have z3 := (blk_cell HZ5.out 3).trans rfl
    go_upto_region 7 with (first | (go_at_call 13; (with_reducible refine C2.mono ?_); rintro e w6 ⟨v6, rfl, hS6, hb6⟩; obtain ⟨A6, c6, rfl⟩ := Kd.R_slice hS6; have hz_ := blk_below HZ5.out hb6; have HZ6 := Aside0.mk hz_; have z3 := (blk_cell hz_ 3).trans rfl; have y3 := blk_frozen hz_ 3; have HF6 := Aside0.mk (show Kd.F k54 w6 (fun k => w5.heap.size ≤ k) A6 t.length t from Kd.R_F (Kd.R_mono (Kd.R_bound hS6) (fun k hk => hk.2.1))); have HC6 := Aside0.mk (Kd.R_reads' hS6).2.1; have HX6 := Aside0.mk (below_step HX5.out hb6); have HSZ5 := Aside0.mk (show wr.heap.size < w5.heap.size from blk_lt HZ5.out); clear hS6 hb6 hz_))
    have HZ7 := Aside0.mk (blk_put (cs := #[.int .i64 o.f0, .string o.f1.f0, .int .i64 o.f1.f1, .slice A3 o.f2.length c3]) HZ6.out 3 (.slice A6 t.length c6) rfl)
    have HX7 := Aside0.mk (HX6.out.setCell (p := ⟨wr.heap.size, 3, none⟩) (Nat.le_refl _) (.slice A6 t.length c6))
    have HF7 := Aside0.mk (Kd.F_step HF6.out (fun k hk _ => Below.heap_setCell w6 ⟨wr.heap.size, 3, none⟩ (.slice A6 t.length c6) k (by have := HSZ5.out; exact (by omega : k ≠ wr.heap.size))))
    clear HZ6 HX6 HF6 HZ5 HX5 z3 y3 C2 HAG HAL HTT
    generalize w6.setCell ⟨wr.heap.size, 3, none⟩ (.slice A6 t.length c6) = W7 at HZ7 HX7 HF7 ⊢
    have hz7 : W7.heap[wr.heap.size]? = some (.cells #[.int .i64 o.f0, .string o.f1.f0, .int .i64 o.f1.f1, .slice A6 t.length c6] 70 (0, 0)) := HZ7.out
    obtain ⟨u0, u1, u2, u3⟩ := zc4 hz7
    have t0 := (blk_cell (blk_below HY.out HX7.out) 0).trans rfl
    have HN7 := Aside0.mk (Kd.N_below HN.out HX7.out)
    have HSS := Aside0.mk (show W1.heap.size ≤ wr.heap.size from HS.out.size)
    obtain ⟨out2, hout2⟩ : ∃ l, l = out ++ [(⟨o.f0, ⟨o.f1.f0, o.f1.f1⟩, t⟩ : S70)] := ⟨_, rfl⟩
    have HOO := Aside0.mk hout2
    clear hz7 hout2
    go_upto_region 8 with (first | (at_builtin; (with_reducible refine gate_builtin (b := .append) (xs := #[.tmp 28, .tmp 30]) rfl ?_); refine Kd.N_append k70 (w0 := wr) W1.heap.size rfl (.tmp 28) (.tmp 30) 24 70 (.agg #[.int .i64 0, .string ⟨#[]⟩, .int .i64 0, .slice none 0 0]) 56 rfl Try.underlying24 info70 rfl (by decide) (by decide) (.slice A out.length c) out (⟨o.f0, ⟨o.f1.f0, o.f1.f1⟩, t⟩ : S70) [.int .i64 o.f0, .string o.f1.f0, .int .i64 o.f1.f1, .slice A6 t.length c6] (fun k => W1.heap.size ≤ k) (fun k => W1.heap.size ≤ k ∧ some k ≠ (Value.slice A out.length c).ownBlock) rfl rfl ?aP (fun k hk => hk) ?aF ?aO ?aB ?aS ?aL ?_; (case aP => exact (k70_mkF _ _ (⟨o.f0, ⟨o.f1.f0, o.f1.f1⟩, t⟩ : S70) HC6.out (Kd.F_mono (by repeat (first | exact HF7.out | apply Kd.F_drewN | apply Kd.F_drew | apply Kd.F_alloc)) (fun k hk => ⟨by have := HSZ5.out; have := HSS.out; omega, fun he => by have h1_ := Kd.N_lt HN.out _ he.symm; have := HSZ5.out; omega⟩)))); (case aF => exact (fun k hk => Nat.le_trans HSS.out (Nat.le_trans (show wr.heap.size ≤ _ from Below.size (zq HX7.out)) hk))); (case aO => exact (Kd.N_below HN7.out zg)); (case aB => exact (below_less (zq HX7.out) HSS.out)); (case aS => exact (Nat.le_trans HSS.out (show wr.heap.size ≤ _ from Below.size (zq HX7.out)))); (case aL => have := HI.out; have := HG.out; omega); intro v8 w8 ho hb hgr hat; rw [← HOO.out] at ho; obtain ⟨A8, c8, rfl⟩ := Kd.N_slice ho; have HN8 := Aside0.mk ho; have HB8 := Aside0.mk hb; have hz_ := (hb.block b2 HLT.out).trans HY.out; have HZ8 := Aside0.mk hz_; have s0 := (blk_cell hz_ 0).trans rfl; have f0 := blk_frozen hz_ 0; clear ho hb hgr hat hz_))
    go_wp2
    go_roundg k1
    case measure => omega
    case rel =>
     have h1 := HI.out
     have h2 := HG.out
     have h3 := HE2.out
     have h4 := HLT.out
     have hb := HB8.out
     refine ⟨x + 1, A8, c8, out2, by rw [show wrap64 (x + 1) = x + 1 by unfold wrap64; omega], ⟨by rw [HOO.out, List.length_append, List.length_singleton]; omega⟩, ⟨rest2, by rw [show (x + 1).toNat = x.toNat + 1 by omega]; exact HD2.out.1, by rw [HOO.out, List.append_assoc]; exact HD2.out.2⟩, ⟨blk_put (cs := #[.slice A out.length c, .slice A5 vs.length c5, .int .i64 st, .slice none 0 0]) HZ8.out 0 _ rfl⟩, ⟨Kd.N_step HN8.out (fun k hk _ => Below.heap_setCell _ _ _ k (show k ≠ b2 by omega))⟩, ⟨Kd.F_step (Kd.F_step HF.out (fun k hk _ => hb.block k hk.1.2)) (fun k hk _ => Below.heap_setCell _ _ _ k hk.2)⟩, ⟨(Below.heap_setCell _ _ _ _ (show w.heap.size ≠ b2 by omega)).trans ((hb.block _ (by omega)).trans HY0.out)⟩, ⟨(Below.heap_setCell _ _ _ _ (show w.heap.size + 1 ≠ b2 by omega)).trans ((hb.block _ (by omega)).trans HY1.out)⟩, ⟨(below_trB HB.out (below_less hb (by omega))).setCell (p := ⟨b2, 0, none⟩) (by show w.heap.size ≤ b2; omega) _⟩, ⟨(below_trB HS.out (below_less hb (Nat.zero_le _))).setCell (p := ⟨b2, 0, none⟩) (Nat.zero_le _) _⟩⟩
   | zero =>
    have hx : x = (ops.length : Int) := by omega
    subst hx
    have p3 : decide ((ops.length : Int) < (ops.length : Int)) = false := decide_eq_false (by omega)
    rw [Int.toNat_natCast, List.drop_length, cpL] at hr1
    obtain rfl := Option.some.inj hr1
    rw [List.append_nil] at hr2
    subst hr2
    have s3 := (blk_cell HY.out 3).trans rfl
    have t3 := (blk_cell HY0.out 3).trans rfl
    have HSS := Aside0.mk (show W1.heap.size ≤ wr.heap.size from HS.out.size)
    have HH2 := Aside0.mk (Kd.C_below HH.out HB.out)
    clear hi hco HD
    go_wp2_with (first | (at_builtin; (with_reducible refine gate_builtin (b := .append) (xs := #[.tmp 35, .tmp 37]) rfl ?_); refine Kd.R_append_rows Kd.string (w0 := wr) wr.heap.size rfl (.tmp 35) (.tmp 37) 26 9 (.string ⟨#[]⟩) 16 rfl Try.underlying26 info9 rfl (by decide) (by omega) (.slice none 0 0) ([] : List ByteArray) hd _ _ _ (fun _ => True) (fun _ => False) rfl rfl (Kd.R_nil _ _ _ _ (fun _ => True)) ?aR (fun _ _ h => h) (fun _ h => h.elim) (fun _ _ => trivial) ?aB ?aS ?aL ?_; (case aR => repeat (first | exact HH2.out | (with_reducible refine Kd.C_alloc ?_ _) | (with_reducible refine Kd.C_drewN ?_ _) | (with_reducible refine Kd.C_drew ?_))); (case aB => exact (zq (Below.refl wr.heap.size wr))); (case aS => exact (show Below wr.heap.size wr _ from (zq (Below.refl wr.heap.size wr))).size); (case aL => have := HG.out; simp; omega); intro v9 w9 ho hb hg hat; rw [List.nil_append] at ho; obtain ⟨A9, c9, rfl⟩ := Kd.R_slice ho; have HR9 := Aside0.mk ho; have HB9 := Aside0.mk hb; have hz_ := blk_below HY.out hb; have HZ9 := Aside0.mk hz_; have s3 := (blk_cell hz_ 3).trans rfl; have g3 := blk_frozen hz_ 3; have s0 := (blk_cell hz_ 0).trans rfl; have s1 := (blk_cell hz_ 1).trans rfl; have s2 := (blk_cell hz_ 2).trans rfl; have hy_ := blk_below HY1.out hb; have HY9 := Aside0.mk hy_; obtain ⟨r0, r1, r2, r3, f0, f1, f2, f3⟩ := zcf hy_; have hne : b2 ≠ w.heap.size + 1 := (by have := HE2.out; omega); have hne2 : w.heap.size + 1 ≠ b2 := (by have := HE2.out; omega); clear ho hb hg hat hz_ hy_))
    have h9 := HB9.out
    have h3 := HE2.out
    have h4 := HLT.out
    have h5 := HSS.out
    have HX := Aside0.mk (show StF (w9.setCell ⟨b2, 3, none⟩ (.slice A9 hd.length c9)) (fun k => w.heap.size + 2 ≤ k) (.agg #[.slice A out.length c, .slice A5 vs.length c5, .int .i64 st, .slice A9 hd.length c9]) out vs st hd from ⟨_, _, _, _, _, _, rfl,
     Kd.F_mono (Kd.N_F (Kd.N_step (Kd.N_below HN.out h9) (fun k hk _ => Below.heap_setCell _ _ _ k (show k ≠ b2 by omega)))) (fun k hk => by omega), (Kd.N_reads' HN.out).2.1,
     Kd.F_mono (Kd.F_step (Kd.F_below HF.out h9) (fun k hk _ => Below.heap_setCell _ _ _ k hk.2)) (fun k hk => hk.1.1), HC5.out,
     Kd.F_mono (Kd.F_step (Kd.R_F (Kd.R_mono (Kd.R_bound HR9.out) (ok' := fun k => wr.heap.size ≤ k) (fun k hk => hk.2.1))) (fun k hk _ => Below.heap_setCell _ _ _ k (show k ≠ b2 by omega))) (fun k hk => by omega), (Kd.R_reads' HR9.out).2.1⟩)
    have HYX := Aside0.mk ((Below.heap_setCell w9 ⟨b2, 3, none⟩ (.slice A9 hd.length c9) (w.heap.size + 1) hne2).trans HY9.out)
    have HBX := Aside0.mk ((below_step HB.out h9).setCell (p := ⟨b2, 3, none⟩) (by show w.heap.size ≤ b2; omega) (.slice A9 hd.length c9))
    refine bodyPost_ret (results_cell_row rfl _ _ (w.heap.size + 1) 28 _ (0, 0) _ rfl (set4_blk HYX.out _ _ _ _) Try.underlying28 rfl (by kernel_rfl)) rfl ?_
    exact ⟨_, rfl, stF_mono (stF_put4 HX.out (fun k hk => by omega) _ _ _ _) (fun k hk _ => by omega), set4_below HBX.out (Nat.le_succ _) _ _ _ _⟩

-- ==== Sb6
instance : DecidableEq S54 := fun x y => decidable_of_iff (x.f0 = y.f0 ∧ x.f1 = y.f1) ⟨fun h => by cases x; cases y; simp_all, fun h => by rw [h]; exact ⟨rfl, rfl⟩⟩
instance : DecidableEq S70 := fun x y => decidable_of_iff (x.f0 = y.f0 ∧ x.f1 = y.f1 ∧ x.f2 = y.f2) ⟨fun h => by cases x; cases y; simp_all, fun h => by rw [h]; exact ⟨rfl, rfl, rfl⟩⟩
def selfF (k : Nat) (x : R5) : Bool :=
 decide (aumbryref03_Same.f k x.2.2.2.1 x.2.2.2.1 = some true) && decide (aumbryref04_SameAll.f k x.2.1 x.2.1 = some true) && x.1.all fun o => decide (aumbryref04_Same.f k o.f2 o.f2 = some true)
theorem selfF_same {k : Nat} {x : R5} {w : World} {v u : Value} (hs : selfF k x = true) (h1 : StV w v x.1 x.2.1 x.2.2.1 x.2.2.2.1) (h2 : StV w u x.1 x.2.1 x.2.2.1 x.2.2.2.1) :
 Calls Try.prog 15 #[v, u] w fun e w' => e = .returned (.bool true) ∧ Below w.heap.size w w' := by
 unfold selfF at hs
 simp only [Bool.and_eq_true, decide_eq_true_eq, List.all_eq_true] at hs
 obtain ⟨Ao, co, Av, cv, Ah, ch, rfl, a0, a1, a2, a3, a4, a5⟩ := h1
 obtain ⟨Bo, eo, Bv, ew, Bh, eh, rfl, b0, b1, b2, b3, b4, b5⟩ := h2
 refine same7_calls a0 a2 a3 a4 a5 b0 b2 b3 b4 b5 hs.1.1 hs.1.2 (fun i hi => hs.2 _ ?_)
 simp [rd_T70, List.getD_eq_getElem?_getD, hi]

-- ==== Se0
def WrG (W : World) (S : Nat → Prop) (T st off G : Nat) (lens : List Nat) : Prop :=
 ¬ S G ∧ ∃ cs, W.heap[G]? = some (.cells cs T (0, 0)) ∧ ∀ (i n : Nat), lens[i]? = some n → (∃ v, cs[i * st]? = some v) ∧ ∃ (B : Option Addr) (c : Nat), cs[i * st + off]? = some (Value.slice B n c) ∧ (n ≤ c ∧ n ≤ 9223372036854775807) ∧ (0 < n → ∃ g, B = some ⟨g, 0, none⟩ ∧ S g ∧ WrRow W g n)
theorem WrRow.off {W : World} {g n : Nat} (h : WrRow W g n) {b : Nat} (hb : b ≠ g) (o : Nat) (v : Value) : WrRow (W.setCell ⟨b, o, none⟩ v) g n := by
 obtain ⟨cs, h1, h2⟩ := h
 exact ⟨cs, blk_far h1 (p := ⟨b, o, none⟩) (fun he => hb he.symm) _, h2⟩
theorem WrG.set {W : World} {S : Nat → Prop} {T st off G : Nat} {lens : List Nat} (h : WrG W S T st off G lens) {g' : Nat} (hg : S g') (o : Nat) (x : ByteArray) : WrG (W.setCell ⟨g', o, none⟩ (.string x)) S T st off G lens := by
 obtain ⟨h0, cs, h1, h2⟩ := h
 refine ⟨h0, cs, blk_far h1 (p := ⟨g', o, none⟩) (fun he => h0 (by rw [he]; exact hg)) _, fun i n hi => ?_⟩
 obtain ⟨a0, B, c, a1, a2, a3⟩ := h2 i n hi
 refine ⟨a0, B, c, a1, a2, fun hn => ?_⟩
 obtain ⟨g, b1, b2, b3⟩ := a3 hn
 exact ⟨g, b1, b2, b3.set g' o x⟩
theorem WrG.off {W : World} {S : Nat → Prop} {T st off G : Nat} {lens : List Nat} (h : WrG W S T st off G lens) {b : Nat} (hb : ¬ S b) (hG : b ≠ G) (o : Nat) (v : Value) : WrG (W.setCell ⟨b, o, none⟩ v) S T st off G lens := by
 obtain ⟨h0, cs, h1, h2⟩ := h
 refine ⟨h0, cs, blk_far h1 (p := ⟨b, o, none⟩) (fun he => hG he.symm) _, fun i n hi => ?_⟩
 obtain ⟨a0, B, c, a1, a2, a3⟩ := h2 i n hi
 refine ⟨a0, B, c, a1, a2, fun hn => ?_⟩
 obtain ⟨g, b1, b2, b3⟩ := a3 hn
 exact ⟨g, b1, b2, b3.off (fun he => hb (by rw [he]; exact b2)) o v⟩
theorem WrG.own {W : World} {S : Nat → Prop} {T st off G : Nat} {lens : List Nat} (h : WrG W S T st off G lens) (hf : 0 < off ∧ off < st) (j : Nat) (v : Value) : WrG (W.setCell ⟨G, j * st, none⟩ v) S T st off G lens := by
 obtain ⟨h0, cs, h1, h2⟩ := h
 refine ⟨h0, _, blk_set h1 (j * st) v, fun i n hi => ?_⟩
 obtain ⟨⟨v0, a0⟩, B, c, a1, a2, a3⟩ := h2 i n hi
 have hne : j * st ≠ i * st + off := fun he => by
  have h1 : (j * st) % st = 0 := Nat.mul_mod_left j st
  have h2 : (i * st + off) % st = off := by rw [Nat.add_comm, Nat.add_mul_mod_self_right, Nat.mod_eq_of_lt hf.2]
  rw [he, h2] at h1
  omega
 refine ⟨?_, B, c, by rw [Array.getElem?_setIfInBounds, if_neg hne]; exact a1, a2, fun hn => ?_⟩
 ·
  rw [Array.getElem?_setIfInBounds]
  by_cases e : j * st = i * st
  ·
   have := (Array.getElem?_eq_some_iff.1 a0).1
   exact ⟨v, by rw [if_pos e, if_pos (by omega)]⟩
  ·
   exact ⟨v0, by rw [if_neg e]; exact a0⟩
 ·
  obtain ⟨g, b1, b2, b3⟩ := a3 hn
  exact ⟨g, b1, b2, b3.off (fun he => h0 (by rw [he]; exact b2)) _ _⟩
theorem WrG.at_ {W : World} {S : Nat → Prop} {T st off G : Nat} {lens : List Nat} (h : WrG W S T st off G lens) {i : Nat} (hi : i < lens.length) : ∃ B c, W.cell? ⟨G, i * st + off, none⟩ = some (.slice B (lens.getD i 0) c) ∧ (lens.getD i 0 ≤ c ∧ lens.getD i 0 ≤ 9223372036854775807) ∧ (0 < lens.getD i 0 → ∃ g, B = some ⟨g, 0, none⟩ ∧ S g ∧ WrRow W g (lens.getD i 0)) := by
 obtain ⟨h0, cs, h1, h2⟩ := h
 have he : lens[i]? = some (lens.getD i 0) := by rw [List.getD_eq_getElem?_getD, List.getElem?_eq_getElem hi]; rfl
 obtain ⟨_, B, c, a1, a2, a3⟩ := h2 i _ he
 exact ⟨B, c, (blk_cell h1 _).trans a1, a2, a3⟩
theorem WrG.head {W : World} {S : Nat → Prop} {T st off G : Nat} {lens : List Nat} (h : WrG W S T st off G lens) {i : Nat} (hi : i < lens.length) : (∃ v, W.cell? ⟨G, i * st, none⟩ = some v) ∧ W.frozen? ⟨G, i * st, none⟩ = false := by
 obtain ⟨h0, cs, h1, h2⟩ := h
 have he : lens[i]? = some (lens.getD i 0) := by rw [List.getD_eq_getElem?_getD, List.getElem?_eq_getElem hi]; rfl
 obtain ⟨⟨v, a0⟩, _⟩ := h2 i _ he
 exact ⟨⟨v, (blk_cell h1 _).trans a0⟩, blk_frozen h1 _⟩
def OwnG (W : World) (S : Nat → Prop) (base T st off : Nat) (A : Option Addr) (lens : List Nat) : Prop := lens.length = 0 ∨ ∃ G, A = some ⟨G, 0, none⟩ ∧ base ≤ G ∧ WrG W S T st off G lens
theorem OwnG.set {W : World} {S : Nat → Prop} {base T st off : Nat} {A : Option Addr} {lens : List Nat} (h : OwnG W S base T st off A lens) {g' : Nat} (hg : S g') (o : Nat) (x : ByteArray) : OwnG (W.setCell ⟨g', o, none⟩ (.string x)) S base T st off A lens := by
 rcases h with h | ⟨G, h1, h2, h3⟩
 ·
  exact .inl h
 ·
  exact .inr ⟨G, h1, h2, h3.set hg o x⟩
def WrS (W : World) (G n : Nat) : Prop := ∃ cs, W.heap[G]? = some (.cells cs 9 (0, 0)) ∧ ∀ j, j < n → ∃ s, cs[j]? = some (.string s)
theorem WrS.off {W : World} {G n : Nat} (h : WrS W G n) {b : Nat} (hb : b ≠ G) (o : Nat) (v : Value) : WrS (W.setCell ⟨b, o, none⟩ v) G n := by
 obtain ⟨cs, h1, h2⟩ := h
 exact ⟨cs, blk_far h1 (p := ⟨b, o, none⟩) (fun he => hb he.symm) _, h2⟩
theorem WrS.set {W : World} {G n : Nat} (h : WrS W G n) (o : Nat) (x : ByteArray) : WrS (W.setCell ⟨G, o, none⟩ (.string x)) G n := by
 obtain ⟨cs, h1, h2⟩ := h
 refine ⟨_, blk_set h1 o _, fun j hj => ?_⟩
 obtain ⟨s, hs⟩ := h2 j hj
 rw [Array.getElem?_setIfInBounds]
 by_cases e : o = j
 ·
  have := (Array.getElem?_eq_some_iff.1 hs).1
  exact ⟨x, by rw [if_pos e, if_pos (by omega)]⟩
 ·
  exact ⟨s, by rw [if_neg e]; exact hs⟩
theorem WrS.cell {W : World} {G n : Nat} (h : WrS W G n) {j : Nat} (hj : j < n) : ∃ s, W.cell? ⟨G, j, none⟩ = some (.string s) ∧ W.frozen? ⟨G, j, none⟩ = false := by
 obtain ⟨cs, h1, h2⟩ := h
 obtain ⟨s, hs⟩ := h2 j hj
 exact ⟨s, (blk_cell h1 _).trans hs, blk_frozen h1 _⟩
def OwnS (W : World) (S : Nat → Prop) (base : Nat) (A : Option Addr) (n : Nat) : Prop := n = 0 ∨ ∃ G, A = some ⟨G, 0, none⟩ ∧ base ≤ G ∧ ¬ S G ∧ WrS W G n
theorem OwnS.set {W : World} {S : Nat → Prop} {base n : Nat} {A : Option Addr} (h : OwnS W S base A n) {g' : Nat} (hg : S g') (o : Nat) (x : ByteArray) : OwnS (W.setCell ⟨g', o, none⟩ (.string x)) S base A n := by
 rcases h with h | ⟨G, h1, h2, h3, h4⟩
 ·
  exact .inl h
 ·
  exact .inr ⟨G, h1, h2, h3, h4.off (fun he => h3 (by rw [← he]; exact hg)) _ _⟩
def S54of (w : World) (base : Nat) (k : Nat) : Prop := base ≤ k ∧ ∃ cells, w.heap[k]? = some (.cells cells 54 (0, 0))
theorem s54_not {w : World} {base G T : Nat} {cells : Array Value} (h : w.heap[G]? = some (.cells cells T (0, 0))) (hT : T ≠ 54) : ¬ S54of w base G := fun hs => by
 obtain ⟨_, c2, hc⟩ := hs
 rw [h] at hc
 injection hc with hc
 injection hc with _ hc
 exact hT hc
theorem wr_of54 {W : World} {base n cap : Nat} {A : Option Addr} {xs : List S54} (h : Kd.R k54 54 W base (fun _ => True) (.slice A n cap) xs) : n = xs.length ∧ n ≤ cap ∧ n ≤ 9223372036854775807 ∧ (0 < n → ∃ g, A = some ⟨g, 0, none⟩ ∧ S54of W base g ∧ WrRow W g n) := by
 obtain ⟨h1, h2, _⟩ := Kd.R_reads' h
 refine ⟨h1, h2, by have := (Kd.R_reads' h).2.2.2.1; omega, fun hp => ?_⟩
 obtain ⟨g, cap', he, hb, _, hcells⟩ := Kd.R_form h (by omega)
 injection he with he _ _
 subst he
 exact ⟨g, rfl, ⟨hb, hcells⟩, wr_row h⟩
theorem ownV_of {W : World} {base cap : Nat} {A : Option Addr} {xs : List (List S54)} (h : Kd.R (Kd.slice 54 k54) 23 W base (fun _ => True) (.slice A xs.length cap) xs) : OwnG W (S54of W base) base 23 1 0 A (xs.map List.length) := by
 rcases Nat.eq_zero_or_pos xs.length with hl | hl
 ·
  exact .inl (by rw [List.length_map]; exact hl)
 ·
  obtain ⟨G, cap', he, hb, _, cells, hc⟩ := Kd.R_form h hl
  injection he with he hn hcap
  subst he
  obtain ⟨h0, cs, h1, h2⟩ := wr_rows (S := S54of W base) (Kd.R_bound h) (s54_not hc (by decide)) (fun k hk hcl => ⟨hk.2.1, hcl⟩)
  refine .inr ⟨G, rfl, hb, h0, cs, h1, fun i n hi => ?_⟩
  obtain ⟨B, c, a1, a2, a3⟩ := h2 i n hi
  simp only [Nat.mul_one, Nat.add_zero]
  exact ⟨⟨_, a1⟩, B, c, a1, a2, a3⟩
theorem ownO_of {W : World} {base cap : Nat} {A : Option Addr} {xs : List S70} (h : Kd.R k70 70 W base (fun _ => True) (.slice A xs.length cap) xs) : OwnG W (S54of W base) base 70 4 3 A (xs.map fun o => o.f2.length) := by
 rcases Nat.eq_zero_or_pos xs.length with hl | hl
 ·
  exact .inl (by rw [List.length_map]; exact hl)
 ·
  obtain ⟨G, cap', he, hb, _, cells, hc⟩ := Kd.R_form h hl
  injection he with he hn hcap
  subst he
  refine .inr ⟨G, rfl, hb, s54_not hc (by decide), cells, hc, fun i n hi => ?_⟩
  rw [List.getElem?_map] at hi
  obtain ⟨x, hx, rfl⟩ := Option.map_eq_some_iff.1 hi
  have hil := (List.getElem?_eq_some_iff.1 hx).1
  obtain ⟨ad, A3, c3, e, g0, _, _, g3, hr⟩ := R_last70 h i hil
  injection e with e
  subst e
  have ex : rd_T70 xs i = x := by simp [rd_T70, List.getD_eq_getElem?_getD, hx]
  rw [ex] at g0 g3 hr
  simp only [add_plain] at g0 g3
  rw [blk_cell hc] at g0 g3
  obtain ⟨_, q2, q3, q4⟩ := wr_of54 hr
  exact ⟨⟨_, g0⟩, A3, c3, g3, ⟨q2, q3⟩, q4⟩
theorem ownS_of {W : World} {base cap : Nat} {A : Option Addr} {xs : List ByteArray} (h : Kd.R Kd.string 9 W base (fun _ => True) (.slice A xs.length cap) xs) : OwnS W (S54of W base) base A xs.length := by
 rcases Nat.eq_zero_or_pos xs.length with hl | hl
 ·
  exact .inl hl
 ·
  obtain ⟨G, cap', he, hb, _, cells, hc⟩ := Kd.R_form h hl
  injection he with he hn hcap
  subst he
  refine .inr ⟨G, rfl, hb, s54_not hc (by decide), cells, hc, fun j hj => ?_⟩
  obtain ⟨ad, e, g0⟩ := Kd.at_string (Kd.R_reads' h).2.2 (j : Int) (by omega) (by omega)
  injection e with e
  subst e
  simp only [add_plain, Int.toNat_natCast] at g0
  rw [blk_cell hc] at g0
  exact ⟨_, g0⟩
theorem run20R_calls {k c0 : Nat} {A0 : Option Addr} {rules : List S73} {v : Value} {ops ops' : List S70} {vals vals' : List (List S54)} {st st' fu e' : Int} {hd hd' : List ByteArray} {w : World}
 (hR : Kd.C k73 w A0 rules.length rules) (hc0 : rules.length ≤ c0) (hS : StV w v ops vals st hd) (h : rewrite_Run.f k rules ops vals st hd fu = some (ops', vals', st', hd', e')) :
 Calls Try.prog 20 #[.slice A0 rules.length c0, v, .int .i64 fu, .nilIface] w fun e w' => ∃ A0 c0 A1 c1 A3 c3, e = .returned (.tuple #[.agg #[.slice A0 ops'.length c0, .slice A1 vals'.length c1, .int .i64 st', .slice A3 hd'.length c3], .int .i64 e']) ∧ Kd.R k70 70 w' w.heap.size (fun _ => True) (.slice A0 ops'.length c0) ops' ∧ Kd.R (Kd.slice 54 k54) 23 w' w.heap.size (fun _ => True) (.slice A1 vals'.length c1) vals' ∧ Kd.R Kd.string 9 w' w.heap.size (fun _ => True) (.slice A3 hd'.length c3) hd' ∧ Below w.heap.size w w' := by
 obtain ⟨Ao, co, Av, cv, Ah, ch, rfl, a0, a1, a2, a3, a4, a5⟩ := hS
 unfold rewrite_Run.f at h
 obtain ⟨r, hr, h⟩ := Option.bind_eq_some_iff.mp h
 simp only [Option.some.injEq, Prod.mk.injEq] at h
 obtain ⟨rfl, rfl, rfl, rfl, rfl⟩ := h
 refine (run_callsR hR hc0 a0 a1 a2 a3 a4 a5 hr).mono ?_
 rintro e w' ⟨⟨v0, v1, v3, rfl, h0, h1, h3⟩, hb⟩
 obtain ⟨B0, d0, rfl⟩ := Kd.R_slice h0
 obtain ⟨B1, d1, rfl⟩ := Kd.R_slice h1
 obtain ⟨B3, d3, rfl⟩ := Kd.R_slice h3
 exact ⟨_, _, _, _, _, _, rfl, h0, h1, h3, hb⟩

-- ==== Se1
theorem ownS_off {W : World} {S : Nat → Prop} {base n o : Nat} {A : Option Addr} {G : Nat} {lens : List Nat} {v : Value} (h : OwnS W S base A n) (hg : WrG W S 70 4 3 G lens) : OwnS (W.setCell ⟨G, o, none⟩ v) S base A n := by
 rcases h with h | ⟨g, h1, h2, h3, h4⟩
 ·
  exact .inl h
 ·
  refine .inr ⟨g, h1, h2, h3, h4.off (fun he => ?_) _ _⟩
  obtain ⟨_, _, k1, _⟩ := hg
  obtain ⟨_, k2, _⟩ := h4
  rw [he] at k1
  have k3 := k1.symm.trans k2
  injection k3 with k3
  injection k3 with _ k3
  exact absurd k3 (by decide)
def lawOwnB (k : Nat) (rules : List S73) (ops : List S70) (vals : List (List S54)) (st : Int) (hd : List ByteArray) (fu : Int) : Option Bool :=
 (copyF k ops vals st hd).bind fun c => (aumbrylaw07_rules.f k rules).bind fun rs => (rewrite_Run.f k rs c.1 c.2.1 c.2.2.1 c.2.2.2 fu).bind fun x => if (ops, vals, st, hd) = c ∧ selfF k (ops, vals, st, hd, 0) = true ∧ aumbryref06_SameAll.f k rs rules = some true then some true else none
def lawOwn (k : Nat) (rules : List S73) (ops : List S70) (vals : List (List S54)) (st : Int) (hd : List ByteArray) (fu : Int) : Option Bool :=
 (aumbrylaw07_wakes.f k).bind fun a => if a = true then (aumbrylaw07_few.f rules fu).bind fun b => if b = true then lawOwnB k rules ops vals st hd fu else some true else none
theorem own_calls {k c0 co cv ch : Nat} {A0 Ao Av Ah : Option Addr} {rules : List S73} {ops : List S70} {vals : List (List S54)} {st fu : Int} {hd : List ByteArray} {w : World}
 (hR : Kd.C k73 w A0 rules.length rules) (hc0 : rules.length ≤ c0) (hS : StV w (.agg #[.slice Ao ops.length co, .slice Av vals.length cv, .int .i64 st, .slice Ah hd.length ch]) ops vals st hd) (h : lawOwn k rules ops vals st hd fu = some true) :
 Calls Try.prog 10 #[.slice A0 rules.length c0, .agg #[.slice Ao ops.length co, .slice Av vals.length cv, .int .i64 st, .slice Ah hd.length ch], .int .i64 fu] w fun e w' => e = .returned (.bool true) ∧ Below w.heap.size w w' := by
 unfold lawOwn at h
 obtain ⟨a, hw, h⟩ := Option.bind_eq_some_iff.mp h
 by_cases c1 : a = true
 case neg => rw [if_neg c1] at h; cases h
 rw [if_pos c1] at h
 subst c1
 obtain ⟨b, hf, h⟩ := Option.bind_eq_some_iff.mp h
 have HR := Aside0.mk hR
 have HC0 := Aside0.mk hc0
 have HS := Aside0.mk hS
 have hB := below_alloc (Below.refl w.heap.size w) (.cells #[.slice Ao ops.length co, .slice Av vals.length cv, .int .i64 st, .slice Ah hd.length ch] 28)
 have HZ0 := Aside0.mk (heap_alloc_new w (.cells #[.slice Ao ops.length co, .slice Av vals.length cv, .int .i64 st, .slice Ah hd.length ch] 28))
 have HB := Aside0.mk hB
 have HL := Aside0.mk h
 have C1 := fun W => aumbrylaw07_wakes.calls k true W hw
 have C2 := fun (W : World) (hW : Below w.heap.size w W) => aumbrylaw07_few.calls A0 c0 rules fu b W (Kd.C_below hR hW) hc0 hf
 clear hR hc0 hS hB hw hf h
 go_enter Try.func10, Try.ntmps10
 go_upto_region 1 with fail
 generalize (w.alloc (.cells #[.slice Ao ops.length co, .slice Av vals.length cv, .int .i64 st, .slice Ah hd.length ch] 28)) = W0 at HZ0 HB ⊢
 go_upto_region 3 with (first | (go_at_call 11; (with_reducible refine (C1 _).mono ?_); rintro e w1 ⟨rfl, hb_⟩; have HX := Aside0.mk hb_; clear hb_))
 have HB1 := Aside0.mk (below_step HB.out HX.out)
 have HZ1 := Aside0.mk (blk_below HZ0.out HX.out)
 clear HX HZ0 HB C1
 have hl := HL.out
 by_cases c2 : b = true
 case neg =>
  have d2 : (!b) = true := by rw [Bool.eq_false_iff.mpr c2]; rfl
  clear c2
  go_wp2_with (first | (go_at_call 19; (with_reducible refine (C2 _ HB1.out).mono ?_); rintro e w2 ⟨rfl, hb_⟩; have HX := Aside0.mk (Drawn0.below hb_ : Below w1.heap.size w1 w2); clear hb_))
  go_ret
  exact ⟨rfl, below_step HB1.out HX.out⟩
 rw [if_pos c2] at hl
 have d2 : (!b) = false := by rw [c2]; rfl
 clear c2 HL
 go_upto_region 5 with (first | (go_at_call 19; (with_reducible refine (C2 _ HB1.out).mono ?_); rintro e w2 ⟨rfl, hb_⟩; have HX := Aside0.mk (Drawn0.below hb_ : Below w1.heap.size w1 w2); clear hb_))
 have HB2 := Aside0.mk (below_step HB1.out HX.out)
 have HZ2 := Aside0.mk (blk_below HZ1.out HX.out)
 clear HX HZ1 HB1 C2 d2
 unfold lawOwnB at hl
 obtain ⟨⟨o2, v2, s2, g2⟩, h2, hl⟩ := Option.bind_eq_some_iff.mp hl
 obtain ⟨rs, h1, hl⟩ := Option.bind_eq_some_iff.mp hl
 obtain ⟨⟨xo, xv, xs, xh, xe⟩, h3, hl⟩ := Option.bind_eq_some_iff.mp hl
 by_cases c3 : (ops, vals, st, hd) = (o2, v2, s2, g2) ∧ selfF k (ops, vals, st, hd, 0) = true ∧ aumbryref06_SameAll.f k rs rules = some true
 case neg => rw [if_neg c3] at hl; cases hl
 have HL := Aside0.mk c3
 obtain ⟨c3, _, _⟩ := c3
 simp only [Prod.mk.injEq] at c3
 obtain ⟨rfl, rfl, rfl, rfl⟩ := c3
 simp only at h3
 have D1 := fun (W : World) (hW : Below w2.heap.size w2 W) => aumbrylaw07_rules.calls k A0 c0 rules rs W (Kd.C_below HR.out (below_step HB2.out hW)) HC0.out h1
 have D2 := copy7_calls (stV_below HS.out HB2.out) h2
 have H3 := Aside0.mk h3
 clear h1 h2 h3 hl
 obtain ⟨x0, x1, x2, x3⟩ := zc4 HZ2.out
 go_upto_region 6 with (first | (go_at_call 17; (with_reducible refine D2.mono ?_); rintro e w3 ⟨v3, rfl, hS, hb_⟩; have HX3 := Aside0.mk hb_; obtain ⟨Ao7, co7, Av7, cv7, Ah7, ch7, e7, hO7⟩ := stF_V hS; subst e7; have HS3 := Aside0.mk (show StV w3 (.agg #[.slice Ao7 ops.length co7, .slice Av7 vals.length cv7, .int .i64 st, .slice Ah7 hd.length ch7]) ops vals st hd from ⟨_, _, _, _, _, _, rfl, hO7⟩); clear hb_ hS hO7) | (go_at_call 21; (with_reducible refine (D1 _ ?side1).mono ?_); (case side1 => exact (zq HX3.out)); rintro e w4 ⟨v4, rfl, hS, hb_⟩; obtain ⟨A5, c5, rfl⟩ := Kd.S_slice hS; have HRS := Aside0.mk (Kd.N_reads' (Kd.S_N hS)).2; have HX4 := Aside0.mk (below_step HX3.out hb_); have HS4 := Aside0.mk (stV_below HS3.out hb_); clear hb_ hS))
 have HZ7 := Aside0.mk (heap_alloc_new w4 (.cells #[.slice Ao7 ops.length co7, .slice Av7 vals.length cv7, .int .i64 st, .slice Ah7 hd.length ch7] 28))
 have ha_ := below_alloc (Below.refl w4.heap.size w4) (.cells #[.slice Ao7 ops.length co7, .slice Av7 vals.length cv7, .int .i64 st, .slice Ah7 hd.length ch7] 28)
 have HBW := Aside0.mk (below_step (below_step HB2.out HX4.out) ha_)
 have HZS := Aside0.mk (blk_below (blk_below HZ2.out HX4.out) ha_)
 have HS7 := Aside0.mk (stV_below HS4.out ha_)
 replace HRS := Aside0.mk (And.intro HRS.out.1 (Kd.C_below HRS.out.2 ha_))
 clear HX3 HX4 HS3 HS4 ha_ HZ2 D1 D2 x0 x1 x2 x3
 generalize (w4.alloc (.cells #[.slice Ao7 ops.length co7, .slice Av7 vals.length cv7, .int .i64 st, .slice Ah7 hd.length ch7] 28)) = W5 at HZ7 HBW HZS HS7 HRS ⊢
 generalize w4.heap.size = b7 at HZ7 ⊢
 have HR5 := Aside0.mk (Kd.C_below HR.out HBW.out)
 have HSS := Aside0.mk (stV_below HS.out HBW.out)
 clear HR HS HB2
 have D3 := run20R_calls HRS.out.2 HRS.out.1 HS7.out H3.out
 obtain ⟨y0, y1, y2, y3⟩ := zc4 HZ7.out
 go_upto_region 7 with (first | (go_at_call 20; (with_reducible refine D3.mono ?_); rintro e w8 ⟨Ao8, co8, Av8, cv8, Ah8, ch8, rfl, r0_, r1_, r3_, hb_⟩; have HX8 := Aside0.mk hb_; have HRO := Aside0.mk r0_; have HRV := Aside0.mk r1_; have HRH := Aside0.mk r3_; clear r0_ r1_ r3_ hb_))
 clear y0 y1 y2 y3 D3 H3
 have HX := Aside0.mk (heap_alloc_new w8 (.cells #[.slice Ao8 xo.length co8, .slice Av8 xv.length cv8, .int .i64 xs, .slice Ah8 xh.length ch8] 28))
 have ha_ := below_alloc (Below.refl w8.heap.size w8) (.cells #[.slice Ao8 xo.length co8, .slice Av8 xv.length cv8, .int .i64 xs, .slice Ah8 xh.length ch8] 28)
 have HB := Aside0.mk (below_step HX8.out ha_)
 replace HRO := Aside0.mk (Kd.R_below HRO.out ha_)
 replace HRV := Aside0.mk (Kd.R_below HRV.out ha_)
 replace HRH := Aside0.mk (Kd.R_below HRH.out ha_)
 have hBX := HX8.out.size
 clear HX8 ha_
 generalize (w8.alloc (.cells #[.slice Ao8 xo.length co8, .slice Av8 xv.length cv8, .int .i64 xs, .slice Ah8 xh.length ch8] 28)) = w9 at HX HB HRO HRV HRH ⊢
 obtain ⟨bX, hbX⟩ : ∃ b, b = w8.heap.size := ⟨_, rfl⟩
 rw [← hbX] at HX hBX ⊢
 clear hbX
 have HBX := Aside0.mk hBX
 obtain ⟨S5, hS5⟩ : ∃ S5, S5 = S54of w9 W5.heap.size := ⟨_, rfl⟩
 have HV := Aside0.mk (ownV_of HRV.out)
 have HO := Aside0.mk (ownO_of HRO.out)
 have HH := Aside0.mk (ownS_of HRH.out)
 have HNX := Aside0.mk (s54_not (base := W5.heap.size) HX.out (by decide))
 rw [← hS5] at HV HO HH HNX
 have HS5 := Aside0.mk hS5
 have HMV := Aside0.mk (show (xv.length : Int) ≤ 9223372036854775807 by have := (Kd.R_reads' HRV.out).2.2.2.1; omega)
 have HMO := Aside0.mk (show (xo.length : Int) ≤ 9223372036854775807 by have := (Kd.R_reads' HRO.out).2.2.2.1; omega)
 have HMH := Aside0.mk (show (xh.length : Int) ≤ 9223372036854775807 by have := (Kd.R_reads' HRH.out).2.2.2.1; omega)
 clear hS5 hBX HRO HRV HRH
 have z0 := (blk_cell HX.out 0).trans rfl; have z1 := (blk_cell HX.out 1).trans rfl; have z3 := (blk_cell HX.out 3).trans rfl
 go_wp2
 go_loopg [36] xv.length (fun kq v36 w' => ∃ x : Int, v36 = .int .i64 x ∧ Aside0 (0 ≤ x ∧ x + kq = (xv.length : Int)) ∧ Aside0 (OwnG w' S5 W5.heap.size 23 1 0 Av8 (xv.map List.length)) ∧ Aside0 (OwnG w' S5 W5.heap.size 70 4 3 Ao8 (xo.map fun o => o.f2.length)) ∧ Aside0 (OwnS w' S5 W5.heap.size Ah8 xh.length) ∧ Aside0 (w'.heap[bX]? = some (.cells #[.slice Ao8 xo.length co8, .slice Av8 xv.length cv8, .int .i64 xs, .slice Ah8 xh.length ch8] 28 (0, 0))) ∧ Aside0 (Below W5.heap.size W5 w'))
 case atStart => exact ⟨0, rfl, ⟨by omega⟩, HV, HO, HH, HX, HB⟩
 case round =>
  clear HV HO HH HX HB z0 z1 z3
  obtain ⟨x, rfl, HI, HV, HO, HH, HX, HB⟩ := hrel
  have z0 := (blk_cell HX.out 0).trans rfl; have z1 := (blk_cell HX.out 1).trans rfl; have z3 := (blk_cell HX.out 3).trans rfl
  cases gk with
  | succ k1 =>
   have hi : 0 ≤ x ∧ x < (xv.length : Int) := by have := HI.out; omega
   have hb0 : decide (x < (xv.length : Int)) = true := decide_eq_true hi.2
   have hb2 : decide (0 ≤ x) = true := decide_eq_true hi.1
   have hbA := HV.out
   rcases hbA with hbA | ⟨G, eG, hbG, hbA⟩
   ·
    rw [List.length_map] at hbA; omega
   have HEG := Aside0.mk eG
   subst eG
   have HNG := Aside0.mk hbA.1
   have HBG := Aside0.mk hbG
   obtain ⟨B, cB, hcB, hnB, hgB⟩ := hbA.at_ (i := x.toNat) (by rw [List.length_map]; omega)
   replace hcB : wr.cell? ⟨G, x.toNat, none⟩ = some (.slice B ((xv.map List.length).getD x.toNat 0) cB) := by simpa using hcB
   generalize ((xv.map List.length)).getD x.toNat 0 = nB at hcB hnB hgB
   have HGB := Aside0.mk hgB
   have HMB := Aside0.mk (show (nB : Int) ≤ 9223372036854775807 by omega)
   have HCB := Aside0.mk hcB
   have HXI := Aside0.mk hi
   clear hgB hbA hnB hbG
   have hp := eq_true hi.1
   have hq := eq_true hi.2
   clear hi
   go_wp2
   go_loopg [45] nB (fun kq v45 w' => ∃ y : Int, v45 = .int .i64 y ∧ Aside0 (0 ≤ y ∧ y + kq = (nB : Int)) ∧ Aside0 (OwnG w' S5 W5.heap.size 23 1 0 (some ⟨G, 0, none⟩) (xv.map List.length)) ∧ Aside0 (OwnG w' S5 W5.heap.size 70 4 3 Ao8 (xo.map fun o => o.f2.length)) ∧ Aside0 (OwnS w' S5 W5.heap.size Ah8 xh.length) ∧ Aside0 (w'.heap[bX]? = some (.cells #[.slice Ao8 xo.length co8, .slice (some ⟨G, 0, none⟩) xv.length cv8, .int .i64 xs, .slice Ah8 xh.length ch8] 28 (0, 0))) ∧ Aside0 (Below W5.heap.size W5 w') ∧ Aside0 (w'.cell? ⟨G, x.toNat, none⟩ = some (.slice B nB cB)) ∧ Aside0 (0 < nB → ∃ g, B = some ⟨g, 0, none⟩ ∧ S5 g ∧ WrRow w' g nB))
   case atStart => exact ⟨0, rfl, ⟨by omega⟩, HV, HO, HH, HX, HB, HCB, HGB⟩
   case round =>
    clear HV HO HH HX HB HCB HGB hcB z0 z1 z3
    obtain ⟨y, rfl, HJ, HV, HO, HH, HX, HB, HCB, HGB⟩ := hrel
    have z0 := (blk_cell HX.out 0).trans rfl; have z1 := (blk_cell HX.out 1).trans rfl; have z3 := (blk_cell HX.out 3).trans rfl
    cases gk with
    | succ k2 =>
     have hj : 0 ≤ y ∧ y < (nB : Int) := by have := HJ.out; omega
     have hd0 : decide (y < (nB : Int)) = true := decide_eq_true hj.2
     have hd2 : decide (0 ≤ y) = true := decide_eq_true hj.1
     have hcB := HCB.out
     obtain ⟨g, rfl, hSg, hrow⟩ := HGB.out (by omega)
     obtain ⟨s0, hcs, hfs⟩ := hrow.cell (j := y.toNat) (by omega)
     have HROW := Aside0.mk hrow
     have HSG := Aside0.mk hSg
     have HY := Aside0.mk hj
     have hp2 := eq_true hj.1
     have hq2 := eq_true hj.2
     clear hrow hSg hj
     go_wp2
     have hne : G ≠ g := fun he => HNG.out (by rw [he]; exact HSG.out)
     have hnx : bX ≠ g := fun he => HNX.out (by rw [he]; exact HSG.out)
     have hbg : W5.heap.size ≤ g := by have h_ := HSG.out; rw [HS5.out] at h_; exact h_.1
     go_roundg k2
     case measure => have := HJ.out; omega
     case rel => exact ⟨y + 1, by have e_ : wrap64 (y + 1) = y + 1 := (by have := HY.out; have := HMB.out; unfold wrap64; omega); first | rfl | rw [e_] | (simp [e_]; done), ⟨by have := HJ.out; omega⟩, ⟨HV.out.set HSG.out _ _⟩, ⟨HO.out.set HSG.out _ _⟩, ⟨HH.out.set HSG.out _ _⟩, ⟨(Below.heap_setCell _ _ _ _ hnx).trans HX.out⟩, ⟨HB.out.setCell (p := ⟨g, y.toNat * 2, none⟩) hbg _⟩, ⟨(cell_heap (Below.heap_setCell _ _ _ _ hne)).trans HCB.out⟩, ⟨fun hn => ⟨g, rfl, HSG.out, HROW.out.set _ _ _⟩⟩⟩
    | zero =>
     have hd0 : decide (y < (nB : Int)) = false := decide_eq_false (by have := HJ.out; omega)
     go_wp2
     go_roundg k1
     case measure => have := HI.out; omega
     case rel => exact ⟨x + 1, by have e_ : wrap64 (x + 1) = x + 1 := (by have := HXI.out; have := HMV.out; unfold wrap64; omega); first | rfl | rw [e_] | (simp [e_]; done), ⟨by have := HI.out; omega⟩, HV, HO, HH, HX, HB⟩

  | zero =>
   have hb0 : decide (x < (xv.length : Int)) = false := decide_eq_false (by have := HI.out; omega)
   clear HV
   go_wp2
   go_loopg [61] xo.length (fun kq v61 w' => ∃ x : Int, v61 = .int .i64 x ∧ Aside0 (0 ≤ x ∧ x + kq = (xo.length : Int)) ∧ Aside0 (OwnG w' S5 W5.heap.size 70 4 3 Ao8 (xo.map fun o => o.f2.length)) ∧ Aside0 (OwnS w' S5 W5.heap.size Ah8 xh.length) ∧ Aside0 (w'.heap[bX]? = some (.cells #[.slice Ao8 xo.length co8, .slice Av8 xv.length cv8, .int .i64 xs, .slice Ah8 xh.length ch8] 28 (0, 0))) ∧ Aside0 (Below W5.heap.size W5 w'))
   case atStart => exact ⟨0, rfl, ⟨by omega⟩, HO, HH, HX, HB⟩
   case round =>
    clear HO HH HX HB z0 z1 z3
    obtain ⟨x, rfl, HI, HO, HH, HX, HB⟩ := hrel
    have z0 := (blk_cell HX.out 0).trans rfl; have z1 := (blk_cell HX.out 1).trans rfl; have z3 := (blk_cell HX.out 3).trans rfl
    cases gk with
    | succ k1 =>
     have hi : 0 ≤ x ∧ x < (xo.length : Int) := by have := HI.out; omega
     have hb0 : decide (x < (xo.length : Int)) = true := decide_eq_true hi.2
     have hb2 : decide (0 ≤ x) = true := decide_eq_true hi.1
     have hbA := HO.out
     rcases hbA with hbA | ⟨G, eG, hbG, hbA⟩
     ·
      rw [List.length_map] at hbA; omega
     have HEG := Aside0.mk eG
     subst eG
     have HNG := Aside0.mk hbA.1
     have HBG := Aside0.mk hbG
     obtain ⟨B, cB, hcB, hnB, hgB⟩ := hbA.at_ (i := x.toNat) (by rw [List.length_map]; omega)
     replace hcB : wr.cell? ⟨G, x.toNat * 4 + 3, none⟩ = some (.slice B ((xo.map fun o => o.f2.length).getD x.toNat 0) cB) := hcB
     generalize ((xo.map fun o => o.f2.length)).getD x.toNat 0 = nB at hcB hnB hgB
     have HGB := Aside0.mk hgB
     have HMB := Aside0.mk (show (nB : Int) ≤ 9223372036854775807 by omega)
     have HCB := Aside0.mk hcB
     have HXI := Aside0.mk hi
     clear hgB hbA hnB hbG
     have hp := eq_true hi.1
     have hq := eq_true hi.2
     clear hi
     go_wp2
     go_loopg [71] nB (fun kq v71 w' => ∃ y : Int, v71 = .int .i64 y ∧ Aside0 (0 ≤ y ∧ y + kq = (nB : Int)) ∧ Aside0 (OwnG w' S5 W5.heap.size 70 4 3 (some ⟨G, 0, none⟩) (xo.map fun o => o.f2.length)) ∧ Aside0 (OwnS w' S5 W5.heap.size Ah8 xh.length) ∧ Aside0 (w'.heap[bX]? = some (.cells #[.slice (some ⟨G, 0, none⟩) xo.length co8, .slice Av8 xv.length cv8, .int .i64 xs, .slice Ah8 xh.length ch8] 28 (0, 0))) ∧ Aside0 (Below W5.heap.size W5 w') ∧ Aside0 (w'.cell? ⟨G, x.toNat * 4 + 3, none⟩ = some (.slice B nB cB)) ∧ Aside0 (0 < nB → ∃ g, B = some ⟨g, 0, none⟩ ∧ S5 g ∧ WrRow w' g nB))
     case atStart => exact ⟨0, rfl, ⟨by omega⟩, HO, HH, HX, HB, HCB, HGB⟩
     case round =>
      clear HO HH HX HB HCB HGB hcB z0 z1 z3
      obtain ⟨y, rfl, HJ, HO, HH, HX, HB, HCB, HGB⟩ := hrel
      have z0 := (blk_cell HX.out 0).trans rfl; have z1 := (blk_cell HX.out 1).trans rfl; have z3 := (blk_cell HX.out 3).trans rfl
      cases gk with
      | succ k2 =>
       have hj : 0 ≤ y ∧ y < (nB : Int) := by have := HJ.out; omega
       have hd0 : decide (y < (nB : Int)) = true := decide_eq_true hj.2
       have hd2 : decide (0 ≤ y) = true := decide_eq_true hj.1
       have hcB := HCB.out
       obtain ⟨g, rfl, hSg, hrow⟩ := HGB.out (by omega)
       obtain ⟨s0, hcs, hfs⟩ := hrow.cell (j := y.toNat) (by omega)
       have HROW := Aside0.mk hrow
       have HSG := Aside0.mk hSg
       have HY := Aside0.mk hj
       have hp2 := eq_true hj.1
       have hq2 := eq_true hj.2
       clear hrow hSg hj
       go_wp2
       have hne : G ≠ g := fun he => HNG.out (by rw [he]; exact HSG.out)
       have hnx : bX ≠ g := fun he => HNX.out (by rw [he]; exact HSG.out)
       have hbg : W5.heap.size ≤ g := by have h_ := HSG.out; rw [HS5.out] at h_; exact h_.1
       go_roundg k2
       case measure => have := HJ.out; omega
       case rel => exact ⟨y + 1, by have e_ : wrap64 (y + 1) = y + 1 := (by have := HY.out; have := HMB.out; unfold wrap64; omega); first | rfl | rw [e_] | (simp [e_]; done), ⟨by have := HJ.out; omega⟩, ⟨HO.out.set HSG.out _ _⟩, ⟨HH.out.set HSG.out _ _⟩, ⟨(Below.heap_setCell _ _ _ _ hnx).trans HX.out⟩, ⟨HB.out.setCell (p := ⟨g, y.toNat * 2, none⟩) hbg _⟩, ⟨(cell_heap (Below.heap_setCell _ _ _ _ hne)).trans HCB.out⟩, ⟨fun hn => ⟨g, rfl, HSG.out, HROW.out.set _ _ _⟩⟩⟩
      | zero =>
       have hd0 : decide (y < (nB : Int)) = false := decide_eq_false (by have := HJ.out; omega)
       have hbA2 := HO.out
       rcases hbA2 with hbA2 | ⟨G', eG', _, hbA2⟩
       ·
        rw [List.length_map] at hbA2; have := HXI.out; omega
       injection eG' with eG'
       injection eG' with eG'
       subst eG'
       obtain ⟨⟨v0, hd4⟩, hfr⟩ := hbA2.head (i := x.toNat) (by rw [List.length_map]; have := HXI.out; omega)
       have HWG := Aside0.mk hbA2
       clear hbA2
       go_wp2
       go_roundg k1
       case measure => have := HI.out; omega
       case rel =>
        have hGX : G ≠ bX := fun he => by
         obtain ⟨_, _, h_, _⟩ := HWG.out
         rw [he] at h_
         have h2_ := h_.symm.trans HX.out
         injection h2_ with h2_
         injection h2_ with _ h2_
         exact absurd h2_ (by decide)
        exact ⟨x + 1, by have e_ : wrap64 (x + 1) = x + 1 := (by have := HXI.out; have := HMO.out; unfold wrap64; omega); first | rfl | rw [e_] | (simp [e_]; done), ⟨by have := HI.out; omega⟩, ⟨.inr ⟨G, rfl, HBG.out, HWG.out.own ⟨by decide, by decide⟩ _ _⟩⟩, ⟨ownS_off HH.out HWG.out⟩, ⟨(Below.heap_setCell _ _ _ _ (fun he => hGX he.symm)).trans HX.out⟩, ⟨HB.out.setCell (p := ⟨G, x.toNat * 4, none⟩) HBG.out _⟩⟩

    | zero =>
     have hb0 : decide (x < (xo.length : Int)) = false := decide_eq_false (by have := HI.out; omega)
     go_wp2
     go_loopg [93] xh.length (fun kq v93 w' => ∃ x : Int, v93 = .int .i64 x ∧ Aside0 (0 ≤ x ∧ x + kq = (xh.length : Int)) ∧ Aside0 (OwnS w' S5 W5.heap.size Ah8 xh.length) ∧ Aside0 (w'.heap[bX]? = some (.cells #[.slice Ao8 xo.length co8, .slice Av8 xv.length cv8, .int .i64 xs, .slice Ah8 xh.length ch8] 28 (0, 0))) ∧ Aside0 (Below W5.heap.size W5 w'))
     case atStart => exact ⟨0, rfl, ⟨by omega⟩, HH, HX, HB⟩
     case round =>
      clear HH HX HB z0 z1 z3
      obtain ⟨x, rfl, HI, HH, HX, HB⟩ := hrel
      have z0 := (blk_cell HX.out 0).trans rfl; have z1 := (blk_cell HX.out 1).trans rfl; have z3 := (blk_cell HX.out 3).trans rfl
      cases gk with
      | succ k1 =>
       have hi : 0 ≤ x ∧ x < (xh.length : Int) := by have := HI.out; omega
       have hb0 : decide (x < (xh.length : Int)) = true := decide_eq_true hi.2
       have hb2 : decide (0 ≤ x) = true := decide_eq_true hi.1
       have hbA := HH.out
       rcases hbA with hbA | ⟨G, eG, hbG, hnG, hrow⟩
       ·
        omega
       subst eG
       obtain ⟨s0, hcs, hfs⟩ := hrow.cell (j := x.toNat) (by omega)
       have HROW := Aside0.mk hrow
       have HBG := Aside0.mk hbG
       have HNG := Aside0.mk hnG
       have HXI := Aside0.mk hi
       have hGX : G ≠ bX := fun he => by
        obtain ⟨_, h_, _⟩ := hrow
        rw [he] at h_
        have h2_ := h_.symm.trans HX.out
        injection h2_ with h2_
        injection h2_ with _ h2_
        exact absurd h2_ (by decide)
       have HGX := Aside0.mk hGX
       have hp := eq_true hi.1
       have hq := eq_true hi.2
       clear hi hrow hbG hnG hGX
       go_wp2
       go_roundg k1
       case measure => have := HI.out; omega
       case rel => exact ⟨x + 1, by have e_ : wrap64 (x + 1) = x + 1 := (by have := HXI.out; have := HMH.out; unfold wrap64; omega); first | rfl | rw [e_] | (simp [e_]; done), ⟨by have := HI.out; omega⟩, ⟨.inr ⟨G, rfl, HBG.out, HNG.out, HROW.out.set _ _⟩⟩, ⟨(Below.heap_setCell _ _ _ _ (fun he => HGX.out he.symm)).trans HX.out⟩, ⟨HB.out.setCell (p := ⟨G, x.toNat, none⟩) HBG.out _⟩⟩
      | zero =>
       have hb0 : decide (x < (xh.length : Int)) = false := decide_eq_false (by have := HI.out; omega)
       have hz7 := blk_below HZ7.out HB.out
       have hzs := blk_below HZS.out HB.out
       have C7 := selfF_same (x := (ops, vals, st, hd, 0)) HL.out.2.1 (stV_below HS7.out HB.out) (stV_below HSS.out HB.out)
       have C8 := fun (W : World) (hW : Below W5.heap.size W5 W) => aumbryref06_SameAll.calls k A5 c5 rs A0 c0 rules true W (Kd.C_below HRS.out.2 hW) HRS.out.1 (Kd.C_below HR5.out hW) HC0.out HL.out.2.2
       obtain ⟨t0, t1, t2, t3⟩ := zc4 hz7; obtain ⟨s0, s1, s2, s3⟩ := zc4 hzs
       clear hz7 hzs HH HX z0 z1 z3
       go_wp2_with (first | (go_at_call 15; (with_reducible refine C7.mono ?_); rintro e w10 ⟨rfl, hb_⟩; have HB10 := Aside0.mk (below_trB HB.out (below_less hb_ HB.out.size)); clear hb_) | (go_at_call 29; (with_reducible refine (C8 _ ?side1).mono ?_); (case side1 => exact (zq HB10.out)); rintro e w11 ⟨rfl, hb_⟩; have HB11 := Aside0.mk (below_trB HB10.out (below_less hb_ HB10.out.size)); clear hb_))
       go_ret
       exact ⟨by simp, below_step HBW.out HB11.out⟩
end Go.Proofs.Ytdlkhpfgkghhmaa.P

-- ==== PF10
namespace Go.Proofs.Ytdlkhpfgkghhmaa.P
open Go.RowKit Go.Proofs.YtdlkhpfgkghhmaaW.PrintWords Go.Proofs.YtdlkhpfgkghhmaaW.PrintLast Go.Proofs.YtdlkhpfgkghhmaaW.PrintMore
attribute [local go_sem] max2_int min2_int max_two min_two max_three min_three max_four min_four

def aumbrylaw07_RewriteOwn.f (k : Nat) (l0 : List (S73)) (l1_0 : List (S70)) (l1_1 : List (List (S54))) (a1_2 : Int) (l1_3 : List (ByteArray)) (a2 : Int) : Option Bool := lawOwn k l0 l1_0 l1_1 a1_2 l1_3 a2
theorem aumbrylaw07_RewriteOwn.calls (k : Nat) (A0 : Option Addr) (c0 : Nat) (l0 : List (S73)) (A1_0 : Option Addr) (c1_0 : Nat) (l1_0 : List (S70)) (A1_1 : Option Addr) (c1_1 : Nat) (l1_1 : List (List (S54))) (a1_2 : Int) (A1_3 : Option Addr) (c1_3 : Nat) (l1_3 : List (ByteArray)) (a2 : Int) (r : Bool) (w : World) (hr0 : Kd.C k73 w A0 l0.length l0) (hc0 : l0.length ≤ c0) (hr1_0 : Kd.C k70 w A1_0 l1_0.length l1_0) (hc1_0 : l1_0.length ≤ c1_0) (hr1_1 : Kd.C (Kd.slice 54 k54) w A1_1 l1_1.length l1_1) (hc1_1 : l1_1.length ≤ c1_1) (hr1_3 : Kd.C Kd.string w A1_3 l1_3.length l1_3) (hc1_3 : l1_3.length ≤ c1_3) (h : aumbrylaw07_RewriteOwn.f k l0 l1_0 l1_1 a1_2 l1_3 a2 = some r) (hr : r = true) :
 Calls Try.prog 10 #[.slice A0 l0.length c0, .agg #[.slice A1_0 l1_0.length c1_0, .slice A1_1 l1_1.length c1_1, .int .i64 a1_2, .slice A1_3 l1_3.length c1_3], .int .i64 a2] w fun e w' => e = .returned (.bool true) ∧ Below w.heap.size w w' := by
 have HRT := zM hr
 clear hr
 obtain rfl := HRT.out
 exact own_calls hr0 hc0 ⟨_, _, _, _, _, _, rfl, hr1_0, hc1_0, hr1_1, hc1_1, hr1_3, hc1_3⟩ h


end Go.Proofs.Ytdlkhpfgkghhmaa.P

-- ==== PO
namespace Go.Proofs.Ytdlkhpfgkghhmaa.P
open Go.RowKit Go.Proofs.YtdlkhpfgkghhmaaW.PrintWords Go.Proofs.Ytdlkhpfgkghhmaa.Open
def sz9 (s : ByteArray) : Prop := s.size ≤ 140737488351232
def bk9 (s : ByteArray) : Nat := s.size + 1
theorem op9 : Opens Try.prog 9 Kd.string sz9 bk9 := opens_string Try.underlying9 (by kernel_rfl)
def sz3 (a : Int) : Prop := (Lit.int .i64 a).wf = true
def bk3 (_ : Int) : Nat := 1
theorem op3 : Opens Try.prog 3 (Kd.int .i64) sz3 bk3 := opens_int Try.underlying3 (by kernel_rfl)
def sz54 (x : S54) : Prop := sz9 x.f0 ∧ sz3 x.f1
def bk54 (x : S54) : Nat := (bk9 x.f0 + bk3 x.f1) + 1
theorem op54 : Opens Try.prog 54 k54 sz54 bk54 := opens_struct (P := Try.prog) (ts := [9, 3]) (f := fun x : S54 => (x.f0, x.f1)) Try.underlying54 (by kernel_rfl) (fun i fl h => by
 match i, h with
 | 0, h => obtain rfl := Option.some.inj h; show (0 : Nat) = offs Try.prog [9, 3] 0; kernel_rfl
 | 1, h => obtain rfl := Option.some.inj h; show (1 : Nat) = offs Try.prog [9, 3] 1; kernel_rfl
 | i + 2, h => simp at h) (by kernel_rfl) (opensF_cons op9 (opensF_one op3)) (fun x => ⟨x.1, x.2⟩) (fun _ => rfl)
def sz23 (l : List (S54)) : Prop := l.length * 24 ≤ 140737488351232 ∧ ∀ x ∈ l, sz54 x
def bk23 (l : List (S54)) : Nat := bulkAll bk54 l + 1
theorem op23 : Opens Try.prog 23 (Kd.slice 54 k54) sz23 bk23 := opens_slice Try.underlying23 (by kernel_rfl) (by kernel_rfl) op54
def sz70 (x : S70) : Prop := sz3 x.f0 ∧ sz54 x.f1 ∧ sz23 x.f2
def bk70 (x : S70) : Nat := (bk3 x.f0 + (bk54 x.f1 + bk23 x.f2)) + 1
theorem op70 : Opens Try.prog 70 k70 sz70 bk70 := opens_struct (P := Try.prog) (ts := [3, 54, 23]) (f := fun x : S70 => (x.f0, x.f1, x.f2)) Try.underlying70 (by kernel_rfl) (fun i fl h => by
 match i, h with
 | 0, h => obtain rfl := Option.some.inj h; show (0 : Nat) = offs Try.prog [3, 54, 23] 0; kernel_rfl
 | 1, h => obtain rfl := Option.some.inj h; show (1 : Nat) = offs Try.prog [3, 54, 23] 1; kernel_rfl
 | 2, h => obtain rfl := Option.some.inj h; show (3 : Nat) = offs Try.prog [3, 54, 23] 2; kernel_rfl
 | i + 3, h => simp at h) (by kernel_rfl) (opensF_cons op3 (opensF_cons op54 (opensF_one op23))) (fun x => ⟨x.1, x.2.1, x.2.2⟩) (fun _ => rfl)
def sz24 (l : List (S70)) : Prop := l.length * 56 ≤ 140737488351232 ∧ ∀ x ∈ l, sz70 x
def bk24 (l : List (S70)) : Nat := bulkAll bk70 l + 1
theorem op24 : Opens Try.prog 24 (Kd.slice 70 k70) sz24 bk24 := opens_slice Try.underlying24 (by kernel_rfl) (by kernel_rfl) op70
def sz25 (l : List (List (S54))) : Prop := l.length * 24 ≤ 140737488351232 ∧ ∀ x ∈ l, sz23 x
def bk25 (l : List (List (S54))) : Nat := bulkAll bk23 l + 1
theorem op25 : Opens Try.prog 25 (Kd.slice 23 (Kd.slice 54 k54)) sz25 bk25 := opens_slice Try.underlying25 (by kernel_rfl) (by kernel_rfl) op23
def sz26 (l : List ByteArray) : Prop := l.length * 16 ≤ 140737488351232 ∧ ∀ x ∈ l, sz9 x
def bk26 (l : List ByteArray) : Nat := bulkAll bk9 l + 1
theorem op26 : Opens Try.prog 26 (Kd.slice 9 Kd.string) sz26 bk26 := opens_slice Try.underlying26 (by kernel_rfl) (by kernel_rfl) op9
def sz28 (x : S28) : Prop := sz24 x.f0 ∧ sz25 x.f1 ∧ sz3 x.f2 ∧ sz26 x.f3
def bk28 (x : S28) : Nat := (bk24 x.f0 + (bk25 x.f1 + (bk3 x.f2 + bk26 x.f3))) + 1
theorem op28 : Opens Try.prog 28 k28 sz28 bk28 := opens_struct (P := Try.prog) (ts := [24, 25, 3, 26]) (f := fun x : S28 => (x.f0, x.f1, x.f2, x.f3)) Try.underlying28 (by kernel_rfl) (fun i fl h => by
 match i, h with
 | 0, h => obtain rfl := Option.some.inj h; show (0 : Nat) = offs Try.prog [24, 25, 3, 26] 0; kernel_rfl
 | 1, h => obtain rfl := Option.some.inj h; show (1 : Nat) = offs Try.prog [24, 25, 3, 26] 1; kernel_rfl
 | 2, h => obtain rfl := Option.some.inj h; show (2 : Nat) = offs Try.prog [24, 25, 3, 26] 2; kernel_rfl
 | 3, h => obtain rfl := Option.some.inj h; show (3 : Nat) = offs Try.prog [24, 25, 3, 26] 3; kernel_rfl
 | i + 4, h => simp at h) (by kernel_rfl) (opensF_cons op24 (opensF_cons op25 (opensF_cons op3 (opensF_one op26)))) (fun x => ⟨x.1, x.2.1, x.2.2.1, x.2.2.2⟩) (fun _ => rfl)
def sz73 (x : S73) : Prop := sz3 x.f0 ∧ sz23 x.f1 ∧ sz23 x.f2
def bk73 (x : S73) : Nat := (bk3 x.f0 + (bk23 x.f1 + bk23 x.f2)) + 1
theorem op73 : Opens Try.prog 73 k73 sz73 bk73 := opens_struct (P := Try.prog) (ts := [3, 23, 23]) (f := fun x : S73 => (x.f0, x.f1, x.f2)) Try.underlying73 (by kernel_rfl) (fun i fl h => by
 match i, h with
 | 0, h => obtain rfl := Option.some.inj h; show (0 : Nat) = offs Try.prog [3, 23, 23] 0; kernel_rfl
 | 1, h => obtain rfl := Option.some.inj h; show (1 : Nat) = offs Try.prog [3, 23, 23] 1; kernel_rfl
 | 2, h => obtain rfl := Option.some.inj h; show (2 : Nat) = offs Try.prog [3, 23, 23] 2; kernel_rfl
 | i + 3, h => simp at h) (by kernel_rfl) (opensF_cons op3 (opensF_cons op23 (opensF_one op23))) (fun x => ⟨x.1, x.2.1, x.2.2⟩) (fun _ => rfl)
def sz41 (l : List (S73)) : Prop := l.length * 56 ≤ 140737488351232 ∧ ∀ x ∈ l, sz73 x
def bk41 (l : List (S73)) : Nat := bulkAll bk73 l + 1
theorem op41 : Opens Try.prog 41 (Kd.slice 73 k73) sz41 bk41 := opens_slice Try.underlying41 (by kernel_rfl) (by kernel_rfl) op73
end Go.Proofs.Ytdlkhpfgkghhmaa.P

-- ==== PS10
namespace Go.Proofs.Ytdlkhpfgkghhmaa.P
open Go.RowKit Go.Proofs.YtdlkhpfgkghhmaaW.PrintWords
def aumbrylaw07_RewriteOwn.Pure : Prop := ∀ (l0 : List (S73)) (x1 : S28) (a2 : Int), sz41 l0 → sz28 x1 → sz3 a2 → ∃ k, aumbrylaw07_RewriteOwn.f k l0 (x1).f0 (x1).f1 (x1).f2 (x1).f3 a2 = some true
def aumbrylaw07_RewriteOwn.PureUpto : Prop := ∀ (l0 : List (S73)) (x1 : S28) (a2 : Int), sz41 l0 → sz28 x1 → sz3 a2 → bk41 l0 + bk28 x1 + bk3 a2 ≤ 1048576 → ∃ k, aumbrylaw07_RewriteOwn.f k l0 (x1).f0 (x1).f1 (x1).f2 (x1).f3 a2 = some true
end Go.Proofs.Ytdlkhpfgkghhmaa.P

-- ==== PLz
/- Plain laws: places in lists, sizes that came in. -/
namespace Go.Proofs.Ytdlkhpfgkghhmaa.P
open Go.RowKit Go.Proofs.YtdlkhpfgkghhmaaW.PrintWords
theorem sz_len {l : List Cel} (h : sz23 l) : l.length < 5864062014805 := by
 have := h.1
 omega
theorem rd_trm {t : List (List Cel)} {n : Nat} {c : List Cel} {s : List (List Cel)} (h : t.drop n = c :: s) : rd_L3 t (n : Int) = c := by
 unfold rd_L3
 exact (drop_cons h).2.1 _
theorem up_cast (a : Nat) (h : a < 9223372036854775807) : wrap64 ((a : Int) + 1) = ((a + 1 : Nat) : Int) := by rw [wrap_up (by omega) (by omega)]; rfl
theorem checkS_len {t : List Cel} (h : checkS t = 0) : t.length ≤ 64 := (checkS_ok h).1
end Go.Proofs.Ytdlkhpfgkghhmaa.P

-- ==== PL7v
/- Plain laws: a term's variables and its arguments: the program's answers and the document's (for chapters without texts of terms). -/
namespace Go.Proofs.Ytdlkhpfgkghhmaa.P
open Go.RowKit Go.Proofs.YtdlkhpfgkghhmaaW.PrintWords
instance txtMem (a : ByteArray) (l : List ByteArray) : Decidable (a ∈ l) :=
 if h : l.any (fun b => decide (a = b)) = true then isTrue (by obtain ⟨b, h1, h2⟩ := List.any_eq_true.1 h; rw [of_decide_eq_true h2]; exact h1) else isFalse (fun h1 => h (List.any_eq_true.2 ⟨a, h1, decide_eq_true rfl⟩))
theorem rd_txt {t : List ByteArray} {n : Nat} {c : ByteArray} {s : List ByteArray} (h : t.drop n = c :: s) : rdOf ByteArray.empty t (n : Int) = c := by
 unfold rdOf
 exact (drop_cons h).2.1 _
theorem ev_index_loop (l : List ByteArray) (a : ByteArray) (hl : l.length ≤ 9223372036854775806) : ∀ (u : List ByteArray) (i : Nat), i ≤ l.length → l.drop i = u →
 ∃ r, Ev (fun k => slices_Index_string_string.l0 k l a (l.length : Int) (i : Int)) r ∧ decide (r ≥ 0) = decide (a ∈ u)
 | [], i, hi, hu => by
  have h1 := drop_nil_len hi hu
  refine ⟨-1, Ev.step (fun k => (show slices_Index_string_string.l0 (k + 1) l a (l.length : Int) (i : Int) = _ from by rw [slices_Index_string_string.l0])) ?_, by simp⟩
  exact evIfn (by omega) (Ev.now _)
 | b :: u, i, hi, hu => by
  obtain ⟨h1, _, h3⟩ := drop_cons hu
  by_cases hab : a.toList = b.toList
  ·
   refine ⟨(i : Int), Ev.step (fun k => (show slices_Index_string_string.l0 (k + 1) l a (l.length : Int) (i : Int) = _ from by rw [slices_Index_string_string.l0])) ?_, ?_⟩
   ·
    refine evIfp (by omega) (evIfp (by omega) (evIfp (by omega) ?_))
    rw [rd_txt hu]
    exact evIfp hab (Ev.now _)
   ·
    rw [(bytes_eq a b).1 hab]
    simp
  ·
   obtain ⟨r, hr, he⟩ := ev_index_loop l a hl u (i + 1) (by omega) h3
   refine ⟨r, Ev.step (fun k => (show slices_Index_string_string.l0 (k + 1) l a (l.length : Int) (i : Int) = _ from by rw [slices_Index_string_string.l0])) ?_, ?_⟩
   ·
    refine evIfp (by omega) (evIfp (by omega) (evIfp (by omega) ?_))
    rw [rd_txt hu]
    refine evIfn hab ?_
    rw [up_cast i (by omega)]
    exact hr
   ·
    rw [he]
    have : a ≠ b := fun h => hab (by rw [h])
    simp [this]
theorem ev_contains (l : List ByteArray) (a : ByteArray) (hl : l.length ≤ 9223372036854775806) : Ev (fun k => slices_Contains_string_string.f k l a) (decide (a ∈ l)) := by
 unfold slices_Contains_string_string.f slices_Index_string_string.f
 obtain ⟨r, hr, he⟩ := ev_index_loop l a hl l 0 (by omega) rfl
 refine Ev.bind hr ?_
 rw [he]
 exact Ev.now _
def varsS : List ByteArray → List Cel → List ByteArray
 | out, [] => out
 | out, c :: l => if kindS c.f0 = 2 then (if c.f0 ∈ out then varsS out l else varsS (out ++ [c.f0]) l) else varsS out l
theorem ev_vars_loop (t : List Cel) (ht : t.length ≤ 1000) : ∀ (u : List Cel) (i : Nat) (out : List ByteArray), i ≤ t.length → t.drop i = u → out.length ≤ i →
 Ev (fun k => term_Vars.l0 k out t (t.length : Int) (i : Int)) (varsS out u, 0)
 | [], i, out, hi, hu, ho => by
  have h1 := drop_nil_len hi hu
  refine Ev.step (fun k => (show term_Vars.l0 (k + 1) out t (t.length : Int) (i : Int) = _ from by rw [term_Vars.l0])) ?_
  exact evIfn (by omega) (Ev.now _)
 | c :: u, i, out, hi, hu, ho => by
  obtain ⟨h1, _, h3⟩ := drop_cons hu
  refine Ev.step (fun k => (show term_Vars.l0 (k + 1) out t (t.length : Int) (i : Int) = _ from by rw [term_Vars.l0])) ?_
  refine evIfp (by omega) (evIfp (by omega) (evIfp (by omega) ?_))
  simp only [rd_cel hu, up_cast i (by omega)]
  refine Ev.bind (ev_kind c.f0) ?_
  have hv : varsS out (c :: u) = if kindS c.f0 = 2 then (if c.f0 ∈ out then varsS out u else varsS (out ++ [c.f0]) u) else varsS out u := rfl
  by_cases hk : kindS c.f0 = 2
  ·
   refine evIfp hk ?_
   rw [hv, if_pos hk]
   refine Ev.bind (ev_contains out c.f0 (by omega)) ?_
   by_cases hm : c.f0 ∈ out
   ·
    rw [if_pos hm]
    exact evIfp (decide_eq_true hm) (ev_vars_loop t ht u (i + 1) out (by omega) h3 (by omega))
   ·
    rw [if_neg hm]
    exact evIfn (by simpa using hm) (evIfp (by omega) (ev_vars_loop t ht u (i + 1) (out ++ [c.f0]) (by omega) h3 (by simp; omega)))
  ·
   refine evIfn hk ?_
   rw [hv, if_neg hk]
   exact ev_vars_loop t ht u (i + 1) out (by omega) h3 (by omega)
theorem ev_vars {t : List Cel} (h : checkS t = 0) : Ev (fun k => term_Vars.f k t) (varsS [] t, 0) := by
 have := checkS_len h
 unfold term_Vars.f
 refine Ev.bind (ev_check t) (evIfp h ?_)
 exact ev_vars_loop t (by omega) t 0 [] (by omega) rfl (by simp)
theorem ev_vars_no {t : List Cel} (h : ¬ checkS t = 0) : Ev (fun k => term_Vars.f k t) ([], checkS t) := by
 unfold term_Vars.f
 exact Ev.bind (ev_check t) (evIfn h (Ev.now _))
theorem varsS_len : ∀ (u : List Cel) (out : List ByteArray), (varsS out u).length ≤ out.length + u.length
 | [], out => by simp [varsS]
 | c :: u, out => by
  have hv : varsS out (c :: u) = if kindS c.f0 = 2 then (if c.f0 ∈ out then varsS out u else varsS (out ++ [c.f0]) u) else varsS out u := rfl
  have h1 := varsS_len u out
  have h2 := varsS_len u (out ++ [c.f0])
  rw [hv]
  simp only [List.length_append, List.length_cons, List.length_nil] at h2 ⊢
  split
  ·
   split <;> omega
  ·
   omega
theorem ev_rkids_loop (t : List Cel) (ht : t.length ≤ 64) (hok : ∀ c ∈ t, Okc c) : ∀ (n a : Nat) (out : List (List Cel)), a ≤ t.length → segN (t.drop a) n = some [] → out.length ≤ a →
 Ev (fun k => aumbryref04_Kids.l0 k t out (a : Int)) (out ++ splitT n (t.drop a))
 | 0, a, out, ha, hn, ho => by
  rw [segN_zero] at hn
  injection hn with hn
  have := drop_nil_len ha hn
  refine Ev.step (fun k => (show aumbryref04_Kids.l0 (k + 1) t out (a : Int) = _ from by rw [aumbryref04_Kids.l0])) ?_
  refine evIfn (by omega) ?_
  simp only [splitT, List.append_nil]
  exact Ev.now _
 | n + 1, a, out, ha, hn, ho => by
  obtain ⟨r, hr1, hr2⟩ := segN_split hn
  have hlt := (segN_len hr1).2 (by omega)
  rw [List.length_drop] at hlt
  obtain ⟨q, hq, hqr⟩ := segN_suffix hr1
  rw [List.drop_drop] at hqr
  rw [List.length_drop] at hq
  have hrl : r.length = t.length - (a + q) := by rw [← hqr, List.length_drop]
  have hb : behS t a 1 = ((a + q : Nat) : Int) := by
   unfold behS
   rw [hr1]
   simp only
   omega
  have hq0 : 0 < q := by omega
  have hpart : ((t.take (((a + q : Nat) : Int)).toNat).drop ((a : Int)).toNat : List Cel) = fstT (t.drop a) r := by
   unfold fstT
   rw [List.length_drop]
   simp only [Int.toNat_natCast]
   rw [List.drop_take]
   congr 1
   omega
  have hbh := ev_refBehind t ht hok a ha
  rw [hb] at hbh
  refine Ev.step (fun k => (show aumbryref04_Kids.l0 (k + 1) t out (a : Int) = _ from by rw [aumbryref04_Kids.l0])) ?_
  refine evIfp (by omega) ?_
  refine Ev.bind hbh ?_
  refine evIfp (by omega) (evIfp (by omega) (evIfp (by omega) ?_))
  have hfl : (fstT (t.drop a) r).length = q := by unfold fstT; rw [List.length_take, List.length_drop]; omega
  simp only [hpart]
  refine Ev.bind (evIs (copy_at _ (by omega))) ?_
  refine evIfp (by omega) ?_
  refine Ev.bind hbh ?_
  have := ev_rkids_loop t ht hok n (a + q) (out ++ [fstT (t.drop a) r]) (by omega) (by rw [hqr]; exact hr2) (by simp; omega)
  have e : out ++ splitT (n + 1) (t.drop a) = out ++ [fstT (t.drop a) r] ++ splitT n (t.drop (a + q)) := by
   simp only [splitT, hr1, hqr, List.append_assoc, List.singleton_append]
  rw [e]
  exact this
theorem ev_rkids {c : Cel} {l : List Cel} (h1 : (c :: l).length ≤ 64) (h2 : ∀ x ∈ c :: l, Okc x) (h3 : segN l (ar c) = some []) : Ev (fun k => aumbryref04_Kids.f k (c :: l)) (splitT (ar c) l) := by
 unfold aumbryref04_Kids.f
 exact ev_rkids_loop (c :: l) h1 h2 (ar c) 1 [] (by simp) h3 (by simp)
end Go.Proofs.Ytdlkhpfgkghhmaa.P

-- ==== PL7a
/- Plain laws of chapter 7: ground terms; what is to be done for a term; the state ahead of its first op: the program's answers and the document's. -/
namespace Go.Proofs.Ytdlkhpfgkghhmaa.P
open Go.RowKit Go.Proofs.YtdlkhpfgkghhmaaW.PrintWords
abbrev Opn := S70
abbrev Bnd7 := S104
def gndS (t : List Cel) : Bool := decide (checkS t = 0) && (varsS [] t).isEmpty
theorem len_beq_isEmpty {α : Type} (l : List α) : ((l.length : Int) == 0) = l.isEmpty := by cases l <;> rfl
theorem ev_ground (t : List Cel) : Ev (fun k => rewrite_ground.f k t) (gndS t) := by
 unfold rewrite_ground.f gndS
 by_cases h : checkS t = 0
 ·
  refine Ev.bind (ev_vars h) (evIfp rfl ?_)
  rw [decide_eq_true h, Bool.true_and, ← len_beq_isEmpty]
  exact Ev.now _
 ·
  refine Ev.bind (ev_vars_no h) (evIfn h ?_)
  rw [decide_eq_false h, Bool.false_and]
  exact Ev.now _
theorem varsS_ge : ∀ (u : List Cel) (out : List ByteArray), out.length ≤ (varsS out u).length
 | [], out => Nat.le_refl _
 | c :: l, out => by
  unfold varsS
  by_cases h : kindS c.f0 = 2
  ·
   rw [if_pos h]
   by_cases h2 : c.f0 ∈ out
   ·
    rw [if_pos h2]; exact varsS_ge l out
   ·
    rw [if_neg h2]
    have := varsS_ge l (out ++ [c.f0])
    simp at this
    omega
  ·
   rw [if_neg h]; exact varsS_ge l out
theorem varsS_nil : ∀ (u : List Cel), varsS [] u = [] ↔ ∀ c ∈ u, kindS c.f0 ≠ 2
 | [] => by simp [varsS]
 | c :: l => by
  unfold varsS
  by_cases h : kindS c.f0 = 2
  ·
   rw [if_pos h, if_neg (by simp)]
   refine ⟨fun e => ?_, fun e => absurd h (e c (by simp))⟩
   have := varsS_ge l ([] ++ [c.f0])
   rw [e] at this
   simp at this
  ·
   rw [if_neg h, varsS_nil l]
   simp [h]
theorem gndS_iff {t : List Cel} : gndS t = true ↔ checkS t = 0 ∧ ∀ c ∈ t, kindS c.f0 ≠ 2 := by
 unfold gndS
 rw [Bool.and_eq_true, decide_eq_true_eq, List.isEmpty_iff, varsS_nil]
inductive Po (H : ByteArray → List Cel) : Nat → List Cel → List Opn → Prop
 | nil : Po H 0 [] []
 | have_ {n : Nat} {c : Cel} {l : List Cel} {o : List Opn} : 0 < (H c.f0).length → Po H n l o → Po H (n + 1) (c :: l) (⟨2, z54, H c.f0⟩ :: o)
 | make {n : Nat} {c : Cel} {l1 l2 : List Cel} {o1 o2 : List Opn} : ¬ 0 < (H c.f0).length → Po H (ar c) l1 o1 → Po H n l2 o2 → Po H (n + 1) (c :: (l1 ++ l2)) (o1 ++ ⟨1, c, []⟩ :: o2)
theorem po_of {H : ByteArray → List Cel} : ∀ (m : Nat) (l : List Cel) (n : Nat), l.length ≤ m → (∀ c ∈ l, 0 < (H c.f0).length → ar c = 0) → segN l n = some [] → ∃ o, Po H n l o
 | m, [], n, _, _, h => by
  cases n with
  | zero => exact ⟨[], .nil⟩
  | succ n => cases h
 | 0, c :: l, n, hm, _, h => absurd hm (by simp)
 | m + 1, c :: l, n, hm, hv, h => by
  cases n with
  | zero => rw [segN_zero] at h; injection h with h; cases h
  | succ n =>
   have h' : segN l (n + ar c) = some [] := h
   have hm' : l.length ≤ m := by simpa using hm
   have hv' : ∀ c ∈ l, 0 < (H c.f0).length → ar c = 0 := fun x hx => hv x (List.mem_cons_of_mem _ hx)
   by_cases hc : 0 < (H c.f0).length
   ·
    rw [hv c (List.mem_cons_self ..) hc, Nat.add_zero] at h'
    obtain ⟨o, ho⟩ := po_of m l n hm' hv' h'
    exact ⟨_, .have_ hc ho⟩
   ·
    rw [show n + ar c = ar c + n from Nat.add_comm _ _, segN_add] at h'
    obtain ⟨r, h1, h2⟩ := Option.bind_eq_some_iff.mp h'
    obtain ⟨e, h3⟩ := segN_fst h1
    have hl : (fstT l r).length ≤ m := by rw [e] at hm'; simp at hm'; omega
    have hr : r.length ≤ m := by rw [e] at hm'; simp at hm'; omega
    obtain ⟨o1, p1⟩ := po_of m (fstT l r) (ar c) hl (fun x hx => hv' x (mem_fstT hx)) h3
    obtain ⟨o2, p2⟩ := po_of m r n hr (fun x hx => hv' x (by rw [e]; exact List.mem_append_right _ hx)) h2
    have := Po.make hc p1 p2
    rw [← e] at this
    exact ⟨_, this⟩
theorem po_len {H : ByteArray → List Cel} {n : Nat} {l : List Cel} {o : List Opn} (h : Po H n l o) : o.length = l.length := by
 induction h with
 | nil => rfl
 | have_ _ _ ih => simp [ih]
 | make _ _ _ ih1 ih2 => simp [ih1, ih2]; omega
theorem po_seg {H : ByteArray → List Cel} {n : Nat} {l : List Cel} {o : List Opn} (h : Po H n l o) : (∀ c ∈ l, 0 < (H c.f0).length → ar c = 0) → segN l n = some [] := by
 induction h with
 | nil => intro _; rfl
 | @have_ n c l o hc h ih =>
  intro hv
  show segN l (n + ar c) = some []
  rw [hv c (List.mem_cons_self ..) hc]
  exact ih fun x hx => hv x (List.mem_cons_of_mem _ hx)
 | @make n c l1 l2 o1 o2 hc h1 h2 ih1 ih2 =>
  intro hv
  show segN (l1 ++ l2) (n + ar c) = some []
  rw [Nat.add_comm, segN_add, segN_append l2 (ih1 fun x hx => hv x (by simp [hx]))]
  exact ih2 fun x hx => hv x (by simp [hx])
theorem ev_todoN {H : ByteArray → List Cel} (t : List Cel) (ht : t.length ≤ 64) {n : Nat} {l : List Cel} {o : List Opn} (h : Po H n l o) :
 ∀ (pos : Nat) (q : List Cel) (acc : List Opn), t.drop pos = l ++ q → (∀ c ∈ l, Okc c) → acc.length + o.length ≤ 1000 →
  Ev (fun k => todoN (todoL H t k) n (pos : Int) acc) (acc ++ o, ((pos + l.length : Nat) : Int)) := by
 induction h with
 | nil =>
  intro pos q acc _ _ _
  simp only [todoN, List.append_nil, List.length_nil, Nat.add_zero]
  exact Ev.now _
 | @have_ n c l o hc h ih =>
  intro pos q acc hd hok hs
  obtain ⟨hlt, _, hdr⟩ := drop_cons hd
  have hrd := rd_cel hd
  simp only [List.length_cons] at hs
  simp only [todoN]
  refine Ev.bind (a := (acc ++ [⟨2, z54, H c.f0⟩], (pos : Int) + 1)) ?_ ?_
  ·
   refine Ev.step (fun k => (show todoL H t (k + 1) (pos : Int) acc = _ from by rw [todoL])) ?_
   rw [hrd]
   exact evIfp ⟨by omega, by omega⟩ (evIfp hc (evIfp (by omega) (Ev.now _)))
  ·
   have := ih (pos + 1) q (acc ++ [⟨2, z54, H c.f0⟩]) hdr (fun x hx => hok x (List.mem_cons_of_mem _ hx)) (by simp; omega)
   rw [List.append_assoc, show (pos + 1 + l.length) = (pos + (c :: l).length) by simp; omega] at this
   exact this
 | @make n c l1 l2 o1 o2 hc h1 h2 ih1 ih2 =>
  intro pos q acc hd hok hs
  obtain ⟨hlt, _, hdr⟩ := drop_cons hd
  have hrd := rd_cel hd
  have hoc := hok c (List.mem_cons_self ..)
  simp only [List.length_cons, List.length_append] at hs
  replace hdr : t.drop (pos + 1) = l1 ++ (l2 ++ q) := hdr.trans (List.append_assoc _ _ _)
  simp only [todoN]
  refine Ev.bind (a := (acc ++ o1 ++ [⟨1, c, []⟩], ((pos + 1 + l1.length : Nat) : Int))) ?_ ?_
  ·
   refine Ev.step (fun k => (show todoL H t (k + 1) (pos : Int) acc = _ from by rw [todoL])) ?_
   rw [hrd]
   refine evIfp ⟨by omega, by omega⟩ (evIfn hc (evIfp hoc.hi ?_))
   refine Ev.bind (ih1 (pos + 1) (l2 ++ q) acc hdr (fun x hx => hok x (by simp [hx])) (by omega)) ?_
   exact evIfp (by simp; omega) (Ev.now _)
  ·
   have hdr2 : t.drop (pos + 1 + l1.length) = l2 ++ q := by
    rw [← List.drop_drop, hdr, List.drop_left]
   have := ih2 (pos + 1 + l1.length) q (acc ++ o1 ++ [⟨1, c, []⟩]) hdr2 (fun x hx => hok x (by simp [hx])) (by simp; omega)
   rw [show acc ++ o1 ++ [⟨1, c, []⟩] ++ o2 = acc ++ (o1 ++ ⟨1, c, []⟩ :: o2) by simp, show (pos + 1 + l1.length + l2.length) = (pos + (c :: (l1 ++ l2)).length) by simp; omega] at this
   exact this
theorem ev_todo {H : ByteArray → List Cel} {t : List Cel} (ht : checkS t = 0) {o : List Opn} (h : Po H 1 t o) : Ev (fun k => todoL H t k 0 []) (o, (t.length : Int)) := by
 obtain ⟨h1, h2, _⟩ := checkS_ok ht
 have := ev_todoN t h1 h 0 [] [] (by simp) h2 (by rw [po_len h]; simp; omega)
 obtain ⟨K, hK⟩ := this
 refine ⟨K, fun k hk => ?_⟩
 have h3 := hK k hk
 simp only [todoN, List.nil_append, Nat.zero_add] at h3
 obtain ⟨r, e1, e2⟩ := Option.bind_eq_some_iff.mp h3
 rw [show ((0 : Nat) : Int) = 0 from rfl] at e1
 show todoL H t k 0 [] = _
 rw [e1]
 exact e2
theorem ev_var7 (p : List Cel) : Ev (fun k => aumbryref05_Var.f k p) (match p with | [c] => kindS c.f0 == 2 | _ => false) := by
 unfold aumbryref05_Var.f
 match p with
 | [] => exact evIfn (by simp) (Ev.now _)
 | [c] =>
  refine evIfp (by simp) (evIfp (by simp) ?_)
  exact Ev.bind (ev_refKind c.f0) (Ev.now _)
 | a :: b :: l => exact evIfn (by simp; omega) (Ev.now _)
def Told (H : ByteArray → List Cel) (binds : List Bnd7) (c : Cel) : Prop :=
 ∃ j : Nat, Ev (fun k => aumbryref05_At.f k binds c.f0) (j : Int) ∧ j < binds.length ∧ (rd_T104 binds (j : Int)).f1 = H c.f0 ∧ (H c.f0).length < 5864062014805
theorem ev_rTodo_var {H : ByteArray → List Cel} {binds : List Bnd7} {c : Cel} (hk : kindS c.f0 = 2) (hb : Told H binds c) : Ev (fun k => aumbryref07_Todo.f k [c] binds) [⟨2, z54, H c.f0⟩] := by
 obtain ⟨j, h1, h2, h3, h4⟩ := hb
 refine Ev.step (fun k => (show aumbryref07_Todo.f (k + 1) [c] binds = _ from by rw [aumbryref07_Todo.f])) ?_
 refine Ev.bind (ev_var7 [c]) ?_
 refine evIfp (by show (kindS c.f0 == 2) = true; rw [hk]; rfl) (evIfp (by simp) (Ev.bind h1 (evIfp (by omega) (evIfp (by omega) ?_))))
 rw [h3]
 exact Ev.bind (evIs (copy_at _ h4)) (Ev.now _)
theorem ev_rTodo_make {binds : List Bnd7} {c : Cel} {l : List Cel} {o : List Opn} (hk : kindS c.f0 ≠ 2) (h1 : (c :: l).length ≤ 64) (h2 : ∀ x ∈ c :: l, Okc x) (h3 : segN l (ar c) = some [])
 (hl : Ev (fun k => aumbryref07_Todo.l0 k (c :: l) binds [] (splitT (ar c) l) ((splitT (ar c) l).length : Int) 0) o) : Ev (fun k => aumbryref07_Todo.f k (c :: l) binds) o := by
 refine Ev.step (fun k => (show aumbryref07_Todo.f (k + 1) (c :: l) binds = _ from by rw [aumbryref07_Todo.f])) ?_
 refine Ev.bind (ev_var7 (c :: l)) (evIfn ?_ (Ev.bind (ev_rkids h1 h2 h3) hl))
 cases l with
 | nil => simpa using hk
 | cons a l => simp
theorem splitT_cons {n : Nat} {c : Cel} {l1 l2 : List Cel} (h : segN l1 (ar c) = some []) : splitT (n + 1) (c :: (l1 ++ l2)) = (c :: l1) :: splitT n l2 := by
 have h1 : segN (c :: (l1 ++ l2)) 1 = some l2 := by
  show segN (l1 ++ l2) (0 + ar c) = some l2
  rw [Nat.zero_add, segN_append l2 h, List.nil_append]
 simp only [splitT, h1]
 congr 1
 unfold fstT
 rw [show (c :: (l1 ++ l2)).length - l2.length = (c :: l1).length by simp; omega, show c :: (l1 ++ l2) = (c :: l1) ++ l2 from rfl, List.take_left]
theorem ev_rTodo_kids {H : ByteArray → List Cel} (binds : List Bnd7) {n : Nat} {l : List Cel} {o : List Opn} (h : Po H n l o) :
 (∀ c ∈ l, (0 < (H c.f0).length ↔ kindS c.f0 = 2)) → (∀ c ∈ l, kindS c.f0 = 2 → Told H binds c) → (∀ c ∈ l, Okc c) → l.length ≤ 63 →
 ∀ (c0 : Cel) (rest : List Cel) (kids : List (List Cel)) (i : Nat) (acc : List Opn), kids.length ≤ 64 → i ≤ kids.length → kids.drop i = splitT n l → acc.length + o.length ≤ 1000 →
  Ev (fun k => aumbryref07_Todo.l0 k (c0 :: rest) binds acc kids (kids.length : Int) (i : Int)) (acc ++ o ++ [⟨1, c0, []⟩]) := by
 induction h with
 | nil =>
  intro _ _ _ _ c0 rest kids i acc hk hi hd hs
  have h1 := drop_nil_len hi hd
  refine Ev.step (fun k => (show aumbryref07_Todo.l0 (k + 1) (c0 :: rest) binds acc kids (kids.length : Int) (i : Int) = _ from by rw [aumbryref07_Todo.l0])) ?_
  refine evIfn (by omega) (evIfp (by simp) (evIfp (by simp at hs; omega) ?_))
  rw [List.append_nil]
  exact Ev.now _
 | @have_ n c l o hc h ih =>
  intro hv hb hok hl c0 rest kids i acc hk hi hd hs
  have hk2 := (hv c (List.mem_cons_self ..)).1 hc
  have hoc := hok c (List.mem_cons_self ..)
  have har : ar c = 0 := by unfold ar; rw [hoc.var hk2]; rfl
  rw [show c :: l = c :: ([] ++ l) from rfl, splitT_cons (by rw [har]; rfl)] at hd
  obtain ⟨p1, _, p3⟩ := drop_cons hd
  simp only [List.length_cons] at hs hl
  refine Ev.step (fun k => (show aumbryref07_Todo.l0 (k + 1) (c0 :: rest) binds acc kids (kids.length : Int) (i : Int) = _ from by rw [aumbryref07_Todo.l0])) ?_
  refine evIfp (by omega) (evIfp (by omega) (evIfp (by omega) ?_))
  simp only [rd_trm hd, up_cast i (by omega)]
  refine Ev.bind (ev_rTodo_var hk2 (hb c (List.mem_cons_self ..) hk2)) (evIfp (by simp; omega) ?_)
  have := ih (fun x hx => hv x (List.mem_cons_of_mem _ hx)) (fun x hx => hb x (List.mem_cons_of_mem _ hx)) (fun x hx => hok x (List.mem_cons_of_mem _ hx)) (by omega) c0 rest kids (i + 1) (acc ++ [⟨2, z54, H c.f0⟩]) hk (by omega) p3 (by simp; omega)
  rw [show acc ++ [⟨2, z54, H c.f0⟩] ++ o ++ [⟨1, c0, []⟩] = acc ++ ⟨2, z54, H c.f0⟩ :: o ++ [⟨1, c0, []⟩] by simp] at this
  exact this
 | @make n c l1 l2 o1 o2 hc h1 h2 ih1 ih2 =>
  intro hv hb hok hl c0 rest kids i acc hk hi hd hs
  have hk2 : kindS c.f0 ≠ 2 := fun e => hc ((hv c (List.mem_cons_self ..)).2 e)
  have hv1 : ∀ x ∈ l1, (0 < (H x.f0).length ↔ kindS x.f0 = 2) := fun x hx => hv x (by simp [hx])
  have hseg : segN l1 (ar c) = some [] := po_seg h1 fun x hx hp => by
   have := (hok x (by simp [hx])).var ((hv1 x hx).1 hp)
   unfold ar; rw [this]; rfl
  rw [splitT_cons hseg] at hd
  obtain ⟨p1, _, p3⟩ := drop_cons hd
  simp only [List.length_cons, List.length_append] at hs hl
  have har : ar c ≤ 4 := by have := (hok c (List.mem_cons_self ..)).hi; unfold ar; omega
  have hsl := (splitT_spec (ar c) l1 hseg).2.1
  have hlen1 := po_len h1
  refine Ev.step (fun k => (show aumbryref07_Todo.l0 (k + 1) (c0 :: rest) binds acc kids (kids.length : Int) (i : Int) = _ from by rw [aumbryref07_Todo.l0])) ?_
  refine evIfp (by omega) (evIfp (by omega) (evIfp (by omega) ?_))
  simp only [rd_trm hd, up_cast i (by omega)]
  have T := ih1 hv1 (fun x hx => hb x (by simp [hx])) (fun x hx => hok x (by simp [hx])) (by omega) c l1 (splitT (ar c) l1) 0 [] (by omega) (by omega) (by simp) (by simp; omega)
  refine Ev.bind (ev_rTodo_make hk2 (by simp; omega) (fun x hx => hok x (by rw [← List.cons_append]; exact List.mem_append_left _ hx)) hseg T) (evIfp (by simp; omega) ?_)
  have := ih2 (fun x hx => hv x (by simp [hx])) (fun x hx => hb x (by simp [hx])) (fun x hx => hok x (by simp [hx])) (by omega) c0 rest kids (i + 1) (acc ++ ([] ++ o1 ++ [⟨1, c, []⟩])) hk (by omega) p3 (by simp; omega)
  rw [show acc ++ ([] ++ o1 ++ [⟨1, c, []⟩]) ++ o2 ++ [⟨1, c0, []⟩] = acc ++ (o1 ++ ⟨1, c, []⟩ :: o2) ++ [⟨1, c0, []⟩] by simp] at this
  exact this
theorem ev_rTodo {H : ByteArray → List Cel} (binds : List Bnd7) {t : List Cel} {o : List Opn} (ht : checkS t = 0) (h : Po H 1 t o) (hv : ∀ c ∈ t, (0 < (H c.f0).length ↔ kindS c.f0 = 2)) (hb : ∀ c ∈ t, kindS c.f0 = 2 → Told H binds c) : Ev (fun k => aumbryref07_Todo.f k t binds) o := by
 obtain ⟨g1, g2, g3⟩ := checkS_ok ht
 cases h with
 | @have_ n c l o hc h =>
  cases h
  have hk2 := (hv c (List.mem_cons_self ..)).1 hc
  exact ev_rTodo_var hk2 (hb c (List.mem_cons_self ..) hk2)
 | @make n c l1 l2 o1 o2 hc h1 h2 =>
  cases h2
  rw [List.append_nil] at *
  have hk2 : kindS c.f0 ≠ 2 := fun e => hc ((hv c (List.mem_cons_self ..)).2 e)
  have hseg : segN l1 (ar c) = some [] := by
   have h4 : segN l1 (0 + ar c) = some [] := g3
   rwa [Nat.zero_add] at h4
  have hsl := (splitT_spec (ar c) l1 hseg).2.1
  have har : ar c ≤ 4 := by have := (g2 c (List.mem_cons_self ..)).hi; unfold ar; omega
  simp only [List.length_cons] at g1
  have T := ev_rTodo_kids binds h1 (fun x hx => hv x (by simp [hx])) (fun x hx => hb x (by simp [hx])) (fun x hx => g2 x (by simp [hx])) (by omega) c l1 (splitT (ar c) l1) 0 [] (by omega) (by omega) (by simp) (by rw [po_len h1]; simp; omega)
  exact ev_rTodo_make hk2 (by simp; omega) g2 hseg T
theorem rd_opn {t : List Opn} {n : Nat} {c : Opn} {s : List Opn} (h : t.drop n = c :: s) : rd_T70 t (n : Int) = c := by
 have := (drop_cons h).2.1 z70
 unfold rd_T70
 simpa using this
end Go.Proofs.Ytdlkhpfgkghhmaa.P

-- ==== PL7c
/- Plain laws of chapter 7: may a state be: what the program answers. -/
namespace Go.Proofs.Ytdlkhpfgkghhmaa.P
open Go.RowKit Go.Proofs.YtdlkhpfgkghhmaaW.PrintWords
def mayS (o : Opn) : Bool := if o.f0 = 1 then (o.f2.isEmpty && (kindS o.f1.f0 == 1) && decide (0 ≤ o.f1.f1) && decide (o.f1.f1 ≤ 4)) else if o.f0 = 2 then (o.f1.f0.toList == ([] : List UInt8) && (o.f1.f1 == 0) && gndS o.f2) else false
theorem ev_may (o : Opn) : Ev (fun k => rewrite_may.f k o.f0 o.f1.f0 o.f1.f1 o.f2) (mayS o) := by
 unfold rewrite_may.f mayS
 by_cases h1 : o.f0 = 1
 ·
  rw [if_pos h1]
  refine evIfp h1 ?_
  by_cases h2 : (o.f2.length : Int) = 0
  ·
   refine evIfp h2 (Ev.bind (ev_kind o.f1.f0) ?_)
   have h2' : o.f2.isEmpty = true := by rw [← len_beq_isEmpty, h2]; rfl
   by_cases h3 : kindS o.f1.f0 = 1
   ·
    refine evIfp h3 ?_
    by_cases h4 : o.f1.f1 ≥ 0
    ·
     refine evIfp h4 ?_
     rw [h2', h3, decide_eq_true h4]
     exact Ev.now _
    ·
     refine evIfn h4 ?_
     rw [decide_eq_false h4]
     simp only [Bool.and_false, Bool.false_and]
     exact Ev.now _
   ·
    refine evIfn h3 ?_
    rw [beq_eq_false_iff_ne.mpr h3]
    simp only [Bool.and_false, Bool.false_and]
    exact Ev.now _
  ·
   refine evIfn h2 ?_
   have h2' : o.f2.isEmpty = false := by rw [← len_beq_isEmpty]; exact beq_eq_false_iff_ne.mpr h2
   rw [h2']
   exact Ev.now _
 ·
  rw [if_neg h1]
  refine evIfn h1 ?_
  by_cases h2 : o.f0 = 2
  ·
   rw [if_pos h2]
   refine evIfp h2 ?_
   by_cases h3 : (o.f1.f0.toList == ([] : List UInt8) && (o.f1.f1 == 0)) = true
   ·
    refine evIfp h3 (Ev.bind (ev_ground o.f2) ?_)
    rw [h3, Bool.true_and]
    exact Ev.now _
   ·
    refine evIfn h3 ?_
    rw [Bool.eq_false_iff.mpr h3]
    exact Ev.now _
  ·
   rw [if_neg h2]
   exact evIfn h2 (Ev.now _)
theorem ev_mayL : ∀ (ops : List Opn), Ev (fun k => mayL k ops) (ops.map mayS)
 | [] => Ev.now _
 | o :: u => Ev.bind (f := fun k b => (mayL k u).bind fun l => some (b :: l)) (ev_may o) (Ev.bind (f := fun k l => some (mayS o :: l)) (ev_mayL u) (Ev.now _))
def cntS : List Opn → Int → Option Int
 | [], n => some n
 | o :: u, n => if (mayS o && decide (o.f1.f1 ≤ n)) = true then cntS u (n + 1 - o.f1.f1) else none
theorem mayS_ar {o : Opn} (h : mayS o = true) : 0 ≤ o.f1.f1 ∧ o.f1.f1 ≤ 4 := by
 unfold mayS at h
 by_cases h1 : o.f0 = 1
 ·
  rw [if_pos h1] at h
  simp only [Bool.and_eq_true, decide_eq_true_eq] at h
  exact ⟨h.1.2, h.2⟩
 ·
  rw [if_neg h1] at h
  by_cases h2 : o.f0 = 2
  ·
   rw [if_pos h2] at h
   simp only [Bool.and_eq_true, beq_iff_eq] at h
   omega
  ·
   rw [if_neg h2] at h; cases h
theorem chkB_cnt (ops : List Opn) (hl : ops.length ≤ 2513169434915) : ∀ (xs : List Nat) (n : Int), (∀ x ∈ xs, x < ops.length) → 0 ≤ n → n + xs.length ≤ 100000000000000 →
 chkB ops (fun x => (ops.map mayS).getD x false) xs n = cntS (xs.map fun x : Nat => rd_T70 ops (x : Int)) n
 | [], n, _, _, _ => rfl
 | x :: u, n, hx, h0, hn => by
  have hxl := hx x (List.mem_cons_self ..)
  have h1 : (ops.map mayS).getD x false = mayS (rd_T70 ops (x : Int)) := by
   unfold rd_T70
   simp [List.getD_eq_getElem?_getD, hxl]
  simp only [List.length_cons] at hn
  simp only [chkB, List.map_cons, cntS, h1]
  have ea : arOf ops x = (rd_T70 ops (x : Int)).f1.f1 := rfl
  by_cases hm : mayS (rd_T70 ops (x : Int)) = true
  ·
   have ha := mayS_ar hm
   rw [hm, if_pos rfl, Bool.true_and]
   by_cases hg : (rd_T70 ops (x : Int)).f1.f1 > n
   ·
    rw [if_pos (show arOf ops x > n from hg), if_neg (by simp; omega)]
   ·
    rw [if_neg (show ¬ arOf ops x > n from hg), if_pos (by simp; omega), ea, wrap_id (i := 1 - _) (by omega) (by omega), wrap_id (by omega) (by omega)]
    rw [show n + (1 - (rd_T70 ops (x : Int)).f1.f1) = n + 1 - (rd_T70 ops (x : Int)).f1.f1 by omega]
    exact chkB_cnt ops hl u _ (fun y hy => hx y (List.mem_cons_of_mem _ hy)) (by omega) (by omega)
  ·
   rw [Bool.eq_false_iff.mpr hm, Bool.false_and]
   rw [if_neg (by decide), if_neg (by decide)]
theorem range_rd (ops : List Opn) : ((List.range ops.length).reverse.map fun x : Nat => rd_T70 ops (x : Int)) = ops.reverse := by
 rw [List.map_reverse]
 congr 1
 apply List.ext_getElem
 ·
  simp
 ·
  intro i h1 h2
  simp [rd_T70, h2]
def hdsS : Option ByteArray → List ByteArray → Bool
 | _, [] => true
 | p, h :: u => (kindS h == 1) && (okH p h && hdsS (some h) u)
def rightS (ops : List Opn) (vals : List (List Cel)) (st : Int) (hd : List ByteArray) : Bool := match cntS ops.reverse (vals.length : Int) with
 | none => false
 | some m => vals.all gndS && (hdsS none hd && ((m == 1) && decide (st ≥ 0)))
theorem ev_idxF : ∀ (vals : List (List Cel)) (i : Int), 0 ≤ i → ∃ j, Ev (fun k => idxF k vals i) j ∧ (vals.all gndS = true → j = -1) ∧ (¬ vals.all gndS = true → 0 ≤ j)
 | [], i, h0 => ⟨-1, Ev.now _, fun _ => rfl, fun h => absurd rfl h⟩
 | v :: u, i, h0 => by
  by_cases h : gndS v = true
  ·
   obtain ⟨j, h1, h2, h3⟩ := ev_idxF u (i + 1) (by omega)
   refine ⟨j, Ev.bind (f := fun k b => if b = true then idxF k u (i + 1) else some i) (ev_ground v) (evIfp h h1), ?_, ?_⟩
   ·
    simpa [h] using h2
   ·
    simpa [h] using h3
  ·
   refine ⟨i, Ev.bind (f := fun k b => if b = true then idxF k u (i + 1) else some i) (ev_ground v) (evIfn h (Ev.now _)), ?_, fun _ => h0⟩
   intro e
   simp only [List.all_cons, Bool.and_eq_true] at e
   exact absurd e.1 h
theorem ev_hdsF : ∀ (hd : List ByteArray) (p : Option ByteArray), Ev (fun k => hdsF k p hd) (if hdsS p hd = true then 0 else 3)
 | [], p => by rw [if_pos (by cases p <;> rfl)]; cases p <;> exact Ev.now _
 | h :: u, p => by
  refine Ev.congr (f := fun k => (name_Kind.f k h).bind fun c => if c = 1 then (if okH p h = true then hdsF k (some h) u else some 3) else some 3) (fun k => by cases p <;> rfl) ?_
  have e : hdsS p (h :: u) = ((kindS h == 1) && (okH p h && hdsS (some h) u)) := by cases p <;> rfl
  rw [e]
  refine Ev.bind (ev_kind h) ?_
  by_cases h1 : kindS h = 1
  ·
   refine evIfp h1 ?_
   rw [h1]
   by_cases h2 : okH p h = true
   ·
    refine evIfp h2 ?_
    rw [h2]
    exact ev_hdsF u (some h)
   ·
    refine evIfn h2 ?_
    rw [Bool.eq_false_iff.mpr h2]
    exact Ev.now _
  ·
   refine evIfn h1 ?_
   rw [beq_eq_false_iff_ne.mpr h1]
   exact Ev.now _
theorem ev_chk (ops : List Opn) (vals : List (List Cel)) (st : Int) (hd : List ByteArray) (hl : ops.length ≤ 2513169434915) (hv : vals.length ≤ 5864062014804) : Ev (fun k => chkF k ops vals st hd) (if rightS ops vals st hd = true then 0 else 3) := by
 unfold chkF
 refine Ev.bind (ev_mayL ops) ?_
 rw [chkB_cnt ops hl _ _ (fun x hx => by simpa using hx) (by omega) (by simp; omega), range_rd]
 unfold rightS
 cases cntS ops.reverse (vals.length : Int) with
 | none => exact Ev.now _
 | some m =>
  show Ev (fun k => if m = 1 then (if st < 0 then some 3 else (idxF k vals 0).bind fun i => if 0 ≤ i then some 3 else hdsF k none hd) else some 3) (if (vals.all gndS && (hdsS none hd && ((m == 1) && decide (st ≥ 0)))) = true then 0 else 3)
  by_cases h1 : m = 1
  ·
   refine evIfp h1 ?_
   by_cases h2 : st < 0
   ·
    refine evIfp h2 ?_
    rw [decide_eq_false (show ¬ st ≥ 0 by omega)]
    simp only [Bool.and_false]
    exact Ev.now _
   ·
    refine evIfn h2 ?_
    obtain ⟨j, g1, g2, g3⟩ := ev_idxF vals 0 (by omega)
    refine Ev.bind g1 ?_
    rw [decide_eq_true (show st ≥ 0 by omega), h1]
    by_cases h3 : vals.all gndS = true
    ·
     rw [g2 h3, h3]
     refine evIfn (by omega) ?_
     have := ev_hdsF hd none
     simpa using this
    ·
     refine evIfp (g3 h3) ?_
     rw [Bool.eq_false_iff.mpr h3]
     exact Ev.now _
  ·
   refine evIfn h1 ?_
   rw [beq_eq_false_iff_ne.mpr h1]
   simp only [Bool.and_false, Bool.false_and]
   exact Ev.now _
end Go.Proofs.Ytdlkhpfgkghhmaa.P

-- ==== PL7r
/- Plain laws of chapter 6: whether a rule may be: the program's answer and the document's come to one function. -/
namespace Go.Proofs.Ytdlkhpfgkghhmaa.P
open Go.RowKit Go.Proofs.YtdlkhpfgkghhmaaW.PrintWords
abbrev zc : Cel := z54
def ruleS (id : Int) (l r : List Cel) : Int := if id < 0 then 1 else if id > 65535 then 1 else if checkS l = 0 then (if checkS r = 0 then (if l.length > 8 then 6 else if r.length > 8 then 6 else
 if kindS (l.getD 0 zc).f0 = 2 then 20 else if (varsS [] r).all (fun v => decide (v ∈ varsS [] l)) = true then 0 else 7) else checkS r) else checkS l
theorem ev_strF (vl : List ByteArray) (hl : vl.length ≤ 9223372036854775806) : ∀ vr : List ByteArray, Ev (fun k => strF k vl vr) (!(vr.all (fun v => decide (v ∈ vl))))
 | [] => Ev.now _
 | v :: u => by
  have e : (fun k => strF k vl (v :: u)) = (fun k => (slices_Contains_string_string.f k vl v).bind fun b => if b = true then strF k vl u else some true) := rfl
  rw [e]
  refine Ev.bind (ev_contains vl v hl) ?_
  by_cases hv : v ∈ vl
  ·
   refine evIfp (decide_eq_true hv) ?_
   have : (v :: u).all (fun v => decide (v ∈ vl)) = u.all (fun v => decide (v ∈ vl)) := by simp [hv]
   rw [this]
   exact ev_strF vl hl u
  ·
   refine evIfn (by simpa using hv) ?_
   have : (v :: u).all (fun v => decide (v ∈ vl)) = false := by simp [hv]
   rw [this]
   exact Ev.now _
theorem cons_term {t : List Cel} (h : checkS t = 0) : ∃ c l, t = c :: l ∧ segN l (ar c) = some [] := by
 obtain ⟨_, _, h3⟩ := checkS_ok h
 cases t with
 | nil => cases h3
 | cons c l =>
  refine ⟨c, l, rfl, ?_⟩
  have h4 : segN l (0 + ar c) = some [] := h3
  rwa [Nat.zero_add] at h4
theorem ok_pos {l : List Cel} (h : checkS l = 0) : 0 < l.length := by
 obtain ⟨c, u, rfl, _⟩ := cons_term h
 simp
theorem vars_len {l : List Cel} (h : checkS l = 0) : (varsS [] l).length ≤ 64 := by
 have := varsS_len l []
 have := checkS_len h
 simp only [List.length_nil] at *
 omega
theorem ev_rch (id : Int) (l r : List Cel) : Ev (fun k => rule_Check.f k id l r) (ruleS id l r) := by
 unfold rule_Check.f rchF ruleS
 by_cases h1 : id < 0
 ·
  simp only [if_pos h1]; exact Ev.now _
 simp only [if_neg h1]
 by_cases h2 : id > 65535
 ·
  simp only [if_pos h2]; exact Ev.now _
 simp only [if_neg h2]
 refine Ev.bind (ev_check l) ?_
 by_cases h3 : checkS l = 0
 case neg =>
  refine evIfn h3 ?_
  rw [if_neg h3]
  exact Ev.now _
 refine evIfp h3 ?_
 rw [if_pos h3]
 refine Ev.bind (ev_check r) ?_
 by_cases h4 : checkS r = 0
 case neg =>
  refine evIfn h4 ?_
  rw [if_neg h4]
  exact Ev.now _
 refine evIfp h4 ?_
 rw [if_pos h4]
 by_cases h5 : l.length > 8
 ·
  simp only [if_pos h5]; exact Ev.now _
 simp only [if_neg h5]
 by_cases h6 : r.length > 8
 ·
  simp only [if_pos h6]; exact Ev.now _
 simp only [if_neg h6]
 refine evIfp (ok_pos h3) ?_
 refine Ev.bind (ev_kind _) ?_
 have e : rd_T54 l 0 = l.getD 0 zc := rfl
 rw [e]
 by_cases h7 : kindS (l.getD 0 zc).f0 = 2
 ·
  refine evIfp h7 ?_
  rw [if_pos h7]
  exact Ev.now _
 refine evIfn h7 ?_
 rw [if_neg h7]
 refine Ev.bind (ev_vars h3) (Ev.bind (ev_vars h4) ?_)
 refine Ev.bind (ev_strF (varsS [] l) (by have := vars_len h3; omega) (varsS [] r)) ?_
 by_cases h8 : (varsS [] r).all (fun v => decide (v ∈ varsS [] l)) = true
 ·
  rw [if_pos h8, h8]
  exact Ev.now _
 ·
  have h9 : (varsS [] r).all (fun v => decide (v ∈ varsS [] l)) = false := by simpa using h8
  rw [if_neg h8, h9]
  exact Ev.now _
theorem ruleS_ok {id : Int} {l r : List Cel} (h : ruleS id l r = 0) : checkS l = 0 ∧ checkS r = 0 ∧ l.length ≤ 8 ∧ r.length ≤ 8 ∧ kindS (l.getD 0 zc).f0 ≠ 2 ∧ (∀ v ∈ varsS [] r, v ∈ varsS [] l) ∧ 0 ≤ id ∧ id ≤ 65535 := by
 unfold ruleS at h
 by_cases h1 : id < 0
 ·
  rw [if_pos h1] at h; cases h
 rw [if_neg h1] at h
 by_cases h2 : id > 65535
 ·
  rw [if_pos h2] at h; cases h
 rw [if_neg h2] at h
 by_cases h3 : checkS l = 0
 case neg => rw [if_neg h3] at h; exact absurd h h3
 rw [if_pos h3] at h
 by_cases h4 : checkS r = 0
 case neg => rw [if_neg h4] at h; exact absurd h h4
 rw [if_pos h4] at h
 by_cases h5 : l.length > 8
 ·
  rw [if_pos h5] at h; cases h
 rw [if_neg h5] at h
 by_cases h6 : r.length > 8
 ·
  rw [if_pos h6] at h; cases h
 rw [if_neg h6] at h
 by_cases h7 : kindS (l.getD 0 zc).f0 = 2
 ·
  rw [if_pos h7] at h; cases h
 rw [if_neg h7] at h
 by_cases h8 : (varsS [] r).all (fun v => decide (v ∈ varsS [] l)) = true
 case neg => rw [if_neg h8] at h; cases h
 exact ⟨h3, h4, by omega, by omega, h7, fun v hv => of_decide_eq_true (List.all_eq_true.1 h8 v hv), by omega, by omega⟩
theorem rcopy_at (id : Int) (l r : List Cel) (hl : l.length < 5864062014805) (hr : r.length < 5864062014805) : aumbryref06_Copy.f id l r = some (id, l, r) := by
 unfold aumbryref06_Copy.f
 rw [copy_at l hl]
 simp only [Option.bind_some]
 rw [copy_at r hr]
 rfl
end Go.Proofs.Ytdlkhpfgkghhmaa.P

-- ==== PL7t
/- Plain laws of chapter 7: may rules be used together: the program's answer and the document's; copies of rules. -/
namespace Go.Proofs.Ytdlkhpfgkghhmaa.P
open Go.RowKit Go.Proofs.YtdlkhpfgkghhmaaW.PrintWords
abbrev Rul := S73
theorem rd_rul {t : List Rul} {n : Nat} {c : Rul} {s : List Rul} (h : t.drop n = c :: s) : rd_T73 t (n : Int) = c := by
 have := (drop_cons h).2.1 z73
 unfold rd_T73
 simpa using this
def chkAll : List Rul → Int
 | [] => 0
 | r :: u => if ruleS r.f0 r.f1 r.f2 = 0 then chkAll u else ruleS r.f0 r.f1 r.f2
def ordP : Option Rul → List Rul → Bool
 | _, [] => true
 | none, b :: u => ordP (some b) u
 | some a, b :: u => decide (a.f0 < b.f0) && ordP (some b) u
def togS (l : List Rul) : Int := if chkAll l = 0 then (if ordP none l = true then 0 else 19) else chkAll l
theorem chkAll_ok : ∀ {l : List Rul}, chkAll l = 0 → ∀ r ∈ l, ruleS r.f0 r.f1 r.f2 = 0
 | [], _, r, hr => by cases hr
 | a :: u, h, r, hr => by
  unfold chkAll at h
  by_cases h1 : ruleS a.f0 a.f1 a.f2 = 0
  ·
   rw [if_pos h1] at h
   rcases List.mem_cons.1 hr with rfl | hr
   ·
    exact h1
   ·
    exact chkAll_ok h r hr
  ·
   rw [if_neg h1] at h; exact absurd h h1
theorem togS_ok {l : List Rul} (h : togS l = 0) : ∀ r ∈ l, ruleS r.f0 r.f1 r.f2 = 0 := by
 unfold togS at h
 by_cases h1 : chkAll l = 0
 ·
  exact chkAll_ok h1
 ·
  rw [if_neg h1] at h; exact absurd h h1
theorem ev_tog1 (l : List Rul) (hl : l.length ≤ 2513169434915) : ∀ (u : List Rul) (i : Nat) (a : Rul), 1 ≤ i → i ≤ l.length → l.drop i = u → rd_T73 l ((i : Int) - 1) = a → Ev (fun k => rewrite_together.l1 k l (i : Int)) (if ordP (some a) u = true then 0 else 19)
 | [], i, a, h0, hi, hu, ha => by
  have h1 := drop_nil_len hi hu
  refine Ev.step (fun k => (show rewrite_together.l1 (k + 1) l (i : Int) = _ from by rw [rewrite_together.l1])) ?_
  exact evIfn (by omega) (Ev.now _)
 | b :: u, i, a, h0, hi, hu, ha => by
  obtain ⟨h1, h2, h3⟩ := drop_cons hu
  refine Ev.step (fun k => (show rewrite_together.l1 (k + 1) l (i : Int) = _ from by rw [rewrite_together.l1])) ?_
  simp only [rd_rul hu, up_cast i (by omega), wrap_id (i := (i : Int) - 1) (by omega) (by omega), ha]
  refine evIfp (by omega) (evIfp (by omega) (evIfp (by omega) (evIfp (by omega) ?_)))
  by_cases g : a.f0 ≥ b.f0
  ·
   refine evIfp g ?_
   rw [if_neg (by simp [ordP]; omega)]
   exact Ev.now _
  ·
   refine evIfn g ?_
   have e : ordP (some a) (b :: u) = ordP (some b) u := by simp only [ordP]; rw [decide_eq_true (by omega), Bool.true_and]
   rw [e]
   exact ev_tog1 l hl u (i + 1) b (by omega) (by omega) h3 (by rw [show ((i + 1 : Nat) : Int) - 1 = (i : Int) by omega]; exact rd_rul hu)
theorem ev_tog0 (l : List Rul) (hl : l.length ≤ 2513169434915) (R : Int) (hR : Ev (fun k => rewrite_together.l1 k l 1) R) : ∀ (u : List Rul) (i : Nat), i ≤ l.length → l.drop i = u → Ev (fun k => rewrite_together.l0 k l l (l.length : Int) (i : Int)) (if chkAll u = 0 then R else chkAll u)
 | [], i, hi, hu => by
  have h1 := drop_nil_len hi hu
  refine Ev.step (fun k => (show rewrite_together.l0 (k + 1) l l (l.length : Int) (i : Int) = _ from by rw [rewrite_together.l0])) ?_
  exact evIfn (by omega) hR
 | b :: u, i, hi, hu => by
  obtain ⟨h1, h2, h3⟩ := drop_cons hu
  refine Ev.step (fun k => (show rewrite_together.l0 (k + 1) l l (l.length : Int) (i : Int) = _ from by rw [rewrite_together.l0])) ?_
  simp only [rd_rul hu, up_cast i (by omega)]
  refine evIfp (by omega) (evIfp (by omega) (evIfp (by omega) (Ev.bind (ev_rch b.f0 b.f1 b.f2) ?_)))
  by_cases g : ruleS b.f0 b.f1 b.f2 = 0
  ·
   refine evIfp g ?_
   rw [show chkAll (b :: u) = chkAll u by simp only [chkAll, if_pos g]]
   exact ev_tog0 l hl R hR u (i + 1) (by omega) h3
  ·
   refine evIfn g ?_
   rw [show chkAll (b :: u) = ruleS b.f0 b.f1 b.f2 by simp only [chkAll, if_neg g], if_neg g]
   exact Ev.now _
theorem ev_tog (l : List Rul) (hl : l.length ≤ 2513169434915) : Ev (fun k => rewrite_together.f k l) (togS l) := by
 unfold rewrite_together.f togS
 refine ev_tog0 l hl (if ordP none l = true then 0 else 19) ?_ l 0 (by omega) rfl
 cases l with
 | nil =>
  refine Ev.step (fun k => (show rewrite_together.l1 (k + 1) [] 1 = _ from by rw [rewrite_together.l1])) ?_
  exact evIfn (by simp) (Ev.now _)
 | cons a u => exact ev_tog1 (a :: u) hl u 1 a (by omega) (by simp) rfl rfl
theorem ev_rules_loop (l : List Rul) (hl : l.length ≤ 2513169434915) (hs : ∀ r ∈ l, r.f1.length < 5864062014805 ∧ r.f2.length < 5864062014805) : ∀ (u : List Rul) (i : Nat) (x : List Rul), i ≤ l.length → l.drop i = u → x = l.take i →
 Ev (fun k => aumbryref06_CopyAll.l0 k l x (l.length : Int) (i : Int)) l
 | [], i, x, hi, hu, hx => by
  have h1 := drop_nil_len hi hu
  refine Ev.step (fun k => (show aumbryref06_CopyAll.l0 (k + 1) l x (l.length : Int) (i : Int) = _ from by rw [aumbryref06_CopyAll.l0])) ?_
  refine evIfn (by omega) ?_
  have : x = l := by rw [hx, h1, List.take_length]
  rw [this]
  exact Ev.now _
 | a :: u, i, x, hi, hu, hx => by
  obtain ⟨h1, h2, h3⟩ := drop_cons hu
  refine Ev.step (fun k => (show aumbryref06_CopyAll.l0 (k + 1) l x (l.length : Int) (i : Int) = _ from by rw [aumbryref06_CopyAll.l0])) ?_
  refine evIfp (by omega) (evIfp (by omega) (evIfp (by omega) ?_))
  simp only [rd_rul hu, up_cast i (by omega)]
  have hm : a ∈ l := List.mem_of_mem_drop (hu ▸ List.mem_cons_self ..)
  refine Ev.bind (evIs (rcopy_at a.f0 a.f1 a.f2 (hs a hm).1 (hs a hm).2)) ?_
  have hxl : x.length = i := by rw [hx, List.length_take]; omega
  refine evIfp (by omega) ?_
  refine ev_rules_loop l hl hs u (i + 1) (x ++ [a]) (by omega) h3 ?_
  rw [hx, List.take_succ_eq_append_getElem h1]
  have := h2 a
  rw [List.getD_eq_getElem?_getD, List.getElem?_eq_getElem h1] at this
  rw [show l[i] = a from this]
theorem ev_rules (l : List Rul) (hl : l.length ≤ 2513169434915) (hs : ∀ r ∈ l, r.f1.length < 5864062014805 ∧ r.f2.length < 5864062014805) : Ev (fun k => aumbrylaw07_rules.f k l) l := by
 unfold aumbrylaw07_rules.f
 exact Ev.bind (show Ev (fun k => aumbryref06_CopyAll.f k l) l from ev_rules_loop l hl hs l 0 [] (by omega) rfl rfl) (Ev.now _)
end Go.Proofs.Ytdlkhpfgkghhmaa.P

-- ==== PQ7c
/- Plain laws, part c: where a pattern fits: along the cells, and part by part. -/
namespace Go.Proofs.Ytdlkhpfgkghhmaa.P.M
open Go.RowKit Go.Proofs.YtdlkhpfgkghhmaaW.PrintWords

abbrev Bnd := S104
def lookB (out : List Bnd) (s : ByteArray) : Option (List Cel) := (out.find? (fun b => decide (b.f0 = s))).map (·.f1)
def fstT (t r : List Cel) : List Cel := t.take (t.length - r.length)
def mat : List Cel → List Cel → List Bnd → Option (List Bnd × List Cel)
 | [], t, out => some (out, t)
 | c :: p, t, out =>
  if kindS c.f0 = 2 then
   match segN t 1 with
   | none => none
   | some r => match lookB out c.f0 with
    | none => mat p r (out ++ [⟨c.f0, fstT t r⟩])
    | some v => if v = fstT t r then mat p r out else none
  else match t with
   | [] => none
   | d :: t' => if d = c then mat p t' out else none

theorem segN_append : ∀ {l r : List Cel} {n : Nat} (q : List Cel), segN l n = some r → segN (l ++ q) n = some (r ++ q)
 | l, r, 0, q, h => by
  rw [segN_zero] at h ⊢
  injection h with h
  rw [h]
 | [], r, n + 1, q, h => by cases h
 | c :: l, r, n + 1, q, h => segN_append (l := l) (r := r) (n := n + ar c) q h
theorem segN_split {t : List Cel} {n : Nat} (h : segN t (n + 1) = some []) : ∃ r, segN t 1 = some r ∧ segN r n = some [] := by
 rw [show n + 1 = 1 + n by omega, segN_add] at h
 cases hr : segN t 1 with
 | none => rw [hr] at h; cases h
 | some r => rw [hr] at h; exact ⟨r, rfl, h⟩
theorem segN_nil_pos {n : Nat} (h : segN [] n = some []) : n = 0 := by
 cases n with
 | zero => rfl
 | succ n => cases h
theorem segN_fst {t r : List Cel} {n : Nat} (h : segN t n = some r) : t = fstT t r ++ r ∧ segN (fstT t r) n = some [] := by
 obtain ⟨m, hm, hd⟩ := segN_suffix h
 have hl : r.length = t.length - m := by rw [← hd, List.length_drop]
 have he : fstT t r = t.take m := by unfold fstT; rw [show t.length - r.length = m by omega]
 rw [he]
 refine ⟨by rw [← hd]; exact (List.take_append_drop m t).symm, ?_⟩
 have : ∀ (l : List Cel) (n m : Nat), m ≤ l.length → segN l n = some (l.drop m) → segN (l.take m) n = some [] := by
  intro l
  induction l with
  | nil =>
   intro n m hm h
   have hm0 : m = 0 := by simpa using hm
   subst hm0
   simpa using h
  | cons c l ih =>
   intro n m hm h
   cases n with
   | zero =>
    rw [segN_zero] at h ⊢
    injection h with h
    have := congrArg List.length h
    simp only [List.length_cons, List.length_drop] at this
    have hm0 : m = 0 := by simp at hm; omega
    rw [hm0]
    rfl
   | succ n =>
    cases m with
    | zero =>
     have := segN_len h
     simp at this
    | succ m =>
     simp only [List.drop_succ_cons] at h
     exact ih (n + ar c) m (by simpa using hm) h
 rw [← hd] at h
 exact this t n m hm h

theorem ev_variable (c : Cel) : Ev (fun k => match_variable.f k c.f0 c.f1) (kindS c.f0 == 2) := by
 unfold match_variable.f
 exact Ev.bind (ev_kind c.f0) (Ev.now _)
theorem ev_end_loop (t : List Cel) (ht : t.length ≤ 64) (hok : ∀ c ∈ t, Okc c) : ∀ (s : List Cel) (a n : Nat) (r : List Cel), a ≤ t.length → t.drop a = s → n ≤ 1 + 4 * a → segN s n = some r →
 Ev (fun k => match_end.l0 k t (a : Int) (n : Int)) ((t.length - r.length : Nat) : Int)
 | s, a, 0, r, ha, hs, hn, hr => by
  refine Ev.step (f := fun _ => some (a : Int)) (fun k => by simp only [match_end.l0]; rw [if_neg (by omega)]) ?_
  rw [segN_zero] at hr
  injection hr with hr
  have : ((t.length - r.length : Nat) : Int) = (a : Int) := by rw [← hr, ← hs, List.length_drop]; omega
  rw [this]
  exact Ev.now _
 | [], a, n + 1, r, ha, hs, hn, hr => by cases hr
 | c :: s, a, n + 1, r, ha, hs, hn, hr => by
  obtain ⟨h1, h2, h3⟩ := drop_cons hs
  have hc : Okc c := hok c (List.mem_of_mem_drop (hs ▸ List.mem_cons_self ..))
  have har : (ar c : Int) = c.f1 := by unfold ar; have := hc.lo; omega
  have hh := hc.hi
  have hl0 := hc.lo
  refine Ev.step (f := fun k => match_end.l0 k t ((a + 1 : Nat) : Int) ((n + ar c : Nat) : Int)) (fun k => ?_) (ev_end_loop t ht hok s (a + 1) (n + ar c) r (by omega) h3 (by omega) hr)
  simp only [match_end.l0]
  rw [if_pos (by omega), if_pos (by omega), if_pos (by omega), rd_cel hs, wrap_up (by omega) (by omega)]
  have e : wrap64 (((n + 1 : Nat) : Int) + wrap64 (c.f1 - 1)) = ((n + ar c : Nat) : Int) := by
   rw [wrap_id (i := c.f1 - 1) (by omega) (by omega), wrap_id (by omega) (by omega)]
   omega
  rw [e]
  rfl
theorem ev_end (t : List Cel) (ht : t.length ≤ 64) (hok : ∀ c ∈ t, Okc c) (a : Nat) (ha : a ≤ t.length) {r : List Cel} (hr : segN (t.drop a) 1 = some r) : Ev (fun k => match_end.f k t (a : Int)) ((t.length - r.length : Nat) : Int) := by
 unfold match_end.f
 exact ev_end_loop t ht hok _ a 1 r ha rfl (by omega) hr
theorem bytes_eq (a b : ByteArray) : a.toList = b.toList ↔ a = b := by
 rw [ByteArray.toList_eq, ByteArray.toList_eq]
 constructor
 ·
  intro h
  cases a; cases b
  simp only [ByteArray.mk.injEq]
  exact Array.toList_inj.1 h
 ·
  intro h
  rw [h]
theorem cel_ne (c d : Cel) : ((!((c.f0.toList) == (d.f0.toList)) || (!(c.f1 == d.f1))) = true) ↔ c ≠ d := by
 cases c with | mk a b => cases d with | mk a' b' =>
 simp only [Bool.or_eq_true, Bool.not_eq_true', beq_eq_false_iff_ne, ne_eq, bytes_eq, S54.mk.injEq]
 by_cases h : a = a' <;> simp [h]
theorem ev_cels_loop (F : Nat → List Cel → List Cel → Int → Int → Option Bool)
 (hF : ∀ k x y n i, F (k + 1) x y n i = if i < n then (if 0 ≤ i then (if i < (x.length : Int) then (if i < (y.length : Int) then (if (!((((rd_T54 x i).f0).toList) == (((rd_T54 y i).f0).toList)) || (!(((rd_T54 x i).f1) == ((rd_T54 y i).f1)))) = true then (some false) else (F k x y n (wrap64 (i + 1)))) else (none)) else (none)) else (none)) else (some true))
 (x y : List Cel) (hl : x.length = y.length) (hb : x.length ≤ 9223372036854775806) : ∀ (s u : List Cel) (a : Nat), a ≤ x.length → x.drop a = s → y.drop a = u → Ev (fun k => F k x y (x.length : Int) (a : Int)) (decide (s = u))
 | [], u, a, ha, hs, hu => by
  have h1 := drop_nil_len ha hs
  have h2 : u = [] := by rw [← hu]; exact List.drop_eq_nil_of_le (by omega)
  refine Ev.step (f := fun _ => some true) (fun k => by rw [hF, if_neg (by omega)]) ?_
  rw [h2]
  exact Ev.now _
 | c :: s, u, a, ha, hs, hu => by
  obtain ⟨h1, _, h3⟩ := drop_cons hs
  rcases u with _ | ⟨d, u⟩
  ·
   have := drop_nil_len (by omega) hu
   omega
  obtain ⟨_, _, h4⟩ := drop_cons hu
  by_cases hcd : c = d
  ·
   refine Ev.step (f := fun k => F k x y (x.length : Int) ((a + 1 : Nat) : Int)) (fun k => by
    rw [hF, if_pos (by omega), if_pos (by omega), if_pos (by omega), if_pos (by omega), rd_cel hs, rd_cel hu, if_neg (fun h => (cel_ne c d).1 h hcd), wrap_up (by omega) (by omega)]
    rfl) ?_
   have : decide (c :: s = d :: u) = decide (s = u) := by subst hcd; simp
   rw [this]
   exact ev_cels_loop F hF x y hl hb s u (a + 1) (by omega) h3 h4
  ·
   refine Ev.step (f := fun _ => some false) (fun k => by
    rw [hF, if_pos (by omega), if_pos (by omega), if_pos (by omega), if_pos (by omega), rd_cel hs, rd_cel hu, if_pos ((cel_ne c d).2 hcd)]) ?_
   have : decide (c :: s = d :: u) = false := by simp [hcd]
   rw [this]
   exact Ev.now _
theorem ev_equal (x y : List Cel) (hb : x.length ≤ 9223372036854775806 ∨ y.length ≤ 9223372036854775806) : Ev (fun k => api_Cell_104.f k x y) (decide (x = y)) := by
 unfold api_Cell_104.f
 by_cases h : (x.length : Int) = (y.length : Int)
 ·
  exact Ev.congr (f := fun k => api_Cell_104.l0 k x y (x.length : Int) ((0 : Nat) : Int)) (fun k => by rw [if_pos h]; rfl) (ev_cels_loop _ (fun k x y n i => rfl) x y (by omega) (by omega) x y 0 (by omega) rfl rfl)
 ·
  refine Ev.congr (f := fun _ => some (decide (x = y))) (fun k => ?_) (Ev.now _)
  rw [if_neg h]
  congr 1
  rw [Eq.comm, decide_eq_false_iff_not]
  rintro rfl
  exact h rfl
theorem ev_refSame4 (x y : List Cel) (hb : x.length ≤ 9223372036854775806 ∨ y.length ≤ 9223372036854775806) : Ev (fun k => aumbryref04_Same.f k x y) (decide (x = y)) := by
 unfold aumbryref04_Same.f
 by_cases h : (x.length : Int) = (y.length : Int)
 ·
  exact Ev.congr (f := fun k => aumbryref04_Same.l0 k x y (x.length : Int) ((0 : Nat) : Int)) (fun k => by rw [if_pos h]; rfl) (ev_cels_loop _ (fun k x y n i => rfl) x y (by omega) (by omega) x y 0 (by omega) rfl rfl)
 ·
  refine Ev.congr (f := fun _ => some (decide (x = y))) (fun k => ?_) (Ev.now _)
  rw [if_neg h]
  congr 1
  rw [Eq.comm, decide_eq_false_iff_not]
  rintro rfl
  exact h rfl
structure MapOk (m : List Cel) (out : List Bnd) : Prop where
 len : m.length = out.length
 has : ∀ s, mapHas m s = (lookB out s).isSome
 at_ : ∀ s v, lookB out s = some v → ∃ j : Nat, mapAt m s = (j : Int) ∧ j < out.length ∧ ∃ b, out[j]? = some b ∧ b.f1 = v
theorem data_eq (a b : ByteArray) : a.data.toList = b.data.toList ↔ a = b := by
 rw [← bytes_eq, ByteArray.toList_eq, ByteArray.toList_eq]
theorem mapOk_nil : MapOk [] [] := ⟨rfl, fun s => rfl, fun s v h => by cases h⟩
theorem mapOk_put {m : List Cel} {out : List Bnd} (h : MapOk m out) (s : ByteArray) (v : List Cel) (hn : lookB out s = none) : MapOk (mapPut m s (out.length : Int)) (out ++ [⟨s, v⟩]) := by
 have hlook : ∀ s', lookB (out ++ [⟨s, v⟩]) s' = if s = s' then some v else lookB out s' := by
  intro s'
  unfold lookB at hn ⊢
  rw [List.find?_append]
  by_cases hs : s = s'
  ·
   subst hs
   rw [if_pos rfl]
   cases hf : out.find? (fun b => decide (b.f0 = s)) with
   | none => simp
   | some b => rw [hf] at hn; cases hn
  ·
   rw [if_neg hs]
   cases hf : out.find? (fun b => decide (b.f0 = s')) with
   | none => simp [hs]
   | some b => simp
 refine ⟨by simp [mapPut, h.len], fun s' => ?_, fun s' v' hv => ?_⟩
 ·
  rw [hlook]
  by_cases hs : s = s'
  ·
   subst hs
   simp [mapHas, mapPut]
  ·
   rw [if_neg hs, ← h.has s']
   have : (s.data.toList == s'.data.toList) = false := by simp only [beq_eq_false_iff_ne, ne_eq, data_eq]; exact hs
   simp only [mapHas, mapPut, List.any_cons, this, Bool.false_or]
 ·
  rw [hlook] at hv
  by_cases hs : s = s'
  ·
   subst hs
   rw [if_pos rfl] at hv
   injection hv with hv
   subst hv
   exact ⟨out.length, by simp [mapAt, mapPut], by simp, ⟨s, v⟩, by simp, rfl⟩
  ·
   rw [if_neg hs] at hv
   obtain ⟨j, h1, h2, b, h3, h4⟩ := h.at_ s' v' hv
   have : (s.data.toList == s'.data.toList) = false := by simp only [beq_eq_false_iff_ne, ne_eq, data_eq]; exact hs
   refine ⟨j, ?_, by simp; omega, b, by rw [List.getElem?_append_left h2]; exact h3, h4⟩
   rw [← h1]
   simp only [mapAt, mapPut, List.find?_cons, this]
def matR (x : Option (List Bnd × List Cel)) : List Bnd × Bool × Int := match x with
 | none => ([], false, 0)
 | some y => (y.1, true, 0)
theorem ev_match_loop (p t : List Cel) (hp : p.length ≤ 64) (ht : t.length ≤ 64) (hokp : ∀ c ∈ p, Okc c) (hokt : ∀ c ∈ t, Okc c) :
 ∀ (s : List Cel) (i a n : Nat) (out : List Bnd) (m : List Cel), i ≤ p.length → a ≤ t.length → p.drop i = s → segN s n = some [] → segN (t.drop a) n = some [] → MapOk m out → out.length ≤ i →
 Ev (fun k => match_Match.l0 k t out m (a : Int) p (p.length : Int) (i : Int)) (matR (mat s (t.drop a) out))
 | [], i, a, n, out, m, hi, ha, hs, hn, hnt, hm, ho => by
  have h1 := drop_nil_len hi hs
  refine Ev.step (f := fun _ => some (out, true, 0)) (fun k => by simp only [match_Match.l0]; rw [if_neg (by omega)]) ?_
  exact Ev.now _
 | c :: s, i, a, n, out, m, hi, ha, hs, hn, hnt, hm, ho => by
  obtain ⟨h1, _, h3⟩ := drop_cons hs
  have hc : Okc c := hokp c (List.mem_of_mem_drop (hs ▸ List.mem_cons_self ..))
  obtain ⟨n, rfl⟩ : ∃ q, n = q + 1 := by
   cases n with
   | zero => rw [segN_zero] at hn; injection hn with hn; cases hn
   | succ n => exact ⟨n, rfl⟩
  have hn' : segN s (n + ar c) = some [] := hn
  obtain ⟨r, hr1, hrn⟩ := segN_split hnt
  have hks := kindS_size hc.kind
  by_cases hv : kindS c.f0 = 2
  ·
   have hac : ar c = 0 := by unfold ar; rw [hc.var hv]; rfl
   rw [hac, Nat.add_zero] at hn'
   obtain ⟨q, hq, hqr⟩ := segN_suffix hr1
   rw [List.drop_drop] at hqr
   rw [List.length_drop] at hq
   have hrl : r.length = t.length - (a + q) := by rw [← hqr, List.length_drop]
   have hpart : ((t.take (((t.length - r.length : Nat) : Int)).toNat).drop ((a : Int)).toNat : List Cel) = fstT (t.drop a) r := by
    unfold fstT
    rw [List.length_drop]
    simp only [Int.toNat_natCast]
    rw [List.drop_take]
    congr 1
    omega
   have hfl : (fstT (t.drop a) r).length = q := by unfold fstT; rw [List.length_take, List.length_drop]; omega
   have hw1 : True → wrap64 ((a : Int) + ((fstT (t.drop a) r).length : Int)) = ((a + q : Nat) : Int) := fun _ => by rw [hfl, wrap_id (by omega) (by omega)]; omega
   have hw2 : True → wrap64 ((i : Int) + 1) = ((i + 1 : Nat) : Int) := fun _ => by rw [wrap_up (by omega) (by omega)]; rfl
   refine Ev.step (fun k => (show match_Match.l0 (k + 1) t out m (a : Int) p (p.length : Int) (i : Int) = _ from by rw [match_Match.l0])) ?_
   refine evIfp (by omega) (evIfp (by omega) (evIfp (by omega) ?_))
   simp only [rd_cel hs]
   refine Ev.bind (ev_variable c) ?_
   refine evIfp (by simp [hv]) ?_
   refine Ev.bind (ev_end t ht hokt a ha hr1) ?_
   refine evIfp (by omega) (evIfp (by omega) (evIfp (by omega) ?_))
   refine Ev.bind (Ev.now _) ?_
   simp only [hpart, hw1 trivial, hw2 trivial]
   refine evIfp (by omega) ?_
   have hmat : mat (c :: s) (t.drop a) out = (match lookB out c.f0 with | none => mat s r (out ++ [⟨c.f0, fstT (t.drop a) r⟩]) | some v => if v = fstT (t.drop a) r then mat s r out else none) := by
    show (if kindS c.f0 = 2 then _ else _) = _
    rw [if_pos hv, hr1]
   rw [hmat]
   cases hl : lookB out c.f0 with
   | none =>
    refine evIfn (by rw [hm.has, hl]; simp) ?_
    have hml := hm.len
    refine evIfp (by omega) ?_
    refine Ev.bind (evIs (clone_at _ (by omega))) ?_
    refine evIfp (by omega) ?_
    have := ev_match_loop p t hp ht hokp hokt s (i + 1) (a + q) n (out ++ [⟨c.f0, fstT (t.drop a) r⟩]) (mapPut m c.f0 (out.length : Int)) (by omega) (by omega) h3 hn' (by rw [hqr]; exact hrn) (mapOk_put hm _ _ hl) (by simp; omega)
    rw [hqr] at this
    exact this
   | some v =>
    obtain ⟨j, hj1, hj2, b, hj3, hj4⟩ := hm.at_ _ _ hl
    have hrd : (rd_T104 out (mapAt m c.f0)).f1 = v := by
     rw [hj1]
     unfold rd_T104
     rw [List.getD_eq_getElem?_getD, Int.toNat_natCast, hj3]
     exact hj4
    refine evIfp (by rw [hm.has, hl]; simp) ?_
    refine evIfp (by omega) (evIfp (by omega) ?_)
    simp only [hrd]
    refine Ev.bind (ev_equal _ _ (.inr (by omega))) ?_
    by_cases he : v = fstT (t.drop a) r
    ·
     refine evIfp (by simpa using he) ?_
     have := ev_match_loop p t hp ht hokp hokt s (i + 1) (a + q) n out m (by omega) (by omega) h3 hn' (by rw [hqr]; exact hrn) hm (by omega)
     rw [hqr] at this
     simp only [he, if_true]
     exact this
    ·
     refine evIfn (by simpa using he) ?_
     simp only [he, if_false]
     exact Ev.now _
  ·
   rcases ht' : t.drop a with _ | ⟨d, u⟩
   ·
    rw [ht'] at hnt
    cases hnt
   obtain ⟨g1, _, g3⟩ := drop_cons ht'
   have hw1 : True → wrap64 ((a : Int) + 1) = ((a + 1 : Nat) : Int) := fun _ => by rw [wrap_up (by omega) (by omega)]; rfl
   have hw2 : True → wrap64 ((i : Int) + 1) = ((i + 1 : Nat) : Int) := fun _ => by rw [wrap_up (by omega) (by omega)]; rfl
   refine Ev.step (fun k => (show match_Match.l0 (k + 1) t out m (a : Int) p (p.length : Int) (i : Int) = _ from by rw [match_Match.l0])) ?_
   refine evIfp (by omega) (evIfp (by omega) (evIfp (by omega) ?_))
   simp only [rd_cel hs, rd_cel ht']
   refine Ev.bind (ev_variable c) ?_
   refine evIfn (by simp [hv]) ?_
   refine evIfp (by omega) (evIfp (by omega) ?_)
   have hmat : mat (c :: s) (d :: u) out = if d = c then mat s u out else none := by
    show (if kindS c.f0 = 2 then _ else _) = _
    rw [if_neg hv]
   rw [hmat]
   by_cases hdc : d = c
   ·
    refine evIfn (fun h => (cel_ne d c).1 h hdc) ?_
    rw [if_pos hdc]
    simp only [hw1 trivial, hw2 trivial]
    have := ev_match_loop p t hp ht hokp hokt s (i + 1) (a + 1) (n + ar c) out m (by omega) (by omega) h3 hn' (by rw [ht'] at hnt; rw [g3, ← hdc]; exact hnt) hm (by omega)
    rw [g3] at this
    exact this
   ·
    refine evIfp ((cel_ne d c).2 hdc) ?_
    rw [if_neg hdc]
    exact Ev.now _
theorem checkS_ok {t : List Cel} (h : checkS t = 0) : t.length ≤ 64 ∧ (∀ c ∈ t, Okc c) ∧ segN t 1 = some [] := by
 unfold checkS at h
 by_cases h1 : t.length > 64
 ·
  rw [if_pos h1] at h
  cases h
 ·
  rw [if_neg h1] at h
  by_cases h2 : errs t = 0
  ·
   rw [if_pos h2] at h
   by_cases h3 : segN t 1 = some []
   ·
    exact ⟨by omega, errs_ok h2, h3⟩
   ·
    rw [if_neg h3] at h
    cases h
  ·
   rw [if_neg h2] at h
   exact absurd h h2
def matchS (p t : List Cel) : List Bnd × Bool × Int := if checkS p = 0 then (if checkS t = 0 then matR (mat p t []) else ([], false, checkS t)) else ([], false, checkS p)
theorem ev_match (p t : List Cel) : Ev (fun k => match_Match.f k p t) (matchS p t) := by
 unfold match_Match.f matchS
 refine Ev.bind (ev_check p) ?_
 by_cases hp : checkS p = 0
 ·
  rw [if_pos hp]
  refine evIfp hp ?_
  refine Ev.bind (ev_check t) ?_
  by_cases ht : checkS t = 0
  ·
   rw [if_pos ht]
   refine evIfp ht ?_
   obtain ⟨p1, p2, p3⟩ := checkS_ok hp
   obtain ⟨t1, t2, t3⟩ := checkS_ok ht
   exact ev_match_loop p t p1 t1 p2 t2 p 0 0 1 [] [] (by omega) (by omega) rfl p3 t3 mapOk_nil (by simp)
  ·
   rw [if_neg ht]
   exact evIfn ht (Ev.now _)
 ·
  rw [if_neg hp]
  exact evIfn hp (Ev.now _)

def splitT : Nat → List Cel → List (List Cel)
 | 0, _ => []
 | n + 1, l => match segN l 1 with
  | none => []
  | some r => fstT l r :: splitT n r
def kidsS : List Cel → List (List Cel)
 | [] => []
 | c :: l => splitT (ar c) l
theorem splitT_spec : ∀ (n : Nat) (l : List Cel), segN l n = some [] → (splitT n l).flatten = l ∧ (splitT n l).length = n ∧ ∀ a ∈ splitT n l, segN a 1 = some []
 | 0, l, h => by
  rw [segN_zero] at h
  injection h with h
  subst h
  exact ⟨rfl, rfl, fun a ha => by cases ha⟩
 | n + 1, l, h => by
  obtain ⟨r, h1, h2⟩ := segN_split h
  obtain ⟨g1, g2, g3⟩ := splitT_spec n r h2
  have hf := segN_fst h1
  simp only [splitT, h1, List.flatten_cons, List.length_cons, List.mem_cons]
  refine ⟨by rw [g1]; exact hf.1.symm, by omega, fun a ha => ?_⟩
  rcases ha with rfl | ha
  ·
   exact hf.2
  ·
   exact g3 a ha
theorem ev_kids_loop (t : List Cel) (ht : t.length ≤ 64) (hok : ∀ c ∈ t, Okc c) : ∀ (n a : Nat) (out : List (List Cel)), a ≤ t.length → segN (t.drop a) n = some [] → out.length ≤ 64 → out.length + n ≤ 64 → 0 < a →
 Ev (fun k => aumbryref04_Kids.l0 k t out (a : Int)) (out ++ splitT n (t.drop a))
 | 0, a, out, ha, hn, ho, hon, hp => by
  rw [segN_zero] at hn
  injection hn with hn
  have := drop_nil_len ha hn
  refine Ev.step (fun k => (show aumbryref04_Kids.l0 (k + 1) t out (a : Int) = _ from by rw [aumbryref04_Kids.l0])) ?_
  refine evIfn (by omega) ?_
  simp only [splitT, List.append_nil]
  exact Ev.now _
 | n + 1, a, out, ha, hn, ho, hon, hp => by
  obtain ⟨r, hr, hrn⟩ := segN_split hn
  have hlt : a < t.length := by
   rcases Nat.lt_or_ge a t.length with h | h
   ·
    exact h
   ·
    rw [List.drop_eq_nil_of_le h] at hr
    cases hr
  obtain ⟨q, hq, hqr⟩ := segN_suffix hr
  rw [List.drop_drop] at hqr
  rw [List.length_drop] at hq
  have hrl : r.length = t.length - (a + q) := by rw [← hqr, List.length_drop]
  have hbeh : behS t a 1 = ((a + q : Nat) : Int) := by unfold behS; rw [hr]; simp only; omega
  have hpart : ((t.take ((((a + q : Nat) : Int)) : Int).toNat).drop (a : Int).toNat) = fstT (t.drop a) r := by
   unfold fstT
   rw [List.length_drop]
   simp only [Int.toNat_natCast]
   rw [List.drop_take]
   congr 1
   omega
  have hfl : (fstT (t.drop a) r).length ≤ 64 := by unfold fstT; rw [List.length_take, List.length_drop]; omega
  refine Ev.step (fun k => (show aumbryref04_Kids.l0 (k + 1) t out (a : Int) = _ from by rw [aumbryref04_Kids.l0])) ?_
  refine evIfp (by omega) ?_
  refine Ev.bind (ev_refBehind t ht hok a ha) ?_
  rw [hbeh]
  refine evIfp (by omega) (evIfp (by omega) (evIfp (by omega) ?_))
  rw [hpart]
  refine Ev.bind (evIs (copy_at _ (by omega))) ?_
  refine evIfp (by omega) ?_
  refine Ev.bind (ev_refBehind t ht hok a ha) ?_
  rw [hbeh]
  have := ev_kids_loop t ht hok n (a + q) (out ++ [fstT (t.drop a) r]) (by omega) (by rw [hqr]; exact hrn) (by simp; omega) (by simp; omega) (by omega)
  have e : out ++ splitT (n + 1) (t.drop a) = out ++ [fstT (t.drop a) r] ++ splitT n (t.drop (a + q)) := by
   simp only [splitT, hr, hqr, List.append_assoc, List.singleton_append]
  rw [e]
  exact this
theorem ev_kids {t : List Cel} (ht : t.length ≤ 64) (hok : ∀ c ∈ t, Okc c) (hs : segN t 1 = some []) : Ev (fun k => aumbryref04_Kids.f k t) (kidsS t) := by
 unfold aumbryref04_Kids.f
 rcases t with _ | ⟨c, l⟩
 ·
  cases hs
 have hc := hok c (List.mem_cons_self ..)
 have hh := hc.hi
 have hs' : segN l (ar c) = some [] := by have : segN l (0 + ar c) = some [] := hs; rwa [Nat.zero_add] at this
 have har : ar c ≤ 4 := by unfold ar; omega
 exact ev_kids_loop (c :: l) ht hok (ar c) 1 [] (by simp) hs' (by simp) (by simp; omega) (by omega)

theorem mat_append : ∀ (p t : List Cel) (n : Nat) (out : List Bnd) (p2 t2 : List Cel), (∀ c ∈ p, Okc c) → segN p n = some [] → segN t n = some [] →
 mat (p ++ p2) (t ++ t2) out = (mat p t out).bind fun x => mat p2 t2 x.1
 | [], t, n, out, p2, t2, hp, h1, h2 => by
  have h0 := segN_nil_pos h1
  subst h0
  rw [segN_zero] at h2
  injection h2 with h2
  subst h2
  rfl
 | c :: p, t, n, out, p2, t2, hp, h1, h2 => by
  have hc := hp c (List.mem_cons_self ..)
  have hp' : ∀ x ∈ p, Okc x := fun x hx => hp x (List.mem_cons_of_mem _ hx)
  obtain ⟨n, rfl⟩ : ∃ q, n = q + 1 := by
   cases n with
   | zero => rw [segN_zero] at h1; injection h1 with h1; cases h1
   | succ n => exact ⟨n, rfl⟩
  have h1' : segN p (n + ar c) = some [] := h1
  show (if kindS c.f0 = 2 then _ else _) = Option.bind (if kindS c.f0 = 2 then _ else _) _
  by_cases hv : kindS c.f0 = 2
  ·
   have hac : ar c = 0 := by unfold ar; rw [hc.var hv]; rfl
   rw [hac, Nat.add_zero] at h1'
   rw [if_pos hv, if_pos hv]
   obtain ⟨q, hq1, hq2⟩ := segN_split h2
   have hf : fstT (t ++ t2) (q ++ t2) = fstT t q := by
    have := segN_len hq1
    unfold fstT
    simp only [List.length_append]
    rw [List.take_append_of_le_length (by omega)]
    congr 1
    omega
   rw [segN_append t2 hq1, hq1]
   simp only [hf]
   cases hl : lookB out c.f0 with
   | none => exact mat_append p q n _ p2 t2 hp' h1' hq2
   | some v =>
    simp only
    by_cases he : v = fstT t q
    ·
     rw [if_pos he, if_pos he]
     exact mat_append p q n _ p2 t2 hp' h1' hq2
    ·
     rw [if_neg he, if_neg he]
     rfl
  ·
   rw [if_neg hv, if_neg hv]
   rcases t with _ | ⟨d, t⟩
   ·
    cases h2
   ·
    show (if d = c then mat (p ++ p2) (t ++ t2) out else none) = Option.bind (if d = c then mat p t out else none) _
    by_cases he : d = c
    ·
     rw [if_pos he, if_pos he]
     subst he
     exact mat_append p t (n + ar d) out p2 t2 hp' h1' h2
    ·
     rw [if_neg he, if_neg he]
     rfl
end Go.Proofs.Ytdlkhpfgkghhmaa.P.M

-- ==== PQ7d
/- Plain laws, part d: the document's Match is the program's. -/
namespace Go.Proofs.Ytdlkhpfgkghhmaa.P.M
open Go.RowKit Go.Proofs.YtdlkhpfgkghhmaaW.PrintWords

theorem rd_bnd {t : List Bnd} {n : Nat} {c : Bnd} {s : List Bnd} (h : t.drop n = c :: s) : rd_T104 t (n : Int) = c := by
 unfold rd_T104
 exact (drop_cons h).2.1 _
theorem rd_trm {t : List (List Cel)} {n : Nat} {c : List Cel} {s : List (List Cel)} (h : t.drop n = c :: s) : rd_L3 t (n : Int) = c := by
 unfold rd_L3
 exact (drop_cons h).2.1 _
theorem up_cast (a : Nat) (h : a < 9223372036854775807) : wrap64 ((a : Int) + 1) = ((a + 1 : Nat) : Int) := by rw [wrap_up (by omega) (by omega)]; rfl

def atS (l : List Bnd) (s : ByteArray) : Int := match l.findIdx? (fun b => decide (b.f0 = s)) with
 | none => -1
 | some j => (j : Int)
theorem ev_at_loop (l : List Bnd) (s : ByteArray) (hl : l.length ≤ 9223372036854775806) : ∀ (u : List Bnd) (a : Nat), a ≤ l.length → l.drop a = u →
 Ev (fun k => aumbryref05_At.l0 k l s (l.length : Int) (a : Int)) (match u.findIdx? (fun b => decide (b.f0 = s)) with | none => -1 | some j => ((a + j : Nat) : Int))
 | [], a, ha, hu => by
  have h1 := drop_nil_len ha hu
  refine Ev.step (fun k => (show aumbryref05_At.l0 (k + 1) l s (l.length : Int) (a : Int) = _ from by rw [aumbryref05_At.l0])) ?_
  exact evIfn (by omega) (Ev.now _)
 | b :: u, a, ha, hu => by
  obtain ⟨h1, _, h3⟩ := drop_cons hu
  refine Ev.step (fun k => (show aumbryref05_At.l0 (k + 1) l s (l.length : Int) (a : Int) = _ from by rw [aumbryref05_At.l0])) ?_
  refine evIfp (by omega) (evIfp (by omega) (evIfp (by omega) ?_))
  simp only [rd_bnd hu, up_cast a (by omega)]
  by_cases hb : b.f0 = s
  ·
   refine evIfp ((bytes_eq _ _).2 hb) ?_
   simp only [List.findIdx?_cons, hb, decide_true, if_true]
   exact Ev.now _
  ·
   refine evIfn (fun h => hb ((bytes_eq _ _).1 h)) ?_
   have := ev_at_loop l s hl u (a + 1) (by omega) h3
   have e : (match (b :: u).findIdx? (fun b => decide (b.f0 = s)) with | none => (-1 : Int) | some j => ((a + j : Nat) : Int)) = (match u.findIdx? (fun b => decide (b.f0 = s)) with | none => -1 | some j => ((a + 1 + j : Nat) : Int)) := by
    simp only [List.findIdx?_cons, hb, decide_false]
    cases u.findIdx? (fun b => decide (b.f0 = s)) with
    | none => rfl
    | some j => show ((a + (j + 1) : Nat) : Int) = ((a + 1 + j : Nat) : Int); omega
   rw [e]
   exact this
theorem ev_at (l : List Bnd) (s : ByteArray) (hl : l.length ≤ 9223372036854775806) : Ev (fun k => aumbryref05_At.f k l s) (atS l s) := by
 unfold aumbryref05_At.f atS
 have := ev_at_loop l s hl l 0 (by omega) rfl
 simp only [Nat.zero_add] at this
 exact this
theorem atS_look (l : List Bnd) (s : ByteArray) : (lookB l s = none ∧ atS l s = -1) ∨ ∃ (j : Nat) (b : Bnd), l[j]? = some b ∧ b.f0 = s ∧ lookB l s = some b.f1 ∧ atS l s = (j : Int) ∧ j < l.length ∧ ∀ i : Nat, i < j → ∀ c, l[i]? = some c → c.f0 ≠ s := by
 unfold lookB atS
 induction l with
 | nil => exact .inl ⟨rfl, rfl⟩
 | cons b l ih =>
  by_cases hb : b.f0 = s
  ·
   refine .inr ⟨0, b, rfl, hb, ?_, ?_, by simp, fun i hi => by omega⟩
   ·
    simp [hb]
   ·
    simp [List.findIdx?_cons, hb]
  ·
   rcases ih with ⟨h1, h2⟩ | ⟨j, c, h1, h2, h3, h4, h5, h6⟩
   ·
    refine .inl ⟨?_, ?_⟩
    ·
     rw [List.find?_cons_of_neg (by simp [hb])]
     exact h1
    ·
     simp only [List.findIdx?_cons, hb, decide_false]
     cases hf : l.findIdx? (fun b => decide (b.f0 = s)) with
     | none => rfl
     | some j => rw [hf] at h2; simp only at h2; omega
   ·
    refine .inr ⟨j + 1, c, by simpa using h1, h2, ?_, ?_, by simp; omega, fun i hi x hx => ?_⟩
    ·
     rw [List.find?_cons_of_neg (by simp [hb])]
     exact h3
    ·
     simp only [List.findIdx?_cons, hb, decide_false]
     cases hf : l.findIdx? (fun b => decide (b.f0 = s)) with
     | none => rw [hf] at h4; simp only at h4; omega
     | some q => rw [hf] at h4; simp only at h4; simp; omega
    ·
     cases i with
     | zero => simp at hx; subst hx; exact hb
     | succ i => exact h6 i (by omega) x (by simpa using hx)
theorem ev_var (p : List Cel) : Ev (fun k => aumbryref05_Var.f k p) (match p with | [c] => kindS c.f0 == 2 | _ => false) := by
 unfold aumbryref05_Var.f
 match p with
 | [] => exact evIfn (by simp) (Ev.now _)
 | [c] =>
  refine evIfp (by simp) (evIfp (by simp) ?_)
  exact Ev.bind (ev_refKind c.f0) (Ev.now _)
 | a :: b :: l => exact evIfn (by simp; omega) (Ev.now _)

def fitL : List (List Cel) → List (List Cel) → List Bnd → Option (List Bnd)
 | [], _, out => some out
 | _ :: _, [], _ => none
 | a :: aa, b :: bb, out => (mat a b out).bind fun x => fitL aa bb x.1
theorem mat_flat : ∀ (aa bb : List (List Cel)) (out : List Bnd), aa.length = bb.length → (∀ a ∈ aa, segN a 1 = some [] ∧ ∀ c ∈ a, Okc c) → (∀ b ∈ bb, segN b 1 = some []) →
 mat aa.flatten bb.flatten out = (fitL aa bb out).map fun o => (o, [])
 | [], [], out, _, _, _ => rfl
 | [], b :: bb, out, h, _, _ => by cases h
 | a :: aa, [], out, h, _, _ => by cases h
 | a :: aa, b :: bb, out, h, ha, hb => by
  have h1 := ha a (List.mem_cons_self ..)
  have h2 := hb b (List.mem_cons_self ..)
  simp only [List.flatten_cons, fitL]
  rw [mat_append a b 1 out aa.flatten bb.flatten h1.2 h1.1 h2]
  cases hm : mat a b out with
  | none => rfl
  | some x =>
   simp only [Option.bind_some]
   exact mat_flat aa bb x.1 (by simpa using h) (fun x hx => ha x (List.mem_cons_of_mem _ hx)) (fun x hx => hb x (List.mem_cons_of_mem _ hx))
theorem mat_len : ∀ (p t : List Cel) (out o : List Bnd) (r : List Cel), mat p t out = some (o, r) → o.length ≤ out.length + p.length
 | [], t, out, o, r, h => by
  have h' : some (out, t) = some (o, r) := h
  injection h' with h'
  injection h' with h' _
  rw [← h']
  simp
 | c :: p, t, out, o, r, h => by
  have h : (if kindS c.f0 = 2 then _ else _) = some (o, r) := h
  by_cases hv : kindS c.f0 = 2
  ·
   rw [if_pos hv] at h
   cases hq : segN t 1 with
   | none => rw [hq] at h; cases h
   | some q =>
    rw [hq] at h
    simp only at h
    cases hl : lookB out c.f0 with
    | none =>
     rw [hl] at h
     have := mat_len p q _ o r h
     simp at this
     simp
     omega
    | some v =>
     rw [hl] at h
     simp only at h
     by_cases he : v = fstT t q
     ·
      rw [if_pos he] at h
      have := mat_len p q _ o r h
      simp
      omega
     ·
      rw [if_neg he] at h
      cases h
  ·
   rw [if_neg hv] at h
   rcases t with _ | ⟨d, t⟩
   ·
    cases h
   ·
    have h9 : (if d = c then mat p t out else none) = some (o, r) := h
    by_cases he : d = c
    ·
     rw [if_pos he] at h9
     have := mat_len p t _ o r h9
     simp
     omega
    ·
     rw [if_neg he] at h9
     cases h9
def sumLen (aa : List (List Cel)) : Nat := (aa.map List.length).sum
theorem sumLen_flat (aa : List (List Cel)) : aa.flatten.length = sumLen aa := by simp [sumLen, List.length_flatten]

theorem ev_fit : ∀ (n : Nat) (p t : List Cel) (l : List Bnd), p.length ≤ n → p.length ≤ 64 → t.length ≤ 64 → (∀ c ∈ p, Okc c) → (∀ c ∈ t, Okc c) → segN p 1 = some [] → segN t 1 = some [] → l.length + p.length ≤ 1000000 →
 ∃ x, Ev (fun k => aumbryref05_Fit.f k p t l) (x, (mat p t l).isSome) ∧ ∀ o r, mat p t l = some (o, r) → x = o
 | 0, p, t, l, hn, hp, ht, hop, hot, hsp, hst, hl => by
  have : p = [] := List.eq_nil_of_length_eq_zero (by omega)
  subst this
  cases hsp
 | n + 1, p, t, l, hn, hp, ht, hop, hot, hsp, hst, hl => by
  rcases p with _ | ⟨c, p⟩
  ·
   cases hsp
  rcases t with _ | ⟨d, t⟩
  ·
   cases hst
  have hc := hop c (List.mem_cons_self ..)
  have hsp' : segN p (ar c) = some [] := by have : segN p (0 + ar c) = some [] := hsp; rwa [Nat.zero_add] at this
  have hst' : segN t (ar d) = some [] := by have : segN t (0 + ar d) = some [] := hst; rwa [Nat.zero_add] at this
  simp only [List.length_cons] at hn hp ht hl
  by_cases hv : kindS c.f0 = 2
  ·
   have hac : ar c = 0 := by unfold ar; rw [hc.var hv]; rfl
   rw [hac, segN_zero] at hsp'
   injection hsp' with hsp'
   subst hsp'
   have hm : mat [c] (d :: t) l = (match lookB l c.f0 with | none => some (l ++ [⟨c.f0, d :: t⟩], []) | some v => if v = d :: t then some (l, []) else none) := by
    show (if kindS c.f0 = 2 then _ else _) = _
    rw [if_pos hv, hst]
    have : fstT (d :: t) [] = d :: t := by unfold fstT; simp
    simp only [this]
    cases lookB l c.f0 with
    | none => rfl
    | some v => rfl
   rw [hm]
   rcases atS_look l c.f0 with ⟨hl1, hl2⟩ | ⟨j, b, h1, h2, h3, h4, h5, _⟩
   ·
    rw [hl1]
    refine ⟨l ++ [⟨c.f0, d :: t⟩], ?_, fun o r h => ?_⟩
    ·
     refine Ev.step (fun k => (show aumbryref05_Fit.f (k + 1) [c] (d :: t) l = _ from by rw [aumbryref05_Fit.f])) ?_
     refine Ev.bind (ev_var [c]) ?_
     refine evIfp (by simp [hv]) (evIfp (by simp) ?_)
     simp only [rd_cel (t := [c]) (n := 0) (c := c) (s := []) rfl, show ((0 : Int)) = ((0 : Nat) : Int) from rfl]
     refine Ev.bind (ev_at l c.f0 (by omega)) ?_
     rw [hl2]
     refine evIfp (by omega) ?_
     refine Ev.bind (evIs (copy_at (d :: t) (by simp; omega))) ?_
     exact evIfp (by omega) (Ev.now _)
    ·
     injection h with h
     injection h with h _
   ·
    rw [h3]
    have hrd : (rd_T104 l (j : Int)).f1 = b.f1 := by
     unfold rd_T104
     rw [List.getD_eq_getElem?_getD, Int.toNat_natCast, h1]
     rfl
    refine ⟨l, ?_, fun o r h => ?_⟩
    ·
     refine Ev.step (fun k => (show aumbryref05_Fit.f (k + 1) [c] (d :: t) l = _ from by rw [aumbryref05_Fit.f])) ?_
     refine Ev.bind (ev_var [c]) ?_
     refine evIfp (by simp [hv]) (evIfp (by simp) ?_)
     simp only [rd_cel (t := [c]) (n := 0) (c := c) (s := []) rfl, show ((0 : Int)) = ((0 : Nat) : Int) from rfl]
     refine Ev.bind (ev_at l c.f0 (by omega)) ?_
     rw [h4]
     refine evIfn (by omega) (evIfp (by omega) (evIfp (by omega) ?_))
     simp only [hrd]
     refine Ev.bind (ev_refSame4 b.f1 (d :: t) (.inr (by simp; omega))) ?_
     have : (match some b.f1 with | none => some (l ++ [(⟨c.f0, d :: t⟩ : Bnd)], ([] : List Cel)) | some v => if v = d :: t then some (l, ([] : List Cel)) else none).isSome = decide (b.f1 = d :: t) := by
      by_cases he : b.f1 = d :: t <;> simp [he]
     rw [this]
     exact Ev.now _
    ·
     simp only at h
     by_cases he : b.f1 = d :: t
     ·
      rw [if_pos he] at h
      injection h with h
      injection h with h _
     ·
      rw [if_neg he] at h
      cases h
  ·
   have hm : mat (c :: p) (d :: t) l = if d = c then mat p t l else none := by
    show (if kindS c.f0 = 2 then _ else _) = _
    rw [if_neg hv]
   rw [hm]
   have hvar : (match (c :: p) with | [c] => kindS c.f0 == 2 | _ => false) = false := by
    rcases p with _ | ⟨a, p⟩
    ·
     simp [hv]
    ·
     rfl
   by_cases hdc : d = c
   ·
    rw [if_pos hdc]
    subst hdc
    obtain ⟨a1, a2, a3⟩ := splitT_spec _ _ hsp'
    obtain ⟨b1, b2, b3⟩ := splitT_spec _ _ hst'
    have hpo : ∀ x ∈ p, Okc x := fun x hx => hop x (List.mem_cons_of_mem _ hx)
    have hto : ∀ x ∈ t, Okc x := fun x hx => hot x (List.mem_cons_of_mem _ hx)
    have hh := hc.hi
    have har : ar d ≤ 4 := by unfold ar; omega
    obtain ⟨aa, has⟩ : ∃ aa, aa = splitT (ar d) p := ⟨_, rfl⟩
    obtain ⟨bb, hbs⟩ : ∃ bb, bb = splitT (ar d) t := ⟨_, rfl⟩
    rw [← has] at a1 a2 a3
    rw [← hbs] at b1 b2 b3
    have hka : kidsS (d :: p) = aa := by rw [has]; rfl
    have hkb : kidsS (d :: t) = bb := by rw [hbs]; rfl
    have haok : ∀ a ∈ aa, segN a 1 = some [] ∧ ∀ c ∈ a, Okc c := fun a ha => ⟨a3 a ha, fun x hx => hpo x (by rw [← a1]; exact List.mem_flatten.2 ⟨a, ha, hx⟩)⟩
    have hbok : ∀ b ∈ bb, segN b 1 = some [] ∧ ∀ c ∈ b, Okc c := fun b hb => ⟨b3 b hb, fun x hx => hto x (by rw [← b1]; exact List.mem_flatten.2 ⟨b, hb, hx⟩)⟩
    have hsum : sumLen aa = p.length := by rw [← sumLen_flat, a1]
    have hsumb : sumLen bb = t.length := by rw [← sumLen_flat, b1]
    have hflat : mat p t l = (fitL aa bb l).map fun o => (o, []) := by
     rw [← a1, ← b1]
     exact mat_flat aa bb l (by omega) haok (fun b hb => (hbok b hb).1)
    have loop : ∀ (A B : List (List Cel)) (i : Nat) (l2 : List Bnd), i ≤ aa.length → aa.drop i = A → bb.drop i = B → l2.length + sumLen A ≤ 1000000 → sumLen A ≤ p.length → sumLen B ≤ t.length →
     ∃ x, Ev (fun k => aumbryref05_Fit.l0 k l2 aa bb (aa.length : Int) (i : Int)) (x, (fitL A B l2).isSome) ∧ ∀ o, fitL A B l2 = some o → x = o := by
     intro A
     induction A with
     | nil =>
      intro B i l2 hi hA hB hl2 _ _
      have := drop_nil_len hi hA
      refine ⟨l2, ?_, fun o h => by injection h⟩
      refine Ev.step (fun k => (show aumbryref05_Fit.l0 (k + 1) l2 aa bb (aa.length : Int) (i : Int) = _ from by rw [aumbryref05_Fit.l0])) ?_
      exact evIfn (by omega) (Ev.now _)
     | cons a A ihA =>
      intro B i l2 hi hA hB hl2 hsA hsB
      obtain ⟨g1, _, g3⟩ := drop_cons hA
      rcases B with _ | ⟨b, B⟩
      ·
       have := drop_nil_len (by omega) hB
       omega
      obtain ⟨g4, _, g6⟩ := drop_cons hB
      have hma : a ∈ aa := List.mem_of_mem_drop (hA ▸ List.mem_cons_self ..)
      have hmb : b ∈ bb := List.mem_of_mem_drop (hB ▸ List.mem_cons_self ..)
      simp only [sumLen, List.map_cons, List.sum_cons] at hl2 hsA hsB
      obtain ⟨x, hx1, hx2⟩ := ev_fit n a b l2 (by omega) (by omega) (by omega) (haok a hma).2 (hbok b hmb).2 (haok a hma).1 (hbok b hmb).1 (by omega)
      cases hab : mat a b l2 with
      | none =>
       rw [hab] at hx1
       refine ⟨[], ?_, fun o h => by simp only [fitL, hab] at h; cases h⟩
       simp only [fitL, hab]
       refine Ev.step (fun k => (show aumbryref05_Fit.l0 (k + 1) l2 aa bb (aa.length : Int) (i : Int) = _ from by rw [aumbryref05_Fit.l0])) ?_
       refine evIfp (by omega) (evIfp (by omega) (evIfp (by omega) (evIfp (by omega) ?_)))
       simp only [rd_trm hA, rd_trm hB]
       refine Ev.bind hx1 ?_
       exact evIfn (by simp) (Ev.now _)
      | some y =>
       obtain ⟨o, r⟩ := y
       rw [hab] at hx1
       have hxo : x = o := hx2 o r hab
       subst hxo
       have hlen := mat_len a b l2 x r hab
       obtain ⟨z, hz1, hz2⟩ := ihA B (i + 1) x (by omega) g3 g6 (by simp only [sumLen]; omega) (by simp only [sumLen]; omega) (by simp only [sumLen]; omega)
       refine ⟨z, ?_, fun o h => hz2 o (by simpa [fitL, hab] using h)⟩
       simp only [fitL, hab, Option.bind_some]
       refine Ev.step (fun k => (show aumbryref05_Fit.l0 (k + 1) l2 aa bb (aa.length : Int) (i : Int) = _ from by rw [aumbryref05_Fit.l0])) ?_
       refine evIfp (by omega) (evIfp (by omega) (evIfp (by omega) (evIfp (by omega) ?_)))
       simp only [rd_trm hA, rd_trm hB, up_cast i (by omega)]
       refine Ev.bind hx1 ?_
       exact evIfp (by simp) hz1
    obtain ⟨x, hx1, hx2⟩ := loop aa bb 0 l (by omega) rfl rfl (by omega) (by omega) (by omega)
    refine ⟨x, ?_, fun o r h => ?_⟩
    ·
     refine Ev.step (fun k => (show aumbryref05_Fit.f (k + 1) (d :: p) (d :: t) l = _ from by rw [aumbryref05_Fit.f])) ?_
     refine Ev.bind (ev_var (d :: p)) ?_
     refine evIfn (by rw [hvar]; simp) (evIfp (by simp) (evIfp (by simp) ?_))
     simp only [rd_cel (t := d :: p) (n := 0) (c := d) (s := p) rfl, rd_cel (t := d :: t) (n := 0) (c := d) (s := t) rfl, show ((0 : Int)) = ((0 : Nat) : Int) from rfl]
     refine evIfn (fun h => (cel_ne d d).1 h rfl) ?_
     refine Ev.bind (ev_kids (t := d :: p) (by simp; omega) hop hsp) ?_
     refine Ev.bind (ev_kids (t := d :: t) (by simp; omega) hot hst) ?_
     rw [hka, hkb]
     have e : (mat p t l).isSome = (fitL aa bb l).isSome := by rw [hflat]; cases fitL aa bb l <;> rfl
     rw [e]
     exact hx1
    ·
     rw [hflat] at h
     cases hf : fitL aa bb l with
     | none => rw [hf] at h; cases h
     | some o2 =>
      rw [hf] at h
      injection h with h
      injection h with h _
      rw [← h]
      exact hx2 o2 hf
   ·
    rw [if_neg hdc]
    refine ⟨[], ?_, fun o r h => by cases h⟩
    refine Ev.step (fun k => (show aumbryref05_Fit.f (k + 1) (c :: p) (d :: t) l = _ from by rw [aumbryref05_Fit.f])) ?_
    refine Ev.bind (ev_var (c :: p)) ?_
    refine evIfn (by rw [hvar]; simp) (evIfp (by simp) (evIfp (by simp) ?_))
    simp only [rd_cel (t := c :: p) (n := 0) (c := c) (s := p) rfl, rd_cel (t := d :: t) (n := 0) (c := d) (s := t) rfl, show ((0 : Int)) = ((0 : Nat) : Int) from rfl]
    exact evIfp ((cel_ne c d).2 (fun h => hdc h.symm)) (Ev.now _)
end Go.Proofs.Ytdlkhpfgkghhmaa.P.M

-- ==== PQ7f
/- Plain laws, part f: what a pattern becomes by binds: the program's Fill is the document's. -/
namespace Go.Proofs.Ytdlkhpfgkghhmaa.P.M
open Go.RowKit Go.Proofs.YtdlkhpfgkghhmaaW.PrintWords

def varsS : List Cel → List ByteArray → List ByteArray
 | [], acc => acc
 | c :: p, acc => if kindS c.f0 = 2 then (if c.f0 ∈ acc then varsS p acc else varsS p (acc ++ [c.f0])) else varsS p acc
theorem mem_varsS : ∀ (p : List Cel) (acc : List ByteArray) (v : ByteArray), v ∈ varsS p acc ↔ v ∈ acc ∨ ∃ c ∈ p, kindS c.f0 = 2 ∧ c.f0 = v
 | [], acc, v => by simp [varsS]
 | c :: p, acc, v => by
  simp only [varsS]
  by_cases hk : kindS c.f0 = 2
  ·
   rw [if_pos hk]
   by_cases hm : c.f0 ∈ acc
   ·
    rw [if_pos hm, mem_varsS p acc v]
    constructor
    ·
     rintro (h | ⟨d, h1, h2⟩)
     ·
      exact .inl h
     ·
      exact .inr ⟨d, List.mem_cons_of_mem _ h1, h2⟩
    ·
     rintro (h | ⟨d, h1, h2, h3⟩)
     ·
      exact .inl h
     ·
      rcases List.mem_cons.1 h1 with rfl | h1
      ·
       exact .inl (h3 ▸ hm)
      ·
       exact .inr ⟨d, h1, h2, h3⟩
   ·
    rw [if_neg hm, mem_varsS p (acc ++ [c.f0]) v]
    simp only [List.mem_append, List.mem_singleton]
    constructor
    ·
     rintro ((h | h) | ⟨d, h1, h2⟩)
     ·
      exact .inl h
     ·
      exact .inr ⟨c, List.mem_cons_self .., hk, h.symm⟩
     ·
      exact .inr ⟨d, List.mem_cons_of_mem _ h1, h2⟩
    ·
     rintro (h | ⟨d, h1, h2, h3⟩)
     ·
      exact .inl (.inl h)
     ·
      rcases List.mem_cons.1 h1 with rfl | h1
      ·
       exact .inl (.inr h3.symm)
      ·
       exact .inr ⟨d, h1, h2, h3⟩
  ·
   rw [if_neg hk, mem_varsS p acc v]
   constructor
   ·
    rintro (h | ⟨d, h1, h2⟩)
    ·
     exact .inl h
    ·
     exact .inr ⟨d, List.mem_cons_of_mem _ h1, h2⟩
   ·
    rintro (h | ⟨d, h1, h2, h3⟩)
    ·
     exact .inl h
    ·
     rcases List.mem_cons.1 h1 with rfl | h1
     ·
      exact absurd h2 hk
     ·
      exact .inr ⟨d, h1, h2, h3⟩
end Go.Proofs.Ytdlkhpfgkghhmaa.P.M

-- ==== PQ7g
/- Plain laws, part g: filling what a match tells gives the term; what is filled is matched; a term matches itself. -/
namespace Go.Proofs.Ytdlkhpfgkghhmaa.P.M
open Go.RowKit Go.Proofs.YtdlkhpfgkghhmaaW.PrintWords

def Ext (a b : List Bnd) : Prop := ∀ s v, lookB a s = some v → lookB b s = some v
theorem Ext.trans {a b c : List Bnd} (h : Ext a b) (g : Ext b c) : Ext a c := fun s v e => g s v (h s v e)
theorem mat_var {c : Cel} {p t r : List Cel} {out : List Bnd} (hv : kindS c.f0 = 2) (hr : segN t 1 = some r) : mat (c :: p) t out = (match lookB out c.f0 with | none => mat p r (out ++ [⟨c.f0, fstT t r⟩]) | some v => if v = fstT t r then mat p r out else none) := by
 show (if kindS c.f0 = 2 then _ else _) = _
 rw [if_pos hv, hr]
 try rfl
theorem mat_var_none {c : Cel} {p t : List Cel} {out : List Bnd} (hv : kindS c.f0 = 2) (hr : segN t 1 = none) : mat (c :: p) t out = none := by
 show (if kindS c.f0 = 2 then _ else _) = _
 rw [if_pos hv, hr]
theorem mat_sym {c d : Cel} {p t : List Cel} {out : List Bnd} (hv : ¬ kindS c.f0 = 2) : mat (c :: p) (d :: t) out = if d = c then mat p t out else none := by
 show (if kindS c.f0 = 2 then _ else _) = _
 rw [if_neg hv]
theorem mat_sym_nil {c : Cel} {p : List Cel} {out : List Bnd} (hv : ¬ kindS c.f0 = 2) : mat (c :: p) [] out = none := by
 show (if kindS c.f0 = 2 then _ else _) = _
 rw [if_neg hv]

theorem lookB_none (l : List Bnd) (s : ByteArray) : lookB l s = none ↔ s ∉ l.map (·.f0) := by
 unfold lookB
 rw [Option.map_eq_none_iff, List.find?_eq_none]
 simp
theorem mat_names : ∀ (p t : List Cel) (out o : List Bnd) (r : List Cel), mat p t out = some (o, r) → o.map (·.f0) = varsS p (out.map (·.f0))
 | [], t, out, o, r, h => by
  have h' : some (out, t) = some (o, r) := h
  injection h' with h'
  injection h' with h1 h2
  rw [← h1]
  rfl
 | c :: p, t, out, o, r, h => by
  by_cases hv : kindS c.f0 = 2
  ·
   cases hq : segN t 1 with
   | none => rw [mat_var_none hv hq] at h; cases h
   | some q =>
    rw [mat_var hv hq] at h
    simp only [varsS, hv, if_true]
    cases hl : lookB out c.f0 with
    | none =>
     rw [hl] at h
     rw [if_neg ((lookB_none _ _).1 hl)]
     have := mat_names p q _ o r h
     simpa using this
    | some v =>
     rw [hl] at h
     simp only at h
     have hm : c.f0 ∈ out.map (·.f0) := by
      by_cases hx : c.f0 ∈ out.map (·.f0)
      ·
       exact hx
      ·
       rw [(lookB_none _ _).2 hx] at hl; cases hl
     rw [if_pos hm]
     by_cases he : v = fstT t q
     ·
      rw [if_pos he] at h
      exact mat_names p q _ o r h
     ·
      rw [if_neg he] at h
      cases h
  ·
   simp only [varsS, hv, if_false]
   rcases t with _ | ⟨d, t⟩
   ·
    rw [mat_sym_nil hv] at h; cases h
   ·
    rw [mat_sym hv] at h
    by_cases he : d = c
    ·
     rw [if_pos he] at h
     exact mat_names p t _ o r h
    ·
     rw [if_neg he] at h; cases h

end Go.Proofs.Ytdlkhpfgkghhmaa.P.M

-- ==== PL7f
/- Plain laws of chapter 7: the first rule that fits: the program's answer and the document's; what fitting binds; terms in which no rule fits. -/
namespace Go.Proofs.Ytdlkhpfgkghhmaa.P
open Go.RowKit Go.Proofs.YtdlkhpfgkghhmaaW.PrintWords
def Rls (rules : List Rul) : Prop := ∀ r ∈ rules, ruleS r.f0 r.f1 r.f2 = 0
def fitS : List Rul → List Cel → Option (Rul × List Bnd7)
 | [], _ => none
 | r :: u, node => match M.mat r.f1 node [] with
  | some x => some (r, x.1)
  | none => fitS u node
theorem fitS_mem : ∀ {rules : List Rul} {node : List Cel} {x : Rul × List Bnd7}, fitS rules node = some x → x.1 ∈ rules ∧ ∃ r, M.mat x.1.f1 node [] = some (x.2, r)
 | [], _, _, h => by cases h
 | r :: u, node, x, h => by
  unfold fitS at h
  cases hm : M.mat r.f1 node [] with
  | some y =>
   rw [hm] at h
   obtain rfl := Option.some.inj h
   exact ⟨List.mem_cons_self .., y.2, hm⟩
  | none =>
   rw [hm] at h
   obtain ⟨h1, h2⟩ := fitS_mem h
   exact ⟨List.mem_cons_of_mem _ h1, h2⟩
theorem rule_head {r : Rul} (h : ruleS r.f0 r.f1 r.f2 = 0) : ∃ c l, r.f1 = c :: l ∧ kindS c.f0 ≠ 2 ∧ segN l (ar c) = some [] := by
 obtain ⟨h1, h2, h3, h4, h5, h6, _, _⟩ := ruleS_ok h
 obtain ⟨c, l, e, hs⟩ := cons_term h1
 rw [e] at h5
 exact ⟨c, l, e, h5, hs⟩
theorem sameCell_iff (c d : Cel) : sameCell c d = true ↔ c = d := by
 unfold sameCell
 simp only [Bool.and_eq_true, beq_iff_eq, bytes_eq]
 constructor
 ·
  intro h; cases c; cases d; simp at h ⊢; exact h
 ·
  intro h; rw [h]; exact ⟨rfl, rfl⟩
theorem ev_fitsF {node : List Cel} (hn : checkS node = 0) : ∀ {rules : List Rul}, Rls rules → Ev (fun k => fitsF k node rules) (fitS rules node)
 | [], _ => Ev.now _
 | r :: u, hr => by
  have hru := hr r (List.mem_cons_self ..)
  have T := ev_fitsF hn (rules := u) (fun x hx => hr x (List.mem_cons_of_mem _ hx))
  obtain ⟨c, l, e, hk, hs⟩ := rule_head hru
  obtain ⟨d, t, en, hsn⟩ := cons_term hn
  have hc := (ruleS_ok hru).1
  refine Ev.congr (f := fun k => if 0 < r.f1.length then (if sameCell (rd_T54 r.f1 0) (rd_T54 node 0) = true then ((match_Match.f k r.f1 node).bind fun m => if m.2.1 = true ∧ m.2.2 = 0 then some (some (r, m.1)) else fitsF k node u) else fitsF k node u) else none) (fun k => rfl) ?_
  refine evIfp (by rw [e]; simp) ?_
  have e1 : rd_T54 r.f1 0 = c := by rw [e]; rfl
  have e2 : rd_T54 node 0 = d := by rw [en]; rfl
  rw [e1, e2]
  by_cases h : sameCell c d = true
  ·
   refine evIfp h (Ev.bind (M.ev_match r.f1 node) ?_)
   unfold M.matchS
   rw [if_pos hc, if_pos hn]
   cases hm : M.mat r.f1 node [] with
   | some x =>
    simp only [M.matR, fitS, hm]
    exact evIfp (by simp) (Ev.now _)
   | none =>
    simp only [M.matR, fitS, hm]
    exact evIfn (by simp) T
  ·
   refine evIfn h ?_
   have hm : M.mat r.f1 node [] = none := by
    rw [e, en, M.mat_sym hk, if_neg (fun q => h ((sameCell_iff c d).2 q.symm))]
   simp only [fitS, hm]
   exact T
theorem ev_first_loop {rules : List Rul} {node : List Cel} (hn : checkS node = 0) (hr : Rls rules) (hl : rules.length ≤ 2513169434915) : ∀ (u : List Rul) (i : Nat), i ≤ rules.length → rules.drop i = u →
 ∃ (j : Int) (x : List Bnd7), Ev (fun k => aumbryref07_First.l0 k rules node (rules.length : Int) (i : Int)) (j, x) ∧ (fitS u node = none → j = -1) ∧ ∀ r o, fitS u node = some (r, o) → x = o ∧ ∃ a : Nat, j = (a : Int) ∧ a < rules.length ∧ rd_T73 rules (a : Int) = r
 | [], i, hi, hu => by
  have h1 := drop_nil_len hi hu
  refine ⟨-1, [], Ev.step (fun k => (show aumbryref07_First.l0 (k + 1) rules node (rules.length : Int) (i : Int) = _ from by rw [aumbryref07_First.l0])) ?_, fun _ => rfl, fun r o h => by cases h⟩
  exact evIfn (by omega) (Ev.now _)
 | b :: u, i, hi, hu => by
  obtain ⟨h1, h2, h3⟩ := drop_cons hu
  have hb : b ∈ rules := List.mem_of_mem_drop (hu ▸ List.mem_cons_self ..)
  obtain ⟨g1, _, g3, _⟩ := ruleS_ok (hr b hb)
  obtain ⟨p1, p2, p3⟩ := checkS_ok g1
  obtain ⟨n1, n2, n3⟩ := checkS_ok hn
  obtain ⟨x, hx, hxo⟩ := M.ev_fit b.f1.length b.f1 node [] (Nat.le_refl _) p1 n1 p2 n2 p3 n3 (by simp; omega)
  obtain ⟨j, y, q1, q2, q3⟩ := ev_first_loop hn hr hl u (i + 1) (by omega) h3
  have S : ∀ {R : Int × List Bnd7}, Ev (fun k => (aumbryref05_Fit.f k b.f1 node []).bind fun bt102 => if bt102.2 = true then some ((i : Int), bt102.1) else aumbryref07_First.l0 k rules node (rules.length : Int) ((i + 1 : Nat) : Int)) R → Ev (fun k => aumbryref07_First.l0 k rules node (rules.length : Int) (i : Int)) R := by
   intro R h
   refine Ev.step (fun k => (show aumbryref07_First.l0 (k + 1) rules node (rules.length : Int) (i : Int) = _ from by rw [aumbryref07_First.l0])) ?_
   simp only [rd_rul hu, up_cast i (by omega)]
   exact evIfp (by omega) (evIfp (by omega) (evIfp (by omega) h))
  cases hm : M.mat b.f1 node [] with
  | some z =>
   have E := S (R := ((i : Int), x)) (Ev.bind hx (evIfp (by rw [hm]; rfl) (Ev.now _)))
   refine ⟨(i : Int), x, E, (fun h => by rw [fitS, hm] at h; cases h), fun r o h => ?_⟩
   simp only [fitS, hm] at h
   injection h with h
   injection h with ha hb2
   exact ⟨(hxo z.1 z.2 hm).trans hb2, i, rfl, by omega, (rd_rul hu).trans ha⟩
  | none =>
   have E := S (R := (j, y)) (Ev.bind hx (evIfn (by rw [hm]; simp) q1))
   exact ⟨j, y, E, (fun h => q2 (by simpa only [fitS, hm] using h)), (fun r o h => q3 r o (by simpa only [fitS, hm] using h))⟩
theorem ev_first {rules : List Rul} {node : List Cel} (hn : checkS node = 0) (hr : Rls rules) (hl : rules.length ≤ 2513169434915) :
 ∃ (j : Int) (x : List Bnd7), Ev (fun k => aumbryref07_First.f k rules node) (j, x) ∧ (fitS rules node = none → j = -1) ∧ ∀ r o, fitS rules node = some (r, o) → x = o ∧ ∃ a : Nat, j = (a : Int) ∧ a < rules.length ∧ rd_T73 rules (a : Int) = r := by
 unfold aumbryref07_First.f
 exact ev_first_loop hn hr hl rules 0 (by omega) rfl
def Quiet (rules : List Rul) (l : List Cel) : Prop := ∀ p q s : List Cel, l = p ++ q ++ s → segN q 1 = some [] → fitS rules q = none
theorem quiet_infix {rules : List Rul} {l x y z : List Cel} (h : Quiet rules l) (e : l = x ++ y ++ z) : Quiet rules y := by
 intro p q s hy hq
 refine h (x ++ p) q (s ++ z) ?_ hq
 rw [e, hy]
 simp
theorem quiet_nil (rules : List Rul) : Quiet rules [] := by
 intro p q s h hq
 have : q = [] := by
  have := congrArg List.length h
  simp at this
  exact List.eq_nil_of_length_eq_zero (by omega)
 rw [this] at hq
 cases hq
theorem quiet_append {rules : List Rul} {l1 l2 : List Cel} {n : Nat} (h1 : segN l1 n = some []) (q1 : Quiet rules l1) (q2 : Quiet rules l2) : Quiet rules (l1 ++ l2) := by
 intro p q s e hq
 rcases Nat.lt_or_ge p.length l1.length with hl | hl
 ·
  obtain ⟨r, hr⟩ := seg_one h1 hl
  have d1 : (l1 ++ l2).drop p.length = l1.drop p.length ++ l2 := by rw [List.drop_append_of_le_length (by omega)]
  have d2 : (l1 ++ l2).drop p.length = q ++ s := by rw [e, List.append_assoc, List.drop_left]
  have s1 := segN_append l2 hr
  have s2 := segN_append s hq
  rw [List.nil_append] at s2
  rw [← d1, d2, s2] at s1
  injection s1 with s1
  have hd : l1.drop p.length = q ++ r := by
   have : l1.drop p.length ++ l2 = (q ++ r) ++ l2 := by rw [← d1, d2, s1, List.append_assoc]
   exact List.append_cancel_right this
  have hp : l1.take p.length = p := by
   have := congrArg (List.take p.length) e
   rw [List.append_assoc, List.take_left, List.take_append_of_le_length (by omega)] at this
   exact this
  refine q1 p q r ?_ hq
  rw [List.append_assoc, ← hd]
  conv => rhs; lhs; rw [← hp]
  exact (List.take_append_drop _ _).symm
 ·
  have hp : p = l1 ++ p.drop l1.length := by
   have := congrArg (List.take l1.length) e
   rw [List.take_left, List.append_assoc, List.take_append_of_le_length hl] at this
   conv => rhs; lhs; rw [this]
   exact (List.take_append_drop _ _).symm
  refine q2 (p.drop l1.length) q s ?_ hq
  rw [hp] at e
  rw [List.append_assoc, List.append_assoc] at e
  have := List.append_cancel_left e
  rw [this, List.append_assoc]
theorem mat_infix : ∀ (p t : List Cel) (out o : List Bnd7) (r : List Cel), M.mat p t out = some (o, r) → ∀ b ∈ o, b ∈ out ∨ (segN b.f1 1 = some [] ∧ ∃ x y, t = x ++ b.f1 ++ y)
 | [], t, out, o, r, h => by
  unfold M.mat at h
  injection h with h
  injection h with h1 h2
  subst h1
  exact fun b hb => .inl hb
 | c :: p, t, out, o, r, h => by
  intro b hb
  by_cases hk : kindS c.f0 = 2
  ·
   cases hs : segN t 1 with
   | none => rw [M.mat_var_none hk hs] at h; cases h
   | some q =>
    obtain ⟨e, h1⟩ := segN_fst hs
    rw [M.mat_var hk hs] at h
    have up : ∀ b0 : Bnd7, (segN b0.f1 1 = some [] ∧ ∃ x y, q = x ++ b0.f1 ++ y) → (segN b0.f1 1 = some [] ∧ ∃ x y, t = x ++ b0.f1 ++ y) := by
     rintro b0 ⟨g1, x, y, g2⟩
     exact ⟨g1, fstT t q ++ x, y, by rw [List.append_assoc, List.append_assoc, ← List.append_assoc x, ← g2]; exact e⟩
    cases hb2 : M.lookB out c.f0 with
    | none =>
     rw [hb2] at h
     rcases mat_infix p q _ o r h b hb with g | g
     ·
      rcases List.mem_append.1 g with g | g
      ·
       exact .inl g
      ·
       rw [List.mem_singleton] at g
       subst g
       exact .inr ⟨h1, [], q, by rw [List.nil_append]; exact e⟩
     ·
      exact .inr (up b g)
    | some v =>
     rw [hb2] at h
     simp only at h
     by_cases hv : v = M.fstT t q
     ·
      rw [if_pos hv] at h
      rcases mat_infix p q out o r h b hb with g | g
      ·
       exact .inl g
      ·
       exact .inr (up b g)
     ·
      rw [if_neg hv] at h; cases h
  ·
   cases t with
   | nil => rw [M.mat_sym_nil hk] at h; cases h
   | cons d t =>
    rw [M.mat_sym hk] at h
    by_cases hd : d = c
    ·
     rw [if_pos hd] at h
     rcases mat_infix p t out o r h b hb with g | ⟨g1, x, y, g2⟩
     ·
      exact .inl g
     ·
      exact .inr ⟨g1, d :: x, y, by rw [g2]; simp⟩
    ·
     rw [if_neg hd] at h; cases h
theorem mem_vars7 : ∀ (u : List Cel) (out : List ByteArray) (v : ByteArray), v ∈ varsS out u ↔ v ∈ out ∨ ∃ c ∈ u, kindS c.f0 = 2 ∧ c.f0 = v
 | [], out, v => by simp [varsS]
 | c :: l, out, v => by
  unfold varsS
  by_cases h : kindS c.f0 = 2
  ·
   rw [if_pos h]
   by_cases h2 : c.f0 ∈ out
   ·
    rw [if_pos h2, mem_vars7 l out v]
    constructor
    ·
     rintro (a | ⟨d, h3, h4⟩)
     ·
      exact .inl a
     ·
      exact .inr ⟨d, List.mem_cons_of_mem _ h3, h4⟩
    ·
     rintro (a | ⟨d, h3, h4, h5⟩)
     ·
      exact .inl a
     ·
      rcases List.mem_cons.1 h3 with rfl | h3
      ·
       exact .inl (h5 ▸ h2)
      ·
       exact .inr ⟨d, h3, h4, h5⟩
   ·
    rw [if_neg h2, mem_vars7 l _ v]
    constructor
    ·
     rintro (a | ⟨d, h3, h4⟩)
     ·
      rcases List.mem_append.1 a with a | a
      ·
       exact .inl a
      ·
       rw [List.mem_singleton] at a
       exact .inr ⟨c, List.mem_cons_self .., h, a.symm⟩
     ·
      exact .inr ⟨d, List.mem_cons_of_mem _ h3, h4⟩
    ·
     rintro (a | ⟨d, h3, h4, h5⟩)
     ·
      exact .inl (List.mem_append_left _ a)
     ·
      rcases List.mem_cons.1 h3 with rfl | h3
      ·
       exact .inl (by rw [← h5]; simp)
      ·
       exact .inr ⟨d, h3, h4, h5⟩
  ·
   rw [if_neg h, mem_vars7 l out v]
   constructor
   ·
    rintro (a | ⟨d, h3, h4⟩)
    ·
     exact .inl a
    ·
     exact .inr ⟨d, List.mem_cons_of_mem _ h3, h4⟩
   ·
    rintro (a | ⟨d, h3, h4, h5⟩)
    ·
     exact .inl a
    ·
     rcases List.mem_cons.1 h3 with rfl | h3
     ·
      exact absurd h4 h
     ·
      exact .inr ⟨d, h3, h4, h5⟩
theorem bindL_look : ∀ (l : List Bnd7) (s : ByteArray), bindL l s = (M.lookB l s).getD []
 | [], s => rfl
 | b :: u, s => by
  have T := bindL_look u s
  unfold bindL
  unfold M.lookB at T ⊢
  rw [List.find?_cons]
  by_cases h : b.f0 = s
  ·
   rw [if_pos (by rw [h]; simp), decide_eq_true h]
   rfl
  ·
   rw [if_neg (by simpa [bytes_eq] using h), decide_eq_false h]
   exact T
end Go.Proofs.Ytdlkhpfgkghhmaa.P

-- ==== PL7g
/- Plain laws of chapter 7: what a rule's variables stand for; the machine's steps. -/
namespace Go.Proofs.Ytdlkhpfgkghhmaa.P
open Go.RowKit Go.Proofs.YtdlkhpfgkghhmaaW.PrintWords
structure Val7 (rules : List Rul) (v : List Cel) : Prop where
 gnd : gndS v = true
 quiet : Quiet rules v
 len : v.length ≤ 64
theorem gnd_infix {t x y z : List Cel} (h : gndS t = true) (e : t = x ++ y ++ z) (hs : segN y 1 = some []) : gndS y = true := by
 obtain ⟨h1, h2⟩ := gndS_iff.1 h
 obtain ⟨g1, g2, g3⟩ := checkS_ok h1
 have hl : y.length ≤ 64 := by rw [e] at g1; simp at g1; omega
 have hm : ∀ c ∈ y, c ∈ t := fun c hc => by rw [e]; simp [hc]
 exact gndS_iff.2 ⟨checkS_of hl (fun c hc => g2 c (hm c hc)) hs, fun c hc => h2 c (hm c hc)⟩
theorem bind_ok {rules : List Rul} {r : Rul} {node l : List Cel} {c0 : Cel} {o : List Bnd7} {x : List Cel} (hr : ruleS r.f0 r.f1 r.f2 = 0) (hn : gndS node = true) (en : node = c0 :: l) (hq : Quiet rules l) (hm : M.mat r.f1 node [] = some (o, x)) :
 (∀ b ∈ o, b.f1.length ≤ 64) ∧ o.length ≤ 64 ∧ ∀ d ∈ r.f2, (0 < (bindL o d.f0).length ↔ kindS d.f0 = 2) ∧ (kindS d.f0 = 2 → Told (bindL o) o d ∧ Val7 rules (bindL o d.f0) ∧ M.lookB o d.f0 = some (bindL o d.f0)) := by
 obtain ⟨g1, g2, g3, g4, g5, g6, _, _⟩ := ruleS_ok hr
 obtain ⟨c, p, e, hk, hs⟩ := rule_head hr
 obtain ⟨k1, k2, k3⟩ := checkS_ok (gndS_iff.1 hn).1
 have hol := M.mat_len _ _ _ _ _ hm
 have hval : ∀ b ∈ o, Val7 rules b.f1 := by
  intro b hb
  rw [e, en, M.mat_sym hk] at hm
  by_cases hd : c0 = c
  ·
   rw [if_pos hd] at hm
   rcases mat_infix p l [] o x hm b hb with g | ⟨q1, y, z, q2⟩
   ·
    cases g
   ·
    have hg : gndS b.f1 = true := gnd_infix hn (x := c0 :: y) (z := z) (by rw [en, q2]; simp) q1
    exact ⟨hg, quiet_infix hq q2, (checkS_ok (gndS_iff.1 hg).1).1⟩
  ·
   rw [if_neg hd] at hm; cases hm
 have hnames := M.mat_names _ _ _ _ _ hm
 refine ⟨fun b hb => (hval b hb).len, by simp at hol; omega, fun d hd => ?_⟩
 by_cases hk2 : kindS d.f0 = 2
 ·
  have hv : d.f0 ∈ varsS [] r.f2 := (mem_vars7 _ _ _).2 (.inr ⟨d, hd, hk2, rfl⟩)
  obtain hv2 | ⟨c2, w1, w2, w3⟩ := (mem_vars7 _ _ _).1 (g6 _ hv)
  ·
   cases hv2
  have hin : d.f0 ∈ o.map (·.f0) := by
   rw [hnames]
   exact (M.mem_varsS _ _ _).2 (.inr ⟨c2, w1, w2, w3⟩)
  rcases M.atS_look o d.f0 with ⟨h1, _⟩ | ⟨j, b, q1, q2, q3, q4, q5, _⟩
  ·
   exact absurd hin ((M.lookB_none _ _).1 h1)
  ·
   have hb : b ∈ o := List.mem_of_getElem? q1
   have hB : bindL o d.f0 = b.f1 := by rw [bindL_look, q3]; rfl
   have hV := hval b hb
   have hpos : 0 < b.f1.length := ok_pos (gndS_iff.1 hV.gnd).1
   rw [hB]
   refine ⟨⟨fun _ => hk2, fun _ => hpos⟩, fun _ => ⟨⟨j, ?_, q5, ?_, ?_⟩, hV, q3⟩⟩
   ·
    have := M.ev_at o d.f0 (by simp at hol; omega)
    rwa [q4] at this
   ·
    rw [hB]
    have : o.drop j = b :: o.drop (j + 1) := by
     rw [List.getElem?_eq_getElem q5] at q1
     injection q1 with q1
     rw [← q1]
     exact List.drop_eq_getElem_cons q5
    rw [M.rd_bnd this]
   ·
    rw [hB]; have := hV.len; omega
 ·
  have h0 : (bindL o d.f0).length = 0 := by
   rw [bindL_look]
   have hno : d.f0 ∉ o.map (·.f0) := by
    rw [hnames]
    intro h
    rcases (M.mem_varsS _ _ _).1 h with h | ⟨c2, w1, w2, w3⟩
    ·
     cases h
    ·
     rw [w3] at w2; exact hk2 w2
   rw [(M.lookB_none _ _).2 hno]
   rfl
  exact ⟨⟨fun h => by omega, fun h => absurd h hk2⟩, fun h => absurd h hk2⟩
end Go.Proofs.Ytdlkhpfgkghhmaa.P

-- ==== PL7m
/- Plain laws of chapter 7: the machine's steps. -/
namespace Go.Proofs.Ytdlkhpfgkghhmaa.P
open Go.RowKit Go.Proofs.YtdlkhpfgkghhmaaW.PrintWords
def EvM (rules : List Rul) (m : Mst) (R : Int × Mst) : Prop := ∃ K, ∀ k n, K ≤ k → K ≤ n → runL k rules n m = some R
theorem evM_done {rules : List Rul} {m : Mst} (h : m.ops = []) : EvM rules m (0, m) :=
 ⟨1, fun k n hk hn => by
  obtain ⟨n, rfl⟩ : ∃ j, n = j + 1 := ⟨n - 1, by omega⟩
  simp only [runL]
  rw [if_pos (by rw [h]; rfl)]⟩
theorem last_op (rest : List Opn) (x : Opn) : rd_T70 (rest ++ [x]) (((rest ++ [x]).length : Int) - 1) = x := by
 unfold rd_T70
 rw [show (((rest ++ [x]).length : Int) - 1).toNat = rest.length by simp]
 simp [List.getD_eq_getElem?_getD]
theorem take_op (rest : List Opn) (x : Opn) : (rest ++ [x]).take ((rest ++ [x]).length - 1) = rest := by
 rw [show (rest ++ [x]).length - 1 = rest.length by simp, List.take_left]
theorem evM_have {rules : List Rul} {rest : List Opn} {v : List Cel} {vals : List (List Cel)} {st fu : Int} {hd : List ByteArray} {R : Int × Mst} (hv : vals.length < 5864062014800) (h : EvM rules ⟨rest, vals ++ [v], st, hd, fu⟩ R) :
 EvM rules ⟨rest ++ [⟨2, z54, v⟩], vals, st, hd, fu⟩ R := by
 obtain ⟨K, hK⟩ := h
 refine ⟨K + 1, fun k n hk hn => ?_⟩
 obtain ⟨n, rfl⟩ : ∃ j, n = j + 1 := ⟨n - 1, by omega⟩
 simp only [runL, last_op, take_op]
 rw [if_neg (by simp), if_pos trivial, if_pos hv]
 exact hK k n (by omega) (by omega)
theorem evM_make {rules : List Rul} {rest : List Opn} {c : Cel} {vs args : List (List Cel)} {st fu : Int} {hd : List ByteArray} {r R : Int × Mst} (ho : Okc c) (ha : args.length = ar c) (hl : ∀ v ∈ args, v.length ≤ 64)
 (hN : Ev (fun k => makeN k rules c.f0 ⟨1, c, []⟩ args ⟨rest, vs, st, hd, fu⟩) r) (h0 : r.1 = 0 → EvM rules r.2 R) (h1 : r.1 ≠ 0 → R = r) : EvM rules ⟨rest ++ [⟨1, c, []⟩], vs ++ args, st, hd, fu⟩ R := by
 obtain ⟨K, hK⟩ := hN
 have har : c.f1.toNat = ar c := rfl
 have e1 : (vs ++ args).length - c.f1.toNat = vs.length := by rw [har, List.length_append, ha]; omega
 have main : ∀ k n, K ≤ k → runL k rules (n + 1) ⟨rest ++ [⟨1, c, []⟩], vs ++ args, st, hd, fu⟩ = if r.1 = 0 then runL k rules n r.2 else some r := by
  intro k n hk
  have hk2 := hK k hk
  simp only [runL, last_op, take_op, e1, List.drop_left, List.take_left]
  rw [if_neg (by simp), if_neg (by decide), if_pos ⟨ho.lo, by rw [har, List.length_append, ha]; omega, hl⟩]
  simp only at hk2
  rw [hk2]
  rfl
 by_cases hr : r.1 = 0
 ·
  obtain ⟨K2, hK2⟩ := h0 hr
  refine ⟨K + K2 + 1, fun k n hk hn => ?_⟩
  obtain ⟨n, rfl⟩ : ∃ j, n = j + 1 := ⟨n - 1, by omega⟩
  rw [main k n (by omega), if_pos hr]
  exact hK2 k n (by omega) (by omega)
 ·
  refine ⟨K + 1, fun k n hk hn => ?_⟩
  obtain ⟨n, rfl⟩ : ∃ j, n = j + 1 := ⟨n - 1, by omega⟩
  rw [main k n (by omega), if_neg hr, h1 hr]
theorem less_ev (a b : ByteArray) : cmp_Less_string.f a b = some (Op.bytesLess a.toList b.toList) := by
 unfold cmp_Less_string.f cmp_isNaN_string.f
 simp
theorem foldl_node : ∀ (args : List (List Cel)) (acc : List Cel), (acc.length + args.flatten.length ≤ 64 → args.foldl nodeStep acc = acc ++ args.flatten) ∧ (64 < acc.length + args.flatten.length → 64 < (args.foldl nodeStep acc).length)
 | [], acc => by simp
 | v :: u, acc => by
  simp only [List.foldl_cons, List.flatten_cons, List.length_append]
  by_cases h : acc.length ≤ 64
  ·
   have e : nodeStep acc v = acc ++ v := by unfold nodeStep; rw [if_pos h]
   rw [e]
   obtain ⟨h1, h2⟩ := foldl_node u (acc ++ v)
   rw [List.length_append] at h1 h2
   exact ⟨fun g => by rw [h1 (by omega), List.append_assoc], fun g => h2 (by omega)⟩
  ·
   have e : nodeStep acc v = acc := by unfold nodeStep; rw [if_neg h]
   rw [e]
   obtain ⟨h1, h2⟩ := foldl_node u acc
   exact ⟨fun g => by omega, fun g => h2 (by omega)⟩
theorem cel_of {c : Cel} (ho : Okc c) {args : List (List Cel)} (ha : args.length = ar c) : (⟨c.f0, (args.length : Int)⟩ : Cel) = c := by
 have h1 : (args.length : Int) = c.f1 := by rw [ha]; unfold ar; have := ho.lo; omega
 rw [h1]
theorem ev_make_big {rules : List Rul} {c : Cel} {args : List (List Cel)} {m : Mst} (ho : Okc c) (ha : args.length = ar c) (hb : 64 < (c :: args.flatten).length) :
 Ev (fun k => makeN k rules c.f0 ⟨1, c, []⟩ args m) (6, ⟨m.ops ++ [⟨1, c, []⟩], m.vals ++ args, m.st, m.hd, m.fu⟩) := by
 unfold makeN
 rw [cel_of ho ha]
 have := (foldl_node args [c]).2 (by simpa [Nat.add_comm] using hb)
 exact evIfp (show (nodeL c args).length > 64 from this) (Ev.now _)
theorem ev_make_of {rules : List Rul} {c : Cel} {args : List (List Cel)} {m : Mst} {r : Int × Mst} (ho : Okc c) (ha : args.length = ar c) (hb : (c :: args.flatten).length ≤ 64)
 (h : Ev (fun k => nodeR k rules (c :: args.flatten) c.f0 args m ⟨m.ops ++ [⟨1, c, []⟩], m.vals ++ args, m.st, m.hd, m.fu⟩) r) : Ev (fun k => makeN k rules c.f0 ⟨1, c, []⟩ args m) r := by
 unfold makeN
 rw [cel_of ho ha]
 have e : nodeL c args = c :: args.flatten := (foldl_node args [c]).1 (by simpa [Nat.add_comm] using hb)
 rw [e]
 exact evIfn (by omega) h
end Go.Proofs.Ytdlkhpfgkghhmaa.P

-- ==== PL8h
/- Plain laws of chapter 7: names in order: what the binary search and the insertion come to is what the document's Join comes to. -/
namespace Go.Proofs.Ytdlkhpfgkghhmaa.P
open Go.RowKit Go.Proofs.YtdlkhpfgkghhmaaW.PrintWords
theorem bl_irrefl : ∀ (a : List UInt8), Op.bytesLess a a = false
 | [] => rfl
 | a :: x => by simp [Op.bytesLess, bl_irrefl x]
theorem bl_trans : ∀ {a b c : List UInt8}, Op.bytesLess a b = true → Op.bytesLess b c = true → Op.bytesLess a c = true
 | [], [], c, h, _ => by simp [Op.bytesLess] at h
 | [], b :: y, [], _, h => by simp [Op.bytesLess] at h
 | [], b :: y, c :: z, _, _ => rfl
 | a :: x, [], c, h, _ => by simp [Op.bytesLess] at h
 | a :: x, b :: y, [], _, h => by simp [Op.bytesLess] at h
 | a :: x, b :: y, c :: z, h, k => by
  simp only [Op.bytesLess, Bool.or_eq_true, Bool.and_eq_true, decide_eq_true_eq, beq_iff_eq] at h k ⊢
  rcases h with h | ⟨rfl, h⟩
  ·
   rcases k with k | ⟨rfl, k⟩
   ·
    exact .inl (by have h1 := UInt8.lt_iff_toNat_lt.1 h; have h2 := UInt8.lt_iff_toNat_lt.1 k; exact UInt8.lt_iff_toNat_lt.2 (by omega))
   ·
    exact .inl h
  ·
   rcases k with k | ⟨rfl, k⟩
   ·
    exact .inl k
   ·
    exact .inr ⟨rfl, bl_trans h k⟩
theorem lt_irrefl (a : ByteArray) : lt a a = false := bl_irrefl _
theorem lt_trans {a b c : ByteArray} (h : lt a b = true) (k : lt b c = true) : lt a c = true := bl_trans h k
theorem lt_total {a b : ByteArray} (h : ¬ lt a b = true) (hn : a ≠ b) : lt b a = true := by
 have := bytesLe b.toList a.toList
 unfold lt at *
 rw [Bool.eq_false_iff.mpr h, Bool.not_false] at this
 rcases Bool.or_eq_true _ _ ▸ this with h1 | h1
 ·
  exact h1
 ·
  exact absurd ((bytes_eq _ _).1 (beq_iff_eq.1 h1)).symm hn
def Srt (l : List ByteArray) : Prop := l.Pairwise fun a b => lt a b = true
theorem mem_insS {x : ByteArray} : ∀ {l : List ByteArray} {y : ByteArray}, y ∈ insS x l → y = x ∨ y ∈ l
 | [], y, h => by simpa [insS] using h
 | z :: r, y, h => by
  unfold insS at h
  by_cases h1 : lt z x = true
  ·
   rw [if_pos h1] at h
   rcases List.mem_cons.1 h with rfl | h
   ·
    exact .inr (List.mem_cons_self ..)
   ·
    rcases mem_insS h with h | h
    ·
     exact .inl h
    ·
     exact .inr (List.mem_cons_of_mem _ h)
  ·
   rw [if_neg h1] at h
   by_cases h2 : x = z
   ·
    rw [if_pos h2] at h; exact .inr h
   ·
    rw [if_neg h2] at h
    rcases List.mem_cons.1 h with rfl | h
    ·
     exact .inl rfl
    ·
     exact .inr h
theorem srt_insS {x : ByteArray} : ∀ {l : List ByteArray}, Srt l → Srt (insS x l)
 | [], _ => List.pairwise_singleton _ _
 | y :: r, h => by
  obtain ⟨h1, h2⟩ := List.pairwise_cons.1 h
  unfold insS
  by_cases hy : lt y x = true
  ·
   rw [if_pos hy]
   refine List.pairwise_cons.2 ⟨fun z hz => ?_, srt_insS h2⟩
   rcases mem_insS hz with rfl | hz
   ·
    exact hy
   ·
    exact h1 z hz
  ·
   rw [if_neg hy]
   by_cases e : x = y
   ·
    rw [if_pos e]; exact h
   ·
    rw [if_neg e]
    have hx := lt_total hy (fun q => e q.symm)
    refine List.pairwise_cons.2 ⟨fun z hz => ?_, h⟩
    rcases List.mem_cons.1 hz with rfl | hz
    ·
     exact hx
    ·
     exact lt_trans hx (h1 z hz)
theorem insS_at {x : ByteArray} : ∀ (l : List ByteArray) (q : Nat), q ≤ l.length → (∀ a, a < q → lt (l.getD a ByteArray.empty) x = true) → (q < l.length → ¬ lt (l.getD q ByteArray.empty) x = true) →
 insS x l = if q < l.length ∧ l.getD q ByteArray.empty = x then l else insAt l q x
 | [], q, hq, _, _ => by
  have : q = 0 := by simpa using hq
  subst this
  simp [insS, insAt]
 | y :: r, 0, _, _, h => by
  have h0 : ¬ lt y x = true := by simpa using h (by simp)
  unfold insS
  rw [if_neg h0]
  by_cases e : x = y
  ·
   rw [if_pos e, if_pos ⟨by simp, by simp [e]⟩]
  ·
   rw [if_neg e, if_neg (by simp; exact fun q => e q.symm)]
   simp [insAt]
 | y :: r, q + 1, hq, h1, h2 => by
  have h0 : lt y x = true := by simpa using h1 0 (by omega)
  have ih := insS_at r q (by simpa using hq) (fun a ha => by simpa using h1 (a + 1) (by omega)) (fun ha => by simpa using h2 (by simpa using ha))
  unfold insS
  rw [if_pos h0, ih]
  by_cases e : q < r.length ∧ r.getD q ByteArray.empty = x
  ·
   rw [if_pos e, if_pos (by simpa using e)]
  ·
   rw [if_neg e, if_neg (by simpa using e)]
   simp [insAt]
theorem srt_get {l : List ByteArray} (h : Srt l) {a b : Nat} (hab : a < b) (hb : b < l.length) : lt (l.getD a ByteArray.empty) (l.getD b ByteArray.empty) = true := by
 have := List.pairwise_iff_getElem.1 h a b (by omega) hb hab
 simpa [List.getD_eq_getElem?_getD, List.getElem?_eq_getElem, hb, show a < l.length by omega] using this
theorem ev_bs_srt {x : List ByteArray} (hs : Srt x) (a : ByteArray) (hx : x.length ≤ 8796093022208) : ∀ (d i j : Nat), j - i = d → i ≤ j → j ≤ x.length →
 (∀ b, b < i → lt (x.getD b ByteArray.empty) a = true) → (∀ b, j ≤ b → b < x.length → ¬ lt (x.getD b ByteArray.empty) a = true) →
 ∃ q : Nat, q ≤ x.length ∧ (∀ b, b < q → lt (x.getD b ByteArray.empty) a = true) ∧ (q < x.length → ¬ lt (x.getD q ByteArray.empty) a = true) ∧ Ev (fun k => slices_BinarySearch_string_string.l0 k x a (x.length : Int) (i : Int) (j : Int)) ((q : Int), decide (q < x.length ∧ x.getD q ByteArray.empty = a)) := by
 intro d
 induction d using Nat.strongRecOn with
 | _ d ih =>
 intro i j hd hij hj hlo hhi
 by_cases h : i < j
 ·
  have hm : wrap64 ((IntKind.u64.wrap (wrap64 ((i : Int) + (j : Int)))) / 2) = (((i + j) / 2 : Nat) : Int) := by
   rw [wrap_id (i := (i : Int) + j) (by omega) (by omega)]
   have : IntKind.u64.wrap ((i : Int) + (j : Int)) = (i : Int) + j := by
    simp only [IntKind.wrap, IntKind.bits, IntKind.signed]
    simp
    omega
   rw [this, wrap_id (by omega) (by omega)]
   omega
  by_cases hb : lt (x.getD ((i + j) / 2) ByteArray.empty) a = true
  ·
   obtain ⟨q, h1, h2, h3, h4⟩ := ih (j - ((i + j) / 2 + 1)) (by omega) ((i + j) / 2 + 1) j rfl (by omega) hj (fun b hbb => by
    rcases Nat.lt_or_ge b ((i + j) / 2) with g | g
    ·
     exact lt_trans (srt_get hs g (by omega)) hb
    ·
     rw [show b = (i + j) / 2 by omega]; exact hb) hhi
   refine ⟨q, h1, h2, h3, ?_⟩
   refine Ev.step (fun k => (show slices_BinarySearch_string_string.l0 (k + 1) x a (x.length : Int) (i : Int) (j : Int) = _ from by rw [slices_BinarySearch_string_string.l0])) ?_
   simp only [hm, less_ev, Option.bind_some, up_cast ((i + j) / 2) (by omega)]
   exact evIfp (by omega) (evIfp (by omega) (evIfp (by omega) (evIfp hb h4)))
  ·
   obtain ⟨q, h1, h2, h3, h4⟩ := ih ((i + j) / 2 - i) (by omega) i ((i + j) / 2) rfl (by omega) (by omega) hlo (fun b hbb hbl => by
    rcases Nat.lt_or_ge ((i + j) / 2) b with g | g
    ·
     exact fun q => hb (lt_trans (srt_get hs g hbl) q)
    ·
     rw [show b = (i + j) / 2 by omega]; exact hb)
   refine ⟨q, h1, h2, h3, ?_⟩
   refine Ev.step (fun k => (show slices_BinarySearch_string_string.l0 (k + 1) x a (x.length : Int) (i : Int) (j : Int) = _ from by rw [slices_BinarySearch_string_string.l0])) ?_
   simp only [hm, less_ev, Option.bind_some, up_cast ((i + j) / 2) (by omega)]
   exact evIfp (by omega) (evIfp (by omega) (evIfp (by omega) (evIfn hb h4)))
 ·
  obtain rfl : i = j := by omega
  refine ⟨i, hj, hlo, fun g => hhi i (Nat.le_refl _) g, ?_⟩
  refine Ev.step (fun k => (show slices_BinarySearch_string_string.l0 (k + 1) x a (x.length : Int) (i : Int) (i : Int) = _ from by rw [slices_BinarySearch_string_string.l0])) ?_
  refine evIfn (by omega) ?_
  simp only [slices_isNaN_string.f, bne_self_eq_false, Option.bind_some, Bool.false_eq_true, if_false, rdOf, Int.toNat_natCast, bytes_eq]
  by_cases h2 : i < x.length
  ·
   refine evIfp (by omega) (evIfp (by omega) (evIfp (by omega) ?_))
   by_cases h3 : x.getD i ByteArray.empty = a
   ·
    refine evIfp h3 ?_
    rw [decide_eq_true ⟨h2, h3⟩]
    exact Ev.now _
   ·
    refine evIfn h3 ?_
    rw [decide_eq_false (fun q => h3 q.2)]
    exact Ev.now _
  ·
   refine evIfn (by omega) ?_
   rw [decide_eq_false (fun q => h2 q.1)]
   exact Ev.now _
theorem ev_head_srt {hd : List ByteArray} (hs : Srt hd) (a : ByteArray) (hl : hd.length < 8796093022207) : Ev (fun k => headF k [a] hd) (insS a hd) := by
 obtain ⟨q, h1, h2, h3, h4⟩ := ev_bs_srt hs a (by omega) (hd.length - 0) 0 hd.length rfl (by omega) (by omega) (fun b hb => by omega) (fun b hb hb2 => by omega)
 have h4' : Ev (fun k => slices_BinarySearch_string_string.f k hd a) ((q : Int), decide (q < hd.length ∧ hd.getD q ByteArray.empty = a)) := h4
 rw [insS_at hd q h1 h2 h3]
 refine Ev.congr (f := fun k => (slices_BinarySearch_string_string.f k hd a).bind fun b => if b.2 = true then some hd else if 0 ≤ b.1 ∧ b.1 ≤ (hd.length : Int) ∧ hd.length < 8796093022207 then some (insAt hd b.1.toNat a) else none) (fun k => rfl) (Ev.bind h4' ?_)
 by_cases e : q < hd.length ∧ hd.getD q ByteArray.empty = a
 ·
  rw [if_pos e]
  exact evIfp (decide_eq_true e) (Ev.now _)
 ·
  rw [if_neg e]
  exact evIfn (by simpa using e) (evIfp ⟨by omega, by omega, hl⟩ (by simp only [Int.toNat_natCast]; exact Ev.now _))
end Go.Proofs.Ytdlkhpfgkghhmaa.P

-- ==== PL7i
/- Plain laws of chapter 7: the normal form by definition, in big steps. -/
namespace Go.Proofs.Ytdlkhpfgkghhmaa.P
open Go.RowKit Go.Proofs.YtdlkhpfgkghhmaaW.PrintWords
inductive RefSeq (rules : List Rul) : Nat → List (List Cel) → List (List Cel) → Nat → Prop
 | nil {F : Nat} : RefSeq rules F [] [] F
 | cons {F F1 F2 : Nat} {t v : List Cel} {ts vs : List (List Cel)} : Ev (fun k => aumbryref07_Inner.f k rules t (F : Int)) (v, (F1 : Int), 0) → v.length ≤ 64 → RefSeq rules F1 ts vs F2 → RefSeq rules F (t :: ts) (v :: vs) F2
inductive RefErr (rules : List Rul) : Nat → List (List Cel) → Int → Prop
 | here {F : Nat} {t : List Cel} {ts : List (List Cel)} {e : Int} : e ≠ 0 → Ev (fun k => aumbryref07_Inner.f k rules t (F : Int)) ([], 0, e) → RefErr rules F (t :: ts) e
 | later {F F1 : Nat} {t v : List Cel} {ts : List (List Cel)} {e : Int} : Ev (fun k => aumbryref07_Inner.f k rules t (F : Int)) (v, (F1 : Int), 0) → v.length ≤ 64 → RefErr rules F1 ts e → RefErr rules F (t :: ts) e
end Go.Proofs.Ytdlkhpfgkghhmaa.P

-- ==== PL7b
/- Plain laws of chapter 7: copies of states, states that are alike, whether a state may be: the program's answer and the document's. -/
namespace Go.Proofs.Ytdlkhpfgkghhmaa.P
open Go.RowKit Go.Proofs.YtdlkhpfgkghhmaaW.PrintWords
theorem ev_copyAll_loop (l : List (List Cel)) (hl : l.length ≤ 5864062014804) (hs : ∀ a ∈ l, a.length < 5864062014805) : ∀ (u : List (List Cel)) (i : Nat) (x : List (List Cel)), i ≤ l.length → l.drop i = u → x = l.take i →
 Ev (fun k => aumbryref04_CopyAll.l0 k l x (l.length : Int) (i : Int)) l
 | [], i, x, hi, hu, hx => by
  have h1 := drop_nil_len hi hu
  refine Ev.step (fun k => (show aumbryref04_CopyAll.l0 (k + 1) l x (l.length : Int) (i : Int) = _ from by rw [aumbryref04_CopyAll.l0])) ?_
  refine evIfn (by omega) ?_
  have : x = l := by rw [hx, h1, List.take_length]
  rw [this]
  exact Ev.now _
 | a :: u, i, x, hi, hu, hx => by
  obtain ⟨h1, h2, h3⟩ := drop_cons hu
  refine Ev.step (fun k => (show aumbryref04_CopyAll.l0 (k + 1) l x (l.length : Int) (i : Int) = _ from by rw [aumbryref04_CopyAll.l0])) ?_
  refine evIfp (by omega) (evIfp (by omega) (evIfp (by omega) ?_))
  simp only [rd_trm hu, up_cast i (by omega)]
  have hm : a ∈ l := List.mem_of_mem_drop (hu ▸ List.mem_cons_self ..)
  refine Ev.bind (evIs (copy_at a (hs a hm))) ?_
  have hxl : x.length = i := by rw [hx, List.length_take]; omega
  refine evIfp (by omega) ?_
  refine ev_copyAll_loop l hl hs u (i + 1) (x ++ [a]) (by omega) h3 ?_
  rw [hx, List.take_succ_eq_append_getElem h1]
  have := h2 a
  rw [List.getD_eq_getElem?_getD, List.getElem?_eq_getElem h1] at this
  rw [show l[i] = a from this]
theorem ev_copyAll (l : List (List Cel)) (hl : l.length ≤ 5864062014804) (hs : ∀ a ∈ l, a.length < 5864062014805) : Ev (fun k => aumbryref04_CopyAll.f k l) l := by
 unfold aumbryref04_CopyAll.f
 exact ev_copyAll_loop l hl hs l 0 [] (by omega) rfl rfl
theorem ev_same3_loop (l : List ByteArray) (hl : l.length ≤ 9223372036854775806) : ∀ (u : List ByteArray) (i : Nat), i ≤ l.length → l.drop i = u →
 Ev (fun k => aumbryref03_Same.l0 k l l (l.length : Int) (i : Int)) true
 | [], i, hi, hu => by
  have h1 := drop_nil_len hi hu
  refine Ev.step (fun k => (show aumbryref03_Same.l0 (k + 1) l l (l.length : Int) (i : Int) = _ from by rw [aumbryref03_Same.l0])) ?_
  exact evIfn (by omega) (Ev.now _)
 | b :: u, i, hi, hu => by
  obtain ⟨h1, _, h3⟩ := drop_cons hu
  refine Ev.step (fun k => (show aumbryref03_Same.l0 (k + 1) l l (l.length : Int) (i : Int) = _ from by rw [aumbryref03_Same.l0])) ?_
  refine evIfp (by omega) (evIfp (by omega) (evIfp (by omega) (evIfp (by omega) (evIfp rfl ?_))))
  rw [up_cast i (by omega)]
  exact ev_same3_loop l hl u (i + 1) (by omega) h3
theorem ev_same3 (l : List ByteArray) (hl : l.length ≤ 9223372036854775806) : Ev (fun k => aumbryref03_Same.f k l l) true := by
 unfold aumbryref03_Same.f
 exact evIfp rfl (ev_same3_loop l hl l 0 (by omega) rfl)
theorem ev_sameAll_loop (l : List (List Cel)) (hl : l.length ≤ 9223372036854775806) (hs : ∀ a ∈ l, a.length ≤ 9223372036854775806) : ∀ (u : List (List Cel)) (i : Nat), i ≤ l.length → l.drop i = u →
 Ev (fun k => aumbryref04_SameAll.l0 k l l (l.length : Int) (i : Int)) true
 | [], i, hi, hu => by
  have h1 := drop_nil_len hi hu
  refine Ev.step (fun k => (show aumbryref04_SameAll.l0 (k + 1) l l (l.length : Int) (i : Int) = _ from by rw [aumbryref04_SameAll.l0])) ?_
  exact evIfn (by omega) (Ev.now _)
 | b :: u, i, hi, hu => by
  obtain ⟨h1, _, h3⟩ := drop_cons hu
  refine Ev.step (fun k => (show aumbryref04_SameAll.l0 (k + 1) l l (l.length : Int) (i : Int) = _ from by rw [aumbryref04_SameAll.l0])) ?_
  refine evIfp (by omega) (evIfp (by omega) (evIfp (by omega) (evIfp (by omega) ?_)))
  simp only [rd_trm hu, up_cast i (by omega)]
  refine Ev.bind (ev_refSame4 b b (.inl (hs b (List.mem_of_mem_drop (hu ▸ List.mem_cons_self ..))))) ?_
  exact evIfp (decide_eq_true rfl) (ev_sameAll_loop l hl hs u (i + 1) (by omega) h3)
theorem ev_sameAll (l : List (List Cel)) (hl : l.length ≤ 9223372036854775806) (hs : ∀ a ∈ l, a.length ≤ 9223372036854775806) : Ev (fun k => aumbryref04_SameAll.f k l l) true := by
 unfold aumbryref04_SameAll.f
 exact evIfp rfl (ev_sameAll_loop l hl hs l 0 (by omega) rfl)

end Go.Proofs.Ytdlkhpfgkghhmaa.P

-- ==== PL8s
/- Plain laws of chapter 7: the machine's steps and the document's side by side. -/
namespace Go.Proofs.Ytdlkhpfgkghhmaa.P
open Go.RowKit Go.Proofs.YtdlkhpfgkghhmaaW.PrintWords
structure Inv (ops : List Opn) (vals : List (List Cel)) (hd : List ByteArray) : Prop where
 cnt : cntS ops.reverse (vals.length : Int) = some 1
 gv : ∀ v ∈ vals, gndS v = true
 srt : Srt hd
theorem hdsS_srt : ∀ (l : List ByteArray) (p : ByteArray), hdsS (some p) l = true → Srt (p :: l)
 | [], p, _ => List.pairwise_singleton _ _
 | h :: u, p, hh => by
  have e : hdsS (some p) (h :: u) = ((kindS h == 1) && (lt p h && hdsS (some h) u)) := rfl
  rw [e] at hh
  simp only [Bool.and_eq_true] at hh
  have T := hdsS_srt u h hh.2.2
  refine List.pairwise_cons.2 ⟨fun z hz => ?_, T⟩
  rcases List.mem_cons.1 hz with rfl | hz
  ·
   exact hh.2.1
  ·
   exact lt_trans hh.2.1 ((List.pairwise_cons.1 T).1 z hz)
theorem inv_of {ops : List Opn} {vals : List (List Cel)} {st : Int} {hd : List ByteArray} (h : rightS ops vals st hd = true) : Inv ops vals hd := by
 unfold rightS at h
 cases hc : cntS ops.reverse (vals.length : Int) with
 | none => rw [hc] at h; cases h
 | some m =>
  rw [hc] at h
  simp only [Bool.and_eq_true, beq_iff_eq] at h
  obtain ⟨h1, h2, h3, _⟩ := h
  refine ⟨by rw [h3] at hc; exact hc, fun v hv => List.all_eq_true.1 h1 v hv, ?_⟩
  cases hd with
  | nil => exact List.Pairwise.nil
  | cons a u =>
   have e : hdsS none (a :: u) = ((kindS a == 1) && (true && hdsS (some a) u)) := rfl
   rw [e] at h2
   simp only [Bool.and_eq_true] at h2
   exact hdsS_srt u a h2.2.2
theorem cnt_may : ∀ (l : List Opn) (n m : Int), cntS l n = some m → ∀ o ∈ l, mayS o = true
 | [], _, _, _, o, ho => by cases ho
 | a :: u, n, m, h, o, ho => by
  unfold cntS at h
  by_cases hc : (mayS a && decide (a.f1.f1 ≤ n)) = true
  ·
   rw [if_pos hc] at h
   rcases List.mem_cons.1 ho with rfl | ho
   ·
    exact (Bool.and_eq_true _ _ ▸ hc).1
   ·
    exact cnt_may u _ m h o ho
  ·
   rw [if_neg hc] at h; cases h
theorem may_val {o : Opn} (h : mayS o = true) : o.f2.length ≤ 64 := by
 unfold mayS at h
 by_cases h1 : o.f0 = 1
 ·
  rw [if_pos h1] at h
  simp only [Bool.and_eq_true] at h
  have := h.1.1.1
  cases ho : o.f2 with
  | nil => simp
  | cons a l => rw [ho] at this; cases this
 ·
  rw [if_neg h1] at h
  by_cases h2 : o.f0 = 2
  ·
   rw [if_pos h2] at h
   simp only [Bool.and_eq_true] at h
   exact checkS_len (gndS_iff.1 h.2).1
  ·
   rw [if_neg h2] at h; cases h
theorem cnt_poH {H : ByteArray → List Cel} {n : Nat} {l : List Cel} {o : List Opn} (h : Po H n l o) : (∀ c ∈ l, Okc c ∧ (0 < (H c.f0).length ↔ kindS c.f0 = 2) ∧ (kindS c.f0 = 2 → gndS (H c.f0) = true)) → ∀ (u : List Opn) (m : Int), 0 ≤ m → cntS (o ++ u) m = cntS u (m + n) := by
 induction h with
 | nil => intro _ u m _; simp
 | @have_ n c l o hc h ih =>
  intro hp u m hm
  obtain ⟨q1, q2, q3⟩ := hp c (List.mem_cons_self ..)
  have hmay : mayS ⟨2, z54, H c.f0⟩ = true := by
   have e : (z54 : Cel).f0.toList = [] := (toList_nil _).2 rfl
   unfold mayS
   rw [if_neg (show ¬ (2 : Int) = 1 by decide), if_pos rfl]
   simp only [q3 (q2.1 hc), e]
   rfl
  simp only [List.cons_append, cntS, hmay, Bool.true_and]
  rw [if_pos (by show decide ((0 : Int) ≤ m) = true; exact decide_eq_true hm), show m + 1 - (z54 : Cel).f1 = m + 1 by show m + 1 - 0 = m + 1; omega, ih (fun x hx => hp x (List.mem_cons_of_mem _ hx)) _ _ (by omega)]
  congr 1
  omega
 | @make n c l1 l2 o1 o2 hc h1 h2 ih1 ih2 =>
  intro hp u m hm
  obtain ⟨hk, q2, _⟩ := hp c (List.mem_cons_self ..)
  have har : ((ar c : Nat) : Int) = c.f1 := by unfold ar; have := hk.lo; omega
  have hkk : kindS c.f0 = 1 := by
   rcases kindS_cases c.f0 with e | e | e
   ·
    exact absurd e hk.kind
   ·
    exact e
   ·
    exact absurd (q2.2 e) hc
  have hmay : mayS ⟨1, c, []⟩ = true := by
   unfold mayS
   rw [if_pos rfl]
   simp only [hkk, decide_eq_true hk.lo, decide_eq_true hk.hi]
   rfl
  rw [List.append_assoc, ih1 (fun x hx => hp x (by simp [hx])) _ m hm]
  simp only [List.cons_append, cntS, hmay, Bool.true_and]
  rw [if_pos (by simp; omega), show m + ((ar c : Nat) : Int) + 1 - c.f1 = m + 1 by omega, ih2 (fun x hx => hp x (by simp [hx])) _ _ (by omega)]
  congr 1
  omega
end Go.Proofs.Ytdlkhpfgkghhmaa.P

-- ==== PL7e
/- Plain laws of chapter 7: the machine comes to what the definition comes to. -/
namespace Go.Proofs.Ytdlkhpfgkghhmaa.P
open Go.RowKit Go.Proofs.YtdlkhpfgkghhmaaW.PrintWords
theorem val7_flat {rules : List Rul} : ∀ {vs : List (List Cel)}, (∀ v ∈ vs, Val7 rules v) → segN vs.flatten vs.length = some [] ∧ Quiet rules vs.flatten ∧ ∀ c ∈ vs.flatten, Okc c ∧ kindS c.f0 ≠ 2
 | [], _ => ⟨rfl, quiet_nil rules, fun c hc => by cases hc⟩
 | v :: vs, h => by
  obtain ⟨h1, h2, h3⟩ := val7_flat fun w hw => h w (List.mem_cons_of_mem _ hw)
  have hv := h v (List.mem_cons_self ..)
  obtain ⟨z1, z2⟩ := gndS_iff.1 hv.gnd
  obtain ⟨w1, w2, w3⟩ := checkS_ok z1
  rw [List.flatten_cons, List.length_cons]
  refine ⟨?_, quiet_append w3 hv.quiet h2, fun x hx => ?_⟩
  ·
   rw [Nat.add_comm, segN_add, segN_append _ w3]; exact h1
  ·
   rcases List.mem_append.1 hx with hx | hx
   ·
    exact ⟨w2 x hx, z2 x hx⟩
   ·
    exact h3 x hx
end Go.Proofs.Ytdlkhpfgkghhmaa.P

-- ==== PL7y
/- Plain laws of chapter 7: what Normal tells. -/
namespace Go.Proofs.Ytdlkhpfgkghhmaa.P
open Go.RowKit Go.Proofs.YtdlkhpfgkghhmaaW.PrintWords
theorem ev_clone1 (vals : List (List Cel)) (x : List Opn) (st : Int) (hd : List ByteArray) (hl : vals.length ≤ 5864062014804) (hs : ∀ a ∈ vals, a.length < 5864062014805) : ∀ (u : List (List Cel)) (i : Nat) (y : List (List Cel)), i ≤ vals.length → vals.drop i = u → y = vals.take i →
 Ev (fun k => rewrite_clone.l1 k vals (vals.length : Int) (i : Int) x y st hd) (x, vals, st, hd)
 | [], i, y, hi, hu, hy => by
  have h1 := drop_nil_len hi hu
  refine Ev.step (fun k => (show rewrite_clone.l1 (k + 1) vals (vals.length : Int) (i : Int) x y st hd = _ from by rw [rewrite_clone.l1])) ?_
  refine evIfn (by omega) ?_
  have : y = vals := by rw [hy, h1, List.take_length]
  rw [this]
  exact Ev.now _
 | a :: u, i, y, hi, hu, hy => by
  obtain ⟨h1, h2, h3⟩ := drop_cons hu
  refine Ev.step (fun k => (show rewrite_clone.l1 (k + 1) vals (vals.length : Int) (i : Int) x y st hd = _ from by rw [rewrite_clone.l1])) ?_
  refine evIfp (by omega) (evIfp (by omega) (evIfp (by omega) ?_))
  simp only [rd_trm hu, up_cast i (by omega)]
  have hm : a ∈ vals := List.mem_of_mem_drop (hu ▸ List.mem_cons_self ..)
  refine Ev.bind (evIs (cloneT_same a (hs a hm))) ?_
  have hyl : y.length = i := by rw [hy, List.length_take]; omega
  refine evIfp (by omega) ?_
  refine ev_clone1 vals x st hd hl hs u (i + 1) (y ++ [a]) (by omega) h3 ?_
  rw [hy, List.take_succ_eq_append_getElem h1]
  have := h2 a
  rw [List.getD_eq_getElem?_getD, List.getElem?_eq_getElem h1] at this
  rw [show vals[i] = a from this]
theorem ev_clone0 (ops : List Opn) (vals : List (List Cel)) (st : Int) (hd : List ByteArray) (hol : ops.length ≤ 2513169434915) (hos : ∀ o ∈ ops, o.f2.length < 5864062014805) (hl : vals.length ≤ 5864062014804) (hs : ∀ a ∈ vals, a.length < 5864062014805) : ∀ (u : List Opn) (i : Nat) (y : List Opn), i ≤ ops.length → ops.drop i = u → y = ops.take i →
 Ev (fun k => rewrite_clone.l0 k ops (ops.length : Int) (i : Int) ops vals st hd y st hd) (ops, vals, st, hd)
 | [], i, y, hi, hu, hy => by
  have h1 := drop_nil_len hi hu
  refine Ev.step (fun k => (show rewrite_clone.l0 (k + 1) ops (ops.length : Int) (i : Int) ops vals st hd y st hd = _ from by rw [rewrite_clone.l0])) ?_
  refine evIfn (by omega) ?_
  have : y = ops := by rw [hy, h1, List.take_length]
  rw [this]
  exact ev_clone1 vals ops st hd hl hs vals 0 [] (by omega) rfl rfl
 | a :: u, i, y, hi, hu, hy => by
  obtain ⟨h1, h2, h3⟩ := drop_cons hu
  refine Ev.step (fun k => (show rewrite_clone.l0 (k + 1) ops (ops.length : Int) (i : Int) ops vals st hd y st hd = _ from by rw [rewrite_clone.l0])) ?_
  refine evIfp (by omega) (evIfp (by omega) (evIfp (by omega) ?_))
  simp only [rd_opn hu, up_cast i (by omega)]
  have hm : a ∈ ops := List.mem_of_mem_drop (hu ▸ List.mem_cons_self ..)
  refine Ev.bind (evIs (cloneT_same a.f2 (hos a hm))) ?_
  have hyl : y.length = i := by rw [hy, List.length_take]; omega
  refine evIfp (by omega) ?_
  refine ev_clone0 ops vals st hd hol hos hl hs u (i + 1) (y ++ [a]) (by omega) h3 ?_
  rw [hy, List.take_succ_eq_append_getElem h1]
  have := h2 a
  rw [List.getD_eq_getElem?_getD, List.getElem?_eq_getElem h1] at this
  rw [show ops[i] = a from this]
theorem ev_clone (ops : List Opn) (vals : List (List Cel)) (st : Int) (hd : List ByteArray) (hol : ops.length ≤ 2513169434915) (hos : ∀ o ∈ ops, o.f2.length < 5864062014805) (hl : vals.length ≤ 5864062014804) (hs : ∀ a ∈ vals, a.length < 5864062014805) (hh : hd.length < 8796093022208) : Ev (fun k => rewrite_clone.f k ops vals st hd) (ops, vals, st, hd) := by
 unfold rewrite_clone.f
 exact Ev.bind (evIs (cloneS_same hd hh)) (ev_clone0 ops vals st hd hol hos hl hs ops 0 [] (by omega) rfl rfl)
end Go.Proofs.Ytdlkhpfgkghhmaa.P

-- ==== PL8t
/- Plain laws of chapter 7: a run, by the machine and by the document. -/
namespace Go.Proofs.Ytdlkhpfgkghhmaa.P
open Go.RowKit Go.Proofs.YtdlkhpfgkghhmaaW.PrintWords
theorem rd_last (rest : List Opn) (x : Opn) : rd_T70 (rest ++ [x]) (rest.length : Int) = x := rd_opn (n := rest.length) (s := []) (by rw [List.drop_left])
theorem len_last (rest : List Opn) (x : Opn) : ((rest ++ [x]).length : Int) - 1 = (rest.length : Int) := by
 rw [List.length_append, List.length_singleton]; omega
theorem take_last (rest : List Opn) (x : Opn) : (rest ++ [x]).take ((rest ++ [x]).length - 1) = rest := by simp
theorem one_have {rules : List Rul} {rest : List Opn} {v : List Cel} {vals : List (List Cel)} {st fu : Int} {hd : List ByteArray} (h2 : vals.length ≤ 10000000) (h3 : ∀ a ∈ vals, a.length ≤ 64) (h4 : hd.length ≤ 10000000) :
 Ev (fun k => oneF k rules (rest ++ [⟨2, z54, v⟩]) vals st hd fu) (rest, vals ++ [v], st, hd, fu, 0) := by
 unfold oneF
 simp only [len_last, rd_last]
 refine evIfp ⟨by simp, by omega, by omega⟩ ?_
 unfold oneB
 refine evIfp rfl (Ev.bind (ev_copyAll vals (by omega) (fun a ha => by have := h3 a ha; omega)) (evIfp (by omega) ?_))
 rw [take_last]
 exact Ev.now _
theorem one_make {rules : List Rul} {rest : List Opn} {c : Cel} {vs args : List (List Cel)} {st fu : Int} {hd : List ByteArray} {R : R6} (ho : Okc c) (ha : args.length = ar c) (h2 : (vs ++ args).length ≤ 10000000) (h4 : hd.length ≤ 10000000)
 (h : Ev (fun k => oneC k rules (rest ++ [⟨1, c, []⟩]) (vs ++ args) st hd fu c vs.length (c :: args.flatten)) R) :
 Ev (fun k => oneF k rules (rest ++ [⟨1, c, []⟩]) (vs ++ args) st hd fu) R := by
 have har : ((args.length : Nat) : Int) = c.f1 := by rw [ha]; unfold ar; have := ho.lo; omega
 have hk : (vs ++ args).length - c.f1.toNat = vs.length := by rw [List.length_append]; omega
 unfold oneF
 simp only [len_last, rd_last]
 refine evIfp ⟨by simp, by omega, by omega⟩ ?_
 unfold oneB
 refine evIfn (show ¬ (1 : Int) = 2 by decide) ?_
 simp only [hk, List.drop_left]
 exact h
theorem one_end {rules : List Rul} {rest : List Opn} {c : Cel} {vs args : List (List Cel)} {st fu : Int} {hd : List ByteArray} {node : List Cel} {R : R6}
 (ho : Okc c) (ha : args.length = ar c) (h2 : (vs ++ args).length ≤ 10000000) (h3 : ∀ a ∈ vs, a.length ≤ 64) (hn : node.length ≤ 64)
 (h : Ev (fun k => (aumbryref07_First.f k rules node).bind fun bt => if bt.1 < 0 then some (rest, vs ++ [node], st, insS c.f0 hd, fu, 0) else if fu ≤ 0 then some (rest ++ [⟨1, c, []⟩], vs ++ args, st, hd, fu, 14) else oneE k rules rest vs st (insS c.f0 hd) fu bt.1 bt.2) R) :
 Ev (fun k => oneC k rules (rest ++ [⟨1, c, []⟩]) (vs ++ args) st hd fu c vs.length node) R := by
 have har : ((args.length : Nat) : Int) = c.f1 := by rw [ha]; unfold ar; have := ho.lo; omega
 have h5 : (vs ++ args).length = vs.length + args.length := List.length_append
 unfold oneC
 rw [List.take_left]
 refine evIfp ⟨ho.lo, by omega, by omega⟩ (evIfn (by omega) (Ev.bind (ev_copyAll vs (by omega) (fun a ha => by have := h3 a ha; omega)) ?_))
 obtain ⟨K, hK⟩ := h
 refine ⟨K, fun k hk => ?_⟩
 rw [← hK k hk]
 unfold oneD
 have e1 : (vs.length < 5864062014804) = True := eq_true (by omega)
 simp only [take_last, e1, if_true]
theorem one_big {rules : List Rul} {rest : List Opn} {c : Cel} {vs args : List (List Cel)} {st fu : Int} {hd : List ByteArray} {node : List Cel} (ho : Okc c) (ha : args.length = ar c) (hn : 64 < node.length) (hn2 : node.length ≤ 1000000) :
 Ev (fun k => oneC k rules (rest ++ [⟨1, c, []⟩]) (vs ++ args) st hd fu c vs.length node) (rest ++ [⟨1, c, []⟩], vs ++ args, st, hd, fu, 6) := by
 have har : ((args.length : Nat) : Int) = c.f1 := by rw [ha]; unfold ar; have := ho.lo; omega
 have h5 : (vs ++ args).length = vs.length + args.length := List.length_append
 unfold oneC
 exact evIfp ⟨ho.lo, by omega, by omega⟩ (evIfp (by omega) (Ev.now _))
theorem go_done {rules : List Rul} {vals : List (List Cel)} {st fu : Int} {hd : List ByteArray} : Ev (fun k => goL k rules fu [] vals st hd) ([], vals, st, hd, 0) := by
 refine Ev.step (fun k => (show goL (k + 1) rules fu [] vals st hd = _ from by rw [goL])) ?_
 exact evIfn (by simp) (Ev.now _)
theorem go_step {rules : List Rul} {rest ops' : List Opn} {x : Opn} {vals vals' : List (List Cel)} {st st' fu fu' : Int} {hd hd' : List ByteArray} {R : R5}
 (h1 : Ev (fun k => oneF k rules (rest ++ [x]) vals st hd fu) (ops', vals', st', hd', fu', 0)) (h : Ev (fun k => goL k rules fu' ops' vals' st' hd') R) : Ev (fun k => goL k rules fu (rest ++ [x]) vals st hd) R := by
 refine Ev.step (fun k => (show goL (k + 1) rules fu (rest ++ [x]) vals st hd = _ from by rw [goL])) ?_
 exact evIfp (by simp) (Ev.bind h1 (evIfp rfl h))
theorem go_err {rules : List Rul} {rest ops' : List Opn} {x : Opn} {vals vals' : List (List Cel)} {st st' fu fu' e : Int} {hd hd' : List ByteArray} (he : e ≠ 0)
 (h1 : Ev (fun k => oneF k rules (rest ++ [x]) vals st hd fu) (ops', vals', st', hd', fu', e)) : Ev (fun k => goL k rules fu (rest ++ [x]) vals st hd) (rest ++ [x], vals, st, hd, e) := by
 refine Ev.step (fun k => (show goL (k + 1) rules fu (rest ++ [x]) vals st hd = _ from by rw [goL])) ?_
 exact evIfp (by simp) (Ev.bind h1 (evIfn he (Ev.now _)))
theorem flat_len : ∀ {l : List (List Cel)}, (∀ v ∈ l, v.length ≤ 64) → l.flatten.length ≤ 64 * l.length
 | [], _ => by simp
 | v :: u, h => by
  have h1 := flat_len (l := u) (fun w hw => h w (List.mem_cons_of_mem _ hw))
  have h2 := h v (List.mem_cons_self ..)
  simp only [List.flatten_cons, List.length_append, List.length_cons]; omega
structure Fin7 (m : Mst) : Prop where
 ol : m.ops.length ≤ 10000000
 ov : ∀ o ∈ m.ops, o.f2.length ≤ 64
 vl : m.vals.length ≤ 10000000
 vv : ∀ v ∈ m.vals, v.length ≤ 64
 hl : m.hd.length ≤ 10000000
theorem fin_of {ops : List Opn} {vals : List (List Cel)} {st fu : Int} {hd : List ByteArray} (h : Inv ops vals hd) (hs : 2 * ops.length + vals.length + hd.length ≤ 10000000) : Fin7 ⟨ops, vals, st, hd, fu⟩ :=
 ⟨by show ops.length ≤ _; omega, fun o ho => may_val (cnt_may _ _ _ h.cnt o (by simpa using ho)), by show vals.length ≤ _; omega, fun v hv => checkS_len (gndS_iff.1 (h.gv v hv)).1, by show hd.length ≤ _; omega⟩
theorem quiet_no (l : List Cel) : Quiet [] l := fun _ _ _ _ _ => rfl
theorem sim7 {rules : List Rul} (hr : Rls rules) (hrl : rules.length ≤ 1000) : ∀ (N : Nat) (ops : List Opn) (vals : List (List Cel)) (st fu : Int) (hd : List ByteArray), ops.length + 10 * fu.toNat ≤ N → Inv ops vals hd → fu ≤ 300 → 2 * ops.length + vals.length + hd.length + 30 * fu.toNat ≤ 10000000 →
 ∃ (e : Int) (m : Mst), EvM rules ⟨ops, vals, st, hd, fu⟩ (e, m) ∧ Ev (fun k => goL k rules fu ops vals st hd) (m.ops, m.vals, m.st, m.hd, e) ∧ Fin7 m := by
 intro N
 induction N with
 | zero =>
  intro ops vals st fu hd hN hI hfu hs
  obtain rfl : ops = [] := List.eq_nil_of_length_eq_zero (by omega)
  exact ⟨0, _, evM_done rfl, go_done, fin_of hI (by omega)⟩
 | succ N ih =>
  intro ops vals st fu hd hN hI hfu hs
  rcases List.eq_nil_or_concat ops with rfl | ⟨rest, o, rfl⟩
  ·
   exact ⟨0, _, evM_done rfl, go_done, fin_of hI (by omega)⟩
  rw [List.concat_eq_append] at hN hI hs ⊢
  have hvv : ∀ v ∈ vals, v.length ≤ 64 := fun v hv => checkS_len (gndS_iff.1 (hI.gv v hv)).1
  have hcnt := hI.cnt
  rw [List.reverse_append, List.reverse_singleton, List.singleton_append] at hcnt
  simp only [List.length_append, List.length_singleton] at hN hs
  unfold cntS at hcnt
  by_cases hc : (mayS o && decide (o.f1.f1 ≤ (vals.length : Int))) = true
  case neg => rw [if_neg hc] at hcnt; cases hcnt
  rw [if_pos hc] at hcnt
  simp only [Bool.and_eq_true, decide_eq_true_eq] at hc
  obtain ⟨hm, hle⟩ := hc
  by_cases h1 : o.f0 = 1
  case neg =>
   have hm2 := hm
   unfold mayS at hm2
   rw [if_neg h1] at hm2
   by_cases h2 : o.f0 = 2
   case neg => rw [if_neg h2] at hm2; cases hm2
   rw [if_pos h2] at hm2
   simp only [Bool.and_eq_true, beq_iff_eq] at hm2
   obtain ⟨⟨q1, q2⟩, q3⟩ := hm2
   have eo : o = ⟨2, z54, o.f2⟩ := by
    obtain ⟨a, ⟨b, c⟩, d⟩ := o
    simp only at h2 q1 q2
    have hb : b = ⟨#[]⟩ := (bytes_eq _ _).1 (q1.trans ((toList_nil _).2 rfl).symm)
    subst h2; subst q2; subst hb
    rfl
   rw [eo]
   have hI2 : Inv rest (vals ++ [o.f2]) hd := by
    refine ⟨?_, fun v hv => ?_, hI.srt⟩
    ·
     rw [q2] at hcnt
     rw [List.length_append, List.length_singleton]
     rw [show ((vals.length + 1 : Nat) : Int) = (vals.length : Int) + 1 - 0 by omega]
     exact hcnt
    ·
     rcases List.mem_append.1 hv with hv | hv
     ·
      exact hI.gv v hv
     ·
      rw [List.mem_singleton] at hv; rw [hv]; exact q3
   obtain ⟨e, m, i1, i2, i3⟩ := ih rest (vals ++ [o.f2]) st fu hd (by omega) hI2 hfu (by simp; omega)
   exact ⟨e, m, evM_have (by omega) i1, go_step (one_have (by omega) hvv (by omega)) i2, i3⟩
  ·
   have hm2 := hm
   unfold mayS at hm2
   rw [if_pos h1] at hm2
   simp only [Bool.and_eq_true, decide_eq_true_eq, beq_iff_eq, List.isEmpty_iff] at hm2
   obtain ⟨⟨⟨q1, q2⟩, q3⟩, q4⟩ := hm2
   obtain ⟨c, eo⟩ : ∃ c, o = ⟨1, c, []⟩ := ⟨o.f1, by cases o; simp only at h1 q1; rw [h1, q1]⟩
   rw [eo] at q2 q3 q4 hle hcnt
   simp only at q2 q3 q4 hle hcnt
   have ho : Okc c := ⟨by rw [q2]; decide, q3, q4, fun h => by rw [q2] at h; cases h⟩
   have hk : kindS c.f0 ≠ 2 := by rw [q2]; decide
   have har : ((ar c : Nat) : Int) = c.f1 := by unfold ar; omega
   obtain ⟨vs, args, ev, ha⟩ : ∃ vs args, vals = vs ++ args ∧ args.length = ar c := ⟨vals.take (vals.length - ar c), vals.drop (vals.length - ar c), (List.take_append_drop _ _).symm, by rw [List.length_drop]; omega⟩
   have hargs : ∀ v ∈ args, v.length ≤ 64 := fun v hv => hvv v (by rw [ev]; exact List.mem_append_right _ hv)
   have hvs : ∀ v ∈ vs, v.length ≤ 64 := fun v hv => hvv v (by rw [ev]; exact List.mem_append_left _ hv)
   have hV : ∀ v ∈ args, Val7 [] v := fun v hv => ⟨hI.gv v (by rw [ev]; exact List.mem_append_right _ hv), quiet_no v, hargs v hv⟩
   have hlv : vals.length = vs.length + args.length := by rw [ev, List.length_append]
   rw [eo, ev]
   obtain ⟨f1, f2, f3⟩ := val7_flat hV
   rw [ha] at f1
   have hFin : Fin7 ⟨rest ++ [⟨1, c, []⟩], vs ++ args, st, hd, fu⟩ := by
    rw [← eo, ← ev]
    exact fin_of hI (by simp; omega)
   rcases Nat.lt_or_ge 64 (c :: args.flatten).length with hb | hb
   ·
    exact ⟨6, _, evM_make ho ha hargs (ev_make_big (m := ⟨rest, vs, st, hd, fu⟩) ho ha hb) (fun h => absurd h (show ¬ (6 : Int) = 0 by decide)) (fun _ => rfl), go_err (by decide) (one_make ho ha (by simp; omega) (by omega) (one_big ho ha hb (by have h_ := ho.hi; have h1_ := flat_len hargs; have h2_ : ar c ≤ 4 := (by unfold ar; omega); rw [ha] at h1_; simp only [List.length_cons]; have h3_ : 64 * ar c ≤ 64 * 4 := Nat.mul_le_mul_left _ h2_; omega))), hFin⟩
   have hseg : segN (c :: args.flatten) 1 = some [] := by
    show segN args.flatten (0 + ar c) = some []
    rw [Nat.zero_add]; exact f1
   have hoc : ∀ x ∈ c :: args.flatten, Okc x ∧ kindS x.f0 ≠ 2 := fun x hx => by
    rcases List.mem_cons.1 hx with rfl | hx
    ·
     exact ⟨ho, hk⟩
    ·
     exact f3 x hx
   have hcn : checkS (c :: args.flatten) = 0 := checkS_of hb (fun x hx => (hoc x hx).1) hseg
   have hgn : gndS (c :: args.flatten) = true := gndS_iff.2 ⟨hcn, fun x hx => (hoc x hx).2⟩
   have hH := ev_head_srt hI.srt c.f0 (by omega)
   have hHl := len_insS c.f0 hd
   obtain ⟨j, y, g1, g2, g3⟩ := ev_first hcn hr (by omega)
   have hcnt2 : cntS rest.reverse ((vs.length : Int) + 1) = some 1 := by
    rw [hlv] at hcnt
    rw [show ((vs.length + args.length : Nat) : Int) + 1 - c.f1 = (vs.length : Int) + 1 by omega] at hcnt
    exact hcnt
   cases hf : fitS rules (c :: args.flatten) with
   | none =>
    have hI2 : Inv rest (vs ++ [c :: args.flatten]) (insS c.f0 hd) := by
     refine ⟨?_, fun v hv => ?_, srt_insS hI.srt⟩
     ·
      rw [List.length_append, List.length_singleton]
      rw [show ((vs.length + 1 : Nat) : Int) = (vs.length : Int) + 1 by omega]
      exact hcnt2
     ·
      rcases List.mem_append.1 hv with hv | hv
      ·
       exact hI.gv v (by rw [ev]; exact List.mem_append_left _ hv)
      ·
       rw [List.mem_singleton] at hv; rw [hv]; exact hgn
    obtain ⟨e, m, i1, i2, i3⟩ := ih rest (vs ++ [c :: args.flatten]) st fu (insS c.f0 hd) (by omega) hI2 hfu (by simp; omega)
    refine ⟨e, m, evM_make (r := (0, ⟨rest, vs ++ [c :: args.flatten], st, insS c.f0 hd, fu⟩)) ho ha hargs (ev_make_of (m := ⟨rest, vs, st, hd, fu⟩) ho ha hb ?_) (fun _ => i1) (fun h => absurd rfl h), go_step (one_make ho ha (by simp; omega) (by omega) (one_end ho ha (by simp; omega) hvs hb ?_)) i2, i3⟩
    ·
     unfold nodeR
     refine Ev.bind (ev_fitsF hcn hr) ?_
     rw [hf]
     exact Ev.bind (f := fun k hd => if vs.length < 5864062014800 then some ((0 : Int), (⟨rest, vs ++ [c :: args.flatten], st, hd, fu⟩ : Mst)) else none) hH (evIfp (by omega) (Ev.now _))
    ·
     rw [g2 hf] at g1
     exact Ev.bind g1 (evIfp (show (-1 : Int) < 0 by decide) (Ev.now _))
   | some x =>
    obtain ⟨r, ob⟩ := x
    obtain ⟨hmem, q, hmt⟩ := fitS_mem hf
    replace hmt : M.mat r.f1 (c :: args.flatten) [] = some (ob, q) := hmt
    have hru := hr r hmem
    obtain ⟨b1, b2, b3⟩ := bind_ok (rules := []) hru hgn rfl (quiet_no _) hmt
    obtain ⟨rfl, aj, rfl, g4, g5⟩ := g3 r ob hf
    by_cases hf0 : fu ≤ 0
    ·
     refine ⟨14, ⟨rest ++ [⟨1, c, []⟩], vs ++ args, st, hd, fu⟩, evM_make (r := (14, ⟨rest ++ [⟨1, c, []⟩], vs ++ args, st, hd, fu⟩)) ho ha hargs (ev_make_of (m := ⟨rest, vs, st, hd, fu⟩) ho ha hb ?_) (fun h => absurd h (show ¬ (14 : Int) = 0 by decide)) (fun _ => rfl), go_err (ops' := rest ++ [⟨1, c, []⟩]) (vals' := vs ++ args) (st' := st) (hd' := hd) (fu' := fu) (by decide) (one_make ho ha (by simp; omega) (by omega) (one_end ho ha (by simp; omega) hvs hb ?_)), hFin⟩
     ·
      unfold nodeR
      refine Ev.bind (ev_fitsF hcn hr) ?_
      rw [hf]
      exact evIfp hf0 (Ev.now _)
     ·
      exact Ev.bind g1 (evIfn (by omega) (evIfp hf0 (Ev.now _)))
    ·
     obtain ⟨p1, p2, p3, p4, p5, p6, _, _⟩ := ruleS_ok hru
     obtain ⟨s1, s2, s3⟩ := checkS_ok p2
     obtain ⟨o', hpo⟩ := po_of (H := bindL y) r.f2.length r.f2 1 (Nat.le_refl _) (fun d hd hp => by
      have := (s2 d hd).var ((b3 d hd).1.1 hp)
      unfold ar; rw [this]; rfl) s3
     have hol := po_len hpo
     have hI2 : Inv (rest ++ o'.reverse) vs (insS c.f0 hd) := by
      refine ⟨?_, fun v hv => hI.gv v (by rw [ev]; exact List.mem_append_left _ hv), srt_insS hI.srt⟩
      rw [List.reverse_append, List.reverse_reverse, cnt_poH hpo (fun d hd => ⟨s2 d hd, (b3 d hd).1, fun h => ((b3 d hd).2 h).2.1.gnd⟩) _ _ (by omega)]
      exact hcnt2
     obtain ⟨e, m, i1, i2, i3⟩ := ih (rest ++ o'.reverse) vs (wrap64 (st + 1)) (fu - 1) (insS c.f0 hd) (by simp; omega) hI2 (by omega) (by simp; omega)
     refine ⟨e, m, evM_make (r := (0, ⟨rest ++ o'.reverse, vs, wrap64 (st + 1), insS c.f0 hd, fu - 1⟩)) ho ha hargs (ev_make_of (m := ⟨rest, vs, st, hd, fu⟩) ho ha hb ?_) (fun _ => i1) (fun h => absurd rfl h), go_step (one_make ho ha (by simp; omega) (by omega) (one_end ho ha (by simp; omega) hvs hb ?_)) i2, i3⟩
     ·
      unfold nodeR
      refine Ev.bind (ev_fitsF hcn hr) ?_
      rw [hf]
      refine evIfn hf0 (evIfp ⟨by show fu ≤ _; omega, b1⟩ ?_)
      refine Ev.bind (f := fun k hd => (todoL (bindL y) r.f2 k 0 []).bind fun r => if rest.length + r.1.length < 2513169434900 then some ((0 : Int), (⟨rest ++ r.1.reverse, vs, wrap64 (st + 1), hd, fu - 1⟩ : Mst)) else none) hH ?_
      exact Ev.bind (ev_todo p2 hpo) (evIfp (by show rest.length + o'.length < _; omega) (Ev.now _))
     ·
      refine Ev.bind g1 (evIfn (by omega) (evIfn hf0 ?_))
      unfold oneE
      refine evIfp ⟨by omega, by omega⟩ ?_
      simp only [g5]
      refine Ev.bind (ev_rTodo y p2 hpo (fun d hd => (b3 d hd).1) (fun d hd h => ((b3 d hd).2 h).1)) (evIfp (by omega) ?_)
      rw [wrap_id (i := fu - 1) (by omega) (by omega)]
      exact Ev.now _
end Go.Proofs.Ytdlkhpfgkghhmaa.P

-- ==== PL8u
/- Plain laws of chapter 7: runs, as steps that are free or paid; a run that is gone on with is one run. -/
namespace Go.Proofs.Ytdlkhpfgkghhmaa.P
open Go.RowKit Go.Proofs.YtdlkhpfgkghhmaaW.PrintWords
abbrev atF (m : Mst) (f : Int) : Mst := ⟨m.ops, m.vals, m.st, m.hd, f⟩
inductive Rn (rules : List Rul) : Mst → Int → Mst → Prop
 | done (m : Mst) (h : m.ops = []) : Rn rules m 0 m
 | big (m : Mst) (h : ∀ f, EvM rules (atF m f) (6, atF m f)) : Rn rules m 6 m
 | out (m : Mst) (hf : m.fu ≤ 0) (h : ∀ f, f ≤ 0 → EvM rules (atF m f) (14, atF m f)) : Rn rules m 14 m
 | free (m m1 : Mst) (e : Int) (m2 : Mst) (hf : m1.fu = m.fu) (hs : m1.st = m.st) (h : ∀ f R, EvM rules (atF m1 f) R → EvM rules (atF m f) R) (hr : Rn rules m1 e m2) : Rn rules m e m2
 | paid (m m1 : Mst) (e : Int) (m2 : Mst) (hp : 0 < m.fu) (hf : m1.fu = m.fu - 1) (hs : m1.st = m.st + 1) (h : ∀ f R, 0 < f → f ≤ 1000 → EvM rules (atF m1 (f - 1)) R → EvM rules (atF m f) R) (hr : Rn rules m1 e m2) : Rn rules m e m2
structure Ok7 (m : Mst) : Prop where
 inv : Inv m.ops m.vals m.hd
 kd : ∀ h ∈ m.hd, kindS h = 1
 st0 : 0 ≤ m.st
end Go.Proofs.Ytdlkhpfgkghhmaa.P

-- ==== PL8v
/- Plain laws of chapter 7: copies of states, states that are like themselves. -/
namespace Go.Proofs.Ytdlkhpfgkghhmaa.P
open Go.RowKit Go.Proofs.YtdlkhpfgkghhmaaW.PrintWords
theorem cpL_self : ∀ (l : List Opn), (∀ o ∈ l, o.f2.length < 5864062014805) → cpL l = some l
 | [], _ => rfl
 | o :: u, h => by
  have h1 := h o (List.mem_cons_self ..)
  have h2 := cpL_self u (fun x hx => h x (List.mem_cons_of_mem _ hx))
  rw [cpL, h2]
  unfold aumbryref04_Copy.f
  rw [if_pos (by simpa using h1)]
  rfl
theorem ev_copyF (ops : List Opn) (vals : List (List Cel)) (st : Int) (hd : List ByteArray) (hl : ops.length < 2513169434900) (hs : ∀ o ∈ ops, o.f2.length < 5864062014805) (hv : vals.length ≤ 5864062014804) (hvs : ∀ a ∈ vals, a.length < 5864062014805) (hh : hd.length < 8796093022200) :
 Ev (fun k => copyF k ops vals st hd) (ops, vals, st, hd) := by
 unfold copyF
 refine evIfp ⟨hl, hh⟩ (Ev.bind (ev_copyAll vals hv hvs) ?_)
 rw [cpL_self ops hs]
 exact Ev.now _
theorem ev_selfOps : ∀ (l : List Opn), (∀ o ∈ l, o.f2.length < 5864062014805) → ∃ K, ∀ k, K ≤ k → (l.all fun o => decide (aumbryref04_Same.f k o.f2 o.f2 = some true)) = true
 | [], _ => ⟨0, fun _ _ => rfl⟩
 | o :: u, h => by
  obtain ⟨K, hK⟩ := ev_selfOps u (fun x hx => h x (List.mem_cons_of_mem _ hx))
  obtain ⟨L, hL⟩ := ev_refSame4 o.f2 o.f2 (.inl (by have := h o (List.mem_cons_self ..); omega))
  refine ⟨max K L, fun k hk => ?_⟩
  have h1 := hL k (by omega)
  rw [List.all_cons, hK k (by omega), Bool.and_true]
  exact decide_eq_true (h1.trans (by rw [decide_eq_true rfl]))
theorem ev_selfS {ops : List Opn} {vals : List (List Cel)} {hd : List ByteArray} (st e : Int) (ho : ∀ o ∈ ops, o.f2.length < 5864062014805) (h2 : vals.length ≤ 5864062014804) (hv : ∀ a ∈ vals, a.length < 5864062014805) (h1 : hd.length < 8796093022208) : ∃ K, ∀ k, K ≤ k → selfF k (ops, vals, st, hd, e) = true := by
 obtain ⟨K1, hK1⟩ := ev_same3 hd (by omega)
 obtain ⟨K2, hK2⟩ := ev_sameAll vals (by omega) (fun a ha => by have := hv a ha; omega)
 obtain ⟨K3, hK3⟩ := ev_selfOps ops ho
 refine ⟨max K1 (max K2 K3), fun k hk => ?_⟩
 unfold selfF
 simp only
 rw [hK3 k (by omega), decide_eq_true (hK1 k (by omega)), decide_eq_true (hK2 k (by omega))]
 rfl
end Go.Proofs.Ytdlkhpfgkghhmaa.P

-- ==== PureRewriteOwn
/- What is handed in stays; what is answered is new memory: for all rules, states and fuels whose bulk is at most 1048576, the law answers true. -/
namespace Go.Proofs.Ytdlkhpfgkghhmaa.Pure
open Go.RowKit Go.Proofs.Ytdlkhpfgkghhmaa.P Go.Proofs.YtdlkhpfgkghhmaaW.PrintWords
theorem bulk_len {α : Type} {bk : α → Nat} (h : ∀ x, 1 ≤ bk x) : ∀ (l : List α), l.length ≤ Open.bulkAll bk l
 | [] => Nat.zero_le _
 | a :: l => by
  have h1 := bulk_len h l
  have h2 := h a
  have e : Open.bulkAll bk (a :: l) = bk a + Open.bulkAll bk l := by simp [Open.bulkAll]
  rw [e, List.length_cons]
  omega
theorem ev_sameRules (l : List Rul) (hl : l.length ≤ 2513169434915) (hs : ∀ r ∈ l, r.f1.length < 5864062014805 ∧ r.f2.length < 5864062014805) : ∀ (u : List Rul) (i : Nat), i ≤ l.length → l.drop i = u → Ev (fun k => aumbryref06_SameAll.l0 k l l (l.length : Int) (i : Int)) true
 | [], i, hi, hu => by
  have h1 := drop_nil_len hi hu
  refine Ev.step (fun k => (show aumbryref06_SameAll.l0 (k + 1) l l (l.length : Int) (i : Int) = _ from by rw [aumbryref06_SameAll.l0])) ?_
  exact evIfn (by omega) (Ev.now _)
 | a :: u, i, hi, hu => by
  obtain ⟨h1, h2, h3⟩ := drop_cons hu
  refine Ev.step (fun k => (show aumbryref06_SameAll.l0 (k + 1) l l (l.length : Int) (i : Int) = _ from by rw [aumbryref06_SameAll.l0])) ?_
  refine evIfp (by omega) (evIfp (by omega) (evIfp (by omega) (evIfp (by omega) ?_)))
  simp only [rd_rul hu, up_cast i (by omega)]
  obtain ⟨z1, z2⟩ := hs a (List.mem_of_mem_drop (hu ▸ List.mem_cons_self ..))
  refine Ev.bind (a := true) ?_ (evIfp rfl (ev_sameRules l hl hs u (i + 1) (by omega) h3))
  unfold aumbryref06_Same.f
  exact evIfp rfl (Ev.bind (ev_refSame4 a.f1 a.f1 (.inl (by omega))) (evIfp (decide_eq_true rfl) (Ev.bind (ev_refSame4 a.f2 a.f2 (.inl (by omega))) (by rw [decide_eq_true rfl]; exact Ev.now _))))
theorem RewriteOwnUpto : aumbrylaw07_RewriteOwn.PureUpto := by
 intro rules s fu hs ht hf hb
 have hrl : rules.length ≤ 2513169434915 := by have := hs.1; omega
 have hrs : ∀ r ∈ rules, r.f1.length < 5864062014805 ∧ r.f2.length < 5864062014805 := fun r hr => ⟨sz_len (hs.2 r hr).2.1, sz_len (hs.2 r hr).2.2⟩
 obtain ⟨⟨s1, s2⟩, ⟨s3, s4⟩, s5, s6, s7⟩ := ht
 have b1 : s.f0.length + s.f1.length + s.f3.length ≤ 1048576 := by
  have t1 := bulk_len (bk := bk70) (fun x => by unfold bk70; omega) s.f0
  have t2 := bulk_len (bk := bk23) (fun x => by unfold bk23; omega) s.f1
  have t3 := bulk_len (bk := bk9) (fun x => by unfold bk9; omega) s.f3
  unfold bk28 bk24 bk25 bk26 at hb
  omega
 have hos : ∀ o ∈ s.f0, o.f2.length < 5864062014805 := fun o ho => sz_len (s2 o ho).2.2
 have hvs : ∀ a ∈ s.f1, a.length < 5864062014805 := fun a ha => sz_len (s4 a ha)
 have C := ev_copyF s.f0 s.f1 s.f2 s.f3 (by omega) hos (by omega) hvs (by omega)
 refine Ev.rounds ?_
 unfold aumbrylaw07_RewriteOwn.f lawOwn
 refine Ev.bind aumbrylaw07_wakes.ev_true (evIfp rfl ?_)
 unfold aumbrylaw07_few.f
 by_cases hl : (rules.length : Int) ≤ 64
 case neg => exact Ev.bind (a := false) (by exact evIfn hl (Ev.now _)) (evIfn (by decide) (Ev.now _))
 by_cases h3 : fu ≤ 300
 case neg => exact Ev.bind (a := false) (by exact evIfp hl (by rw [decide_eq_false h3]; exact Ev.now _)) (evIfn (by decide) (Ev.now _))
 refine Ev.bind (a := true) (by exact evIfp hl (by rw [decide_eq_true h3]; exact Ev.now _)) (evIfp rfl ?_)
 unfold lawOwnB
 refine Ev.bind C (Ev.bind (ev_rules rules hrl hrs) ?_)
 have R : ∃ X, Ev (fun k => rewrite_Run.f k rules s.f0 s.f1 s.f2 s.f3 fu) X := by
  have run : ∀ {e : Int} {m : Mst}, Ev (fun k => runF k k rules s.f0 s.f1 s.f2 s.f3 fu) (e, m) → ∃ X, Ev (fun k => rewrite_Run.f k rules s.f0 s.f1 s.f2 s.f3 fu) X := fun h1 => ⟨_, Ev.bind h1 (Ev.now _)⟩
  by_cases h : togS rules = 0
  case neg =>
   refine run (e := togS rules) (m := ⟨[], [], 0, [], 0⟩) ?_
   unfold runF
   exact Ev.bind (ev_tog rules hrl) (evIfn h (Ev.now _))
  have hK := ev_chk s.f0 s.f1 s.f2 s.f3 (by omega) (by omega)
  by_cases hr : rightS s.f0 s.f1 s.f2 s.f3 = true
  case neg =>
   rw [if_neg hr] at hK
   refine run (e := 3) (m := ⟨[], [], 0, [], 0⟩) ?_
   unfold runF
   exact Ev.bind (ev_tog rules hrl) (evIfp h (Ev.bind hK (evIfn (by decide) (Ev.now _))))
  rw [if_pos hr] at hK
  obtain ⟨e, m, i1, _, _⟩ := sim7 (togS_ok h) (by omega) _ s.f0 s.f1 s.f2 fu s.f3 (Nat.le_refl _) (inv_of hr) h3 (by omega)
  refine run (e := e) (m := m) ?_
  unfold runF
  refine Ev.bind (ev_tog rules hrl) (evIfp h (Ev.bind hK (evIfp rfl (Ev.bind (ev_clone s.f0 s.f1 s.f2 s.f3 (by omega) hos (by omega) hvs (by omega)) ?_))))
  obtain ⟨K, hK2⟩ := i1
  exact ⟨K, fun k hk => hK2 k k hk hk⟩
 obtain ⟨X, hX⟩ := R
 refine Ev.bind hX ?_
 obtain ⟨K1, hK1⟩ := ev_selfS s.f2 0 hos (by omega) hvs (show s.f3.length < 8796093022208 by omega)
 obtain ⟨K2, hK2⟩ := (evIfp (c := (rules.length : Int) = (rules.length : Int)) rfl (ev_sameRules rules hrl hrs rules 0 (by omega) rfl) : Ev (fun k => aumbryref06_SameAll.f k rules rules) true)
 exact ⟨max K1 K2, fun k hk => if_pos ⟨rfl, hK1 k (by omega), hK2 k (by omega)⟩⟩
end Go.Proofs.Ytdlkhpfgkghhmaa.Pure
