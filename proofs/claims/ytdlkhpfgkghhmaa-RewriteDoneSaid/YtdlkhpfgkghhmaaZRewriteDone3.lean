/- RewriteDone: the law answers true at every input that the given row speaks of. Conditions: those of the given row, none besides. (Part 4 of 5; written by programs of this session, which drive the kit's print, and by hand.) -/
import Derived.Test.YtdlkhpfgkghhmaaRows
import Derived.Test.YtdlkhpfgkghhmaaZRewriteDoneWWords
import Derived.Deep.Slices
import Derived.SizedLaws
import Derived.ChangeSame
import Derived.ChangeArms
import Derived.Test.YtdlkhpfgkghhmaaZRewriteDone0
import Derived.Test.YtdlkhpfgkghhmaaZRewriteDone1
import Derived.Test.YtdlkhpfgkghhmaaZRewriteDone2
set_option maxHeartbeats 8000000
set_option maxRecDepth 100000
set_option linter.unusedVariables false
set_option linter.unusedSimpArgs false
-- ==== PF23
namespace Go.Proofs.Ytdlkhpfgkghhmaa.P
open Go.RowKit Go.Proofs.YtdlkhpfgkghhmaaW.PrintWords Go.Proofs.YtdlkhpfgkghhmaaW.PrintLast Go.Proofs.YtdlkhpfgkghhmaaW.PrintMore
attribute [local go_sem] max2_int min2_int max_two min_two max_three min_three max_four min_four

/-! ### aumbryref07_Ground: function 23 -/
def aumbryref07_Ground.f (k : Nat) (l0 : List (S54)) : Option (Bool) := (aumbryref04_Check.f k l0).bind fun t101 => (if t101 = 0 then ((aumbryref04_Vars.f k l0).bind fun t102 => (some ((t102.length : Int) == 0))) else (some false))
theorem aumbryref07_Ground.calls (k : Nat) (A0 : Option Addr) (c0 : Nat) (l0 : List (S54)) (r : Bool) (w : World) (hr0 : Kd.C k54 w A0 l0.length l0) (hc0 : l0.length ≤ c0) (h : aumbryref07_Ground.f k l0 = some r) :
 Calls Try.prog 23 #[.slice A0 l0.length c0] w fun e w' => e = .returned (.bool r) ∧ Below w.heap.size w w' := by
 have HR0 := zM hr0
 have HC0 := zM hc0
 clear hr0 hc0
 have HB := zM (Below.refl w.heap.size w)
 have H : ((aumbryref04_Check.f k l0).bind fun t101 => (if t101 = 0 then ((aumbryref04_Vars.f k l0).bind fun t102 => (some ((t102.length : Int) == 0))) else (some false))) = some r := h
 clear h
 replace H := zB H
 obtain ⟨t101, A20, H⟩ := H
 try dsimp only at H
 have A2 := zM A20
 clear A20
 by_cases c3 : t101 = 0
 ·
  rw [if_pos c3] at H
  have c3b0 : (t101 == 0) = true := zG c3
  have c3b1 : (t101 != 0) = false := zH c3
  clear c3
  replace H := zB H
  obtain ⟨t102, A40, H⟩ := H
  try dsimp only at H
  have A4 := zM A40
  clear A40
  obtain rfl := zS H
  go_enter Try.func23, Try.ntmps23
  go_wp2_with (first | ((with_reducible refine gate_callee (f := 34) rfl ?_); refine goesL_ (some 4) rfl rfl Try.func34 (by kernel_rfl) rfl #[.slice A0 l0.length c0] rfl zl ?_; (with_reducible refine (aumbryref04_Check.calls k _ _ l0 t101 _ ?side1 ?side2 A2.out).mono ?_); (case side1 => exact Kd.C_below HR0.out zg); (case side2 => exact HC0.out); rintro e w' ⟨rfl, ⟨nd, rfl⟩⟩; refine ⟨_, rfl, ?_⟩) | (go_at_call 52; (with_reducible refine (aumbryref04_Vars.calls k _ _ l0 t102 _ ?side1 ?side2 A4.out).mono ?_); (case side1 => exact Kd.C_below HR0.out zg); (case side2 => exact HC0.out); rintro e w5 ⟨v103, rfl, ho0, hb⟩; have HO104 := zM (Kd.R_lower ho0 (below_size zb)); replace HB := zM (below_step zb hb); (try clear hb); (try clear ho0); obtain ⟨Ao6, co6, eo6⟩ := Kd.R_slice HO104.out; subst eo6))
  go_ret
  exact ⟨zw, zb⟩
 ·
  rw [if_neg c3] at H
  have c3b0 : (t101 == 0) = false := zE c3
  have c3b1 : (t101 != 0) = true := zF c3
  obtain rfl := zS H
  go_enter Try.func23, Try.ntmps23
  go_wp2_with (first | ((with_reducible refine gate_callee (f := 34) rfl ?_); refine goesL_ (some 4) rfl rfl Try.func34 (by kernel_rfl) rfl #[.slice A0 l0.length c0] rfl zl ?_; (with_reducible refine (aumbryref04_Check.calls k _ _ l0 t101 _ ?side1 ?side2 A2.out).mono ?_); (case side1 => exact Kd.C_below HR0.out zg); (case side2 => exact HC0.out); rintro e w' ⟨rfl, ⟨nd, rfl⟩⟩; refine ⟨_, rfl, ?_⟩))
  go_ret
  exact ⟨zw, zb⟩


-- ==== PF27

attribute [local go_sem high] eqA54
/-! ### aumbryref04_Same: function 27 -/
def aumbryref04_Same.l0 : Nat → List (S54) → List (S54) → Int → Int → Option (Bool)
 | 0, _, _, _, _ => none
 | k + 1, x0, x1, x12, x13 => if x13 < x12 then (if 0 ≤ x13 then (if x13 < (x0.length : Int) then (if x13 < (x1.length : Int) then (if (!((((rd_T54 x0 x13).f0).toList) == (((rd_T54 x1 x13).f0).toList)) || (!(((rd_T54 x0 x13).f1) == ((rd_T54 x1 x13).f1)))) = true then (some false) else (aumbryref04_Same.l0 k x0 x1 x12 (wrap64 (x13 + 1)))) else (none)) else (none)) else (none)) else (some true)
def aumbryref04_Same.f (k : Nat) (l0 : List (S54)) (l1 : List (S54)) : Option (Bool) := if (l0.length : Int) = (l1.length : Int) then (aumbryref04_Same.l0 k l0 l1 (l0.length : Int) 0) else (some false)
theorem aumbryref04_Same.calls (k : Nat) (A0 : Option Addr) (c0 : Nat) (l0 : List (S54)) (A1 : Option Addr) (c1 : Nat) (l1 : List (S54)) (r : Bool) (w : World) (hr0 : Kd.C k54 w A0 l0.length l0) (hc0 : l0.length ≤ c0) (hr1 : Kd.C k54 w A1 l1.length l1) (hc1 : l1.length ≤ c1) (h : aumbryref04_Same.f k l0 l1 = some r) :
 Calls Try.prog 27 #[.slice A0 l0.length c0, .slice A1 l1.length c1] w fun e w' => e = .returned (.bool r) ∧ Drawn0 w w' := by
 have hu54 := Try.underlying54
 have HR0 := zM hr0
 have HC0 := zM hc0
 clear hr0 hc0
 have HR1 := zM hr1
 have HC1 := zM hc1
 clear hr1 hc1
 have H : (if (l0.length : Int) = (l1.length : Int) then (aumbryref04_Same.l0 k l0 l1 (l0.length : Int) 0) else (some false)) = some r := h
 clear h
 by_cases c3 : (l0.length : Int) = (l1.length : Int)
 ·
  rw [if_pos c3] at H
  have c3b0 : ((l0.length : Int) == (l1.length : Int)) = true := zG c3
  have c3b1 : ((l0.length : Int) != (l1.length : Int)) = false := zH c3
  have c3b2 : (l0.length == l1.length) = true := by first | simpa using c3 | (simp at c3 ⊢; omega)
  clear c3
  have H' := zM H
  clear H
  go_enter Try.func27, Try.ntmps27
  go_wp2
  repeat (go_quiet (fail); try go_wp2)
  go_loopg [13] k (fun kq v13 w' => ∃ (x13_1 : Int), v13 = .int .i64 x13_1 ∧ Aside0 (aumbryref04_Same.l0 kq l0 l1 (l0.length : Int) x13_1 = some r) ∧ Aside0 (kq ≤ k) ∧ Drawn0 w w')
  case atStart => exact ⟨(0), zy, H', ⟨Nat.le_refl _⟩, zd⟩
  case round =>
   clear H'
   try clear c1
   try clear c2
   try clear p2
   try clear c3
   try clear c3b0
   try clear c3b1
   try clear c3b2
   obtain ⟨x13_1, rfl, HA, HK1, ⟨m1, rfl⟩⟩ := hrel
   cases gk with
   | zero => exact absurd HA.out (by simp [aumbryref04_Same.l0])
   | succ k1 =>
    have H := HA.out
    clear HA
    simp only [aumbryref04_Same.l0] at H
    by_cases c4 : x13_1 < (l0.length : Int)
    ·
     rw [if_pos c4] at H
     have c4b0 : decide (x13_1 < (l0.length : Int)) = true := zQ c4
     clear c4
     by_cases c5 : 0 ≤ x13_1
     ·
      rw [if_pos c5] at H
      have c5b0 : decide (0 ≤ x13_1) = true := zQ c5
      clear c5
      by_cases c6 : x13_1 < (l0.length : Int)
      ·
       rw [if_pos c6] at H
       have c6b0 : decide (x13_1 < (l0.length : Int)) = true := zQ c6
       clear c6
       by_cases c7 : x13_1 < (l1.length : Int)
       ·
        rw [if_pos c7] at H
        have c7b0 : decide (x13_1 < (l1.length : Int)) = true := zQ c7
        clear c7
        by_cases c8 : (!((((rd_T54 l0 x13_1).f0).toList) == (((rd_T54 l1 x13_1).f0).toList)) || (!(((rd_T54 l0 x13_1).f1) == ((rd_T54 l1 x13_1).f1)))) = true
        ·
         rw [if_pos c8] at H
         have c8b0 : (!((((rd_T54 l0 x13_1).f0).toList) == (((rd_T54 l1 x13_1).f0).toList)) || (!(((rd_T54 l0 x13_1).f1) == ((rd_T54 l1 x13_1).f1)))) = true := c8
         clear c8
         obtain rfl := zS H
         have p101 : 0 ≤ (x13_1 : Int) := zT zv
         have q101 : x13_1 < (l0.length : Int) := zT zv
         obtain ⟨ad101, e101, hx101_0, hx101_1⟩ := at_T54 HR0.out x13_1 p101 q101
         cases e101
         replace p101 := eq_true p101
         replace q101 := eq_true q101
         have p102 : 0 ≤ (x13_1 : Int) := zT zv
         have q102 : x13_1 < (l1.length : Int) := zT zv
         obtain ⟨ad102, e102, hx102_0, hx102_1⟩ := at_T54 HR1.out x13_1 p102 q102
         cases e102
         replace p102 := eq_true p102
         replace q102 := eq_true q102
         go_wp2
         repeat (go_quiet (fail); try go_wp2)
         go_ret
         exact ⟨zy, zd⟩
        ·
         rw [if_neg c8] at H
         have c8b0 : (!((((rd_T54 l0 x13_1).f0).toList) == (((rd_T54 l1 x13_1).f0).toList)) || (!(((rd_T54 l0 x13_1).f1) == ((rd_T54 l1 x13_1).f1)))) = false := by simpa using c8
         clear c8
         have H' := zM H
         clear H
         have p101 : 0 ≤ (x13_1 : Int) := zT zv
         have q101 : x13_1 < (l0.length : Int) := zT zv
         obtain ⟨ad101, e101, hx101_0, hx101_1⟩ := at_T54 HR0.out x13_1 p101 q101
         cases e101
         replace p101 := eq_true p101
         replace q101 := eq_true q101
         have p102 : 0 ≤ (x13_1 : Int) := zT zv
         have q102 : x13_1 < (l1.length : Int) := zT zv
         obtain ⟨ad102, e102, hx102_0, hx102_1⟩ := at_T54 HR1.out x13_1 p102 q102
         cases e102
         replace p102 := eq_true p102
         replace q102 := eq_true q102
         go_wp2
         repeat (go_quiet (fail); try go_wp2)
         go_roundg k1
         case measure => have := HK1.out; omega
         case rel => exact ⟨(wrap64 (x13_1 + 1)), zy, H', ⟨by have := HK1.out; omega⟩, zd⟩
       ·
        rw [if_neg c7] at H
        exact absurd H (by simp)
      ·
       rw [if_neg c6] at H
       exact absurd H (by simp)
     ·
      rw [if_neg c5] at H
      exact absurd H (by simp)
    ·
     rw [if_neg c4] at H
     have c4b0 : decide (x13_1 < (l0.length : Int)) = false := zR c4
     clear c4
     obtain rfl := zS H
     go_wp2
     repeat (go_quiet (fail); try go_wp2)
     go_ret
     exact ⟨zy, zd⟩
 ·
  rw [if_neg c3] at H
  have c3b0 : ((l0.length : Int) == (l1.length : Int)) = false := zE c3
  have c3b1 : ((l0.length : Int) != (l1.length : Int)) = true := zF c3
  have c3b2 : (l0.length == l1.length) = false := by first | simpa using c3 | (simp at c3 ⊢; omega)
  obtain rfl := zS H
  go_enter Try.func27, Try.ntmps27
  go_wp2
  repeat (go_quiet (fail); try go_wp2)
  go_ret
  exact ⟨zy, zd⟩


-- ==== PF54

/-! ### aumbryref04_Kids: function 54 -/
def aumbryref04_Kids.l0 : Nat → List (S54) → List (List (S54)) → Int → Option ((List (List (S54))))
 | 0, _, _, _ => none
 | k + 1, x0, x3, x4 => if x4 < (x0.length : Int) then ((aumbryref04_Behind.f k x0 x4).bind fun t101 => (if 0 ≤ x4 then (if x4 ≤ t101 then (if t101 ≤ (x0.length : Int) then ((aumbryref04_Copy.f ((x0.take (t101 : Int).toNat).drop (x4 : Int).toNat)).bind fun t106 => (if x3.length < 5864062014805 then ((aumbryref04_Behind.f k x0 x4).bind fun t112 => (aumbryref04_Kids.l0 k x0 (x3 ++ [t106]) t112)) else (none))) else (none)) else (none)) else (none))) else (some x3)
def aumbryref04_Kids.f (k : Nat) (l0 : List (S54)) : Option ((List (List (S54)))) := aumbryref04_Kids.l0 k l0 ([] : List (List (S54))) 1
theorem aumbryref04_Kids.calls (k : Nat) (A0 : Option Addr) (c0 : Nat) (l0 : List (S54)) (r : List (List (S54))) (w : World) (hr0 : Kd.C k54 w A0 l0.length l0) (hc0 : l0.length ≤ c0) (h : aumbryref04_Kids.f k l0 = some r) :
 Calls Try.prog 54 #[.slice A0 l0.length c0] w fun e w' => ∃ v0_ : Value, e = .returned (v0_) ∧ Kd.S (Kd.slice 54 k54) 23 w' w.heap.size (fun _ => True) v0_ r ∧ Below w.heap.size w w' := by
 have HR0 := zM hr0
 have HC0 := zM hc0
 clear hr0 hc0
 have HB := zM (Below.refl w.heap.size w)
 have H : (aumbryref04_Kids.l0 k l0 ([] : List (List (S54))) 1) = some r := h
 clear h
 have H' := zM H
 clear H
 go_enter Try.func54, Try.ntmps54
 go_wp2
 go_loopg [3, 4] k (fun kq v3 v4 w' => ∃ (x3_1 : List (List (S54))) (x4_1 : Int), v4 = .int .i64 x4_1 ∧ Aside0 (aumbryref04_Kids.l0 kq l0 x3_1 x4_1 = some r) ∧ Aside0 (kq ≤ k) ∧ Aside0 (Kd.S (Kd.slice 54 k54) 23 w' w.heap.size (fun _ => True) v3 x3_1) ∧ Aside0 (Below w.heap.size w w'))
 case atStart => exact ⟨(([] : List (List (S54)))), (1), zy, H', ⟨Nat.le_refl _⟩, ⟨by first | exact Kd.S_nil _ _ _ _ _ | exact Kd.N_nil _ _ _ _ _ | exact Kd.V_nil _ _ _ _ _ | exact Kd.Q_nil _ _ _ _ _ | exact Kd.R_nil _ _ _ _ _⟩, ⟨zb⟩⟩
 case round =>
  clear H'
  obtain ⟨x3_1, x4_1, rfl, HA, HK1, HO_3, HB⟩ := hrel
  cases gk with
  | zero => exact absurd HA.out (by simp [aumbryref04_Kids.l0])
  | succ k1 =>
   have H := HA.out
   clear HA
   simp only [aumbryref04_Kids.l0] at H
   by_cases c2 : x4_1 < (l0.length : Int)
   ·
    rw [if_pos c2] at H
    have c2b0 : decide (x4_1 < (l0.length : Int)) = true := zQ c2
    clear c2
    replace H := zB H
    obtain ⟨t101, A30, H⟩ := H
    try dsimp only at H
    have A3 := zM A30
    clear A30
    by_cases c4 : 0 ≤ x4_1
    ·
     rw [if_pos c4] at H
     have c4b0 := eq_true c4
     have c4b1 : decide (0 ≤ x4_1) = true := zQ c4
     clear c4
     by_cases c5 : x4_1 ≤ t101
     ·
      rw [if_pos c5] at H
      have c5b0 := eq_true c5
      have c5b1 : decide (x4_1 ≤ t101) = true := zQ c5
      clear c5
      by_cases c6 : t101 ≤ (l0.length : Int)
      ·
       rw [if_pos c6] at H
       have c6b0 := eq_true c6
       have c6b1 : decide (t101 ≤ (l0.length : Int)) = true := zQ c6
       clear c6
       obtain ⟨y102, hy102⟩ : ∃ y_ : List (S54), y_ = ((l0.take (t101 : Int).toNat).drop (x4_1 : Int).toNat) := ⟨_, rfl⟩
       replace H : ((aumbryref04_Copy.f y102).bind fun t106 => (if x3_1.length < 5864062014805 then ((aumbryref04_Behind.f k1 l0 x4_1).bind fun t112 => (aumbryref04_Kids.l0 k1 l0 (x3_1 ++ [t106]) t112)) else (none))) = some r := by first | (rw [hy102]; with_reducible exact H) | (have H2_ := (Option.bind_some _ _).symm.trans H; rw [hy102]; with_reducible exact H2_) | (have H2_ := (Option.bind_some _ _).symm.trans H; with_reducible exact H2_) | with_reducible exact H | (rw [hy102]; exact H) | exact H
       have Ny102 := zM hy102
       clear hy102
       replace H := zB H
       obtain ⟨t106, A70, H⟩ := H
       try dsimp only at H
       have A7 := zM A70
       clear A70
       by_cases c8 : x3_1.length < 5864062014805
       ·
        rw [if_pos c8] at H
        have LMc8 := zM c8
        clear c8
        obtain ⟨y109, hy109⟩ : ∃ y_ : List (List (S54)), y_ = (x3_1 ++ [t106]) := ⟨_, rfl⟩
        replace H : ((aumbryref04_Behind.f k1 l0 x4_1).bind fun t112 => (aumbryref04_Kids.l0 k1 l0 y109 t112)) = some r := by first | (rw [hy109]; with_reducible exact H) | (have H2_ := (Option.bind_some _ _).symm.trans H; rw [hy109]; with_reducible exact H2_) | (have H2_ := (Option.bind_some _ _).symm.trans H; with_reducible exact H2_) | with_reducible exact H | (rw [hy109]; exact H) | exact H
        have Ny109 := zM hy109
        clear hy109
        replace H := zB H
        obtain ⟨t112, A90, H⟩ := H
        try dsimp only at H
        have A9 := zM A90
        clear A90
        have H' := zM H
        clear H
        go_wp2_with (first | ((with_reducible refine gate_callee (f := 65) rfl ?_); refine goesL_ (some 17) rfl rfl Try.func65 (by kernel_rfl) rfl #[.slice A0 l0.length c0, .int .i64 x4_1] rfl zl ?_; (with_reducible refine (aumbryref04_Behind.calls k1 _ _ l0 x4_1 t101 _ ?side1 ?side2 A3.out).mono ?_); (case side1 => exact Kd.C_below HR0.out zb); (case side2 => exact HC0.out); rintro e w' ⟨rfl, ⟨nd, rfl⟩⟩; refine ⟨_, rfl, ?_⟩; have q10 : (t101 : Int) ≤ ((l0.length : Int) : Int) := zT zv; obtain ⟨i010, hi010, _, hsz10, _⟩ := info_parts info54; have hroom10 : l0.length ≤ c0 := HC0.out; have hC10 : Kd.C k54 _ A0 l0.length l0 := HR0.out; have ql10 : (x4_1 : Int) ≤ (t101 : Int) := zT zv; have q010 : (0 : Int) ≤ (x4_1 : Int) := zT zv; have hcut10 := cut_mid (P := Try.prog) 23 54 .i64 .i64 Try.underlying23 hi010 2 hsz10 A0 l0.length c0 x4_1 t101 q010 ql10 q10 hroom10; have hr10 := Kd.C_mid (lo := (x4_1 : Int).toNat) (hi := (t101 : Int).toNat) (c := c0) hC10 (by omega) (by omega) hroom10; obtain ⟨A10, hA10⟩ : ∃ Aq_, Aq_ = (if c0 = (x4_1 : Int).toNat then A0 else (A0 : Option Addr).map (·.add ((x4_1 : Int).toNat * 2))) := ⟨_, rfl⟩; obtain ⟨c10, hc10⟩ : ∃ cq_, cq_ = c0 - (x4_1 : Int).toNat := ⟨_, rfl⟩; have hy10 : y102.length = (t101 : Int).toNat - (x4_1 : Int).toNat := (by rw [Ny102.out, List.length_drop, List.length_take] <;> omega); rw [show ((l0).take (t101 : Int).toNat).drop (x4_1 : Int).toNat = y102 from Ny102.out.symm] at hr10; replace hr10 : Kd.C k54 _ A10 y102.length y102 := (by rw [hA10]; exact hr10); rw [← hy10, ← hA10, ← hc10] at hcut10; have HR105 := zM hr10; have HC105 := zM (show y102.length ≤ c10 from by rw [hy10, hc10]; exact Nat.sub_le_sub_right (Nat.le_trans (by omega) hroom10) _); clear hr10 hC10 hroom10 hi010 hsz10 hc10; have KY10 := zM hy10; have KA10 := zM hA10; clear hy10 hA10; replace q10 := eq_true q10) | ((with_reducible refine gate_callee (f := 13) rfl ?_); refine goesL_ (some 19) rfl rfl Try.func13 (by kernel_rfl) rfl #[.slice A10 y102.length c10] rfl zl ?_; (with_reducible refine (aumbryref04_Copy.calls _ _ y102 t106 _ ?side1 ?side2 A7.out).mono ?_); (case side1 => exact Kd.C_below (Kd.C_below HR105.out zb) zg); (case side2 => exact HC105.out); rintro e w11 ⟨v107, rfl, ho0, hb⟩; refine ⟨_, rfl, ?_⟩; replace HO_3 := zM (Kd.S_elder' (Kd.S_below HO_3.out zg) (Kd.R_base ho0) hb); have HO108 := zM (Kd.R_lower ho0 (below_size zb)); replace HB := zM (below_step zb hb); (try clear hb); (try clear ho0); obtain ⟨Ao13, co13, eo13⟩ := Kd.R_slice HO108.out; subst eo13) | ((with_reducible refine gate_builtin (b := .append) (xs := #[.tmp 12, .tmp 20]) rfl ?_); at_builtin; refine Kd.S_append (Kd.slice 54 k54) (w0 := w) w.heap.size rfl (.tmp 12) (.tmp 20) 25 23 (.slice none 0 0) 24 rfl Try.underlying25 info23 rfl (by decide) (by omega) u3 x3_1 t106 [.slice Ao13 t106.length co13] (fun _ => True) (fun k_ => some k_ = (.slice Ao13 t106.length co13 : Value).ownBlock) rfl rfl ?aP (fun k_ hk_ => ((Kd.R_mono (ok' := fun k_ => ((fun _ => True)) k_ ∧ some k_ ≠ (u3 : Value).ownBlock) (Kd.R_apart' (HO108.out) (Kd.S_typed HO_3.out) (by decide)) (fun k_ hk => ⟨trivial, hk.2⟩))).1 k_ hk_.symm) ?aF ?aO ?aB ?aS ?aL ?_; (case aP => exact Kd.M_row (Kd.R_mono (Kd.R_tight rfl (Kd.R_mono (ok' := fun k_ => ((fun _ => True)) k_ ∧ some k_ ≠ (u3 : Value).ownBlock) (Kd.R_apart' (HO108.out) (Kd.S_typed HO_3.out) (by decide)) (fun k_ hk => ⟨trivial, hk.2⟩))) (fun _ h_ => h_))); (case aB => exact zb); (case aF => exact (fun _ _ => trivial)); (case aO => exact (by (with_reducible repeat (first | apply Kd.S_alloc | apply Kd.S_drewN | apply Kd.S_drew)); exact Kd.S_mono HO_3.out (fun k_ hk => ⟨trivial, fun e_ => hk.2 e_⟩))); (case aS => exact (below_size zb)); (case aL => have := LMc8.out; omega); intro v110 w12 ho hb hg hat; rw [← Ny109.out] at ho; replace HB := zM (hb); have HO111 := zM (ho); clear HO108 HO_3; clear ho hb hg hat) | ((with_reducible refine gate_callee (f := 65) rfl ?_); refine goesL_ (some 11) rfl rfl Try.func65 (by kernel_rfl) rfl #[.slice A0 l0.length c0, .int .i64 x4_1] rfl zl ?_; (with_reducible refine (aumbryref04_Behind.calls k1 _ _ l0 x4_1 t112 _ ?side1 ?side2 A9.out).mono ?_); (case side1 => exact Kd.C_below HR0.out zb); (case side2 => exact HC0.out); rintro e w' ⟨rfl, ⟨nd, rfl⟩⟩; refine ⟨_, rfl, ?_⟩))
        go_roundg k1
        case measure => have := HK1.out; omega
        case rel => exact ⟨(y109), (t112), zy, H', ⟨by have := HK1.out; omega⟩, ⟨Kd.S_below HO111.out zg⟩, ⟨zb⟩⟩
       ·
        rw [if_neg c8] at H
        exact absurd H (by simp)
      ·
       rw [if_neg c6] at H
       exact absurd H (by simp)
     ·
      rw [if_neg c5] at H
      exact absurd H (by simp)
    ·
     rw [if_neg c4] at H
     exact absurd H (by simp)
   ·
    rw [if_neg c2] at H
    have c2b0 : decide (x4_1 < (l0.length : Int)) = false := zR c2
    clear c2
    obtain rfl := zS H
    go_wp2
    go_ret
    exact ⟨_, zw, Kd.S_below HO_3.out zg, zb⟩


-- ==== PF56

/-! ### aumbryref05_Var: function 56 -/
def aumbryref05_Var.f (k : Nat) (l0 : List (S54)) : Option (Bool) := if (l0.length : Int) = 1 then (if 0 < (l0.length : Int) then ((aumbryref03_Kind.f k ((rd_T54 l0 0).f0)).bind fun t102 => (some (t102 == 2))) else (none)) else (some false)
theorem aumbryref05_Var.calls (k : Nat) (A0 : Option Addr) (c0 : Nat) (l0 : List (S54)) (r : Bool) (w : World) (hr0 : Kd.C k54 w A0 l0.length l0) (hc0 : l0.length ≤ c0) (h : aumbryref05_Var.f k l0 = some r) :
 Calls Try.prog 56 #[.slice A0 l0.length c0] w fun e w' => e = .returned (.bool r) ∧ Drawn0 w w' := by
 have HR0 := zM hr0
 have HC0 := zM hc0
 clear hr0 hc0
 have H : (if (l0.length : Int) = 1 then (if 0 < (l0.length : Int) then ((aumbryref03_Kind.f k ((rd_T54 l0 0).f0)).bind fun t102 => (some (t102 == 2))) else (none)) else (some false)) = some r := h
 clear h
 by_cases c2 : (l0.length : Int) = 1
 ·
  rw [if_pos c2] at H
  have c2b0 : ((l0.length : Int) == 1) = true := zG c2
  have c2b1 : ((l0.length : Int) != 1) = false := zH c2
  clear c2
  by_cases c3 : 0 < (l0.length : Int)
  ·
   rw [if_pos c3] at H
   have c3b0 : decide (0 < (l0.length : Int)) = true := zQ c3
   have c3b1 : decide (0 < l0.length) = true := zQ (by omega)
   clear c3
   replace H := zB H
   obtain ⟨t102, A40, H⟩ := H
   try dsimp only at H
   have A4 := zM A40
   clear A40
   obtain rfl := zS H
   have p101 : 0 ≤ (0 : Int) := (by omega)
   have q101 : 0 < (l0.length : Int) := zT zv
   obtain ⟨ad101, e101, hx101_0, hx101_1⟩ := at_T54 HR0.out 0 p101 q101
   cases e101
   have qi101 : (0 < l0.length) = True := eq_true (by omega)
   (try rw [show ((0 : Int)).toNat = 0 from rfl] at hx101_0)
   (try rw [show 0 * 2 = 0 from rfl] at hx101_0)
   (try rw [Addr.add_zero'] at hx101_0)
   (try rw [show ((0 : Int)).toNat = 0 from rfl] at hx101_1)
   (try rw [show 0 * 2 = 0 from rfl] at hx101_1)
   (try rw [Addr.add_zero'] at hx101_1)
   replace p101 := eq_true p101
   replace q101 := eq_true q101
   go_enter Try.func56, Try.ntmps56
   go_wp2_with (first | (go_at_call 45; (with_reducible refine (aumbryref03_Kind.calls k ((rd_T54 l0 0).f0) t102 _ A4.out).mono ?_); rintro e w' ⟨rfl, ⟨nd, rfl⟩⟩))
   go_ret
   exact ⟨zy, zd⟩
  ·
   rw [if_neg c3] at H
   exact absurd H (by simp)
 ·
  rw [if_neg c2] at H
  have c2b0 : ((l0.length : Int) == 1) = false := zE c2
  have c2b1 : ((l0.length : Int) != 1) = true := zF c2
  obtain rfl := zS H
  go_enter Try.func56, Try.ntmps56
  go_wp2
  go_ret
  exact ⟨zy, zd⟩


-- ==== PF57

/-! ### aumbryref05_At: function 57 -/
def aumbryref05_At.l0 : Nat → List (S104) → ByteArray → Int → Int → Option (Int)
 | 0, _, _, _, _ => none
 | k + 1, x0, x1, x7, x8 => if x8 < x7 then (if 0 ≤ x8 then (if x8 < (x0.length : Int) then (if ((rd_T104 x0 x8).f0).toList = x1.toList then (some x8) else (aumbryref05_At.l0 k x0 x1 x7 (wrap64 (x8 + 1)))) else (none)) else (none)) else (some (-1))
def aumbryref05_At.f (k : Nat) (l0 : List (S104)) (a1 : ByteArray) : Option (Int) := aumbryref05_At.l0 k l0 a1 (l0.length : Int) 0
theorem aumbryref05_At.calls (k : Nat) (A0 : Option Addr) (c0 : Nat) (l0 : List (S104)) (a1 : ByteArray) (r : Int) (w : World) (hr0 : Kd.C k104 w A0 l0.length l0) (hc0 : l0.length ≤ c0) (h : aumbryref05_At.f k l0 a1 = some r) :
 Calls Try.prog 57 #[.slice A0 l0.length c0, .string a1] w fun e w' => e = .returned (.int .i64 r) ∧ Drawn0 w w' := by
 have HR0 := zM hr0
 have HC0 := zM hc0
 clear hr0 hc0
 have H : (aumbryref05_At.l0 k l0 a1 (l0.length : Int) 0) = some r := h
 clear h
 have H' := zM H
 clear H
 go_enter Try.func57, Try.ntmps57
 go_wp2
 go_loopg [8] k (fun kq v8 w' => ∃ (x8_1 : Int), v8 = .int .i64 x8_1 ∧ Aside0 (aumbryref05_At.l0 kq l0 a1 (l0.length : Int) x8_1 = some r) ∧ Aside0 (kq ≤ k) ∧ Drawn0 w w')
 case atStart => exact ⟨(0), zy, H', ⟨Nat.le_refl _⟩, zd⟩
 case round =>
  clear H'
  try clear p2
  obtain ⟨x8_1, rfl, HA, HK1, ⟨m1, rfl⟩⟩ := hrel
  cases gk with
  | zero => exact absurd HA.out (by simp [aumbryref05_At.l0])
  | succ k1 =>
   have H := HA.out
   clear HA
   simp only [aumbryref05_At.l0] at H
   by_cases c3 : x8_1 < (l0.length : Int)
   ·
    rw [if_pos c3] at H
    have c3b0 : decide (x8_1 < (l0.length : Int)) = true := zQ c3
    clear c3
    by_cases c4 : 0 ≤ x8_1
    ·
     rw [if_pos c4] at H
     have c4b0 : decide (0 ≤ x8_1) = true := zQ c4
     clear c4
     by_cases c5 : x8_1 < (l0.length : Int)
     ·
      rw [if_pos c5] at H
      have c5b0 : decide (x8_1 < (l0.length : Int)) = true := zQ c5
      clear c5
      by_cases c6 : ((rd_T104 l0 x8_1).f0).toList = a1.toList
      ·
       rw [if_pos c6] at H
       have c6b0 : (((rd_T104 l0 x8_1).f0).toList == a1.toList) = true := zG c6
       have c6b1 : (((rd_T104 l0 x8_1).f0).toList != a1.toList) = false := zH c6
       clear c6
       obtain rfl := zS H
       have p101 : 0 ≤ (x8_1 : Int) := zT zv
       have q101 : x8_1 < (l0.length : Int) := zT zv
       obtain ⟨ad101, A101_1, c101_1, e101, hx101_0, hx101_1, hl101_1, hi101_1⟩ := at_T104 HR0.out x8_1 p101 q101
       cases e101
       have HR101_1 := zM hi101_1
       have HC101_1 := zM hl101_1
       clear hi101_1 hl101_1
       replace p101 := eq_true p101
       replace q101 := eq_true q101
       go_wp2
       go_ret
       exact ⟨zy, zd⟩
      ·
       rw [if_neg c6] at H
       have c6b0 : (((rd_T104 l0 x8_1).f0).toList == a1.toList) = false := zE c6
       have c6b1 : (((rd_T104 l0 x8_1).f0).toList != a1.toList) = true := zF c6
       have H' := zM H
       clear H
       have p101 : 0 ≤ (x8_1 : Int) := zT zv
       have q101 : x8_1 < (l0.length : Int) := zT zv
       obtain ⟨ad101, A101_1, c101_1, e101, hx101_0, hx101_1, hl101_1, hi101_1⟩ := at_T104 HR0.out x8_1 p101 q101
       cases e101
       have HR101_1 := zM hi101_1
       have HC101_1 := zM hl101_1
       clear hi101_1 hl101_1
       replace p101 := eq_true p101
       replace q101 := eq_true q101
       go_wp2
       go_roundg k1
       case measure => have := HK1.out; omega
       case rel => exact ⟨(wrap64 (x8_1 + 1)), zy, H', ⟨by have := HK1.out; omega⟩, zd⟩
     ·
      rw [if_neg c5] at H
      exact absurd H (by simp)
    ·
     rw [if_neg c4] at H
     exact absurd H (by simp)
   ·
    rw [if_neg c3] at H
    have c3b0 : decide (x8_1 < (l0.length : Int)) = false := zR c3
    clear c3
    obtain rfl := zS H
    go_wp2
    go_ret
    exact ⟨zy, zd⟩


-- ==== PF79

attribute [local go_sem high] eqA54
/-! ### aumbryref05_Fit: function 79 -/
mutual
def aumbryref05_Fit.l0 : Nat → List (S104) → List (List (S54)) → List (List (S54)) → Int → Int → Option ((List (S104)) × Bool)
 | 0, _, _, _, _, _ => none
 | k + 1, x2, x9, x10, x54, x55 => if x55 < x54 then (if 0 ≤ x55 then (if x55 < (x9.length : Int) then (if x55 < (x10.length : Int) then ((aumbryref05_Fit.f k (rd_L3 x9 x55) (rd_L3 x10 x55) x2).bind fun bt123 => (if bt123.2 = true then (aumbryref05_Fit.l0 k bt123.1 x9 x10 x54 (wrap64 (x55 + 1))) else (some (([] : List (S104)), false)))) else (none)) else (none)) else (none)) else (some (x2, true))
def aumbryref05_Fit.f : Nat → List (S54) → List (S54) → List (S104) → Option ((List (S104)) × Bool)
 | 0, _, _, _ => none
 | k + 1, l0, l1, l2 => (aumbryref05_Var.f k l0).bind fun t101 => (if t101 = true then (if 0 < (l0.length : Int) then ((aumbryref05_At.f k l2 ((rd_T54 l0 0).f0)).bind fun t103 => (if t103 < 0 then ((aumbryref04_Copy.f l1).bind fun t105 => (if l2.length < 3518437208883 then (some ((l2 ++ [(⟨(rd_T54 l0 0).f0, t105⟩ : S104)]), true)) else (none))) else (if 0 ≤ t103 then (if t103 < (l2.length : Int) then ((aumbryref04_Same.f k ((rd_T104 l2 t103).f1) l1).bind fun t112 => (some (l2, t112))) else (none)) else (none)))) else (none)) else (if 0 < (l0.length : Int) then (if 0 < (l1.length : Int) then (if (!((((rd_T54 l0 0).f0).toList) == (((rd_T54 l1 0).f0).toList)) || (!(((rd_T54 l0 0).f1) == ((rd_T54 l1 0).f1)))) = true then (some (([] : List (S104)), false)) else ((aumbryref04_Kids.f k l0).bind fun t115 => ((aumbryref04_Kids.f k l1).bind fun t118 => (aumbryref05_Fit.l0 k l2 t115 t118 (t115.length : Int) 0)))) else (none)) else (none)))
end
def aumbryref05_Fit.T4 : Bool × List (List Nat × List Nat) := (true, [([], []), ([], []), ([1], [1]), ([2], [2]), ([3], [3]), ([], []), ([5], [5]), ([4, 6], [4, 6]), ([7], [7]), ([0, 8, 6], [0, 8]), ([9, 9, 0, 1, 2, 3, 4, 5, 6, 7, 8, 9], [9]), ([10, 0, 1, 2, 3, 4, 5, 6, 7, 8, 9, 10], [])])
def aumbryref05_Fit.B4 : List Nat := [0, 0, 2, 6, 14, 0, 32, 126, 254, 511, 1023, 2047]
theorem aumbryref05_Fit.tab4 : rtab .any (opsOf Try.f79 4) = aumbryref05_Fit.T4 := by kernel_rfl
theorem aumbryref05_Fit.bits4 : waitsOk aumbryref05_Fit.T4.2 aumbryref05_Fit.B4 = true := by kernel_rfl
def aumbryref05_Fit.T12 : Bool × List (List Nat × List Nat) := (true, [([], []), ([], []), ([0, 1], [0, 1]), ([2], [2]), ([], []), ([], []), ([4, 5], [4, 5]), ([6], [6]), ([], []), ([3, 7, 8], [3, 7, 8]), ([9], [9]), ([10], [10]), ([10], [10]), ([11, 9, 0, 1, 2, 3, 4, 5, 6, 7, 8, 9, 10, 11], [11]), ([12, 13, 0, 1, 2, 3, 4, 5, 6, 7, 8, 9, 10, 11, 12, 13], [12])])
def aumbryref05_Fit.B12 : List Nat := [0, 0, 3, 7, 0, 0, 48, 112, 0, 511, 1023, 2047, 2047, 4095, 16383]
theorem aumbryref05_Fit.tab12 : rtab .any (opsOf Try.f79 12) = aumbryref05_Fit.T12 := by kernel_rfl
theorem aumbryref05_Fit.bits12 : waitsOk aumbryref05_Fit.T12.2 aumbryref05_Fit.B12 = true := by kernel_rfl
theorem aumbryref05_Fit.callsN (k : Nat) : ∀ (A0 : Option Addr) (c0 : Nat) (l0 : List (S54)) (A1 : Option Addr) (c1 : Nat) (l1 : List (S54)) (P2_ PQ_ : Nat → Prop) (u9000_ : Value) (l2 : List (S104)) (r1 : List (S104)) (r2 : Bool) (w0 w : World) (hB : Below w0.heap.size w0 w) (hr0 : ∀ W_, Kept w W_ (fun k_ => P2_ k_) → Kd.C k54 W_ A0 l0.length l0) (hc0 : l0.length ≤ c0) (hr1 : ∀ W_, Kept w W_ (fun k_ => P2_ k_) → Kd.C k54 W_ A1 l1.length l1) (hc1 : l1.length ≤ c1) (ho2 : Kd.S k104 104 w w0.heap.size PQ_ u9000_ l2) (hu2 : ∀ k_ : Nat, (u9000_ : Value).ownBlock = some k_ → P2_ k_) (h : aumbryref05_Fit.f k l0 l1 l2 = some (r1, r2)),
 Calls Try.prog 79 #[.slice A0 l0.length c0, .slice A1 l1.length c1, u9000_] w fun e w' => ∃ v0_ : Value, e = .returned (.tuple #[v0_, .bool r2]) ∧ Kd.S k104 104 w' w0.heap.size (fun k_ => (PQ_ k_ ∨ w.heap.size ≤ k_)) v0_ r1 ∧ Below w0.heap.size w0 w' ∧ Kept w w' (fun k_ => P2_ k_) ∧ (∀ k_ : Nat, (v0_ : Value).ownBlock = some k_ → P2_ k_ ∨ w.heap.size ≤ k_) := by
 induction k using Nat.strongRecOn with
 | _ k ih =>
 intro A0 c0 l0 A1 c1 l1 P2_ PQ_ u9000_ l2 r1 r2 w0 w hB hr0 hc0 hr1 hc1 ho2 hu2 h
 cases k with
 | zero => exact absurd h (by simp [aumbryref05_Fit.f])
 | succ k =>
 simp only [aumbryref05_Fit.f] at h
 have hu104 := Try.underlying104
 have hu54 := Try.underlying54
 have HR0 := zM hr0
 have HC0 := zM hc0
 clear hr0 hc0
 have HR1 := zM hr1
 have HC1 := zM hc1
 clear hr1 hc1
 have HO2 := zM (show Kd.S k104 104 w w0.heap.size (fun k_ => (PQ_ k_ ∨ w.heap.size ≤ k_)) u9000_ l2 from Kd.S_mono ho2 (fun k_ hk => (.inl hk)))
 have HV := zM (show ∀ k_ : Nat, (u9000_ : Value).ownBlock = some k_ → P2_ k_ ∨ w.heap.size ≤ k_ from fun k_ e_ => .inl (hu2 k_ e_))
 clear hu2
 have HK := zM (Kept.refl w (fun k_ => P2_ k_))
 have HW0 := zM hB.size
 have HB := zM hB
 clear hB
 have H : ((aumbryref05_Var.f k l0).bind fun t101 => (if t101 = true then (if 0 < (l0.length : Int) then ((aumbryref05_At.f k l2 ((rd_T54 l0 0).f0)).bind fun t103 => (if t103 < 0 then ((aumbryref04_Copy.f l1).bind fun t105 => (if l2.length < 3518437208883 then (some ((l2 ++ [(⟨(rd_T54 l0 0).f0, t105⟩ : S104)]), true)) else (none))) else (if 0 ≤ t103 then (if t103 < (l2.length : Int) then ((aumbryref04_Same.f k ((rd_T104 l2 t103).f1) l1).bind fun t112 => (some (l2, t112))) else (none)) else (none)))) else (none)) else (if 0 < (l0.length : Int) then (if 0 < (l1.length : Int) then (if (!((((rd_T54 l0 0).f0).toList) == (((rd_T54 l1 0).f0).toList)) || (!(((rd_T54 l0 0).f1) == ((rd_T54 l1 0).f1)))) = true then (some (([] : List (S104)), false)) else ((aumbryref04_Kids.f k l0).bind fun t115 => ((aumbryref04_Kids.f k l1).bind fun t118 => (aumbryref05_Fit.l0 k l2 t115 t118 (t115.length : Int) 0)))) else (none)) else (none)))) = some (r1, r2) := h
 clear h
 replace H := zB H
 obtain ⟨t101, A40, H⟩ := H
 try dsimp only at H
 have A4 := zM A40
 clear A40
 by_cases c5 : t101 = true
 ·
  subst c5
  rw [if_pos rfl] at H
  by_cases c6 : 0 < (l0.length : Int)
  ·
   rw [if_pos c6] at H
   have c6b0 : decide (0 < (l0.length : Int)) = true := zQ c6
   have c6b1 : decide (0 < l0.length) = true := zQ (by omega)
   clear c6
   replace H := zB H
   obtain ⟨t103, A70, H⟩ := H
   try dsimp only at H
   have A7 := zM A70
   clear A70
   by_cases c8 : t103 < 0
   ·
    rw [if_pos c8] at H
    have c8b0 : decide (t103 < 0) = true := zQ c8
    clear c8
    replace H := zB H
    obtain ⟨t105, A90, H⟩ := H
    try dsimp only at H
    have A9 := zM A90
    clear A90
    by_cases c10 : l2.length < 3518437208883
    ·
     rw [if_pos c10] at H
     have LMc10 := zM c10
     clear c10
     obtain ⟨y108, hy108⟩ : ∃ y_ : List (S104), y_ = (l2 ++ [(⟨(rd_T54 l0 0).f0, t105⟩ : S104)]) := ⟨_, rfl⟩
     replace H : (some (y108, true)) = some (r1, r2) := by first | (rw [hy108]; with_reducible exact H) | (have H2_ := (Option.bind_some _ _).symm.trans H; rw [hy108]; with_reducible exact H2_) | (have H2_ := (Option.bind_some _ _).symm.trans H; with_reducible exact H2_) | with_reducible exact H | (rw [hy108]; exact H) | exact H
     have Ny108 := zM hy108
     clear hy108
     simp only [Option.some.injEq, Prod.mk.injEq] at H
     obtain ⟨rfl, rfl⟩ := H
     go_enter Try.func79, Try.ntmps79
     try go_wp2_with (first | ((with_reducible refine gate_callee (f := 56) rfl ?_); refine goesL_ (some 15) rfl rfl Try.func56 (by kernel_rfl) rfl #[.slice A0 l0.length c0] rfl zl ?_; (with_reducible refine (aumbryref05_Var.calls k _ _ l0 true _ ?side1 ?side2 A4.out).mono ?_); (case side1 => exact Kd.C_kept_now HR0.out (zf)); (case side2 => exact HC0.out); rintro e w' ⟨rfl, ⟨nd, rfl⟩⟩; refine ⟨_, rfl, ?_⟩; have p102 : 0 ≤ (0 : Int) := (by omega); have q102 : 0 < (l0.length : Int) := zT zv; obtain ⟨ad102, e102, hx102_0, hx102_1⟩ := at_T54 (Kd.C_kept_now HR0.out HK.out) 0 p102 q102; cases e102; have qi102 : (0 < l0.length) = True := eq_true (by omega); (try rw [show ((0 : Int)).toNat = 0 from rfl] at hx102_0); (try rw [show 0 * 2 = 0 from rfl] at hx102_0); (try rw [Addr.add_zero'] at hx102_0); (try rw [show ((0 : Int)).toNat = 0 from rfl] at hx102_1); (try rw [show 0 * 2 = 0 from rfl] at hx102_1); (try rw [Addr.add_zero'] at hx102_1); replace p102 := eq_true p102; replace q102 := eq_true q102; obtain ⟨Ao11, co11, eo11⟩ := Kd.S_slice HO2.out; subst eo11) | ((with_reducible refine gate_callee (f := 57) rfl ?_); refine goesL_ (some 21) rfl rfl Try.func57 (by kernel_rfl) rfl #[.slice Ao11 l2.length co11, .string ((rd_T54 l0 0).f0)] rfl zl ?_; (with_reducible refine (aumbryref05_At.calls k _ _ l2 ((rd_T54 l0 0).f0) t103 _ ?side1 ?side2 A7.out).mono ?_); (case side1 => exact Kd.C_below (Kd.S_reads' HO2.out).2.2 zg); (case side2 => exact (Kd.S_reads' HO2.out).2.1); rintro e w' ⟨rfl, ⟨nd, rfl⟩⟩; refine ⟨_, rfl, ?_⟩))
     (try (rw [drewN_self w]; generalize hq_ : World.drewN w _ = wz; have n0_ : Aside0 (Kd.S k104 104 wz w0.heap.size (fun k_ => (PQ_ k_ ∨ w.heap.size ≤ k_)) (.slice Ao11 l2.length co11) l2) := ⟨by rw [← hq_]; exact (Kd.S_below HO2.out zg)⟩; have n1_ : Aside0 (Kept w wz (fun k_ => P2_ k_)) := ⟨by rw [← hq_]; exact (zf)⟩; have n2_ : Aside0 (Below w0.heap.size w0 wz) := ⟨by rw [← hq_]; exact zb⟩; clear HO2 HK HB hq_; have HO2 := n0_; have HK := n1_; have HB := n2_; clear n0_ n1_ n2_))
     have n0_ := zM (Kd.S_drew HO2.out)
     have n1_ := zM (Kept.drew HK.out)
     have n2_ := zM (zD HB.out)
     clear HO2
     clear HK
     clear HB
     have HO2 := n0_
     have HK := n1_
     have HB := n2_
     clear n0_ n1_ n2_
     have p104 : 0 ≤ (0 : Int) := (by omega)
     have q104 : 0 < (l0.length : Int) := zT zv
     obtain ⟨ad104, e104, hx104_0, hx104_1⟩ := at_T54 (Kd.C_kept_now HR0.out HK.out) 0 p104 q104
     have hw104_1 := hx104_1
     (try rw [show ((0 : Int)).toNat = 0 from rfl] at hw104_1)
     (try rw [show 0 * 2 = 0 from rfl] at hw104_1)
     (try rw [Addr.add_zero'] at hw104_1)
     have hw104_0 := hx104_0
     (try rw [show ((0 : Int)).toNat = 0 from rfl] at hw104_0)
     (try rw [show 0 * 2 = 0 from rfl] at hw104_0)
     (try rw [Addr.add_zero'] at hw104_0)
     obtain rfl : ad102 = ad104 := (by injection e104)
     have qi104 : (0 < l0.length) = True := eq_true (by omega)
     (try rw [show ((0 : Int)).toNat = 0 from rfl] at hx104_0)
     (try rw [show 0 * 2 = 0 from rfl] at hx104_0)
     (try rw [Addr.add_zero'] at hx104_0)
     (try rw [show ((0 : Int)).toNat = 0 from rfl] at hx104_1)
     (try rw [show 0 * 2 = 0 from rfl] at hx104_1)
     (try rw [Addr.add_zero'] at hx104_1)
     replace p104 := eq_true p104
     replace q104 := eq_true q104
     refine start_ (n := 12) (S := fun w' => w'.cell? ad102 = some (.string ((rd_T54 l0 0).f0)) ∧ w'.cell? ⟨ad102.block, ad102.off + 1, none⟩ = some (.int .i64 ((rd_T54 l0 0).f1))) (ds := [8, 9]) #[false, false, false, false, false, false, false, false, false, false, false, false] (by kernel_rfl) rfl rfl ⟨hx104_0, hx104_1⟩ (fun hHeld => ?_); refine with_tabW aumbryref05_Fit.tab4 aumbryref05_Fit.bits4 (fun HT_ HW_ => ?_)
     generalize wz.drew = w12 at HO2 HK HB hx104_0 hx104_1 hHeld ⊢
     refine pure_ (i := 0) (N := some 24) (v := ?_) (a' := ?_) #[true, false, false, false, false, false, false, false, false, false, false, false] rfl rfl (any_of HT_.out (by kernel_rfl)) (fun _ _ _ h => h) (Or.inl ⟨by rfl, ?_⟩) ?_ ?_
     rotate_left
     ·
      intro w'
      go_simp
      with_reducible rfl
     rotate_left
     ·
      simp only [Act.put, zp1, zp2, zp3, i64_w, i32_w]
      rfl
     refine pure_ (i := 1) (N := some 25) (v := ?_) (a' := ?_) #[true, true, false, false, false, false, false, false, false, false, false, false] rfl rfl (any_of HT_.out (by kernel_rfl)) (fun _ _ _ h => h) (Or.inl ⟨by rfl, ?_⟩) ?_ ?_
     rotate_left
     ·
      intro w'
      go_simp
      with_reducible rfl
     rotate_left
     ·
      simp only [Act.put, zp1, zp2, zp3, i64_w, i32_w]
      rfl
     refine pure_ (i := 2) (N := some 26) (v := ?_) (a' := ?_) #[true, true, true, false, false, false, false, false, false, false, false, false] rfl rfl (any_of HT_.out (by kernel_rfl)) (fun _ _ _ h => h) (Or.inl ⟨by rfl, ?_⟩) ?_ ?_
     rotate_left
     ·
      intro w'
      go_simp
      with_reducible rfl
     rotate_left
     ·
      simp only [Act.put, zp1, zp2, zp3, i64_w, i32_w]
      rfl
     refine pure_ (i := 3) (N := some 27) (v := ?_) (a' := ?_) #[true, true, true, true, false, false, false, false, false, false, false, false] rfl rfl (any_of HT_.out (by kernel_rfl)) (fun _ _ _ h => h) (Or.inl ⟨by rfl, ?_⟩) ?_ ?_
     rotate_left
     ·
      intro w'
      go_simp
      with_reducible rfl
     rotate_left
     ·
      simp only [Act.put, zp1, zp2, zp3, i64_w, i32_w]
      rfl
     refine pure_ (i := 5) (N := some 29) (v := ?_) (a' := ?_) #[true, true, true, true, false, true, false, false, false, false, false, false] rfl rfl (any_of HT_.out (by kernel_rfl)) (fun _ _ _ h => h) (Or.inl ⟨by rfl, ?_⟩) ?_ ?_
     rotate_left
     ·
      intro w'
      go_simp
      with_reducible rfl
     rotate_left
     ·
      simp only [Act.put, zp1, zp2, zp3, i64_w, i32_w]
      rfl
     refine take_ (i := 4) (N := some 28) (v := ?_) (a' := ?_) #[true, true, true, true, true, true, false, false, false, false, false, false] rfl rfl (take_ofW HT_.out HW_.out (by kernel_rfl)) (fun _ _ _ h => h) (Or.inl ⟨by rfl, ?_⟩) hHeld ?_ ?_
     rotate_left
     ·
      rintro w' ⟨s0, s1⟩
      go_simp
      with_reducible rfl
     rotate_left
     ·
      simp only [Act.put, zp1, zp2, zp3, i64_w, i32_w]
      rfl
     refine one_ (i := 6) (N := some 30) #[true, true, true, true, true, true, true, false, false, false, false, false] rfl rfl (one_of HT_.out (by kernel_rfl)) (by decide) (fun K hK => ?_)
     refine goes_ Try.func13 (by kernel_rfl) rfl #[.slice A1 l1.length c1] (by rfl) rfl rfl zl ?_
     with_reducible refine (aumbryref04_Copy.calls _ _ l1 t105 _ ?side1 ?side2 A9.out).mono ?_
     (case side1 => exact Kd.C_kept_now HR1.out (zf))
     (case side2 => exact HC1.out)
     rintro e w13 ⟨v106, rfl, ho0, hb⟩
     have HS0_ := (hb.cell (World.block_lt_of_cell? _ _ (hHeld.1))).trans (hHeld.1)
     have HS1_ := (hb.cell (World.block_lt_of_cell? _ _ (hHeld.2))).trans (hHeld.2)
     refine ⟨_, rfl, ?_⟩
     have n0_ := zM (Kd.S_elder' (Kd.S_below HO2.out zg) (Kd.R_base ho0) hb)
     have n1_ := zM (Kd.R_lower (Kd.R_newM (M := fun k_ => (PQ_ k_ ∨ w.heap.size ≤ k_)) ho0 (by first | exact HK.out.1 | exact (show Kept w _ (fun k_ => P2_ k_) from zf).1) (fun k_ h_ => .inr h_)) (below_size zb))
     have n2_ := zM (Kept.below (S := (fun k_ => P2_ k_)) (zf) hb)
     have n3_ := zM (below_step zb hb)
     clear HO2
     clear HK
     clear HB
     have HO2 := n0_
     have HO107 := n1_
     have HK := n2_
     have HB := n3_
     clear n0_ n1_ n2_ n3_
     (try clear hb)
     (try clear hb2)
     (try clear hk)
     (try clear hi)
     (try clear ho0)
     obtain ⟨Ao14, co14, eo14⟩ := Kd.R_slice HO107.out
     (first | subst eo14 | (injection eo14 with f1_ f2_ f3_; have f4_ := f1_.symm; have f5_ := f3_.symm; clear f1_ f2_ f3_; subst f4_; subst f5_))
     refine hK.out _ _ ⟨HS0_, HS1_⟩ (fun hHeld => ?_)
     clear hK K
     refine norm_ (a' := ?_) ?_ ?_
     rotate_left
     ·
      show Act.put _ (some 30) _ = _
      simp only [Act.put, zp1, zp2, zp3, i64_w, i32_w]
      rfl
     refine pure_ (i := 7) (N := some 31) (v := ?_) (a' := ?_) #[true, true, true, true, true, true, true, true, false, false, false, false] rfl rfl (any_of HT_.out (by kernel_rfl)) (fun _ _ _ h => h) (Or.inl ⟨by rfl, ?_⟩) ?_ ?_
     rotate_left
     ·
      intro w'
      go_simp
      with_reducible rfl
     rotate_left
     ·
      simp only [Act.put, zp1, zp2, zp3, i64_w, i32_w]
      rfl
     refine last_ (i := 8) (N := some 32) #[true, true, true, true, true, true, true, true, true, false, false, false] rfl rfl (one_of HT_.out (by kernel_rfl)) (by decide) (fun K hK => ?_)
     refine value_ (w1 := ?_) (v := ?_) (by rfl) rfl ?_ ?_
     rotate_left 2
     ·
      go_simp
      constructor
      ·
       rfl
      ·
       rfl
     refine hK.out _ _ ?_
     clear hK K
     refine norm_ (a' := ?_) ?_ ?_
     rotate_left
     ·
      show Act.put _ (some 32) _ = _
      simp only [Act.put, zp1, zp2, zp3, i64_w, i32_w]
      rfl
     refine last_ (i := 9) (N := some 33) #[true, true, true, true, true, true, true, true, true, true, false, false] rfl rfl (one_of HT_.out (by kernel_rfl)) (by decide) (fun K hK => ?_)
     refine Kd.S_append_step k104 (w0 := w0) w0.heap.size (by rfl) (.tmp 24) (.tmp 32) 100 104 (.agg #[(.string ⟨#[]⟩), (.slice none 0 0)]) 40 rfl Try.underlying100 info104 rfl (by decide) (by omega) (.slice Ao11 l2.length co11) l2 (⟨(rd_T54 l0 0).f0, t105⟩ : S104) [.string ((rd_T54 l0 0).f0), .slice Ao14 t105.length co14] (fun k_ => (PQ_ k_ ∨ w.heap.size ≤ k_)) (fun k_ => some k_ = (.slice Ao14 t105.length co14 : Value).ownBlock) rfl rfl ?aP (fun k_ hk_ => ((Kd.R_mono (ok' := fun k_ => ((fun k_ => (PQ_ k_ ∨ w.heap.size ≤ k_))) k_ ∧ some k_ ≠ (.slice Ao11 l2.length co11 : Value).ownBlock) (Kd.R_apart' (HO107.out) (Kd.S_typed HO2.out) (by decide)) (fun k_ hk => ⟨hk.1.1, hk.2⟩))).1 k_ hk_.symm) ?aF ?aO ?aB ?aS ?aL ?_
     (case aP => exact k104_mkM _ _ _ (⟨(rd_T54 l0 0).f0, t105⟩ : S104) (Kd.R_mono (Kd.R_tight rfl (Kd.R_mono (ok' := fun k_ => ((fun k_ => (PQ_ k_ ∨ w.heap.size ≤ k_))) k_ ∧ some k_ ≠ (.slice Ao11 l2.length co11 : Value).ownBlock) (Kd.R_apart' (HO107.out) (Kd.S_typed HO2.out) (by decide)) (fun k_ hk => ⟨hk.1.1, hk.2⟩))) (fun _ h_ => h_)))
     (case aB => exact zb)
     (case aF => exact (fun k_ hk => (.inr (Nat.le_trans (by first | exact HK.out.1 | exact (show Kept w _ (fun k_ => P2_ k_) from zf).1) hk))))
     (case aO => exact (by (with_reducible repeat (first | apply Kd.S_alloc | apply Kd.S_drewN | apply Kd.S_drew)); exact Kd.S_mono HO2.out (fun k_ hk => ⟨hk.1, fun e_ => hk.2 e_⟩)))
     (case aS => exact (below_size zb))
     (case aL => have := LMc10.out; omega)
     intro v109 w15 ho hb hg hat
     have nv_ := zM (show ∀ k_ : Nat, (v109 : Value).ownBlock = some k_ → P2_ k_ ∨ w.heap.size ≤ k_ from fun k_ e_ => hat.elim (fun h_ => HV.out k_ (h_ ▸ e_)) (fun ⟨b_, h1_, h2_⟩ => .inr (by rw [h1_] at e_; injection e_ with e_; subst e_; exact Nat.le_trans (show Kept w _ (fun k_ => P2_ k_) from zf).1 h2_)))
     have HV2 := nv_
     rw [← Ny108.out] at ho
     have n0_ := zM (hb)
     have n1_ := zM (Kept.of_grown (S := (fun k_ => P2_ k_)) hg (zf) (fun k_ e_ => HV.out k_ e_))
     have n2_ := zM (ho)
     clear HB
     clear HK
     clear HO2
     clear HO107
     have HB := n0_
     have HK := n1_
     have HO110 := n2_
     clear n0_ n1_ n2_
     clear ho hb hg hat
     refine hK.out _ _ ?_
     clear hK K
     refine norm_ (a' := ?_) ?_ ?_
     rotate_left
     ·
      show Act.put _ (some 33) _ = _
      simp only [Act.put, zp1, zp2, zp3, i64_w, i32_w]
      rfl
     refine pure_ (i := 10) (N := some 6) (v := ?_) (a' := ?_) #[true, true, true, true, true, true, true, true, true, true, true, false] rfl rfl (any_of HT_.out (by kernel_rfl)) (fun _ _ _ h => h) (Or.inl ⟨by rfl, ?_⟩) ?_ ?_
     rotate_left
     ·
      intro w'
      go_simp
      with_reducible rfl
     rotate_left
     ·
      simp only [Act.put, zp1, zp2, zp3, i64_w, i32_w]
      rfl
     refine pure_ (i := 11) (N := some 7) (v := ?_) (a' := ?_) #[true, true, true, true, true, true, true, true, true, true, true, true] rfl rfl (any_of HT_.out (by kernel_rfl)) (fun _ _ _ h => h) (Or.inl ⟨by rfl, ?_⟩) ?_ ?_
     rotate_left
     ·
      intro w'
      go_simp
      with_reducible rfl
     rotate_left
     ·
      simp only [Act.put, zp1, zp2, zp3, i64_w, i32_w]
      rfl
     refine done_ (done_of HT_.out (by kernel_rfl)) ?_
     try go_wp2
     go_ret2
     exact ⟨_, zw, Kd.S_below HO110.out zg, zb, zf, by first | exact HV2.out | exact HV.out⟩
    ·
     rw [if_neg c10] at H
     exact absurd H (by simp)
   ·
    rw [if_neg c8] at H
    have c8b0 : decide (t103 < 0) = false := zR c8
    clear c8
    by_cases c16 : 0 ≤ t103
    ·
     rw [if_pos c16] at H
     have c16b0 : decide (0 ≤ t103) = true := zQ c16
     clear c16
     by_cases c17 : t103 < (l2.length : Int)
     ·
      rw [if_pos c17] at H
      have c17b0 : decide (t103 < (l2.length : Int)) = true := zQ c17
      clear c17
      replace H := zB H
      obtain ⟨t112, A180, H⟩ := H
      try dsimp only at H
      have A18 := zM A180
      clear A180
      simp only [Option.some.injEq, Prod.mk.injEq] at H
      obtain ⟨rfl, rfl⟩ := H
      go_enter Try.func79, Try.ntmps79
      go_wp2_with (first | ((with_reducible refine gate_callee (f := 56) rfl ?_); refine goesL_ (some 15) rfl rfl Try.func56 (by kernel_rfl) rfl #[.slice A0 l0.length c0] rfl zl ?_; (with_reducible refine (aumbryref05_Var.calls k _ _ l0 true _ ?side1 ?side2 A4.out).mono ?_); (case side1 => exact Kd.C_kept_now HR0.out (zf)); (case side2 => exact HC0.out); rintro e w' ⟨rfl, ⟨nd, rfl⟩⟩; refine ⟨_, rfl, ?_⟩; have p102 : 0 ≤ (0 : Int) := (by omega); have q102 : 0 < (l0.length : Int) := zT zv; obtain ⟨ad102, e102, hx102_0, hx102_1⟩ := at_T54 (Kd.C_kept_now HR0.out HK.out) 0 p102 q102; cases e102; have qi102 : (0 < l0.length) = True := eq_true (by omega); (try rw [show ((0 : Int)).toNat = 0 from rfl] at hx102_0); (try rw [show 0 * 2 = 0 from rfl] at hx102_0); (try rw [Addr.add_zero'] at hx102_0); (try rw [show ((0 : Int)).toNat = 0 from rfl] at hx102_1); (try rw [show 0 * 2 = 0 from rfl] at hx102_1); (try rw [Addr.add_zero'] at hx102_1); replace p102 := eq_true p102; replace q102 := eq_true q102; obtain ⟨Ao19, co19, eo19⟩ := Kd.S_slice HO2.out; subst eo19) | ((with_reducible refine gate_callee (f := 57) rfl ?_); refine goesL_ (some 21) rfl rfl Try.func57 (by kernel_rfl) rfl #[.slice Ao19 l2.length co19, .string ((rd_T54 l0 0).f0)] rfl zl ?_; (with_reducible refine (aumbryref05_At.calls k _ _ l2 ((rd_T54 l0 0).f0) t103 _ ?side1 ?side2 A7.out).mono ?_); (case side1 => exact Kd.C_below (Kd.S_reads' HO2.out).2.2 zg); (case side2 => exact (Kd.S_reads' HO2.out).2.1); rintro e w' ⟨rfl, ⟨nd, rfl⟩⟩; refine ⟨_, rfl, ?_⟩; have p111 : 0 ≤ (t103 : Int) := zT zv; have q111 : t103 < (l2.length : Int) := zT zv; obtain ⟨ad111, A111_1, c111_1, e111, hx111_0, hx111_1, hl111_1, hi111_1⟩ := at_T104 (Kd.S_reads' HO2.out).2.2 t103 p111 q111; cases e111; obtain ⟨ce111, hce111, hMe111, hcc111⟩ := Kd.S_get HO2.out z104 t103 p111 (by first | exact q111 | exact zT zv | (have e_ := (Kd.S_reads' HO2.out).1; omega)); obtain ⟨ve111_1, rfl, ge111_1⟩ := k104_openM hMe111; have hv111_1 := hcc111 1 _ rfl; rw [add_field _ _ 1 (by omega)] at hv111_1; replace hv111_1 := zS (hv111_1.symm.trans hx111_1); rw [hv111_1] at ge111_1; have HL111_1 := zM (show Kd.R k54 54 _ _ _ _ ((rd_T104 l2 t103).f1) from ge111_1); clear hv111_1 ge111_1; clear hcc111 hce111; have HR111_1 := zM hi111_1; have HC111_1 := zM hl111_1; clear hi111_1 hl111_1; replace p111 := eq_true p111; replace q111 := eq_true q111) | ((with_reducible refine gate_callee (f := 27) rfl ?_); refine goesL_ (some 41) rfl rfl Try.func27 (by kernel_rfl) rfl #[.slice A111_1 ((rd_T104 l2 t103).f1).length c111_1, .slice A1 l1.length c1] rfl zl ?_; (with_reducible refine (aumbryref04_Same.calls k _ _ ((rd_T104 l2 t103).f1) _ _ l1 t112 _ ?side1 ?side2 ?side3 ?side4 A18.out).mono ?_); (case side1 => repeat (first | exact (by repeat (first | (with_reducible exact HR111_1.out) | (with_reducible first | refine Kd.C_alloc ?_ _ | refine Kd.C_drewN ?_ _ | refine Kd.C_drew ?_) | exact HR111_1.out)) | (with_reducible first | refine Kd.C_alloc ?_ _ | refine Kd.C_drewN ?_ _ | refine Kd.C_drew ?_))); (case side2 => exact HC111_1.out); (case side3 => exact Kd.C_kept_now HR1.out (zf)); (case side4 => exact HC1.out); rintro e w' ⟨rfl, ⟨nd, rfl⟩⟩; refine ⟨_, rfl, ?_⟩))
      go_ret2
      exact ⟨_, zw, Kd.S_below HO2.out zg, zb, zf, by first | exact HV2.out | exact HV.out⟩
     ·
      rw [if_neg c17] at H
      exact absurd H (by simp)
    ·
     rw [if_neg c16] at H
     exact absurd H (by simp)
  ·
   rw [if_neg c6] at H
   exact absurd H (by simp)
 ·
  replace c5 := zI c5
  subst c5
  rw [if_neg (show ¬ (false = true) by decide)] at H
  by_cases c20 : 0 < (l0.length : Int)
  ·
   rw [if_pos c20] at H
   have c20b0 : decide (0 < (l0.length : Int)) = true := zQ c20
   have c20b1 : decide (0 < l0.length) = true := zQ (by omega)
   clear c20
   by_cases c21 : 0 < (l1.length : Int)
   ·
    rw [if_pos c21] at H
    have c21b0 : decide (0 < (l1.length : Int)) = true := zQ c21
    have c21b1 : decide (0 < l1.length) = true := zQ (by omega)
    clear c21
    by_cases c22 : (!((((rd_T54 l0 0).f0).toList) == (((rd_T54 l1 0).f0).toList)) || (!(((rd_T54 l0 0).f1) == ((rd_T54 l1 0).f1)))) = true
    ·
     rw [if_pos c22] at H
     have c22b0 : (!((((rd_T54 l0 0).f0).toList) == (((rd_T54 l1 0).f0).toList)) || (!(((rd_T54 l0 0).f1) == ((rd_T54 l1 0).f1)))) = true := c22
     clear c22
     simp only [Option.some.injEq, Prod.mk.injEq] at H
     obtain ⟨rfl, rfl⟩ := H
     go_enter Try.func79, Try.ntmps79
     try go_wp2_with (first | ((with_reducible refine gate_callee (f := 56) rfl ?_); refine goesL_ (some 15) rfl rfl Try.func56 (by kernel_rfl) rfl #[.slice A0 l0.length c0] rfl zl ?_; (with_reducible refine (aumbryref05_Var.calls k _ _ l0 false _ ?side1 ?side2 A4.out).mono ?_); (case side1 => exact Kd.C_kept_now HR0.out (zf)); (case side2 => exact HC0.out); rintro e w' ⟨rfl, ⟨nd, rfl⟩⟩; refine ⟨_, rfl, ?_⟩))
     (try (rw [drewN_self w]; generalize hq_ : World.drewN w _ = wz; have n0_ : Aside0 (Kd.S k104 104 wz w0.heap.size (fun k_ => (PQ_ k_ ∨ w.heap.size ≤ k_)) u9000_ l2) := ⟨by rw [← hq_]; exact (Kd.S_below HO2.out zg)⟩; have n1_ : Aside0 (Kept w wz (fun k_ => P2_ k_)) := ⟨by rw [← hq_]; exact (zf)⟩; have n2_ : Aside0 (Below w0.heap.size w0 wz) := ⟨by rw [← hq_]; exact zb⟩; clear HO2 HK HB hq_; have HO2 := n0_; have HK := n1_; have HB := n2_; clear n0_ n1_ n2_))
     have n0_ := zM (Kd.S_drew HO2.out)
     have n1_ := zM (Kept.drew HK.out)
     have n2_ := zM (zD HB.out)
     clear HO2
     clear HK
     clear HB
     have HO2 := n0_
     have HK := n1_
     have HB := n2_
     clear n0_ n1_ n2_
     have p113 : 0 ≤ (0 : Int) := (by omega)
     have q113 : 0 < (l0.length : Int) := zT zv
     obtain ⟨ad113, e113, hx113_0, hx113_1⟩ := at_T54 (Kd.C_kept_now HR0.out HK.out) 0 p113 q113
     have hw113_1 := hx113_1
     (try rw [show ((0 : Int)).toNat = 0 from rfl] at hw113_1)
     (try rw [show 0 * 2 = 0 from rfl] at hw113_1)
     (try rw [Addr.add_zero'] at hw113_1)
     have hw113_0 := hx113_0
     (try rw [show ((0 : Int)).toNat = 0 from rfl] at hw113_0)
     (try rw [show 0 * 2 = 0 from rfl] at hw113_0)
     (try rw [Addr.add_zero'] at hw113_0)
     cases e113
     have qi113 : (0 < l0.length) = True := eq_true (by omega)
     (try rw [show ((0 : Int)).toNat = 0 from rfl] at hx113_0)
     (try rw [show 0 * 2 = 0 from rfl] at hx113_0)
     (try rw [Addr.add_zero'] at hx113_0)
     (try rw [show ((0 : Int)).toNat = 0 from rfl] at hx113_1)
     (try rw [show 0 * 2 = 0 from rfl] at hx113_1)
     (try rw [Addr.add_zero'] at hx113_1)
     replace p113 := eq_true p113
     replace q113 := eq_true q113
     have p114 : 0 ≤ (0 : Int) := (by omega)
     have q114 : 0 < (l1.length : Int) := zT zv
     obtain ⟨ad114, e114, hx114_0, hx114_1⟩ := at_T54 (Kd.C_kept_now HR1.out HK.out) 0 p114 q114
     have hw114_1 := hx114_1
     (try rw [show ((0 : Int)).toNat = 0 from rfl] at hw114_1)
     (try rw [show 0 * 2 = 0 from rfl] at hw114_1)
     (try rw [Addr.add_zero'] at hw114_1)
     have hw114_0 := hx114_0
     (try rw [show ((0 : Int)).toNat = 0 from rfl] at hw114_0)
     (try rw [show 0 * 2 = 0 from rfl] at hw114_0)
     (try rw [Addr.add_zero'] at hw114_0)
     cases e114
     have qi114 : (0 < l1.length) = True := eq_true (by omega)
     (try rw [show ((0 : Int)).toNat = 0 from rfl] at hx114_0)
     (try rw [show 0 * 2 = 0 from rfl] at hx114_0)
     (try rw [Addr.add_zero'] at hx114_0)
     (try rw [show ((0 : Int)).toNat = 0 from rfl] at hx114_1)
     (try rw [show 0 * 2 = 0 from rfl] at hx114_1)
     (try rw [Addr.add_zero'] at hx114_1)
     replace p114 := eq_true p114
     replace q114 := eq_true q114
     refine start_ (n := 7) (S := fun w' => w'.cell? ad113 = some (.string ((rd_T54 l0 0).f0)) ∧ w'.cell? ⟨ad113.block, ad113.off + 1, none⟩ = some (.int .i64 ((rd_T54 l0 0).f1)) ∧ w'.cell? ad114 = some (.string ((rd_T54 l1 0).f0)) ∧ w'.cell? ⟨ad114.block, ad114.off + 1, none⟩ = some (.int .i64 ((rd_T54 l1 0).f1))) (ds := []) #[false, false, false, false, false, false, false] (by kernel_rfl) rfl rfl ⟨hx113_0, hx113_1, hx114_0, hx114_1⟩ (fun hHeld => ?_)
     generalize wz.drew = w23 at HO2 HK HB hx113_0 hx113_1 hx114_0 hx114_1 hHeld ⊢
     refine pure_ (i := 0) (N := some 42) (v := ?_) (a' := ?_) #[true, false, false, false, false, false, false] rfl rfl (by kernel_rfl) (fun _ _ _ h => h) (Or.inl ⟨by rfl, ?_⟩) ?_ ?_
     rotate_left
     ·
      intro w'
      go_simp
      with_reducible rfl
     rotate_left
     ·
      simp only [Act.put, zp1, zp2, zp3, i64_w, i32_w]
      rfl
     refine pure_ (i := 1) (N := some 43) (v := ?_) (a' := ?_) #[true, true, false, false, false, false, false] rfl rfl (by kernel_rfl) (fun _ _ _ h => h) (Or.inl ⟨by rfl, ?_⟩) ?_ ?_
     rotate_left
     ·
      intro w'
      go_simp
      with_reducible rfl
     rotate_left
     ·
      simp only [Act.put, zp1, zp2, zp3, i64_w, i32_w]
      rfl
     refine pure_ (i := 3) (N := some 45) (v := ?_) (a' := ?_) #[true, true, false, true, false, false, false] rfl rfl (by kernel_rfl) (fun _ _ _ h => h) (Or.inl ⟨by rfl, ?_⟩) ?_ ?_
     rotate_left
     ·
      intro w'
      go_simp
      with_reducible rfl
     rotate_left
     ·
      simp only [Act.put, zp1, zp2, zp3, i64_w, i32_w]
      rfl
     refine pure_ (i := 4) (N := some 46) (v := ?_) (a' := ?_) #[true, true, false, true, true, false, false] rfl rfl (by kernel_rfl) (fun _ _ _ h => h) (Or.inl ⟨by rfl, ?_⟩) ?_ ?_
     rotate_left
     ·
      intro w'
      go_simp
      with_reducible rfl
     rotate_left
     ·
      simp only [Act.put, zp1, zp2, zp3, i64_w, i32_w]
      rfl
     refine take_ (i := 2) (N := some 44) (v := ?_) (a' := ?_) #[true, true, true, true, true, false, false] rfl rfl (by kernel_rfl) (fun _ _ _ h => h) (Or.inl ⟨by rfl, ?_⟩) hHeld ?_ ?_
     rotate_left
     ·
      rintro w' ⟨s0, s1, s2, s3⟩
      go_simp
      with_reducible rfl
     rotate_left
     ·
      simp only [Act.put, zp1, zp2, zp3, i64_w, i32_w]
      rfl
     refine take_ (i := 5) (N := some 47) (v := ?_) (a' := ?_) #[true, true, true, true, true, true, false] rfl rfl (by kernel_rfl) (fun _ _ _ h => h) (Or.inl ⟨by rfl, ?_⟩) hHeld ?_ ?_
     rotate_left
     ·
      rintro w' ⟨s0, s1, s2, s3⟩
      go_simp
      with_reducible rfl
     rotate_left
     ·
      simp only [Act.put, zp1, zp2, zp3, i64_w, i32_w]
      rfl
     refine pure_ (i := 6) (N := some 48) (v := ?_) (a' := ?_) #[true, true, true, true, true, true, true] rfl rfl (by kernel_rfl) (fun _ _ _ h => h) (Or.inl ⟨by rfl, ?_⟩) ?_ ?_
     rotate_left
     ·
      intro w'
      go_simp
      with_reducible rfl
     rotate_left
     ·
      simp only [Act.put, zp1, zp2, zp3, i64_w, i32_w]
      rfl
     refine done_ (by kernel_rfl) ?_
     try go_wp2
     go_ret2
     exact ⟨_, zw, by first | exact Kd.S_nil _ _ _ _ _ | exact Kd.N_nil _ _ _ _ _ | exact Kd.V_nil _ _ _ _ _ | exact Kd.Q_nil _ _ _ _ _ | exact Kd.R_nil _ _ _ _ _, zb, zf, fun k_ e_ => by simp [Value.ownBlock] at e_⟩
    ·
     rw [if_neg c22] at H
     have c22b0 : (!((((rd_T54 l0 0).f0).toList) == (((rd_T54 l1 0).f0).toList)) || (!(((rd_T54 l0 0).f1) == ((rd_T54 l1 0).f1)))) = false := by simpa using c22
     clear c22
     replace H := zB H
     obtain ⟨t115, A240, H⟩ := H
     try dsimp only at H
     have A24 := zM A240
     clear A240
     replace H := zB H
     obtain ⟨t118, A250, H⟩ := H
     try dsimp only at H
     have A25 := zM A250
     clear A250
     have H' := zM H
     clear H
     go_enter Try.func79, Try.ntmps79
     try go_wp2_with (first | ((with_reducible refine gate_callee (f := 56) rfl ?_); refine goesL_ (some 15) rfl rfl Try.func56 (by kernel_rfl) rfl #[.slice A0 l0.length c0] rfl zl ?_; (with_reducible refine (aumbryref05_Var.calls k _ _ l0 false _ ?side1 ?side2 A4.out).mono ?_); (case side1 => exact Kd.C_kept_now HR0.out (zf)); (case side2 => exact HC0.out); rintro e w' ⟨rfl, ⟨nd, rfl⟩⟩; refine ⟨_, rfl, ?_⟩))
     (try (rw [drewN_self w]; generalize hq_ : World.drewN w _ = wz; have n0_ : Aside0 (Kd.S k104 104 wz w0.heap.size (fun k_ => (PQ_ k_ ∨ w.heap.size ≤ k_)) u9000_ l2) := ⟨by rw [← hq_]; exact (Kd.S_below HO2.out zg)⟩; have n1_ : Aside0 (Kept w wz (fun k_ => P2_ k_)) := ⟨by rw [← hq_]; exact (zf)⟩; have n2_ : Aside0 (Below w0.heap.size w0 wz) := ⟨by rw [← hq_]; exact zb⟩; clear HO2 HK HB hq_; have HO2 := n0_; have HK := n1_; have HB := n2_; clear n0_ n1_ n2_))
     have n0_ := zM (Kd.S_drew HO2.out)
     have n1_ := zM (Kept.drew HK.out)
     have n2_ := zM (zD HB.out)
     clear HO2
     clear HK
     clear HB
     have HO2 := n0_
     have HK := n1_
     have HB := n2_
     clear n0_ n1_ n2_
     have p113 : 0 ≤ (0 : Int) := (by omega)
     have q113 : 0 < (l0.length : Int) := zT zv
     obtain ⟨ad113, e113, hx113_0, hx113_1⟩ := at_T54 (Kd.C_kept_now HR0.out HK.out) 0 p113 q113
     have hw113_1 := hx113_1
     (try rw [show ((0 : Int)).toNat = 0 from rfl] at hw113_1)
     (try rw [show 0 * 2 = 0 from rfl] at hw113_1)
     (try rw [Addr.add_zero'] at hw113_1)
     have hw113_0 := hx113_0
     (try rw [show ((0 : Int)).toNat = 0 from rfl] at hw113_0)
     (try rw [show 0 * 2 = 0 from rfl] at hw113_0)
     (try rw [Addr.add_zero'] at hw113_0)
     cases e113
     have qi113 : (0 < l0.length) = True := eq_true (by omega)
     (try rw [show ((0 : Int)).toNat = 0 from rfl] at hx113_0)
     (try rw [show 0 * 2 = 0 from rfl] at hx113_0)
     (try rw [Addr.add_zero'] at hx113_0)
     (try rw [show ((0 : Int)).toNat = 0 from rfl] at hx113_1)
     (try rw [show 0 * 2 = 0 from rfl] at hx113_1)
     (try rw [Addr.add_zero'] at hx113_1)
     replace p113 := eq_true p113
     replace q113 := eq_true q113
     have p114 : 0 ≤ (0 : Int) := (by omega)
     have q114 : 0 < (l1.length : Int) := zT zv
     obtain ⟨ad114, e114, hx114_0, hx114_1⟩ := at_T54 (Kd.C_kept_now HR1.out HK.out) 0 p114 q114
     have hw114_1 := hx114_1
     (try rw [show ((0 : Int)).toNat = 0 from rfl] at hw114_1)
     (try rw [show 0 * 2 = 0 from rfl] at hw114_1)
     (try rw [Addr.add_zero'] at hw114_1)
     have hw114_0 := hx114_0
     (try rw [show ((0 : Int)).toNat = 0 from rfl] at hw114_0)
     (try rw [show 0 * 2 = 0 from rfl] at hw114_0)
     (try rw [Addr.add_zero'] at hw114_0)
     cases e114
     have qi114 : (0 < l1.length) = True := eq_true (by omega)
     (try rw [show ((0 : Int)).toNat = 0 from rfl] at hx114_0)
     (try rw [show 0 * 2 = 0 from rfl] at hx114_0)
     (try rw [Addr.add_zero'] at hx114_0)
     (try rw [show ((0 : Int)).toNat = 0 from rfl] at hx114_1)
     (try rw [show 0 * 2 = 0 from rfl] at hx114_1)
     (try rw [Addr.add_zero'] at hx114_1)
     replace p114 := eq_true p114
     replace q114 := eq_true q114
     refine start_ (n := 7) (S := fun w' => w'.cell? ad113 = some (.string ((rd_T54 l0 0).f0)) ∧ w'.cell? ⟨ad113.block, ad113.off + 1, none⟩ = some (.int .i64 ((rd_T54 l0 0).f1)) ∧ w'.cell? ad114 = some (.string ((rd_T54 l1 0).f0)) ∧ w'.cell? ⟨ad114.block, ad114.off + 1, none⟩ = some (.int .i64 ((rd_T54 l1 0).f1))) (ds := []) #[false, false, false, false, false, false, false] (by kernel_rfl) rfl rfl ⟨hx113_0, hx113_1, hx114_0, hx114_1⟩ (fun hHeld => ?_)
     generalize wz.drew = w26 at HO2 HK HB hx113_0 hx113_1 hx114_0 hx114_1 hHeld ⊢
     refine pure_ (i := 0) (N := some 42) (v := ?_) (a' := ?_) #[true, false, false, false, false, false, false] rfl rfl (by kernel_rfl) (fun _ _ _ h => h) (Or.inl ⟨by rfl, ?_⟩) ?_ ?_
     rotate_left
     ·
      intro w'
      go_simp
      with_reducible rfl
     rotate_left
     ·
      simp only [Act.put, zp1, zp2, zp3, i64_w, i32_w]
      rfl
     refine pure_ (i := 1) (N := some 43) (v := ?_) (a' := ?_) #[true, true, false, false, false, false, false] rfl rfl (by kernel_rfl) (fun _ _ _ h => h) (Or.inl ⟨by rfl, ?_⟩) ?_ ?_
     rotate_left
     ·
      intro w'
      go_simp
      with_reducible rfl
     rotate_left
     ·
      simp only [Act.put, zp1, zp2, zp3, i64_w, i32_w]
      rfl
     refine pure_ (i := 3) (N := some 45) (v := ?_) (a' := ?_) #[true, true, false, true, false, false, false] rfl rfl (by kernel_rfl) (fun _ _ _ h => h) (Or.inl ⟨by rfl, ?_⟩) ?_ ?_
     rotate_left
     ·
      intro w'
      go_simp
      with_reducible rfl
     rotate_left
     ·
      simp only [Act.put, zp1, zp2, zp3, i64_w, i32_w]
      rfl
     refine pure_ (i := 4) (N := some 46) (v := ?_) (a' := ?_) #[true, true, false, true, true, false, false] rfl rfl (by kernel_rfl) (fun _ _ _ h => h) (Or.inl ⟨by rfl, ?_⟩) ?_ ?_
     rotate_left
     ·
      intro w'
      go_simp
      with_reducible rfl
     rotate_left
     ·
      simp only [Act.put, zp1, zp2, zp3, i64_w, i32_w]
      rfl
     refine take_ (i := 2) (N := some 44) (v := ?_) (a' := ?_) #[true, true, true, true, true, false, false] rfl rfl (by kernel_rfl) (fun _ _ _ h => h) (Or.inl ⟨by rfl, ?_⟩) hHeld ?_ ?_
     rotate_left
     ·
      rintro w' ⟨s0, s1, s2, s3⟩
      go_simp
      with_reducible rfl
     rotate_left
     ·
      simp only [Act.put, zp1, zp2, zp3, i64_w, i32_w]
      rfl
     refine take_ (i := 5) (N := some 47) (v := ?_) (a' := ?_) #[true, true, true, true, true, true, false] rfl rfl (by kernel_rfl) (fun _ _ _ h => h) (Or.inl ⟨by rfl, ?_⟩) hHeld ?_ ?_
     rotate_left
     ·
      rintro w' ⟨s0, s1, s2, s3⟩
      go_simp
      with_reducible rfl
     rotate_left
     ·
      simp only [Act.put, zp1, zp2, zp3, i64_w, i32_w]
      rfl
     refine pure_ (i := 6) (N := some 48) (v := ?_) (a' := ?_) #[true, true, true, true, true, true, true] rfl rfl (by kernel_rfl) (fun _ _ _ h => h) (Or.inl ⟨by rfl, ?_⟩) ?_ ?_
     rotate_left
     ·
      intro w'
      go_simp
      with_reducible rfl
     rotate_left
     ·
      simp only [Act.put, zp1, zp2, zp3, i64_w, i32_w]
      rfl
     refine done_ (by kernel_rfl) ?_
     try go_wp2_with (first | ((with_reducible refine gate_callee (f := 54) rfl ?_); refine goesL_ (some 50) rfl rfl Try.func54 (by kernel_rfl) rfl #[.slice (some ad113) l0.length c0] rfl zl ?_; (with_reducible refine (aumbryref04_Kids.calls k _ _ l0 t115 _ ?side1 ?side2 A24.out).mono ?_); (case side1 => exact Kd.C_kept_now HR0.out (zf)); (case side2 => exact HC0.out); rintro e w27 ⟨v116, rfl, ho0, hb⟩; refine ⟨_, rfl, ?_⟩; replace HO2 := zM (Kd.S_below (Kd.S_below HO2.out zg) hb); have HO117 := zM (Kd.S_lower (Kd.S_newM (M := fun k_ => (PQ_ k_ ∨ w.heap.size ≤ k_)) ho0 (by first | exact HK.out.1 | exact (show Kept w _ (fun k_ => P2_ k_) from zf).1) (fun k_ h_ => .inr h_)) (below_size zb)); replace HK := zM (Kept.below (S := (fun k_ => P2_ k_)) (zf) hb); replace HB := zM (below_step zb hb); (try clear hb); (try clear ho0)) | ((with_reducible refine gate_callee (f := 54) rfl ?_); refine goesL_ (some 52) rfl rfl Try.func54 (by kernel_rfl) rfl #[.slice (some ad114) l1.length c1] rfl zl ?_; (with_reducible refine (aumbryref04_Kids.calls k _ _ l1 t118 _ ?side1 ?side2 A25.out).mono ?_); (case side1 => exact Kd.C_kept_now HR1.out (zf)); (case side2 => exact HC1.out); rintro e w28 ⟨v119, rfl, ho0, hb⟩; refine ⟨_, rfl, ?_⟩; replace HO2 := zM (Kd.S_below (Kd.S_below HO2.out zg) hb); have HO120 := zM (Kd.S_lower (Kd.S_new' (Kd.S_newM (M := fun k_ => (PQ_ k_ ∨ w.heap.size ≤ k_)) ho0 (by first | exact HK.out.1 | exact (show Kept w _ (fun k_ => P2_ k_) from zf).1) (fun k_ h_ => .inr h_)) (Kd.S_lt (Kd.S_below HO117.out zg))) (below_size zb)); replace HO117 := zM (Kd.S_elder' (Kd.S_below HO117.out zg) (Kd.S_base ho0) hb); replace HK := zM (Kept.below (S := (fun k_ => P2_ k_)) (zf) hb); replace HB := zM (below_step zb hb); (try clear hb); (try clear ho0); obtain ⟨Ao29, co29, eo29⟩ := Kd.S_slice HO117.out; subst eo29))
     go_loopg [2, 55] k (fun kq v2 v55 w' => ∃ (x2_1 : List (S104)) (x55_1 : Int), v55 = .int .i64 x55_1 ∧ Aside0 (aumbryref05_Fit.l0 kq x2_1 t115 t118 (t115.length : Int) x55_1 = some (r1, r2)) ∧ Aside0 (kq ≤ k) ∧ Aside0 (Kd.S k104 104 w' w0.heap.size (fun k_ => (PQ_ k_ ∨ w.heap.size ≤ k_)) v2 x2_1) ∧ Aside0 (Kd.S (Kd.slice 54 k54) 23 w' w0.heap.size (fun k_ => (PQ_ k_ ∨ w.heap.size ≤ k_) ∧ some k_ ≠ (v119 : Value).ownBlock) (.slice Ao29 t115.length co29) t115) ∧ Aside0 (Kd.S (Kd.slice 54 k54) 23 w' w0.heap.size (fun k_ => (PQ_ k_ ∨ w.heap.size ≤ k_) ∧ some k_ ≠ ((.slice Ao29 t115.length co29) : Value).ownBlock) v119 t118) ∧ Aside0 (Kept w w' (fun k_ => P2_ k_)) ∧ Aside0 (Below w0.heap.size w0 w') ∧ Aside0 (∀ k_ : Nat, (v2 : Value).ownBlock = some k_ → P2_ k_ ∨ w.heap.size ≤ k_))
     case atStart => exact ⟨(l2), (0), zy, H', ⟨Nat.le_refl _⟩, ⟨Kd.S_below HO2.out zg⟩, ⟨by (with_reducible repeat (first | apply Kd.S_alloc | apply Kd.S_drewN | apply Kd.S_drew)); exact Kd.S_mono HO117.out (fun _ hk => ⟨hk.1.1, hk.2⟩)⟩, ⟨by (with_reducible repeat (first | apply Kd.S_alloc | apply Kd.S_drewN | apply Kd.S_drew)); exact Kd.S_mono HO120.out (fun _ hk => ⟨hk.1.1, hk.2⟩)⟩, ⟨zf⟩, ⟨zb⟩, HV⟩
     case round =>
      clear H'
      try clear c1
      try clear p1
      try clear q1
      try clear hx1
      try clear qi1
      try clear c2
      try clear p2
      try clear c5
      try clear c6
      try clear c6b0
      try clear c6b1
      try clear c7
      try clear c8
      try clear c8b0
      try clear c10
      try clear p10
      try clear q10
      try clear hx10
      try clear qi10
      try clear c11
      try clear p11
      try clear q11
      try clear hx11
      try clear qi11
      try clear c13
      try clear c16
      try clear c16b0
      try clear c17
      try clear c17b0
      try clear c20
      try clear c20b0
      try clear c20b1
      try clear c21
      try clear c21b0
      try clear c21b1
      try clear c22
      try clear c22b0
      try clear c27
      try clear hx102_0
      try clear hx102_1
      try clear hx104_0
      try clear hx104_1
      try clear hx111_0
      try clear hx111_1
      try clear hx113_0
      try clear hx113_1
      try clear hx114_0
      try clear hx114_1
      try clear p102
      try clear p104
      try clear p111
      try clear p113
      try clear p114
      try clear q102
      try clear q104
      try clear q111
      try clear q113
      try clear q114
      obtain ⟨x2_1, x55_1, rfl, HA, HK1, HO_2, HO_9, HO_10, HK, HB, HV⟩ := hrel
      cases gk with
      | zero => exact absurd HA.out (by simp [aumbryref05_Fit.l0])
      | succ k1 =>
       have H := HA.out
       clear HA
       simp only [aumbryref05_Fit.l0] at H
       by_cases c30 : x55_1 < (t115.length : Int)
       ·
        rw [if_pos c30] at H
        have c30b0 : decide (x55_1 < (t115.length : Int)) = true := zQ c30
        clear c30
        by_cases c31 : 0 ≤ x55_1
        ·
         rw [if_pos c31] at H
         have c31b0 : decide (0 ≤ x55_1) = true := zQ c31
         clear c31
         by_cases c32 : x55_1 < (t115.length : Int)
         ·
          rw [if_pos c32] at H
          have c32b0 : decide (x55_1 < (t115.length : Int)) = true := zQ c32
          clear c32
          by_cases c33 : x55_1 < (t118.length : Int)
          ·
           rw [if_pos c33] at H
           have c33b0 : decide (x55_1 < (t118.length : Int)) = true := zQ c33
           clear c33
           replace H := zB H
           obtain ⟨⟨t123, t126⟩, A340, H⟩ := H
           try dsimp only at H
           have A34 := zM A340
           clear A340
           by_cases c35 : t126 = true
           ·
            subst c35
            rw [if_pos rfl] at H
            have H' := zM H
            clear H
            try go_wp2
            have n0_ := zM (Kd.S_drew HO_2.out)
            have n1_ := zM (Kd.S_drew HO_9.out)
            have n2_ := zM (Kd.S_drew HO_10.out)
            have n3_ := zM (Kept.drew HK.out)
            have n4_ := zM (zD HB.out)
            clear HO_2
            clear HO_9
            clear HO_10
            clear HK
            clear HB
            have HO_2 := n0_
            have HO_9 := n1_
            have HO_10 := n2_
            have HK := n3_
            have HB := n4_
            clear n0_ n1_ n2_ n3_ n4_
            have p121 : 0 ≤ (x55_1 : Int) := zT zv
            have q121 : x55_1 < (t115.length : Int) := zT zv
            obtain ⟨ad121, A121_0, c121_0, e121, hx121_0, hl121_0, hi121_0⟩ := at_L3 (Kd.S_reads' HO_9.out).2.2 x55_1 p121 q121
            cases e121
            obtain ⟨ce121, hce121, hMe121, hcc121⟩ := Kd.S_get HO_9.out [] x55_1 p121 (by first | exact q121 | exact zT zv | (have e_ := (Kd.S_reads' HO_9.out).1; omega))
            obtain ⟨ve121_0, rfl, ge121_0⟩ := hMe121
            have hv121_0 := hcc121 0 _ rfl
            rw [Nat.add_zero, show ((Kd.slice 54 k54)).sz = 1 from rfl, Nat.mul_one] at hv121_0
            replace hv121_0 := zS (hv121_0.symm.trans hx121_0)
            rw [hv121_0] at ge121_0
            have HL121_0 := zM (show Kd.R k54 54 _ _ _ _ (rd_L3 t115 x55_1) from ge121_0)
            clear hv121_0 ge121_0
            clear hcc121 hce121
            have HR121_0 := zM hi121_0
            have HC121_0 := zM hl121_0
            clear hi121_0 hl121_0
            replace p121 := eq_true p121
            replace q121 := eq_true q121
            obtain ⟨Ao37, co37, eo37⟩ := Kd.S_slice HO_10.out
            (first | subst eo37 | (injection eo37 with f1_ f2_ f3_; have f4_ := f1_.symm; have f5_ := f3_.symm; clear f1_ f2_ f3_; subst f4_; subst f5_))
            have p122 : 0 ≤ (x55_1 : Int) := zT zv
            have q122 : x55_1 < (t118.length : Int) := zT zv
            obtain ⟨ad122, A122_0, c122_0, e122, hx122_0, hl122_0, hi122_0⟩ := at_L3 (Kd.S_reads' HO_10.out).2.2 x55_1 p122 q122
            cases e122
            obtain ⟨ce122, hce122, hMe122, hcc122⟩ := Kd.S_get HO_10.out [] x55_1 p122 (by first | exact q122 | exact zT zv | (have e_ := (Kd.S_reads' HO_10.out).1; omega))
            obtain ⟨ve122_0, rfl, ge122_0⟩ := hMe122
            have hv122_0 := hcc122 0 _ rfl
            rw [Nat.add_zero, show ((Kd.slice 54 k54)).sz = 1 from rfl, Nat.mul_one] at hv122_0
            replace hv122_0 := zS (hv122_0.symm.trans hx122_0)
            rw [hv122_0] at ge122_0
            have HL122_0 := zM (show Kd.R k54 54 _ _ _ _ (rd_L3 t118 x55_1) from ge122_0)
            clear hv122_0 ge122_0
            clear hcc122 hce122
            have HR122_0 := zM hi122_0
            have HC122_0 := zM hl122_0
            clear hi122_0 hl122_0
            replace p122 := eq_true p122
            replace q122 := eq_true q122
            obtain ⟨Ao38, co38, eo38⟩ := Kd.S_slice HO_2.out
            (first | subst eo38 | (injection eo38 with f1_ f2_ f3_; have f4_ := f1_.symm; have f5_ := f3_.symm; clear f1_ f2_ f3_; subst f4_; subst f5_))
            refine start_ (n := 15) (S := fun w' => w'.cell? (ad121.add (x55_1).toNat) = some (.slice A121_0 (rd_L3 t115 x55_1).length c121_0) ∧ w'.cell? (ad122.add (x55_1).toNat) = some (.slice A122_0 (rd_L3 t118 x55_1).length c122_0)) (ds := []) #[false, false, false, false, false, false, false, false, false, false, false, false, false, false, false] (by kernel_rfl) rfl rfl ⟨hx121_0, hx122_0⟩ (fun hHeld => ?_); refine with_tabW aumbryref05_Fit.tab12 aumbryref05_Fit.bits12 (fun HT_ HW_ => ?_)
            generalize wr.drew = w36 at HO_2 HO_9 HO_10 HK HB HL121_0 HL122_0 HR121_0 HR122_0 hx121_0 hx122_0 hHeld ⊢
            refine pure_ (i := 0) (N := some 59) (v := ?_) (a' := ?_) #[true, false, false, false, false, false, false, false, false, false, false, false, false, false, false] rfl rfl (any_of HT_.out (by kernel_rfl)) (fun _ _ _ h => h) (Or.inl ⟨by rfl, ?_⟩) ?_ ?_
            rotate_left
            ·
             intro w'
             go_simp
             with_reducible rfl
            rotate_left
            ·
             simp only [Act.put, zp1, zp2, zp3, i64_w, i32_w]
             rfl
            refine pure_ (i := 1) (N := some 60) (v := ?_) (a' := ?_) #[true, true, false, false, false, false, false, false, false, false, false, false, false, false, false] rfl rfl (any_of HT_.out (by kernel_rfl)) (fun _ _ _ h => h) (Or.inl ⟨by rfl, ?_⟩) ?_ ?_
            rotate_left
            ·
             intro w'
             go_simp
             with_reducible rfl
            rotate_left
            ·
             simp only [Act.put, zp1, zp2, zp3, i64_w, i32_w]
             rfl
            refine pure_ (i := 2) (N := some 61) (v := ?_) (a' := ?_) #[true, true, true, false, false, false, false, false, false, false, false, false, false, false, false] rfl rfl (any_of HT_.out (by kernel_rfl)) (fun _ _ _ h => h) (Or.inl ⟨by rfl, ?_⟩) ?_ ?_
            rotate_left
            ·
             intro w'
             go_simp
             with_reducible rfl
            rotate_left
            ·
             simp only [Act.put, zp1, zp2, zp3, i64_w, i32_w]
             rfl
            refine pure_ (i := 4) (N := some 63) (v := ?_) (a' := ?_) #[true, true, true, false, true, false, false, false, false, false, false, false, false, false, false] rfl rfl (any_of HT_.out (by kernel_rfl)) (fun _ _ _ h => h) (Or.inl ⟨by rfl, ?_⟩) ?_ ?_
            rotate_left
            ·
             intro w'
             go_simp
             with_reducible rfl
            rotate_left
            ·
             simp only [Act.put, zp1, zp2, zp3, i64_w, i32_w]
             rfl
            refine pure_ (i := 5) (N := some 64) (v := ?_) (a' := ?_) #[true, true, true, false, true, true, false, false, false, false, false, false, false, false, false] rfl rfl (any_of HT_.out (by kernel_rfl)) (fun _ _ _ h => h) (Or.inl ⟨by rfl, ?_⟩) ?_ ?_
            rotate_left
            ·
             intro w'
             go_simp
             with_reducible rfl
            rotate_left
            ·
             simp only [Act.put, zp1, zp2, zp3, i64_w, i32_w]
             rfl
            refine pure_ (i := 6) (N := some 65) (v := ?_) (a' := ?_) #[true, true, true, false, true, true, true, false, false, false, false, false, false, false, false] rfl rfl (any_of HT_.out (by kernel_rfl)) (fun _ _ _ h => h) (Or.inl ⟨by rfl, ?_⟩) ?_ ?_
            rotate_left
            ·
             intro w'
             go_simp
             with_reducible rfl
            rotate_left
            ·
             simp only [Act.put, zp1, zp2, zp3, i64_w, i32_w]
             rfl
            refine pure_ (i := 8) (N := some 67) (v := ?_) (a' := ?_) #[true, true, true, false, true, true, true, false, true, false, false, false, false, false, false] rfl rfl (any_of HT_.out (by kernel_rfl)) (fun _ _ _ h => h) (Or.inl ⟨by rfl, ?_⟩) ?_ ?_
            rotate_left
            ·
             intro w'
             go_simp
             with_reducible rfl
            rotate_left
            ·
             simp only [Act.put, zp1, zp2, zp3, i64_w, i32_w]
             rfl
            refine take_ (i := 3) (N := some 62) (v := ?_) (a' := ?_) #[true, true, true, true, true, true, true, false, true, false, false, false, false, false, false] rfl rfl (take_ofW HT_.out HW_.out (by kernel_rfl)) (fun _ _ _ h => h) (Or.inl ⟨by rfl, ?_⟩) hHeld ?_ ?_
            rotate_left
            ·
             rintro w' ⟨s0, s1⟩
             go_simp
             with_reducible rfl
            rotate_left
            ·
             simp only [Act.put, zp1, zp2, zp3, i64_w, i32_w]
             rfl
            refine take_ (i := 7) (N := some 66) (v := ?_) (a' := ?_) #[true, true, true, true, true, true, true, true, true, false, false, false, false, false, false] rfl rfl (take_ofW HT_.out HW_.out (by kernel_rfl)) (fun _ _ _ h => h) (Or.inl ⟨by rfl, ?_⟩) hHeld ?_ ?_
            rotate_left
            ·
             rintro w' ⟨s0, s1⟩
             go_simp
             with_reducible rfl
            rotate_left
            ·
             simp only [Act.put, zp1, zp2, zp3, i64_w, i32_w]
             rfl
            refine one_ (i := 9) (N := some 68) #[true, true, true, true, true, true, true, true, true, true, false, false, false, false, false] rfl rfl (one_of HT_.out (by kernel_rfl)) (by decide) (fun K hK => ?_)
            refine goes_ Try.func79 (by kernel_rfl) rfl #[.slice A121_0 (rd_L3 t115 x55_1).length c121_0, .slice A122_0 (rd_L3 t118 x55_1).length c122_0, .slice Ao38 x2_1.length co38] (by rfl) rfl rfl zl ?_
            with_reducible refine (ih k1 (by have := HK1.out; omega) _ _ (rd_L3 t115 x55_1) _ _ (rd_L3 t118 x55_1) (fun k_ => some k_ = (.slice Ao38 x2_1.length co38 : Value).ownBlock) (fun k_ => (PQ_ k_ ∨ w.heap.size ≤ k_)) (.slice Ao38 x2_1.length co38) x2_1 t123 true w0 _ ?side1 ?side2 ?side3 ?side4 ?side5 ?side6 ?side7 A34.out).mono ?_
            (case side1 => exact zb)
            (case side2 => exact Kd.C_kept_own ((Kd.R_apart' HL121_0.out (Kd.S_typed HO_2.out) (by decide))) (fun k_ hk_ hs_ => (hk_.2) hs_))
            (case side3 => exact HC121_0.out)
            (case side4 => exact Kd.C_kept_own ((Kd.R_apart' HL122_0.out (Kd.S_typed HO_2.out) (by decide))) (fun k_ hk_ hs_ => (hk_.2) hs_))
            (case side5 => exact HC122_0.out)
            (case side6 => exact HO_2.out)
            (case side7 => exact fun k_ e_ => e_.symm)
            rintro e w39 ⟨v124, rfl, ho0, hb, hkp, hv⟩
            have HS0_ := Go.Proofs.YtdlkhpfgkghhmaaW.PrintWords.cell_kept (hHeld.1) hkp (by first | (rw [add_block]; exact (fun hs_ => (((Kd.S_R (Kd.S_apart' HO_9.out (Kd.S_typed HO_2.out) (by decide))).1 _ rfl).2) hs_)) | (show ¬ _; simp only [add_block]; exact (fun hs_ => (((Kd.S_R (Kd.S_apart' HO_9.out (Kd.S_typed HO_2.out) (by decide))).1 _ rfl).2) hs_)) | exact (fun hs_ => (((Kd.S_R (Kd.S_apart' HO_9.out (Kd.S_typed HO_2.out) (by decide))).1 _ rfl).2) hs_))
            have HS1_ := Go.Proofs.YtdlkhpfgkghhmaaW.PrintWords.cell_kept (hHeld.2) hkp (by first | (rw [add_block]; exact (fun hs_ => (((Kd.S_R (Kd.S_apart' HO_10.out (Kd.S_typed HO_2.out) (by decide))).1 _ rfl).2) hs_)) | (show ¬ _; simp only [add_block]; exact (fun hs_ => (((Kd.S_R (Kd.S_apart' HO_10.out (Kd.S_typed HO_2.out) (by decide))).1 _ rfl).2) hs_)) | exact (fun hs_ => (((Kd.S_R (Kd.S_apart' HO_10.out (Kd.S_typed HO_2.out) (by decide))).1 _ rfl).2) hs_))
            refine ⟨_, rfl, ?_⟩
            have n0_ := zM (Kd.S_mono (ok' := fun k_ => (PQ_ k_ ∨ w.heap.size ≤ k_) ∧ some k_ ≠ (.slice (some ad122) t118.length co37 : Value).ownBlock) (Kd.S_keptB ((Kd.S_apart' HO_9.out (Kd.S_typed HO_2.out) (by decide))) hkp (fun k_ hk_ hs_ => (hk_.2) hs_)) (fun k_ hk_ => ⟨hk_.1.1.1, hk_.1.1.2⟩))
            have n1_ := zM (Kd.S_mono (ok' := fun k_ => (PQ_ k_ ∨ w.heap.size ≤ k_) ∧ some k_ ≠ (.slice (some ad121) t115.length co29 : Value).ownBlock) (Kd.S_keptB ((Kd.S_apart' HO_10.out (Kd.S_typed HO_2.out) (by decide))) hkp (fun k_ hk_ hs_ => (hk_.2) hs_)) (fun k_ hk_ => ⟨hk_.1.1.1, hk_.1.1.2⟩))
            have n2_ := zM (Kd.S_mono (ok' := fun k_ => (PQ_ k_ ∨ w.heap.size ≤ k_)) ho0 (fun k_ hk_ => Or.elim hk_ (fun hs_ => hs_) (fun hn_ => (.inr (Nat.le_trans (by first | exact HK.out.1 | exact (show Kept w _ (fun k_ => P2_ k_) from zf).1) hn_)))))
            have n3_ := zM (Kept.then_ (S := (fun k_ => P2_ k_)) (zf) hkp (fun k_ hs_ => HV.out k_ hs_.symm))
            have n4_ := zM (hb)
            have n5_ := zM (show ∀ k_ : Nat, (v124 : Value).ownBlock = some k_ → P2_ k_ ∨ w.heap.size ≤ k_ from fun k_ e_ => (hv k_ e_).elim (fun e2_ => HV.out k_ e2_.symm) (fun hn_ => .inr (Nat.le_trans (show Kept w _ (fun k_ => P2_ k_) from zf).1 hn_)))
            clear HV hv
            have HV := n5_
            clear n5_
            clear HO_9
            clear HO_10
            clear HK
            clear HB
            clear HO_2
            clear HL121_0
            clear HL122_0
            have HO_9 := n0_
            have HO_10 := n1_
            have HO125 := n2_
            have HK := n3_
            have HB := n4_
            clear n0_ n1_ n2_ n3_ n4_
            (try clear hb)
            (try clear hkp)
            (try clear ho0)
            refine hK.out _ _ ⟨HS0_, HS1_⟩ (fun hHeld => ?_)
            clear hK K
            refine norm_ (a' := ?_) ?_ ?_
            rotate_left
            ·
             show Act.put _ (some 68) _ = _
             simp only [Act.put, zp1, zp2, zp3, i64_w, i32_w]
             rfl
            refine pure_ (i := 10) (N := some 58) (v := ?_) (a' := ?_) #[true, true, true, true, true, true, true, true, true, true, true, false, false, false, false] rfl rfl (any_of HT_.out (by kernel_rfl)) (fun _ _ _ h => h) (Or.inl ⟨by rfl, ?_⟩) ?_ ?_
            rotate_left
            ·
             intro w'
             go_simp
             with_reducible rfl
            rotate_left
            ·
             simp only [Act.put, zp1, zp2, zp3, i64_w, i32_w]
             rfl
            refine pure_ (i := 11) (N := some 69) (v := ?_) (a' := ?_) #[true, true, true, true, true, true, true, true, true, true, true, true, false, false, false] rfl rfl (any_of HT_.out (by kernel_rfl)) (fun _ _ _ h => h) (Or.inl ⟨by rfl, ?_⟩) ?_ ?_
            rotate_left
            ·
             intro w'
             go_simp
             with_reducible rfl
            rotate_left
            ·
             simp only [Act.put, zp1, zp2, zp3, i64_w, i32_w]
             rfl
            refine pure_ (i := 12) (N := some 70) (v := ?_) (a' := ?_) #[true, true, true, true, true, true, true, true, true, true, true, true, true, false, false] rfl rfl (any_of HT_.out (by kernel_rfl)) (fun _ _ _ h => h) (Or.inl ⟨by rfl, ?_⟩) ?_ ?_
            rotate_left
            ·
             intro w'
             go_simp
             with_reducible rfl
            rotate_left
            ·
             simp only [Act.put, zp1, zp2, zp3, i64_w, i32_w]
             rfl
            refine pure_ (i := 13) (N := some 12) (v := ?_) (a' := ?_) #[true, true, true, true, true, true, true, true, true, true, true, true, true, true, false] rfl rfl (any_of HT_.out (by kernel_rfl)) (fun _ _ _ h => h) (Or.inl ⟨by rfl, ?_⟩) ?_ ?_
            rotate_left
            ·
             intro w'
             go_simp
             with_reducible rfl
            rotate_left
            ·
             simp only [Act.put, zp1, zp2, zp3, i64_w, i32_w]
             rfl
            refine pure_ (i := 14) (N := some 13) (v := ?_) (a' := ?_) #[true, true, true, true, true, true, true, true, true, true, true, true, true, true, true] rfl rfl (any_of HT_.out (by kernel_rfl)) (fun _ _ _ h => h) (Or.inl ⟨by rfl, ?_⟩) ?_ ?_
            rotate_left
            ·
             intro w'
             go_simp
             with_reducible rfl
            rotate_left
            ·
             simp only [Act.put, zp1, zp2, zp3, i64_w, i32_w]
             rfl
            refine done_ (done_of HT_.out (by kernel_rfl)) ?_
            try go_wp2
            go_roundg k1
            case measure => have := HK1.out; omega
            case rel => exact ⟨(t123), (wrap64 (x55_1 + 1)), zy, H', ⟨by have := HK1.out; omega⟩, ⟨Kd.S_below HO125.out zg⟩, ⟨Kd.S_below HO_9.out zg⟩, ⟨Kd.S_below HO_10.out zg⟩, ⟨zf⟩, ⟨zb⟩, HV⟩
           ·
            replace c35 := zI c35
            subst c35
            rw [if_neg (show ¬ (false = true) by decide)] at H
            simp only [Option.some.injEq, Prod.mk.injEq] at H
            obtain ⟨rfl, rfl⟩ := H
            try go_wp2
            have n0_ := zM (Kd.S_drew HO_2.out)
            have n1_ := zM (Kd.S_drew HO_9.out)
            have n2_ := zM (Kd.S_drew HO_10.out)
            have n3_ := zM (Kept.drew HK.out)
            have n4_ := zM (zD HB.out)
            clear HO_2
            clear HO_9
            clear HO_10
            clear HK
            clear HB
            have HO_2 := n0_
            have HO_9 := n1_
            have HO_10 := n2_
            have HK := n3_
            have HB := n4_
            clear n0_ n1_ n2_ n3_ n4_
            have p121 : 0 ≤ (x55_1 : Int) := zT zv
            have q121 : x55_1 < (t115.length : Int) := zT zv
            obtain ⟨ad121, A121_0, c121_0, e121, hx121_0, hl121_0, hi121_0⟩ := at_L3 (Kd.S_reads' HO_9.out).2.2 x55_1 p121 q121
            cases e121
            obtain ⟨ce121, hce121, hMe121, hcc121⟩ := Kd.S_get HO_9.out [] x55_1 p121 (by first | exact q121 | exact zT zv | (have e_ := (Kd.S_reads' HO_9.out).1; omega))
            obtain ⟨ve121_0, rfl, ge121_0⟩ := hMe121
            have hv121_0 := hcc121 0 _ rfl
            rw [Nat.add_zero, show ((Kd.slice 54 k54)).sz = 1 from rfl, Nat.mul_one] at hv121_0
            replace hv121_0 := zS (hv121_0.symm.trans hx121_0)
            rw [hv121_0] at ge121_0
            have HL121_0 := zM (show Kd.R k54 54 _ _ _ _ (rd_L3 t115 x55_1) from ge121_0)
            clear hv121_0 ge121_0
            clear hcc121 hce121
            have HR121_0 := zM hi121_0
            have HC121_0 := zM hl121_0
            clear hi121_0 hl121_0
            replace p121 := eq_true p121
            replace q121 := eq_true q121
            obtain ⟨Ao41, co41, eo41⟩ := Kd.S_slice HO_10.out
            (first | subst eo41 | (injection eo41 with f1_ f2_ f3_; have f4_ := f1_.symm; have f5_ := f3_.symm; clear f1_ f2_ f3_; subst f4_; subst f5_))
            have p122 : 0 ≤ (x55_1 : Int) := zT zv
            have q122 : x55_1 < (t118.length : Int) := zT zv
            obtain ⟨ad122, A122_0, c122_0, e122, hx122_0, hl122_0, hi122_0⟩ := at_L3 (Kd.S_reads' HO_10.out).2.2 x55_1 p122 q122
            cases e122
            obtain ⟨ce122, hce122, hMe122, hcc122⟩ := Kd.S_get HO_10.out [] x55_1 p122 (by first | exact q122 | exact zT zv | (have e_ := (Kd.S_reads' HO_10.out).1; omega))
            obtain ⟨ve122_0, rfl, ge122_0⟩ := hMe122
            have hv122_0 := hcc122 0 _ rfl
            rw [Nat.add_zero, show ((Kd.slice 54 k54)).sz = 1 from rfl, Nat.mul_one] at hv122_0
            replace hv122_0 := zS (hv122_0.symm.trans hx122_0)
            rw [hv122_0] at ge122_0
            have HL122_0 := zM (show Kd.R k54 54 _ _ _ _ (rd_L3 t118 x55_1) from ge122_0)
            clear hv122_0 ge122_0
            clear hcc122 hce122
            have HR122_0 := zM hi122_0
            have HC122_0 := zM hl122_0
            clear hi122_0 hl122_0
            replace p122 := eq_true p122
            replace q122 := eq_true q122
            obtain ⟨Ao42, co42, eo42⟩ := Kd.S_slice HO_2.out
            (first | subst eo42 | (injection eo42 with f1_ f2_ f3_; have f4_ := f1_.symm; have f5_ := f3_.symm; clear f1_ f2_ f3_; subst f4_; subst f5_))
            refine start_ (n := 15) (S := fun w' => w'.cell? (ad121.add (x55_1).toNat) = some (.slice A121_0 (rd_L3 t115 x55_1).length c121_0) ∧ w'.cell? (ad122.add (x55_1).toNat) = some (.slice A122_0 (rd_L3 t118 x55_1).length c122_0)) (ds := []) #[false, false, false, false, false, false, false, false, false, false, false, false, false, false, false] (by kernel_rfl) rfl rfl ⟨hx121_0, hx122_0⟩ (fun hHeld => ?_); refine with_tabW aumbryref05_Fit.tab12 aumbryref05_Fit.bits12 (fun HT_ HW_ => ?_)
            generalize wr.drew = w40 at HO_2 HO_9 HO_10 HK HB HL121_0 HL122_0 HR121_0 HR122_0 hx121_0 hx122_0 hHeld ⊢
            refine pure_ (i := 0) (N := some 59) (v := ?_) (a' := ?_) #[true, false, false, false, false, false, false, false, false, false, false, false, false, false, false] rfl rfl (any_of HT_.out (by kernel_rfl)) (fun _ _ _ h => h) (Or.inl ⟨by rfl, ?_⟩) ?_ ?_
            rotate_left
            ·
             intro w'
             go_simp
             with_reducible rfl
            rotate_left
            ·
             simp only [Act.put, zp1, zp2, zp3, i64_w, i32_w]
             rfl
            refine pure_ (i := 1) (N := some 60) (v := ?_) (a' := ?_) #[true, true, false, false, false, false, false, false, false, false, false, false, false, false, false] rfl rfl (any_of HT_.out (by kernel_rfl)) (fun _ _ _ h => h) (Or.inl ⟨by rfl, ?_⟩) ?_ ?_
            rotate_left
            ·
             intro w'
             go_simp
             with_reducible rfl
            rotate_left
            ·
             simp only [Act.put, zp1, zp2, zp3, i64_w, i32_w]
             rfl
            refine pure_ (i := 2) (N := some 61) (v := ?_) (a' := ?_) #[true, true, true, false, false, false, false, false, false, false, false, false, false, false, false] rfl rfl (any_of HT_.out (by kernel_rfl)) (fun _ _ _ h => h) (Or.inl ⟨by rfl, ?_⟩) ?_ ?_
            rotate_left
            ·
             intro w'
             go_simp
             with_reducible rfl
            rotate_left
            ·
             simp only [Act.put, zp1, zp2, zp3, i64_w, i32_w]
             rfl
            refine pure_ (i := 4) (N := some 63) (v := ?_) (a' := ?_) #[true, true, true, false, true, false, false, false, false, false, false, false, false, false, false] rfl rfl (any_of HT_.out (by kernel_rfl)) (fun _ _ _ h => h) (Or.inl ⟨by rfl, ?_⟩) ?_ ?_
            rotate_left
            ·
             intro w'
             go_simp
             with_reducible rfl
            rotate_left
            ·
             simp only [Act.put, zp1, zp2, zp3, i64_w, i32_w]
             rfl
            refine pure_ (i := 5) (N := some 64) (v := ?_) (a' := ?_) #[true, true, true, false, true, true, false, false, false, false, false, false, false, false, false] rfl rfl (any_of HT_.out (by kernel_rfl)) (fun _ _ _ h => h) (Or.inl ⟨by rfl, ?_⟩) ?_ ?_
            rotate_left
            ·
             intro w'
             go_simp
             with_reducible rfl
            rotate_left
            ·
             simp only [Act.put, zp1, zp2, zp3, i64_w, i32_w]
             rfl
            refine pure_ (i := 6) (N := some 65) (v := ?_) (a' := ?_) #[true, true, true, false, true, true, true, false, false, false, false, false, false, false, false] rfl rfl (any_of HT_.out (by kernel_rfl)) (fun _ _ _ h => h) (Or.inl ⟨by rfl, ?_⟩) ?_ ?_
            rotate_left
            ·
             intro w'
             go_simp
             with_reducible rfl
            rotate_left
            ·
             simp only [Act.put, zp1, zp2, zp3, i64_w, i32_w]
             rfl
            refine pure_ (i := 8) (N := some 67) (v := ?_) (a' := ?_) #[true, true, true, false, true, true, true, false, true, false, false, false, false, false, false] rfl rfl (any_of HT_.out (by kernel_rfl)) (fun _ _ _ h => h) (Or.inl ⟨by rfl, ?_⟩) ?_ ?_
            rotate_left
            ·
             intro w'
             go_simp
             with_reducible rfl
            rotate_left
            ·
             simp only [Act.put, zp1, zp2, zp3, i64_w, i32_w]
             rfl
            refine take_ (i := 3) (N := some 62) (v := ?_) (a' := ?_) #[true, true, true, true, true, true, true, false, true, false, false, false, false, false, false] rfl rfl (take_ofW HT_.out HW_.out (by kernel_rfl)) (fun _ _ _ h => h) (Or.inl ⟨by rfl, ?_⟩) hHeld ?_ ?_
            rotate_left
            ·
             rintro w' ⟨s0, s1⟩
             go_simp
             with_reducible rfl
            rotate_left
            ·
             simp only [Act.put, zp1, zp2, zp3, i64_w, i32_w]
             rfl
            refine take_ (i := 7) (N := some 66) (v := ?_) (a' := ?_) #[true, true, true, true, true, true, true, true, true, false, false, false, false, false, false] rfl rfl (take_ofW HT_.out HW_.out (by kernel_rfl)) (fun _ _ _ h => h) (Or.inl ⟨by rfl, ?_⟩) hHeld ?_ ?_
            rotate_left
            ·
             rintro w' ⟨s0, s1⟩
             go_simp
             with_reducible rfl
            rotate_left
            ·
             simp only [Act.put, zp1, zp2, zp3, i64_w, i32_w]
             rfl
            refine one_ (i := 9) (N := some 68) #[true, true, true, true, true, true, true, true, true, true, false, false, false, false, false] rfl rfl (one_of HT_.out (by kernel_rfl)) (by decide) (fun K hK => ?_)
            refine goes_ Try.func79 (by kernel_rfl) rfl #[.slice A121_0 (rd_L3 t115 x55_1).length c121_0, .slice A122_0 (rd_L3 t118 x55_1).length c122_0, .slice Ao42 x2_1.length co42] (by rfl) rfl rfl zl ?_
            with_reducible refine (ih k1 (by have := HK1.out; omega) _ _ (rd_L3 t115 x55_1) _ _ (rd_L3 t118 x55_1) (fun k_ => some k_ = (.slice Ao42 x2_1.length co42 : Value).ownBlock) (fun k_ => (PQ_ k_ ∨ w.heap.size ≤ k_)) (.slice Ao42 x2_1.length co42) x2_1 t123 false w0 _ ?side1 ?side2 ?side3 ?side4 ?side5 ?side6 ?side7 A34.out).mono ?_
            (case side1 => exact zb)
            (case side2 => exact Kd.C_kept_own ((Kd.R_apart' HL121_0.out (Kd.S_typed HO_2.out) (by decide))) (fun k_ hk_ hs_ => (hk_.2) hs_))
            (case side3 => exact HC121_0.out)
            (case side4 => exact Kd.C_kept_own ((Kd.R_apart' HL122_0.out (Kd.S_typed HO_2.out) (by decide))) (fun k_ hk_ hs_ => (hk_.2) hs_))
            (case side5 => exact HC122_0.out)
            (case side6 => exact HO_2.out)
            (case side7 => exact fun k_ e_ => e_.symm)
            rintro e w43 ⟨v124, rfl, ho0, hb, hkp, hv⟩
            have HS0_ := Go.Proofs.YtdlkhpfgkghhmaaW.PrintWords.cell_kept (hHeld.1) hkp (by first | (rw [add_block]; exact (fun hs_ => (((Kd.S_R (Kd.S_apart' HO_9.out (Kd.S_typed HO_2.out) (by decide))).1 _ rfl).2) hs_)) | (show ¬ _; simp only [add_block]; exact (fun hs_ => (((Kd.S_R (Kd.S_apart' HO_9.out (Kd.S_typed HO_2.out) (by decide))).1 _ rfl).2) hs_)) | exact (fun hs_ => (((Kd.S_R (Kd.S_apart' HO_9.out (Kd.S_typed HO_2.out) (by decide))).1 _ rfl).2) hs_))
            have HS1_ := Go.Proofs.YtdlkhpfgkghhmaaW.PrintWords.cell_kept (hHeld.2) hkp (by first | (rw [add_block]; exact (fun hs_ => (((Kd.S_R (Kd.S_apart' HO_10.out (Kd.S_typed HO_2.out) (by decide))).1 _ rfl).2) hs_)) | (show ¬ _; simp only [add_block]; exact (fun hs_ => (((Kd.S_R (Kd.S_apart' HO_10.out (Kd.S_typed HO_2.out) (by decide))).1 _ rfl).2) hs_)) | exact (fun hs_ => (((Kd.S_R (Kd.S_apart' HO_10.out (Kd.S_typed HO_2.out) (by decide))).1 _ rfl).2) hs_))
            refine ⟨_, rfl, ?_⟩
            have n0_ := zM (Kd.S_mono (ok' := fun k_ => (PQ_ k_ ∨ w.heap.size ≤ k_) ∧ some k_ ≠ (.slice (some ad122) t118.length co41 : Value).ownBlock) (Kd.S_keptB ((Kd.S_apart' HO_9.out (Kd.S_typed HO_2.out) (by decide))) hkp (fun k_ hk_ hs_ => (hk_.2) hs_)) (fun k_ hk_ => ⟨hk_.1.1.1, hk_.1.1.2⟩))
            have n1_ := zM (Kd.S_mono (ok' := fun k_ => (PQ_ k_ ∨ w.heap.size ≤ k_) ∧ some k_ ≠ (.slice (some ad121) t115.length co29 : Value).ownBlock) (Kd.S_keptB ((Kd.S_apart' HO_10.out (Kd.S_typed HO_2.out) (by decide))) hkp (fun k_ hk_ hs_ => (hk_.2) hs_)) (fun k_ hk_ => ⟨hk_.1.1.1, hk_.1.1.2⟩))
            have n2_ := zM (Kd.S_mono (ok' := fun k_ => (PQ_ k_ ∨ w.heap.size ≤ k_)) ho0 (fun k_ hk_ => Or.elim hk_ (fun hs_ => hs_) (fun hn_ => (.inr (Nat.le_trans (by first | exact HK.out.1 | exact (show Kept w _ (fun k_ => P2_ k_) from zf).1) hn_)))))
            have n3_ := zM (Kept.then_ (S := (fun k_ => P2_ k_)) (zf) hkp (fun k_ hs_ => HV.out k_ hs_.symm))
            have n4_ := zM (hb)
            have n5_ := zM (show ∀ k_ : Nat, (v124 : Value).ownBlock = some k_ → P2_ k_ ∨ w.heap.size ≤ k_ from fun k_ e_ => (hv k_ e_).elim (fun e2_ => HV.out k_ e2_.symm) (fun hn_ => .inr (Nat.le_trans (show Kept w _ (fun k_ => P2_ k_) from zf).1 hn_)))
            clear HV hv
            have HV := n5_
            clear n5_
            clear HO_9
            clear HO_10
            clear HK
            clear HB
            clear HO_2
            clear HL121_0
            clear HL122_0
            have HO_9 := n0_
            have HO_10 := n1_
            have HO125 := n2_
            have HK := n3_
            have HB := n4_
            clear n0_ n1_ n2_ n3_ n4_
            (try clear hb)
            (try clear hkp)
            (try clear ho0)
            refine hK.out _ _ ⟨HS0_, HS1_⟩ (fun hHeld => ?_)
            clear hK K
            refine norm_ (a' := ?_) ?_ ?_
            rotate_left
            ·
             show Act.put _ (some 68) _ = _
             simp only [Act.put, zp1, zp2, zp3, i64_w, i32_w]
             rfl
            refine pure_ (i := 10) (N := some 58) (v := ?_) (a' := ?_) #[true, true, true, true, true, true, true, true, true, true, true, false, false, false, false] rfl rfl (any_of HT_.out (by kernel_rfl)) (fun _ _ _ h => h) (Or.inl ⟨by rfl, ?_⟩) ?_ ?_
            rotate_left
            ·
             intro w'
             go_simp
             with_reducible rfl
            rotate_left
            ·
             simp only [Act.put, zp1, zp2, zp3, i64_w, i32_w]
             rfl
            refine pure_ (i := 11) (N := some 69) (v := ?_) (a' := ?_) #[true, true, true, true, true, true, true, true, true, true, true, true, false, false, false] rfl rfl (any_of HT_.out (by kernel_rfl)) (fun _ _ _ h => h) (Or.inl ⟨by rfl, ?_⟩) ?_ ?_
            rotate_left
            ·
             intro w'
             go_simp
             with_reducible rfl
            rotate_left
            ·
             simp only [Act.put, zp1, zp2, zp3, i64_w, i32_w]
             rfl
            refine pure_ (i := 12) (N := some 70) (v := ?_) (a' := ?_) #[true, true, true, true, true, true, true, true, true, true, true, true, true, false, false] rfl rfl (any_of HT_.out (by kernel_rfl)) (fun _ _ _ h => h) (Or.inl ⟨by rfl, ?_⟩) ?_ ?_
            rotate_left
            ·
             intro w'
             go_simp
             with_reducible rfl
            rotate_left
            ·
             simp only [Act.put, zp1, zp2, zp3, i64_w, i32_w]
             rfl
            refine pure_ (i := 13) (N := some 12) (v := ?_) (a' := ?_) #[true, true, true, true, true, true, true, true, true, true, true, true, true, true, false] rfl rfl (any_of HT_.out (by kernel_rfl)) (fun _ _ _ h => h) (Or.inl ⟨by rfl, ?_⟩) ?_ ?_
            rotate_left
            ·
             intro w'
             go_simp
             with_reducible rfl
            rotate_left
            ·
             simp only [Act.put, zp1, zp2, zp3, i64_w, i32_w]
             rfl
            refine pure_ (i := 14) (N := some 13) (v := ?_) (a' := ?_) #[true, true, true, true, true, true, true, true, true, true, true, true, true, true, true] rfl rfl (any_of HT_.out (by kernel_rfl)) (fun _ _ _ h => h) (Or.inl ⟨by rfl, ?_⟩) ?_ ?_
            rotate_left
            ·
             intro w'
             go_simp
             with_reducible rfl
            rotate_left
            ·
             simp only [Act.put, zp1, zp2, zp3, i64_w, i32_w]
             rfl
            refine done_ (done_of HT_.out (by kernel_rfl)) ?_
            try go_wp2
            go_ret2
            exact ⟨_, zw, by first | exact Kd.S_nil _ _ _ _ _ | exact Kd.N_nil _ _ _ _ _ | exact Kd.V_nil _ _ _ _ _ | exact Kd.Q_nil _ _ _ _ _ | exact Kd.R_nil _ _ _ _ _, zb, zf, fun k_ e_ => by simp [Value.ownBlock] at e_⟩
          ·
           rw [if_neg c33] at H
           exact absurd H (by simp)
         ·
          rw [if_neg c32] at H
          exact absurd H (by simp)
        ·
         rw [if_neg c31] at H
         exact absurd H (by simp)
       ·
        rw [if_neg c30] at H
        have c30b0 : decide (x55_1 < (t115.length : Int)) = false := zR c30
        clear c30
        simp only [Option.some.injEq, Prod.mk.injEq] at H
        obtain ⟨rfl, rfl⟩ := H
        go_wp2
        go_ret2
        exact ⟨_, zw, Kd.S_below HO_2.out zg, zb, zf, by first | exact HV2.out | exact HV.out⟩
   ·
    rw [if_neg c21] at H
    exact absurd H (by simp)
  ·
   rw [if_neg c20] at H
   exact absurd H (by simp)

theorem aumbryref05_Fit.calls (k : Nat) : ∀ (A0 : Option Addr) (c0 : Nat) (l0 : List (S54)) (A1 : Option Addr) (c1 : Nat) (l1 : List (S54)) (P2_ : Nat → Prop) (u9000_ : Value) (l2 : List (S104)) (r1 : List (S104)) (r2 : Bool) (w0 w : World) (hB : Below w0.heap.size w0 w) (hr0 : ∀ W_, Kept w W_ (fun k_ => P2_ k_) → Kd.C k54 W_ A0 l0.length l0) (hc0 : l0.length ≤ c0) (hr1 : ∀ W_, Kept w W_ (fun k_ => P2_ k_) → Kd.C k54 W_ A1 l1.length l1) (hc1 : l1.length ≤ c1) (ho2 : Kd.S k104 104 w w0.heap.size P2_ u9000_ l2) (h : aumbryref05_Fit.f k l0 l1 l2 = some (r1, r2)),
 Calls Try.prog 79 #[.slice A0 l0.length c0, .slice A1 l1.length c1, u9000_] w fun e w' => ∃ v0_ : Value, e = .returned (.tuple #[v0_, .bool r2]) ∧ Kd.S k104 104 w' w0.heap.size (fun k_ => (P2_ k_ ∨ w.heap.size ≤ k_)) v0_ r1 ∧ Below w0.heap.size w0 w' ∧ Kept w w' (fun k_ => P2_ k_) := by
 intro A0 c0 l0 A1 c1 l1 P2_ u9000_ l2 r1 r2 w0 w hB hr0 hc0 hr1 hc1 ho2 h
 refine (aumbryref05_Fit.callsN k A0 c0 l0 A1 c1 l1 P2_ P2_ u9000_ l2 r1 r2 w0 w hB hr0 hc0 hr1 hc1 ho2 (fun k_ e_ => (Kd.S_R ho2).1 k_ e_) h).mono ?_
 rintro e w' ⟨v0_, he, ho, hb, hk, _⟩
 exact ⟨v0_, he, ho, hb, hk⟩


-- ==== PF55

/-! ### aumbryref07_First: function 55 -/
def aumbryref07_First.l0 : Nat → List (S73) → List (S54) → Int → Int → Option (Int × (List (S104)))
 | 0, _, _, _, _ => none
 | k + 1, x0, x1, x10, x11 => if x11 < x10 then (if 0 ≤ x11 then (if x11 < (x0.length : Int) then ((aumbryref05_Fit.f k ((rd_T73 x0 x11).f1) x1 ([] : List (S104))).bind fun bt102 => (if bt102.2 = true then (some (x11, bt102.1)) else (aumbryref07_First.l0 k x0 x1 x10 (wrap64 (x11 + 1))))) else (none)) else (none)) else (some ((-1), ([] : List (S104))))
def aumbryref07_First.f (k : Nat) (l0 : List (S73)) (l1 : List (S54)) : Option (Int × (List (S104))) := aumbryref07_First.l0 k l0 l1 (l0.length : Int) 0
theorem aumbryref07_First.calls (k : Nat) (A0 : Option Addr) (c0 : Nat) (l0 : List (S73)) (A1 : Option Addr) (c1 : Nat) (l1 : List (S54)) (r1 : Int) (r2 : List (S104)) (w : World) (hr0 : Kd.C k73 w A0 l0.length l0) (hc0 : l0.length ≤ c0) (hr1 : Kd.C k54 w A1 l1.length l1) (hc1 : l1.length ≤ c1) (h : aumbryref07_First.f k l0 l1 = some (r1, r2)) :
 Calls Try.prog 55 #[.slice A0 l0.length c0, .slice A1 l1.length c1] w fun e w' => ∃ v1_ : Value, e = .returned (.tuple #[.int .i64 r1, v1_]) ∧ Kd.S k104 104 w' w.heap.size (fun _ => True) v1_ r2 ∧ Below w.heap.size w w' := by
 have HR0 := zM hr0
 have HC0 := zM hc0
 clear hr0 hc0
 have HR1 := zM hr1
 have HC1 := zM hc1
 clear hr1 hc1
 have HB := zM (Below.refl w.heap.size w)
 have H : (aumbryref07_First.l0 k l0 l1 (l0.length : Int) 0) = some (r1, r2) := h
 clear h
 have H' := zM H
 clear H
 go_enter Try.func55, Try.ntmps55
 go_wp2
 go_loopg [11] k (fun kq v11 w' => ∃ (x11_1 : Int), v11 = .int .i64 x11_1 ∧ Aside0 (aumbryref07_First.l0 kq l0 l1 (l0.length : Int) x11_1 = some (r1, r2)) ∧ Aside0 (kq ≤ k) ∧ Aside0 (Below w.heap.size w w'))
 case atStart => exact ⟨(0), zy, H', ⟨Nat.le_refl _⟩, ⟨zb⟩⟩
 case round =>
  clear H'
  try clear c1
  try clear p2
  obtain ⟨x11_1, rfl, HA, HK1, HB⟩ := hrel
  cases gk with
  | zero => exact absurd HA.out (by simp [aumbryref07_First.l0])
  | succ k1 =>
   have H := HA.out
   clear HA
   simp only [aumbryref07_First.l0] at H
   by_cases c3 : x11_1 < (l0.length : Int)
   ·
    rw [if_pos c3] at H
    have c3b0 : decide (x11_1 < (l0.length : Int)) = true := zQ c3
    clear c3
    by_cases c4 : 0 ≤ x11_1
    ·
     rw [if_pos c4] at H
     have c4b0 : decide (0 ≤ x11_1) = true := zQ c4
     clear c4
     by_cases c5 : x11_1 < (l0.length : Int)
     ·
      rw [if_pos c5] at H
      have c5b0 : decide (x11_1 < (l0.length : Int)) = true := zQ c5
      clear c5
      replace H := zB H
      obtain ⟨⟨t102, t105⟩, A60, H⟩ := H
      try dsimp only at H
      have A6 := zM A60
      clear A60
      by_cases c7 : t105 = true
      ·
       subst c7
       rw [if_pos rfl] at H
       simp only [Option.some.injEq, Prod.mk.injEq] at H
       obtain ⟨rfl, rfl⟩ := H
       have p101 : 0 ≤ (x11_1 : Int) := zT zv
       have q101 : x11_1 < (l0.length : Int) := zT zv
       obtain ⟨ad101, A101_1, c101_1, A101_2, c101_2, e101, hx101_0, hx101_1, hx101_2, hl101_1, hi101_1, hl101_2, hi101_2⟩ := at_T73 HR0.out x11_1 p101 q101
       cases e101
       replace hx101_0 := (HB.out.cell (World.block_lt_of_cell? w _ hx101_0)).trans hx101_0
       replace hx101_1 := (HB.out.cell (World.block_lt_of_cell? w _ hx101_1)).trans hx101_1
       replace hx101_2 := (HB.out.cell (World.block_lt_of_cell? w _ hx101_2)).trans hx101_2
       have HR101_1 := zM hi101_1
       have HC101_1 := zM hl101_1
       clear hi101_1 hl101_1
       have HR101_2 := zM hi101_2
       have HC101_2 := zM hl101_2
       clear hi101_2 hl101_2
       replace p101 := eq_true p101
       replace q101 := eq_true q101
       go_wp2_with (first | ((with_reducible refine gate_callee (f := 79) rfl ?_); refine goesL_ (some 21) rfl rfl Try.func79 (by kernel_rfl) rfl #[.slice A101_1 ((rd_T73 l0 x11_1).f1).length c101_1, .slice A1 l1.length c1, .slice none 0 0] rfl zl ?_; (refine (aumbryref05_Fit.calls k1 _ _ ((rd_T73 l0 x11_1).f1) _ _ l1 (fun k_ => some k_ = (.slice none 0 0 : Value).ownBlock) (.slice none 0 0) ([] : List (S104)) t102 true w _ ?side1 ?side2 ?side3 ?side4 ?side5 ?side6 A6.out).mono ?_); (case side1 => exact zb); (case side2 => exact Kd.C_kept_came k54_heap HR101_1.out zb (fun k_ hs_ => (fun e_ => by simp [Value.ownBlock] at e_) hs_)); (case side3 => exact HC101_1.out); (case side4 => exact Kd.C_kept_came k54_heap HR1.out zb (fun k_ hs_ => (fun e_ => by simp [Value.ownBlock] at e_) hs_)); (case side5 => exact HC1.out); (case side6 => exact Kd.S_nil _ _ _ _ _); rintro e w8 ⟨v103, rfl, ho0, hb, hkp⟩; refine ⟨_, rfl, ?_⟩; have HO104 := zM (Kd.S_mono (ok' := fun k_ => True) ho0 (fun k_ hk_ => trivial)); replace HB := zM (hb); (try clear hb); (try clear hkp); (try clear ho0)))
       go_ret2
       exact ⟨_, zw, Kd.S_below HO104.out zg, zb⟩
      ·
       replace c7 := zI c7
       subst c7
       rw [if_neg (show ¬ (false = true) by decide)] at H
       have H' := zM H
       clear H
       have p101 : 0 ≤ (x11_1 : Int) := zT zv
       have q101 : x11_1 < (l0.length : Int) := zT zv
       obtain ⟨ad101, A101_1, c101_1, A101_2, c101_2, e101, hx101_0, hx101_1, hx101_2, hl101_1, hi101_1, hl101_2, hi101_2⟩ := at_T73 HR0.out x11_1 p101 q101
       cases e101
       replace hx101_0 := (HB.out.cell (World.block_lt_of_cell? w _ hx101_0)).trans hx101_0
       replace hx101_1 := (HB.out.cell (World.block_lt_of_cell? w _ hx101_1)).trans hx101_1
       replace hx101_2 := (HB.out.cell (World.block_lt_of_cell? w _ hx101_2)).trans hx101_2
       have HR101_1 := zM hi101_1
       have HC101_1 := zM hl101_1
       clear hi101_1 hl101_1
       have HR101_2 := zM hi101_2
       have HC101_2 := zM hl101_2
       clear hi101_2 hl101_2
       replace p101 := eq_true p101
       replace q101 := eq_true q101
       go_wp2_with (first | ((with_reducible refine gate_callee (f := 79) rfl ?_); refine goesL_ (some 21) rfl rfl Try.func79 (by kernel_rfl) rfl #[.slice A101_1 ((rd_T73 l0 x11_1).f1).length c101_1, .slice A1 l1.length c1, .slice none 0 0] rfl zl ?_; (refine (aumbryref05_Fit.calls k1 _ _ ((rd_T73 l0 x11_1).f1) _ _ l1 (fun k_ => some k_ = (.slice none 0 0 : Value).ownBlock) (.slice none 0 0) ([] : List (S104)) t102 false w _ ?side1 ?side2 ?side3 ?side4 ?side5 ?side6 A6.out).mono ?_); (case side1 => exact zb); (case side2 => exact Kd.C_kept_came k54_heap HR101_1.out zb (fun k_ hs_ => (fun e_ => by simp [Value.ownBlock] at e_) hs_)); (case side3 => exact HC101_1.out); (case side4 => exact Kd.C_kept_came k54_heap HR1.out zb (fun k_ hs_ => (fun e_ => by simp [Value.ownBlock] at e_) hs_)); (case side5 => exact HC1.out); (case side6 => exact Kd.S_nil _ _ _ _ _); rintro e w9 ⟨v103, rfl, ho0, hb, hkp⟩; refine ⟨_, rfl, ?_⟩; have HO104 := zM (Kd.S_mono (ok' := fun k_ => True) ho0 (fun k_ hk_ => trivial)); replace HB := zM (hb); (try clear hb); (try clear hkp); (try clear ho0)))
       go_roundg k1
       case measure => have := HK1.out; omega
       case rel => exact ⟨(wrap64 (x11_1 + 1)), zy, H', ⟨by have := HK1.out; omega⟩, ⟨zb⟩⟩
     ·
      rw [if_neg c5] at H
      exact absurd H (by simp)
    ·
     rw [if_neg c4] at H
     exact absurd H (by simp)
   ·
    rw [if_neg c3] at H
    have c3b0 : decide (x11_1 < (l0.length : Int)) = false := zR c3
    clear c3
    simp only [Option.some.injEq, Prod.mk.injEq] at H
    obtain ⟨rfl, rfl⟩ := H
    go_wp2
    go_ret2
    exact ⟨_, zw, by first | exact Kd.S_nil _ _ _ _ _ | exact Kd.N_nil _ _ _ _ _ | exact Kd.V_nil _ _ _ _ _ | exact Kd.Q_nil _ _ _ _ _ | exact Kd.R_nil _ _ _ _ _, zb⟩


-- ==== PF28

/-! ### aumbryref07_Fits: function 28 -/
mutual
def aumbryref07_Fits.l0 : Nat → List (S73) → List (List (S54)) → Int → Int → Option (Bool)
 | 0, _, _, _, _ => none
 | k + 1, x0, x7, x20, x21 => if x21 < x20 then (if 0 ≤ x21 then (if x21 < (x7.length : Int) then ((aumbryref07_Fits.f k x0 (rd_L3 x7 x21)).bind fun t109 => (if t109 = true then (some true) else (aumbryref07_Fits.l0 k x0 x7 x20 (wrap64 (x21 + 1))))) else (none)) else (none)) else (some false)
def aumbryref07_Fits.f : Nat → List (S73) → List (S54) → Option (Bool)
 | 0, _, _ => none
 | k + 1, l0, l1 => (aumbryref07_First.f k l0 l1).bind fun bt101 => (if bt101.1 ≥ 0 then (some true) else ((aumbryref04_Kids.f k l1).bind fun t105 => (aumbryref07_Fits.l0 k l0 t105 (t105.length : Int) 0)))
end
theorem aumbryref07_Fits.calls (k : Nat) : ∀ (A0 : Option Addr) (c0 : Nat) (l0 : List (S73)) (A1 : Option Addr) (c1 : Nat) (l1 : List (S54)) (r : Bool) (w : World) (hr0 : Kd.C k73 w A0 l0.length l0) (hc0 : l0.length ≤ c0) (hr1 : Kd.C k54 w A1 l1.length l1) (hc1 : l1.length ≤ c1) (h : aumbryref07_Fits.f k l0 l1 = some r),
 Calls Try.prog 28 #[.slice A0 l0.length c0, .slice A1 l1.length c1] w fun e w' => e = .returned (.bool r) ∧ Below w.heap.size w w' := by
 induction k using Nat.strongRecOn with
 | _ k ih =>
 intro A0 c0 l0 A1 c1 l1 r w hr0 hc0 hr1 hc1 h
 cases k with
 | zero => exact absurd h (by simp [aumbryref07_Fits.f])
 | succ k =>
 simp only [aumbryref07_Fits.f] at h
 have HR0 := zM hr0
 have HC0 := zM hc0
 clear hr0 hc0
 have HR1 := zM hr1
 have HC1 := zM hc1
 clear hr1 hc1
 have HB := zM (Below.refl w.heap.size w)
 have H : ((aumbryref07_First.f k l0 l1).bind fun bt101 => (if bt101.1 ≥ 0 then (some true) else ((aumbryref04_Kids.f k l1).bind fun t105 => (aumbryref07_Fits.l0 k l0 t105 (t105.length : Int) 0)))) = some r := h
 clear h
 replace H := zB H
 obtain ⟨⟨t101, t102⟩, A30, H⟩ := H
 try dsimp only at H
 have A3 := zM A30
 clear A30
 by_cases c4 : t101 ≥ 0
 ·
  rw [if_pos c4] at H
  have c4b0 : decide (0 ≤ t101) = true := zQ c4
  clear c4
  obtain rfl := zS H
  go_enter Try.func28, Try.ntmps28
  go_wp2_with (first | ((with_reducible refine gate_callee (f := 55) rfl ?_); refine goesL_ (some 12) rfl rfl Try.func55 (by kernel_rfl) rfl #[.slice A0 l0.length c0, .slice A1 l1.length c1] rfl zl ?_; (with_reducible refine (aumbryref07_First.calls k _ _ l0 _ _ l1 t101 t102 _ ?side1 ?side2 ?side3 ?side4 A3.out).mono ?_); (case side1 => exact Kd.C_below HR0.out zg); (case side2 => exact HC0.out); (case side3 => exact Kd.C_below HR1.out zg); (case side4 => exact HC1.out); rintro e w5 ⟨v103, rfl, ho0, hb⟩; refine ⟨_, rfl, ?_⟩; have HO104 := zM (Kd.S_lower ho0 (below_size zb)); replace HB := zM (below_step zb hb); (try clear hb); (try clear ho0)))
  go_ret
  exact ⟨zw, zb⟩
 ·
  rw [if_neg c4] at H
  have c4b0 : decide (0 ≤ t101) = false := zR c4
  clear c4
  replace H := zB H
  obtain ⟨t105, A60, H⟩ := H
  try dsimp only at H
  have A6 := zM A60
  clear A60
  have H' := zM H
  clear H
  go_enter Try.func28, Try.ntmps28
  go_wp2_with (first | ((with_reducible refine gate_callee (f := 55) rfl ?_); refine goesL_ (some 12) rfl rfl Try.func55 (by kernel_rfl) rfl #[.slice A0 l0.length c0, .slice A1 l1.length c1] rfl zl ?_; (with_reducible refine (aumbryref07_First.calls k _ _ l0 _ _ l1 t101 t102 _ ?side1 ?side2 ?side3 ?side4 A3.out).mono ?_); (case side1 => exact Kd.C_below HR0.out zg); (case side2 => exact HC0.out); (case side3 => exact Kd.C_below HR1.out zg); (case side4 => exact HC1.out); rintro e w7 ⟨v103, rfl, ho0, hb⟩; refine ⟨_, rfl, ?_⟩; have HO104 := zM (Kd.S_lower ho0 (below_size zb)); replace HB := zM (below_step zb hb); (try clear hb); (try clear ho0)) | ((with_reducible refine gate_callee (f := 54) rfl ?_); refine goesL_ (some 18) rfl rfl Try.func54 (by kernel_rfl) rfl #[.slice A1 l1.length c1] rfl zl ?_; (with_reducible refine (aumbryref04_Kids.calls k _ _ l1 t105 _ ?side1 ?side2 A6.out).mono ?_); (case side1 => exact Kd.C_below HR1.out zb); (case side2 => exact HC1.out); rintro e w8 ⟨v106, rfl, ho0, hb⟩; refine ⟨_, rfl, ?_⟩; replace HO104 := zM (Kd.S_below (Kd.S_below HO104.out zg) hb); have HO107 := zM (Kd.S_lower ho0 (below_size zb)); replace HB := zM (below_step zb hb); (try clear hb); (try clear ho0); obtain ⟨Ao9, co9, eo9⟩ := Kd.S_slice HO107.out; subst eo9))
  go_loopg [21] k (fun kq v21 w' => ∃ (x21_1 : Int), v21 = .int .i64 x21_1 ∧ Aside0 (aumbryref07_Fits.l0 kq l0 t105 (t105.length : Int) x21_1 = some r) ∧ Aside0 (kq ≤ k) ∧ Aside0 (Kd.S (Kd.slice 54 k54) 23 w' w.heap.size (fun _ => True) (.slice Ao9 t105.length co9) t105) ∧ Aside0 (Below w.heap.size w w'))
  case atStart => exact ⟨(0), zy, H', ⟨Nat.le_refl _⟩, ⟨Kd.S_below HO107.out zg⟩, ⟨zb⟩⟩
  case round =>
   clear H'
   try clear c1
   try clear c2
   try clear p2
   try clear c4
   try clear c4b0
   try clear c5
   obtain ⟨x21_1, rfl, HA, HK1, HO_7, HB⟩ := hrel
   cases gk with
   | zero => exact absurd HA.out (by simp [aumbryref07_Fits.l0])
   | succ k1 =>
    have H := HA.out
    clear HA
    simp only [aumbryref07_Fits.l0] at H
    by_cases c10 : x21_1 < (t105.length : Int)
    ·
     rw [if_pos c10] at H
     have c10b0 : decide (x21_1 < (t105.length : Int)) = true := zQ c10
     clear c10
     by_cases c11 : 0 ≤ x21_1
     ·
      rw [if_pos c11] at H
      have c11b0 : decide (0 ≤ x21_1) = true := zQ c11
      clear c11
      by_cases c12 : x21_1 < (t105.length : Int)
      ·
       rw [if_pos c12] at H
       have c12b0 : decide (x21_1 < (t105.length : Int)) = true := zQ c12
       clear c12
       replace H := zB H
       obtain ⟨t109, A130, H⟩ := H
       try dsimp only at H
       have A13 := zM A130
       clear A130
       by_cases c14 : t109 = true
       ·
        subst c14
        rw [if_pos rfl] at H
        obtain rfl := zS H
        have p108 : 0 ≤ (x21_1 : Int) := zT zv
        have q108 : x21_1 < (t105.length : Int) := zT zv
        obtain ⟨ad108, A108_0, c108_0, e108, hx108_0, hl108_0, hi108_0⟩ := at_L3 (Kd.S_reads' HO_7.out).2.2 x21_1 p108 q108
        cases e108
        obtain ⟨ce108, hce108, hMe108, hcc108⟩ := Kd.S_get HO_7.out [] x21_1 p108 (by first | exact q108 | exact zT zv | (have e_ := (Kd.S_reads' HO_7.out).1; omega))
        obtain ⟨ve108_0, rfl, ge108_0⟩ := hMe108
        have hv108_0 := hcc108 0 _ rfl
        rw [Nat.add_zero, show ((Kd.slice 54 k54)).sz = 1 from rfl, Nat.mul_one] at hv108_0
        replace hv108_0 := zS (hv108_0.symm.trans hx108_0)
        rw [hv108_0] at ge108_0
        have HL108_0 := zM (show Kd.R k54 54 _ _ _ _ (rd_L3 t105 x21_1) from ge108_0)
        clear hv108_0 ge108_0
        clear hcc108 hce108
        have HR108_0 := zM hi108_0
        have HC108_0 := zM hl108_0
        clear hi108_0 hl108_0
        replace p108 := eq_true p108
        replace q108 := eq_true q108
        go_wp2_with (first | ((with_reducible refine gate_callee (f := 28) rfl ?_); refine goesL_ (some 29) rfl rfl Try.func28 (by kernel_rfl) rfl #[.slice A0 l0.length c0, .slice A108_0 (rd_L3 t105 x21_1).length c108_0] rfl zl ?_; (with_reducible refine (ih k1 (by have := HK1.out; omega) _ _ l0 _ _ (rd_L3 t105 x21_1) true _ ?side1 ?side2 ?side3 ?side4 A13.out).mono ?_); (case side1 => exact Kd.C_below HR0.out zb); (case side2 => exact HC0.out); (case side3 => repeat (first | exact (by repeat (first | (with_reducible exact HR108_0.out) | (with_reducible first | refine Kd.C_alloc ?_ _ | refine Kd.C_drewN ?_ _ | refine Kd.C_drew ?_) | exact HR108_0.out)) | (with_reducible first | refine Kd.C_alloc ?_ _ | refine Kd.C_drewN ?_ _ | refine Kd.C_drew ?_))); (case side4 => exact HC108_0.out); rintro e w15 ⟨rfl, hb⟩; refine ⟨_, rfl, ?_⟩; replace HO_7 := zM (Kd.S_below (Kd.S_below HO_7.out zg) hb); replace HL108_0 := zM (Kd.R_below (zr HL108_0.out) hb); replace HR108_0 := zM (Kd.C_below (by repeat (first | (with_reducible exact HR108_0.out) | (with_reducible first | refine Kd.C_alloc ?_ _ | refine Kd.C_drewN ?_ _ | refine Kd.C_drew ?_) | exact HR108_0.out)) hb); replace HB := zM (below_step zb hb); (try clear hb)))
        go_ret
        exact ⟨zw, zb⟩
       ·
        replace c14 := zI c14
        subst c14
        rw [if_neg (show ¬ (false = true) by decide)] at H
        have H' := zM H
        clear H
        have p108 : 0 ≤ (x21_1 : Int) := zT zv
        have q108 : x21_1 < (t105.length : Int) := zT zv
        obtain ⟨ad108, A108_0, c108_0, e108, hx108_0, hl108_0, hi108_0⟩ := at_L3 (Kd.S_reads' HO_7.out).2.2 x21_1 p108 q108
        cases e108
        obtain ⟨ce108, hce108, hMe108, hcc108⟩ := Kd.S_get HO_7.out [] x21_1 p108 (by first | exact q108 | exact zT zv | (have e_ := (Kd.S_reads' HO_7.out).1; omega))
        obtain ⟨ve108_0, rfl, ge108_0⟩ := hMe108
        have hv108_0 := hcc108 0 _ rfl
        rw [Nat.add_zero, show ((Kd.slice 54 k54)).sz = 1 from rfl, Nat.mul_one] at hv108_0
        replace hv108_0 := zS (hv108_0.symm.trans hx108_0)
        rw [hv108_0] at ge108_0
        have HL108_0 := zM (show Kd.R k54 54 _ _ _ _ (rd_L3 t105 x21_1) from ge108_0)
        clear hv108_0 ge108_0
        clear hcc108 hce108
        have HR108_0 := zM hi108_0
        have HC108_0 := zM hl108_0
        clear hi108_0 hl108_0
        replace p108 := eq_true p108
        replace q108 := eq_true q108
        go_wp2_with (first | ((with_reducible refine gate_callee (f := 28) rfl ?_); refine goesL_ (some 29) rfl rfl Try.func28 (by kernel_rfl) rfl #[.slice A0 l0.length c0, .slice A108_0 (rd_L3 t105 x21_1).length c108_0] rfl zl ?_; (with_reducible refine (ih k1 (by have := HK1.out; omega) _ _ l0 _ _ (rd_L3 t105 x21_1) false _ ?side1 ?side2 ?side3 ?side4 A13.out).mono ?_); (case side1 => exact Kd.C_below HR0.out zb); (case side2 => exact HC0.out); (case side3 => repeat (first | exact (by repeat (first | (with_reducible exact HR108_0.out) | (with_reducible first | refine Kd.C_alloc ?_ _ | refine Kd.C_drewN ?_ _ | refine Kd.C_drew ?_) | exact HR108_0.out)) | (with_reducible first | refine Kd.C_alloc ?_ _ | refine Kd.C_drewN ?_ _ | refine Kd.C_drew ?_))); (case side4 => exact HC108_0.out); rintro e w16 ⟨rfl, hb⟩; refine ⟨_, rfl, ?_⟩; replace HO_7 := zM (Kd.S_below (Kd.S_below HO_7.out zg) hb); replace HL108_0 := zM (Kd.R_below (zr HL108_0.out) hb); replace HR108_0 := zM (Kd.C_below (by repeat (first | (with_reducible exact HR108_0.out) | (with_reducible first | refine Kd.C_alloc ?_ _ | refine Kd.C_drewN ?_ _ | refine Kd.C_drew ?_) | exact HR108_0.out)) hb); replace HB := zM (below_step zb hb); (try clear hb)))
        go_roundg k1
        case measure => have := HK1.out; omega
        case rel => exact ⟨(wrap64 (x21_1 + 1)), zy, H', ⟨by have := HK1.out; omega⟩, ⟨Kd.S_below HO_7.out zg⟩, ⟨zb⟩⟩
      ·
       rw [if_neg c12] at H
       exact absurd H (by simp)
     ·
      rw [if_neg c11] at H
      exact absurd H (by simp)
    ·
     rw [if_neg c10] at H
     have c10b0 : decide (x21_1 < (t105.length : Int)) = false := zR c10
     clear c10
     obtain rfl := zS H
     go_wp2
     go_ret
     exact ⟨zw, zb⟩


-- ==== PF7

/-! ### aumbrylaw07_RewriteDone: function 7 -/
def aumbrylaw07_RewriteDone.j0 : Nat → List (S73) → List (S54) → Bool → Option (Bool)
 | 0, _, _, _ => none
 | k + 1, x0, x7, x51 => if x51 = true then (some false) else ((aumbrylaw07_rules.f k x0).bind fun t116 => ((aumbryref04_Copy.f x7).bind fun t119 => ((rewrite_Normal.f k t116 t119 0).bind fun bt122 => (if bt122.2.2 = 0 then (if bt122.2.1 = 0 then ((aumbryref04_Same.f k x7 bt122.1).bind fun t127 => (some t127)) else (some false)) else (some false)))))
def aumbrylaw07_RewriteDone.f (k : Nat) (l0 : List (S73)) (l1 : List (S54)) (a2 : Int) : Option (Bool) := (aumbrylaw07_wakes.f k).bind fun t101 => (if t101 = true then ((aumbrylaw07_few.f l0 a2).bind fun t102 => (if t102 = true then ((aumbrylaw07_rules.f k l0).bind fun t103 => ((aumbryref04_Copy.f l1).bind fun t106 => ((rewrite_Normal.f k t103 t106 a2).bind fun bt109 => (if bt109.2.2 = 0 then ((aumbryref07_Ground.f k bt109.1).bind fun t114 => (if t114 = true then ((aumbryref07_Fits.f k l0 bt109.1).bind fun t115 => (if t115 = true then (aumbrylaw07_RewriteDone.j0 k l0 bt109.1 true) else (aumbrylaw07_RewriteDone.j0 k l0 bt109.1 (decide (bt109.2.1 > (mx a2 0)))))) else (aumbrylaw07_RewriteDone.j0 k l0 bt109.1 true))) else (if (bt109.1.length : Int) = 0 then (some (bt109.2.1 == 0)) else (some false)))))) else (some true))) else (some false))
theorem aumbrylaw07_RewriteDone.j0_true : ∀ k y0 y1 r, aumbrylaw07_RewriteDone.j0 k y0 y1 true = some r → r = false := by
 intro k y0 y1 r h
 cases k with
 | zero => simp [aumbrylaw07_RewriteDone.j0] at h
 | succ k => simp only [aumbrylaw07_RewriteDone.j0, if_true] at h; exact (zS h).symm
theorem aumbrylaw07_RewriteDone.calls (k : Nat) (A0 : Option Addr) (c0 : Nat) (l0 : List (S73)) (A1 : Option Addr) (c1 : Nat) (l1 : List (S54)) (a2 : Int) (r : Bool) (w : World) (hr0 : Kd.C k73 w A0 l0.length l0) (hc0 : l0.length ≤ c0) (hr1 : Kd.C k54 w A1 l1.length l1) (hc1 : l1.length ≤ c1) (h : aumbrylaw07_RewriteDone.f k l0 l1 a2 = some r) (hr : r = true) :
 Calls Try.prog 7 #[.slice A0 l0.length c0, .slice A1 l1.length c1, .int .i64 a2] w fun e w' => e = .returned (.bool r) ∧ Below w.heap.size w w' := by
 have HRT := zM hr
 clear hr
 have HR0 := zM hr0
 have HC0 := zM hc0
 clear hr0 hc0
 have HR1 := zM hr1
 have HC1 := zM hc1
 clear hr1 hc1
 have HB := zM (Below.refl w.heap.size w)
 have H : ((aumbrylaw07_wakes.f k).bind fun t101 => (if t101 = true then ((aumbrylaw07_few.f l0 a2).bind fun t102 => (if t102 = true then ((aumbrylaw07_rules.f k l0).bind fun t103 => ((aumbryref04_Copy.f l1).bind fun t106 => ((rewrite_Normal.f k t103 t106 a2).bind fun bt109 => (if bt109.2.2 = 0 then ((aumbryref07_Ground.f k bt109.1).bind fun t114 => (if t114 = true then ((aumbryref07_Fits.f k l0 bt109.1).bind fun t115 => (if t115 = true then (aumbrylaw07_RewriteDone.j0 k l0 bt109.1 true) else (aumbrylaw07_RewriteDone.j0 k l0 bt109.1 (decide (bt109.2.1 > (mx a2 0)))))) else (aumbrylaw07_RewriteDone.j0 k l0 bt109.1 true))) else (if (bt109.1.length : Int) = 0 then (some (bt109.2.1 == 0)) else (some false)))))) else (some true))) else (some false))) = some r := h
 clear h
 replace H := zB H
 obtain ⟨t101, A40, H⟩ := H
 try dsimp only at H
 have A4 := zM A40
 clear A40
 by_cases c5 : t101 = true
 ·
  subst c5
  rw [if_pos rfl] at H
  replace H := zB H
  obtain ⟨t102, A60, H⟩ := H
  try dsimp only at H
  have A6 := zM A60
  clear A60
  by_cases c7 : t102 = true
  ·
   subst c7
   rw [if_pos rfl] at H
   replace H := zB H
   obtain ⟨t103, A80, H⟩ := H
   try dsimp only at H
   have A8 := zM A80
   clear A80
   replace H := zB H
   obtain ⟨t106, A90, H⟩ := H
   try dsimp only at H
   have A9 := zM A90
   clear A90
   replace H := zB H
   obtain ⟨⟨t109, t112, t113⟩, A100, H⟩ := H
   try dsimp only at H
   have A10 := zM A100
   clear A100
   by_cases c11 : t113 = 0
   ·
    rw [if_pos c11] at H
    have c11b0 : (t113 == 0) = true := zG c11
    have c11b1 : (t113 != 0) = false := zH c11
    clear c11
    have HC12 := zM H
    clear H
    go_enter Try.func7, Try.ntmps7
    go_upto_region 8 with (first | ((with_reducible refine gate_callee (f := 11) rfl ?_); refine goesL_ (some 13) rfl rfl Try.func11 (by kernel_rfl) rfl #[] rfl zl ?_; (with_reducible refine (aumbrylaw07_wakes.calls k  true _ A4.out).mono ?_); rintro e w13 ⟨rfl, hb⟩; refine ⟨_, rfl, ?_⟩; replace HB := zM (below_step zb hb); (try clear hb)) | ((with_reducible refine gate_callee (f := 19) rfl ?_); refine goesL_ (some 17) rfl rfl Try.func19 (by kernel_rfl) rfl #[.slice A0 l0.length c0, .int .i64 a2] rfl zl ?_; (with_reducible refine (aumbrylaw07_few.calls _ _ l0 a2 true _ ?side1 ?side2 A6.out).mono ?_); (case side1 => exact Kd.C_below HR0.out zb); (case side2 => exact HC0.out); rintro e w' ⟨rfl, ⟨nd, rfl⟩⟩; refine ⟨_, rfl, ?_⟩) | ((with_reducible refine gate_callee (f := 21) rfl ?_); refine goesL_ (some 21) rfl rfl Try.func21 (by kernel_rfl) rfl #[.slice A0 l0.length c0] rfl zl ?_; (with_reducible refine (aumbrylaw07_rules.calls k _ _ l0 t103 _ ?side1 ?side2 A8.out).mono ?_); (case side1 => exact Kd.C_below (Kd.C_below HR0.out zb) zg); (case side2 => exact HC0.out); rintro e w14 ⟨v104, rfl, ho0, hb⟩; refine ⟨_, rfl, ?_⟩; have HO105 := zM (Kd.S_lower ho0 (below_size zb)); replace HB := zM (below_step zb hb); (try clear hb); (try clear ho0)) | ((with_reducible refine gate_callee (f := 13) rfl ?_); refine goesL_ (some 23) rfl rfl Try.func13 (by kernel_rfl) rfl #[.slice A1 l1.length c1] rfl zl ?_; (with_reducible refine (aumbryref04_Copy.calls _ _ l1 t106 _ ?side1 ?side2 A9.out).mono ?_); (case side1 => exact Kd.C_below HR1.out zb); (case side2 => exact HC1.out); rintro e w15 ⟨v107, rfl, ho0, hb⟩; refine ⟨_, rfl, ?_⟩; replace HO105 := zM (Kd.S_elder' (Kd.S_below HO105.out zg) (Kd.R_base ho0) hb); have HO108 := zM (Kd.R_lower ho0 (below_size zb)); replace HB := zM (below_step zb hb); (try clear hb); (try clear ho0); obtain ⟨Ao16, co16, eo16⟩ := Kd.S_slice HO105.out; subst eo16; obtain ⟨Ao17, co17, eo17⟩ := Kd.R_slice HO108.out; subst eo17) | ((with_reducible refine gate_callee (f := 24) rfl ?_); refine goesL_ (some 25) rfl rfl Try.func24 (by kernel_rfl) rfl #[.slice Ao16 t103.length co16, .slice Ao17 t106.length co17, .int .i64 a2] rfl zl ?_; (with_reducible refine (rewrite_Normal.calls k _ _ t103 _ _ t106 a2 t109 t112 t113 _ ?side1 ?side2 ?side3 ?side4 A10.out).mono ?_); (case side1 => exact Kd.C_below (Kd.S_reads' HO105.out).2.2 zg); (case side2 => exact (Kd.S_reads' HO105.out).2.1); (case side3 => exact Kd.C_below (Kd.R_reads' HO108.out).2.2 zg); (case side4 => exact (Kd.R_reads' HO108.out).2.1); rintro e w18 ⟨v110, rfl, ho0, hb⟩; refine ⟨_, rfl, ?_⟩; have HO111 := zM (Kd.V_lower (Kd.V_mono (ok' := fun k_ => some k_ ≠ (.slice Ao16 t103.length co16 : Value).ownBlock ∧ some k_ ≠ (.slice Ao17 t106.length co17 : Value).ownBlock) ho0 (fun k_ hk_ => ⟨(Kd.fresh' (Kd.S_lt (Kd.S_below HO105.out zg)) k_ hk_), (Kd.fresh' (Kd.R_lt (zr HO108.out)) k_ hk_)⟩)) (below_size zb)); replace HO105 := zM (Kd.S_below (Kd.S_below HO105.out zg) hb); replace HO108 := zM (Kd.R_below (zr HO108.out) hb); replace HB := zM (below_step zb hb); (try clear hb); (try clear ho0)))
    (try simp only [Act.put, List.setIfInBounds_toArray, List.set_cons_zero, List.set_cons_succ])
    go_cut [51] (fun v51 wc => ∃ (kq : Nat) (x51_11 : Bool), v51 = .bool x51_11 ∧ Aside0 (aumbrylaw07_RewriteDone.j0 kq l0 t109 x51_11 = some r) ∧ Aside0 (kq ≤ k) ∧ Aside0 (Kd.V k54 54 wc w.heap.size (fun _ => True) v110 t109) ∧ Aside0 (Below w.heap.size w wc))
    case first =>
     have H := HC12.out
     clear HC12
     replace H := zB H
     obtain ⟨t114, A190, H⟩ := H
     try dsimp only at H
     have A19 := zM A190
     clear A190
     by_cases c20 : t114 = true
     ·
      subst c20
      rw [if_pos rfl] at H
      replace H := zB H
      obtain ⟨t115, A210, H⟩ := H
      try dsimp only at H
      have A21 := zM A210
      clear A210
      by_cases c22 : t115 = true
      ·
       subst c22
       have H1 : (aumbrylaw07_RewriteDone.j0 k l0 t109 true) = some r := by rw [if_pos rfl] at H; exact H
       exact absurd ((aumbrylaw07_RewriteDone.j0_true _ _ _ _ H1).symm.trans HRT.out) (by decide)
      ·
       replace c22 := zI c22
       subst c22
       rw [if_neg (show ¬ (false = true) by decide)] at H
       obtain ⟨ji26, hji26⟩ : ∃ j_ : Int, (mx a2 0) = j_ := ⟨_, rfl⟩
       replace H : (aumbrylaw07_RewriteDone.j0 k l0 t109 (decide (t112 > (ji26)))) = some r := by first | (rw [hji26] at H; exact H) | (simp only [hji26] at H ⊢; exact H)
       (try rw [hji26] at A19)
       (try rw [hji26] at A21)
       (try (have hji26l : 0 ≤ ji26 := by (rw [← hji26]; unfold mx; (repeat' split) <;> omega)))
       (try (have hji26m : 0 ≤ ji26 := by omega))
       have hji26_ : (if a2 < 0 then 0 else a2) = ji26 := hji26
       have H' := zM H
       clear H
       obtain ⟨Ao27, co27, eo27⟩ := Kd.V_slice HO111.out
       subst eo27
       go_wp2_with (first | ((with_reducible refine gate_callee (f := 23) rfl ?_); refine goesL_ (some 39) rfl rfl Try.func23 (by kernel_rfl) rfl #[.slice Ao27 t109.length co27] rfl zl ?_; (with_reducible refine (aumbryref07_Ground.calls k _ _ t109 true _ ?side1 ?side2 A19.out).mono ?_); (case side1 => exact Kd.C_below (Kd.V_reads' HO111.out).2.2 zg); (case side2 => exact (Kd.V_reads' HO111.out).2.1); rintro e w28 ⟨rfl, hb⟩; refine ⟨_, rfl, ?_⟩; replace HO105 := zM (Kd.S_below (Kd.S_below HO105.out zg) hb); replace HO108 := zM (Kd.R_below (zr HO108.out) hb); replace HO111 := zM (Kd.V_below (Kd.V_below HO111.out zg) hb); replace HB := zM (below_step zb hb); (try clear hb)) | (go_at_call 28; (with_reducible refine (aumbryref07_Fits.calls k _ _ l0 _ _ t109 false _ ?side1 ?side2 ?side3 ?side4 A21.out).mono ?_); (case side1 => exact Kd.C_below HR0.out zb); (case side2 => exact HC0.out); (case side3 => exact Kd.C_below (Kd.V_reads' HO111.out).2.2 zg); (case side4 => exact (Kd.V_reads' HO111.out).2.1); rintro e w29 ⟨rfl, hb⟩; replace HO105 := zM (Kd.S_below (Kd.S_below HO105.out zg) hb); replace HO108 := zM (Kd.R_below (zr HO108.out) hb); replace HO111 := zM (Kd.V_below (Kd.V_below HO111.out zg) hb); replace HB := zM (below_step zb hb); (try clear hb)))
       go_meet
       case rel => exact ⟨_, (decide (t112 > (ji26))), (by first | rfl | (simp; done) | (simp only [← hji26] <;> (first | rfl | simp)) | (simp [*]; done)), H', ⟨by first | omega | exact Nat.le_refl _⟩, ⟨by (with_reducible repeat (first | apply Kd.V_alloc | apply Kd.V_drewN | apply Kd.V_drew)); exact Kd.V_mono HO111.out (fun _ hk => trivial)⟩, ⟨zb⟩⟩
     ·
      replace c20 := zI c20
      subst c20
      have H1 : (aumbrylaw07_RewriteDone.j0 k l0 t109 true) = some r := by rw [if_neg (show ¬ (false = true) by decide)] at H; exact H
      exact absurd ((aumbrylaw07_RewriteDone.j0_true _ _ _ _ H1).symm.trans HRT.out) (by decide)
    case rest =>
     clear HC12
     try clear c1
     try clear c2
     try clear p2
     try clear c5
     try clear c7
     try clear c11
     try clear c11b0
     try clear c11b1
     try clear c13
     try clear c19
     try clear c20
     try clear c21
     try clear c22
     try clear c23
     try clear c24
     obtain ⟨kq, x51_11, rfl, HA, HJ11, HO_7, HB⟩ := hcut
     cases kq with
     | zero => exact absurd HA.out (by simp [aumbrylaw07_RewriteDone.j0])
     | succ kj11 =>
      have H := HA.out
      clear HA
      simp only [aumbrylaw07_RewriteDone.j0] at H
      by_cases c32 : x51_11 = true
      ·
       subst c32
       have H1 : (some false) = some r := by rw [if_pos rfl] at H; exact H
       exact absurd ((zS H1).trans HRT.out) (by decide)
      ·
       replace c32 := zI c32
       subst c32
       rw [if_neg (show ¬ (false = true) by decide)] at H
       replace H := zB H
       obtain ⟨t116, A330, H⟩ := H
       try dsimp only at H
       have A33 := zM A330
       clear A330
       replace H := zB H
       obtain ⟨t119, A340, H⟩ := H
       try dsimp only at H
       have A34 := zM A340
       clear A340
       replace H := zB H
       obtain ⟨⟨t122, t125, t126⟩, A350, H⟩ := H
       try dsimp only at H
       have A35 := zM A350
       clear A350
       by_cases c36 : t126 = 0
       ·
        rw [if_pos c36] at H
        have c36b0 : (t126 == 0) = true := zG c36
        have c36b1 : (t126 != 0) = false := zH c36
        clear c36
        by_cases c37 : t125 = 0
        ·
         rw [if_pos c37] at H
         have c37b0 : (t125 == 0) = true := zG c37
         have c37b1 : (t125 != 0) = false := zH c37
         clear c37
         replace H := zB H
         obtain ⟨t127, A380, H⟩ := H
         try dsimp only at H
         have A38 := zM A380
         clear A380
         obtain rfl := zS H
         go_wp2_with (first | ((with_reducible refine gate_callee (f := 21) rfl ?_); refine goesL_ (some 54) rfl rfl Try.func21 (by kernel_rfl) rfl #[.slice A0 l0.length c0] rfl zl ?_; (with_reducible refine (aumbrylaw07_rules.calls kj11 _ _ l0 t116 _ ?side1 ?side2 A33.out).mono ?_); (case side1 => exact Kd.C_below HR0.out zb); (case side2 => exact HC0.out); rintro e w39 ⟨v117, rfl, ho0, hb⟩; refine ⟨_, rfl, ?_⟩; replace HO_7 := zM (Kd.V_elder' (Kd.V_below HO_7.out zg) (Kd.S_base ho0) hb); have HO118 := zM (Kd.S_lower ho0 (below_size zb)); replace HB := zM (below_step zb hb); (try clear hb); (try clear ho0); obtain ⟨Ao40, co40, eo40⟩ := Kd.V_slice HO_7.out; subst eo40) | ((with_reducible refine gate_callee (f := 13) rfl ?_); refine goesL_ (some 56) rfl rfl Try.func13 (by kernel_rfl) rfl #[.slice Ao40 t109.length co40] rfl zl ?_; (with_reducible refine (aumbryref04_Copy.calls _ _ t109 t119 _ ?side1 ?side2 A34.out).mono ?_); (case side1 => exact Kd.C_below (Kd.V_reads' HO_7.out).2.2 zg); (case side2 => exact (Kd.V_reads' HO_7.out).2.1); rintro e w41 ⟨v120, rfl, ho0, hb⟩; refine ⟨_, rfl, ?_⟩; replace HO_7 := zM (Kd.V_elder' (Kd.V_below HO_7.out zg) (Kd.R_base ho0) hb); replace HO118 := zM (Kd.S_elder' (Kd.S_below HO118.out zg) (Kd.R_base ho0) hb); have HO121 := zM (Kd.R_lower ho0 (below_size zb)); replace HB := zM (below_step zb hb); (try clear hb); (try clear ho0); obtain ⟨Ao42, co42, eo42⟩ := Kd.S_slice HO118.out; subst eo42; obtain ⟨Ao43, co43, eo43⟩ := Kd.R_slice HO121.out; subst eo43) | ((with_reducible refine gate_callee (f := 24) rfl ?_); refine goesL_ (some 57) rfl rfl Try.func24 (by kernel_rfl) rfl #[.slice Ao42 t116.length co42, .slice Ao43 t119.length co43, .int .i64 0] rfl zl ?_; (with_reducible refine (rewrite_Normal.calls kj11 _ _ t116 _ _ t119 0 t122 t125 t126 _ ?side1 ?side2 ?side3 ?side4 A35.out).mono ?_); (case side1 => exact Kd.C_below (Kd.S_reads' HO118.out).2.2 zg); (case side2 => exact (Kd.S_reads' HO118.out).2.1); (case side3 => exact Kd.C_below (Kd.R_reads' HO121.out).2.2 zg); (case side4 => exact (Kd.R_reads' HO121.out).2.1); rintro e w44 ⟨v123, rfl, ho0, hb⟩; refine ⟨_, rfl, ?_⟩; replace HO_7 := zM (Kd.V_below (Kd.V_below HO_7.out zg) hb); have HO124 := zM (Kd.V_lower (Kd.V_mono (ok' := fun k_ => some k_ ≠ (.slice Ao42 t116.length co42 : Value).ownBlock ∧ some k_ ≠ (.slice Ao43 t119.length co43 : Value).ownBlock) ho0 (fun k_ hk_ => ⟨(Kd.fresh' (Kd.S_lt (Kd.S_below HO118.out zg)) k_ hk_), (Kd.fresh' (Kd.R_lt (zr HO121.out)) k_ hk_)⟩)) (below_size zb)); replace HO118 := zM (Kd.S_below (Kd.S_below HO118.out zg) hb); replace HO121 := zM (Kd.R_below (zr HO121.out) hb); replace HB := zM (below_step zb hb); (try clear hb); (try clear ho0); obtain ⟨Ao45, co45, eo45⟩ := Kd.V_slice HO124.out; subst eo45) | (go_at_call 27; (with_reducible refine (aumbryref04_Same.calls kj11 _ _ t109 _ _ t122 t127 _ ?side1 ?side2 ?side3 ?side4 A38.out).mono ?_); (case side1 => exact Kd.C_below (Kd.V_reads' HO_7.out).2.2 zg); (case side2 => exact (Kd.V_reads' HO_7.out).2.1); (case side3 => exact Kd.C_below (Kd.V_reads' HO124.out).2.2 zg); (case side4 => exact (Kd.V_reads' HO124.out).2.1); rintro e w' ⟨rfl, ⟨nd, rfl⟩⟩))
         go_ret
         exact ⟨zw, zb⟩
        ·
         rw [if_neg c37] at H
         have c37b0 : (t125 == 0) = false := zE c37
         have c37b1 : (t125 != 0) = true := zF c37
         exact absurd ((zS H).trans HRT.out) (by decide)
       ·
        rw [if_neg c36] at H
        have c36b0 : (t126 == 0) = false := zE c36
        have c36b1 : (t126 != 0) = true := zF c36
        exact absurd ((zS H).trans HRT.out) (by decide)
   ·
    rw [if_neg c11] at H
    have c11b0 : (t113 == 0) = false := zE c11
    have c11b1 : (t113 != 0) = true := zF c11
    by_cases c58 : (t109.length : Int) = 0
    ·
     rw [if_pos c58] at H
     have c58b0 : ((t109.length : Int) == 0) = true := zG c58
     have c58b1 : ((t109.length : Int) != 0) = false := zH c58
     clear c58
     obtain rfl := zS H
     go_enter Try.func7, Try.ntmps7
     go_wp2_with (first | ((with_reducible refine gate_callee (f := 11) rfl ?_); refine goesL_ (some 13) rfl rfl Try.func11 (by kernel_rfl) rfl #[] rfl zl ?_; (with_reducible refine (aumbrylaw07_wakes.calls k  true _ A4.out).mono ?_); rintro e w59 ⟨rfl, hb⟩; refine ⟨_, rfl, ?_⟩; replace HB := zM (below_step zb hb); (try clear hb)) | ((with_reducible refine gate_callee (f := 19) rfl ?_); refine goesL_ (some 17) rfl rfl Try.func19 (by kernel_rfl) rfl #[.slice A0 l0.length c0, .int .i64 a2] rfl zl ?_; (with_reducible refine (aumbrylaw07_few.calls _ _ l0 a2 true _ ?side1 ?side2 A6.out).mono ?_); (case side1 => exact Kd.C_below HR0.out zb); (case side2 => exact HC0.out); rintro e w' ⟨rfl, ⟨nd, rfl⟩⟩; refine ⟨_, rfl, ?_⟩) | ((with_reducible refine gate_callee (f := 21) rfl ?_); refine goesL_ (some 21) rfl rfl Try.func21 (by kernel_rfl) rfl #[.slice A0 l0.length c0] rfl zl ?_; (with_reducible refine (aumbrylaw07_rules.calls k _ _ l0 t103 _ ?side1 ?side2 A8.out).mono ?_); (case side1 => exact Kd.C_below (Kd.C_below HR0.out zb) zg); (case side2 => exact HC0.out); rintro e w60 ⟨v104, rfl, ho0, hb⟩; refine ⟨_, rfl, ?_⟩; have HO105 := zM (Kd.S_lower ho0 (below_size zb)); replace HB := zM (below_step zb hb); (try clear hb); (try clear ho0)) | ((with_reducible refine gate_callee (f := 13) rfl ?_); refine goesL_ (some 23) rfl rfl Try.func13 (by kernel_rfl) rfl #[.slice A1 l1.length c1] rfl zl ?_; (with_reducible refine (aumbryref04_Copy.calls _ _ l1 t106 _ ?side1 ?side2 A9.out).mono ?_); (case side1 => exact Kd.C_below HR1.out zb); (case side2 => exact HC1.out); rintro e w61 ⟨v107, rfl, ho0, hb⟩; refine ⟨_, rfl, ?_⟩; replace HO105 := zM (Kd.S_elder' (Kd.S_below HO105.out zg) (Kd.R_base ho0) hb); have HO108 := zM (Kd.R_lower ho0 (below_size zb)); replace HB := zM (below_step zb hb); (try clear hb); (try clear ho0); obtain ⟨Ao62, co62, eo62⟩ := Kd.S_slice HO105.out; subst eo62; obtain ⟨Ao63, co63, eo63⟩ := Kd.R_slice HO108.out; subst eo63) | ((with_reducible refine gate_callee (f := 24) rfl ?_); refine goesL_ (some 25) rfl rfl Try.func24 (by kernel_rfl) rfl #[.slice Ao62 t103.length co62, .slice Ao63 t106.length co63, .int .i64 a2] rfl zl ?_; (with_reducible refine (rewrite_Normal.calls k _ _ t103 _ _ t106 a2 t109 t112 t113 _ ?side1 ?side2 ?side3 ?side4 A10.out).mono ?_); (case side1 => exact Kd.C_below (Kd.S_reads' HO105.out).2.2 zg); (case side2 => exact (Kd.S_reads' HO105.out).2.1); (case side3 => exact Kd.C_below (Kd.R_reads' HO108.out).2.2 zg); (case side4 => exact (Kd.R_reads' HO108.out).2.1); rintro e w64 ⟨v110, rfl, ho0, hb⟩; refine ⟨_, rfl, ?_⟩; have HO111 := zM (Kd.V_lower (Kd.V_mono (ok' := fun k_ => some k_ ≠ (.slice Ao62 t103.length co62 : Value).ownBlock ∧ some k_ ≠ (.slice Ao63 t106.length co63 : Value).ownBlock) ho0 (fun k_ hk_ => ⟨(Kd.fresh' (Kd.S_lt (Kd.S_below HO105.out zg)) k_ hk_), (Kd.fresh' (Kd.R_lt (zr HO108.out)) k_ hk_)⟩)) (below_size zb)); replace HO105 := zM (Kd.S_below (Kd.S_below HO105.out zg) hb); replace HO108 := zM (Kd.R_below (zr HO108.out) hb); replace HB := zM (below_step zb hb); (try clear hb); (try clear ho0); obtain ⟨Ao65, co65, eo65⟩ := Kd.V_slice HO111.out; subst eo65))
     go_ret
     exact ⟨zw, zb⟩
    ·
     rw [if_neg c58] at H
     have c58b0 : ((t109.length : Int) == 0) = false := zE c58
     have c58b1 : ((t109.length : Int) != 0) = true := zF c58
     have c58b2 : ¬ (t109 = []) := fun h_ => c58 (by rw [h_]; rfl)
     obtain rfl := zS H
     go_enter Try.func7, Try.ntmps7
     go_wp2_with (first | ((with_reducible refine gate_callee (f := 11) rfl ?_); refine goesL_ (some 13) rfl rfl Try.func11 (by kernel_rfl) rfl #[] rfl zl ?_; (with_reducible refine (aumbrylaw07_wakes.calls k  true _ A4.out).mono ?_); rintro e w66 ⟨rfl, hb⟩; refine ⟨_, rfl, ?_⟩; replace HB := zM (below_step zb hb); (try clear hb)) | ((with_reducible refine gate_callee (f := 19) rfl ?_); refine goesL_ (some 17) rfl rfl Try.func19 (by kernel_rfl) rfl #[.slice A0 l0.length c0, .int .i64 a2] rfl zl ?_; (with_reducible refine (aumbrylaw07_few.calls _ _ l0 a2 true _ ?side1 ?side2 A6.out).mono ?_); (case side1 => exact Kd.C_below HR0.out zb); (case side2 => exact HC0.out); rintro e w' ⟨rfl, ⟨nd, rfl⟩⟩; refine ⟨_, rfl, ?_⟩) | ((with_reducible refine gate_callee (f := 21) rfl ?_); refine goesL_ (some 21) rfl rfl Try.func21 (by kernel_rfl) rfl #[.slice A0 l0.length c0] rfl zl ?_; (with_reducible refine (aumbrylaw07_rules.calls k _ _ l0 t103 _ ?side1 ?side2 A8.out).mono ?_); (case side1 => exact Kd.C_below (Kd.C_below HR0.out zb) zg); (case side2 => exact HC0.out); rintro e w67 ⟨v104, rfl, ho0, hb⟩; refine ⟨_, rfl, ?_⟩; have HO105 := zM (Kd.S_lower ho0 (below_size zb)); replace HB := zM (below_step zb hb); (try clear hb); (try clear ho0)) | ((with_reducible refine gate_callee (f := 13) rfl ?_); refine goesL_ (some 23) rfl rfl Try.func13 (by kernel_rfl) rfl #[.slice A1 l1.length c1] rfl zl ?_; (with_reducible refine (aumbryref04_Copy.calls _ _ l1 t106 _ ?side1 ?side2 A9.out).mono ?_); (case side1 => exact Kd.C_below HR1.out zb); (case side2 => exact HC1.out); rintro e w68 ⟨v107, rfl, ho0, hb⟩; refine ⟨_, rfl, ?_⟩; replace HO105 := zM (Kd.S_elder' (Kd.S_below HO105.out zg) (Kd.R_base ho0) hb); have HO108 := zM (Kd.R_lower ho0 (below_size zb)); replace HB := zM (below_step zb hb); (try clear hb); (try clear ho0); obtain ⟨Ao69, co69, eo69⟩ := Kd.S_slice HO105.out; subst eo69; obtain ⟨Ao70, co70, eo70⟩ := Kd.R_slice HO108.out; subst eo70) | ((with_reducible refine gate_callee (f := 24) rfl ?_); refine goesL_ (some 25) rfl rfl Try.func24 (by kernel_rfl) rfl #[.slice Ao69 t103.length co69, .slice Ao70 t106.length co70, .int .i64 a2] rfl zl ?_; (with_reducible refine (rewrite_Normal.calls k _ _ t103 _ _ t106 a2 t109 t112 t113 _ ?side1 ?side2 ?side3 ?side4 A10.out).mono ?_); (case side1 => exact Kd.C_below (Kd.S_reads' HO105.out).2.2 zg); (case side2 => exact (Kd.S_reads' HO105.out).2.1); (case side3 => exact Kd.C_below (Kd.R_reads' HO108.out).2.2 zg); (case side4 => exact (Kd.R_reads' HO108.out).2.1); rintro e w71 ⟨v110, rfl, ho0, hb⟩; refine ⟨_, rfl, ?_⟩; have HO111 := zM (Kd.V_lower (Kd.V_mono (ok' := fun k_ => some k_ ≠ (.slice Ao69 t103.length co69 : Value).ownBlock ∧ some k_ ≠ (.slice Ao70 t106.length co70 : Value).ownBlock) ho0 (fun k_ hk_ => ⟨(Kd.fresh' (Kd.S_lt (Kd.S_below HO105.out zg)) k_ hk_), (Kd.fresh' (Kd.R_lt (zr HO108.out)) k_ hk_)⟩)) (below_size zb)); replace HO105 := zM (Kd.S_below (Kd.S_below HO105.out zg) hb); replace HO108 := zM (Kd.R_below (zr HO108.out) hb); replace HB := zM (below_step zb hb); (try clear hb); (try clear ho0); obtain ⟨Ao72, co72, eo72⟩ := Kd.V_slice HO111.out; subst eo72))
     go_ret
     exact ⟨zw, zb⟩
  ·
   replace c7 := zI c7
   subst c7
   rw [if_neg (show ¬ (false = true) by decide)] at H
   obtain rfl := zS H
   go_enter Try.func7, Try.ntmps7
   go_wp2_with (first | ((with_reducible refine gate_callee (f := 11) rfl ?_); refine goesL_ (some 13) rfl rfl Try.func11 (by kernel_rfl) rfl #[] rfl zl ?_; (with_reducible refine (aumbrylaw07_wakes.calls k  true _ A4.out).mono ?_); rintro e w73 ⟨rfl, hb⟩; refine ⟨_, rfl, ?_⟩; replace HB := zM (below_step zb hb); (try clear hb)) | ((with_reducible refine gate_callee (f := 19) rfl ?_); refine goesL_ (some 17) rfl rfl Try.func19 (by kernel_rfl) rfl #[.slice A0 l0.length c0, .int .i64 a2] rfl zl ?_; (with_reducible refine (aumbrylaw07_few.calls _ _ l0 a2 false _ ?side1 ?side2 A6.out).mono ?_); (case side1 => exact Kd.C_below HR0.out zb); (case side2 => exact HC0.out); rintro e w' ⟨rfl, ⟨nd, rfl⟩⟩; refine ⟨_, rfl, ?_⟩))
   go_ret
   exact ⟨zw, zb⟩
 ·
  replace c5 := zI c5
  subst c5
  have H1 : (some false) = some r := by rw [if_neg (show ¬ (false = true) by decide)] at H; exact H
  exact absurd ((zS H1).trans HRT.out) (by decide)

end Go.Proofs.Ytdlkhpfgkghhmaa.P

-- ==== Open
/- What came in and can be read as data, read as the print's kinds: for each kind one fact, put together by the types' shapes. -/
namespace Go.Proofs.Ytdlkhpfgkghhmaa.Open
open Go.RowKit Go.Proofs.YtdlkhpfgkghhmaaW.PrintWords Go.Proofs.Ytdlkhpfgkghhmaa.Rows

structure Opens {α : Type} (P : Program) (t : TypeId) (d : Kd α) (Sz : α → Prop) (Bk : α → Nat) : Prop where
 cells : P.cellsOf t = d.sz
 go : ∀ {H : Type} {enc : TypeId × Value → H} {w : World} {base : Nat} {spare : Nat → Bool} {held : Bool} {n : Nat} {cs : List Value} {x : DataW H × List MemPlace},
  DataW.trod enc P w base spare held n t cs = some x → (∀ m ∈ x.1.weights P t, m ≤ reachBytes) → ∃ v : α, d.K w v cs ∧ Sz v ∧ Bk v ≤ uptoBulk x.1

theorem opens_int {P : Program} {t : TypeId} {k : IntKind} (ht : P.underlying t = some (.int k)) (hc : P.cellsOf t = 1) : Opens P t (Kd.int k) (fun a => (Lit.int k a).wf = true) (fun _ => 1) := by
 refine ⟨hc, fun h _ => ?_⟩
 obtain ⟨a, rfl, rfl, hw⟩ := DataW.trod_int ht h
 exact ⟨a, rfl, hw, by simp [uptoBulk]⟩

theorem opens_string {P : Program} {t : TypeId} (ht : P.underlying t = some .string) (hc : P.cellsOf t = 1) : Opens P t Kd.string (fun s => s.size ≤ 140737488351232) (fun s => s.size + 1) := by
 refine ⟨hc, fun h hw => ?_⟩
 obtain ⟨a, rfl, rfl, hs⟩ := DataW.trod_string ht h
 have hl : a.data.toList.length = a.size := data_length a
 refine ⟨a, rfl, ?_, ?_⟩
 ·
  have := hw a.data.toList.length (by simp [DataW.weights])
  rw [hl] at this
  exact this
 ·
  simp only [uptoBulk]
  omega

theorem mem_weightsAll {H : Type} {P : Program} {e : TypeId} {d : DataW H} : ∀ {l : List (DataW H)}, d ∈ l → ∀ {m : Nat}, m ∈ d.weights P e → m ∈ DataW.weightsAll P e l
 | a :: l, h, m, hm => by
  simp only [DataW.weightsAll, List.mem_append]
  rcases List.mem_cons.1 h with rfl | h
  ·
   exact .inl hm
  ·
   exact .inr (mem_weightsAll h hm)
 | [], h, _, _ => by cases h

def bulkAll {α : Type} (Bk : α → Nat) (l : List α) : Nat := (l.map Bk).sum

theorem bulk_all_le {H α : Type} (Bk : α → Nat) : ∀ (xs : List α) (ds : List (DataW H)), xs.length = ds.length → (∀ (i : Nat) x d, xs[i]? = some x → ds[i]? = some d → Bk x ≤ uptoBulk d) → bulkAll Bk xs ≤ uptoBulkAll ds
 | [], [], _, _ => by simp [bulkAll, uptoBulkAll]
 | x :: xs, d :: ds, hl, h => by
  have h0 := h 0 x d rfl rfl
  have h1 := bulk_all_le Bk xs ds (by simpa using hl) (fun i x' d' hx hd => h (i + 1) x' d' (by simpa using hx) (by simpa using hd))
  simp only [bulkAll, uptoBulkAll, List.map_cons, List.sum_cons] at h1 ⊢
  omega
 | [], _ :: _, hl, _ => by simp at hl
 | _ :: _, [], hl, _ => by simp at hl

theorem opens_slice {α : Type} {P : Program} {t e : TypeId} {d : Kd α} {Sz : α → Prop} {Bk : α → Nat} {b : Nat} (ht : P.underlying t = some (.slice e)) (hc : P.cellsOf t = 1) (hb : P.bytesOf e = b) (ho : Opens P e d Sz Bk) :
 Opens P t (Kd.slice e d) (fun l => l.length * b ≤ 140737488351232 ∧ ∀ x ∈ l, Sz x) (fun l => bulkAll Bk l + 1) := by
 refine ⟨hc, ?_⟩
 intro H enc w base spare held n cs x h hw
 rcases Go.Deep.open_slice ht h with ⟨rfl, rfl⟩ | ⟨a, len, cap, m, n', D, Pl, rfl, _, hl, hm, hmm, rfl, hx⟩
 ·
  exact ⟨[], ⟨none, 0, rfl, Nat.le_refl _, Kd.C_nil d w⟩, ⟨by simp, by simp⟩, by simp [bulkAll, uptoBulk]⟩
 ·
  have hlm : len ≤ m := by rw [hmm]; split <;> omega
  have hel : ∀ i, i < len → ∃ v : α, (∃ cs', w.cells? base (a.add (i * P.cellsOf e)) (P.cellsOf e) = some cs' ∧ d.K w v cs') ∧ Sz v ∧ Bk v ≤ uptoBulk (D i) := by
   intro i hi
   obtain ⟨cs', h1, h2⟩ := hx i (by omega)
   obtain ⟨v, hv, hs, hbk⟩ := ho.go h2 (fun m' hm' => hw m' (by
    simp only [DataW.weights, ht, List.mem_cons, List.mem_append]
    exact .inr (.inl (mem_weightsAll (List.mem_map.2 ⟨i, List.mem_range.2 hi, rfl⟩) hm'))))
   exact ⟨v, ⟨cs', h1, hv⟩, hs, hbk⟩
  have hex : ∃ l : List α, l.length = len ∧ ∀ (i : Nat) v, l[i]? = some v → (∃ cs', w.cells? base (a.add (i * P.cellsOf e)) (P.cellsOf e) = some cs' ∧ d.K w v cs') ∧ Sz v ∧ Bk v ≤ uptoBulk (D i) := by
   clear hx hw h hmm hlm hl hm
   induction len with
   | zero => exact ⟨[], rfl, fun i v hv => by simp at hv⟩
   | succ k ih =>
    obtain ⟨l, h1, h2⟩ := ih (fun i hi => hel i (by omega))
    obtain ⟨v, hv⟩ := hel k (by omega)
    refine ⟨l ++ [v], by simp [h1], fun i u hu => ?_⟩
    by_cases hi : i < l.length
    ·
     rw [List.getElem?_append_left hi] at hu
     exact h2 i u hu
    ·
     have hik : i = l.length := by
      have := (List.getElem?_eq_some_iff.1 hu).1
      simp at this
      omega
     subst hik
     simp at hu
     subst hu
     rw [h1]
     exact hv
  obtain ⟨l, hll, hlv⟩ := hex
  subst hll
  refine ⟨l, ⟨some a, cap, rfl, hl, rfl, ?_, fun hp => ⟨a, rfl, fun j v hj => ?_⟩⟩, ⟨?_, ?_⟩, ?_⟩
  ·
   have : maxLen ≤ 9223372036854775807 := by decide
   omega
  ·
   obtain ⟨⟨cs', h1, h2⟩, _, _⟩ := hlv j v hj
   refine ⟨cs', d.K_len h2, h2, fun i u hu => ?_⟩
   obtain ⟨_, hlen, hcell⟩ := World.cells?_some h1
   have hi : i < cs'.length := (List.getElem?_eq_some_iff.1 hu).1
   have hsz := d.K_len h2
   rw [ho.cells] at hcell hlen
   have := hcell i (by omega)
   rw [hu] at this
   rw [← this, add_add]
  ·
   have := hw ((((List.range l.length).map D).length + ((List.range (m - l.length)).map fun j => D (l.length + j)).length) * P.bytesOf e) (by simp [DataW.weights, ht])
   simp only [List.length_map, List.length_range] at this
   rw [hb] at this
   have h3 : reachBytes = 140737488351232 := by decide
   rw [h3] at this
   have h4 : l.length * b ≤ (l.length + (m - l.length)) * b := Nat.mul_le_mul_right _ (by omega)
   omega
  ·
   intro v hv
   obtain ⟨i, hi, rfl⟩ := List.mem_iff_getElem.1 hv
   exact (hlv i _ (List.getElem?_eq_getElem hi)).2.1
  ·
   have := bulk_all_le Bk l ((List.range l.length).map D) (by simp) (fun i v dd hv hd => by
    have hi : i < l.length := (List.getElem?_eq_some_iff.1 hv).1
    simp [hi] at hd
    rw [← hd]
    exact (hlv i v hv).2.2)
   simp only [uptoBulk]
   omega

/-! Structs: the fields, one behind the other. -/
def offs (P : Program) : List TypeId → Nat → Nat
 | [], _ => 0
 | _, 0 => 0
 | t :: ts, i + 1 => P.cellsOf t + offs P ts i

structure OpensF {α : Type} (P : Program) (ts : List TypeId) (d : Kd α) (Sz : α → Prop) (Bk : α → Nat) : Prop where
 cells : (ts.map P.cellsOf).sum = d.sz
 go : ∀ {H : Type} {enc : TypeId × Value → H} {w : World} {base : Nat} {spare : Nat → Bool} {held : Bool} {n : Nat} {cs : List Value} {xs : List (DataW H × List MemPlace)},
  cs.length = d.sz → xs.length = ts.length → (∀ (i : Nat) t, ts[i]? = some t → DataW.trod enc P w base spare held n t ((cs.drop (offs P ts i)).take (P.cellsOf t)) = xs[i]?) →
  (∀ m ∈ DataW.weightsEach P ts (xs.map (·.1)), m ≤ reachBytes) → ∃ v : α, d.K w v cs ∧ Sz v ∧ Bk v ≤ uptoBulkAll (xs.map (·.1))

theorem opensF_one {α : Type} {P : Program} {t : TypeId} {d : Kd α} {Sz : α → Prop} {Bk : α → Nat} (ho : Opens P t d Sz Bk) : OpensF P [t] d Sz Bk := by
 refine ⟨by simp [ho.cells], fun {H enc w base spare held n cs xs} hl hx h hw => ?_⟩
 match xs, hx with
 | [y], _ =>
  have h0 := h 0 t rfl
  rw [show offs P [t] 0 = 0 from rfl, List.drop_zero, List.take_of_length_le (by rw [ho.cells]; omega)] at h0
  obtain ⟨v, h1, h2, h3⟩ := ho.go h0 (fun m hm => hw m (by simp [DataW.weightsEach, hm]))
  exact ⟨v, h1, h2, by simpa [uptoBulkAll] using h3⟩

theorem opensF_cons {α β : Type} {P : Program} {t : TypeId} {ts : List TypeId} {d : Kd α} {ds : Kd β} {Sz : α → Prop} {Bk : α → Nat} {Szs : β → Prop} {Bks : β → Nat} (ho : Opens P t d Sz Bk) (hs : OpensF P ts ds Szs Bks) :
 OpensF P (t :: ts) (Kd.pair d ds) (fun x => Sz x.1 ∧ Szs x.2) (fun x => Bk x.1 + Bks x.2) := by
 refine ⟨by simp [ho.cells, hs.cells, Kd.pair], fun {H enc w base spare held n cs xs} hl hx h hw => ?_⟩
 match xs, hx with
 | y :: ys, hx =>
  have hl' : cs.length = d.sz + ds.sz := hl
  have h0 := h 0 t rfl
  rw [show offs P (t :: ts) 0 = 0 from rfl, List.drop_zero, ho.cells] at h0
  obtain ⟨v, h1, h2, h3⟩ := ho.go h0 (fun m hm => hw m (by simp [DataW.weightsEach, hm]))
  obtain ⟨u, g1, g2, g3⟩ := hs.go (cs := cs.drop d.sz) (xs := ys) (enc := enc) (w := w) (base := base) (spare := spare) (held := held) (n := n) (by rw [List.length_drop]; omega) (by simpa using hx) (fun i t' ht' => by
   have := h (i + 1) t' (by simpa using ht')
   rw [show offs P (t :: ts) (i + 1) = P.cellsOf t + offs P ts i from rfl, ho.cells] at this
   rw [List.drop_drop]
   simpa using this) (fun m hm => hw m (by simp only [List.map_cons, DataW.weightsEach, List.mem_append]; exact .inr hm))
  refine ⟨(v, u), ⟨cs.take d.sz, cs.drop d.sz, (List.take_append_drop _ _).symm, h1, g1⟩, ⟨h2, g2⟩, ?_⟩
  simp only [List.map_cons, uptoBulkAll]
  omega

theorem opens_struct {α β : Type} {P : Program} {t : TypeId} {fs : Array Field} {ts : List TypeId} {d : Kd α} {f : β → α} {Sz : α → Prop} {Bk : α → Nat} (ht : P.underlying t = some (.struct fs)) (hts : fs.toList.map (·.type) = ts)
 (hoff : ∀ (i : Nat) fl, fs[i]? = some fl → fl.offset = offs P ts i) (hc : P.cellsOf t = d.sz) (ho : OpensF P ts d Sz Bk) (g : α → β) (hg : ∀ v, f (g v) = v) :
 Opens P t (Kd.iso d f) (fun x => Sz (f x)) (fun x => Bk (f x) + 1) := by
 refine ⟨hc, fun {H enc w base spare held n cs x} h hw => ?_⟩
 obtain ⟨xs, n', _, rfl, hl, hlen, hf⟩ := DataW.trod_struct ht h
 have hlt : ts.length = fs.size := by rw [← hts]; simp
 obtain ⟨v, h1, h2, h3⟩ := ho.go (cs := cs) (xs := xs) (enc := enc) (w := w) (base := base) (spare := spare) (held := held) (n := n') (by rw [hl, hc]) (by omega) (fun i t' ht' => by
  have hi : i < fs.size := by rw [← hlt]; exact (List.getElem?_eq_some_iff.1 ht').1
  have hfi : fs[i]? = some fs[i] := Array.getElem?_eq_getElem hi
  have := hf i fs[i] hfi
  rw [hoff i _ hfi] at this
  have he : fs[i].type = t' := by
   rw [← hts, List.getElem?_map, Array.getElem?_toList, hfi] at ht'
   simpa using ht'
  rw [he] at this
  exact this) (fun m hm => hw m (by simp only [DataW.weights, ht, hts]; exact hm))
 exact ⟨g v, by show d.K w (f (g v)) cs; rw [hg]; exact h1, by rw [hg]; exact h2, by rw [hg]; simp only [uptoBulk]; omega⟩

end Go.Proofs.Ytdlkhpfgkghhmaa.Open

-- ==== PO
namespace Go.Proofs.Ytdlkhpfgkghhmaa.P
open Go.RowKit Go.Proofs.YtdlkhpfgkghhmaaW.PrintWords Go.Proofs.Ytdlkhpfgkghhmaa.Open
def sz9 (s : ByteArray) : Prop := s.size ≤ 140737488351232
def bk9 (s : ByteArray) : Nat := s.size + 1
theorem op9 : Opens Try.prog 9 Kd.string sz9 bk9 := opens_string Try.underlying9 (by kernel_rfl)
def sz3 (a : Int) : Prop := (Lit.int .i64 a).wf = true
def bk3 (_ : Int) : Nat := 1
theorem op3 : Opens Try.prog 3 (Kd.int .i64) sz3 bk3 := opens_int Try.underlying3 (by kernel_rfl)
def sz54 (x : S54) : Prop := sz9 x.f0 ∧ sz3 x.f1
def bk54 (x : S54) : Nat := (bk9 x.f0 + bk3 x.f1) + 1
theorem op54 : Opens Try.prog 54 k54 sz54 bk54 := opens_struct (P := Try.prog) (ts := [9, 3]) (f := fun x : S54 => (x.f0, x.f1)) Try.underlying54 (by kernel_rfl) (fun i fl h => by
 match i, h with
 | 0, h => obtain rfl := Option.some.inj h; show (0 : Nat) = offs Try.prog [9, 3] 0; kernel_rfl
 | 1, h => obtain rfl := Option.some.inj h; show (1 : Nat) = offs Try.prog [9, 3] 1; kernel_rfl
 | i + 2, h => simp at h) (by kernel_rfl) (opensF_cons op9 (opensF_one op3)) (fun x => ⟨x.1, x.2⟩) (fun _ => rfl)
def sz23 (l : List (S54)) : Prop := l.length * 24 ≤ 140737488351232 ∧ ∀ x ∈ l, sz54 x
def bk23 (l : List (S54)) : Nat := bulkAll bk54 l + 1
theorem op23 : Opens Try.prog 23 (Kd.slice 54 k54) sz23 bk23 := opens_slice Try.underlying23 (by kernel_rfl) (by kernel_rfl) op54
def sz73 (x : S73) : Prop := sz3 x.f0 ∧ sz23 x.f1 ∧ sz23 x.f2
def bk73 (x : S73) : Nat := (bk3 x.f0 + (bk23 x.f1 + bk23 x.f2)) + 1
theorem op73 : Opens Try.prog 73 k73 sz73 bk73 := opens_struct (P := Try.prog) (ts := [3, 23, 23]) (f := fun x : S73 => (x.f0, x.f1, x.f2)) Try.underlying73 (by kernel_rfl) (fun i fl h => by
 match i, h with
 | 0, h => obtain rfl := Option.some.inj h; show (0 : Nat) = offs Try.prog [3, 23, 23] 0; kernel_rfl
 | 1, h => obtain rfl := Option.some.inj h; show (1 : Nat) = offs Try.prog [3, 23, 23] 1; kernel_rfl
 | 2, h => obtain rfl := Option.some.inj h; show (2 : Nat) = offs Try.prog [3, 23, 23] 2; kernel_rfl
 | i + 3, h => simp at h) (by kernel_rfl) (opensF_cons op3 (opensF_cons op23 (opensF_one op23))) (fun x => ⟨x.1, x.2.1, x.2.2⟩) (fun _ => rfl)
def sz41 (l : List (S73)) : Prop := l.length * 56 ≤ 140737488351232 ∧ ∀ x ∈ l, sz73 x
def bk41 (l : List (S73)) : Nat := bulkAll bk73 l + 1
theorem op41 : Opens Try.prog 41 (Kd.slice 73 k73) sz41 bk41 := opens_slice Try.underlying41 (by kernel_rfl) (by kernel_rfl) op73
end Go.Proofs.Ytdlkhpfgkghhmaa.P

-- ==== PS7
namespace Go.Proofs.Ytdlkhpfgkghhmaa.P
open Go.RowKit Go.Proofs.YtdlkhpfgkghhmaaW.PrintWords
def aumbrylaw07_RewriteDone.Pure : Prop := ∀ (l0 : List (S73)) (l1 : List (S54)) (a2 : Int), sz41 l0 → sz23 l1 → sz3 a2 → ∃ k, aumbrylaw07_RewriteDone.f k l0 l1 a2 = some true
end Go.Proofs.Ytdlkhpfgkghhmaa.P

-- ==== PLa
/- Plain laws, part a: what kind a text is: the program's way and the document's way come to one function. -/
namespace Go.Proofs.Ytdlkhpfgkghhmaa.P
open Go.RowKit Go.Proofs.YtdlkhpfgkghhmaaW.PrintWords

theorem wrap_up {i : Int} (h0 : 0 ≤ i) (h : i < 9223372036854775807) : wrap64 (i + 1) = i + 1 := by
 unfold wrap64
 omega
theorem wrap_id {i : Int} (h0 : -9223372036854775808 ≤ i) (h : i ≤ 9223372036854775807) : wrap64 i = i := by
 unfold wrap64
 omega

theorem evIfp {α : Type} {c : Prop} [Decidable c] {f g : Nat → Option α} {r : α} (h : c) (hf : Ev f r) : Ev (fun k => if c then f k else g k) r :=
 Ev.congr (fun _ => if_pos h) hf
theorem evIfn {α : Type} {c : Prop} [Decidable c] {f g : Nat → Option α} {r : α} (h : ¬ c) (hf : Ev g r) : Ev (fun k => if c then f k else g k) r :=
 Ev.congr (fun _ => if_neg h) hf
theorem evIs {α : Type} {x : Option α} {a : α} (h : x = some a) : Ev (fun _ => x) a := ⟨0, fun _ _ => h⟩

def lowB (s : ByteArray) (i : Int) : Bool := (decide (97 ≤ bt s i) && decide (bt s i ≤ 122)) || (decide (48 ≤ bt s i) && decide (bt s i ≤ 57) && decide (0 < i))
def upB (s : ByteArray) (i : Int) : Bool := (decide (65 ≤ bt s i) && decide (bt s i ≤ 90)) || (decide (48 ≤ bt s i) && decide (bt s i ≤ 57) && decide (0 < i))
def allN (p : Int → Bool) : Nat → Int → Bool
 | 0, _ => true
 | d + 1, i => p i && allN p d (i + 1)
theorem allN_congr {p q : Int → Bool} : ∀ (d : Nat) (i : Int), (∀ j, i ≤ j → j < i + d → p j = q j) → allN p d i = allN q d i
 | 0, _, _ => rfl
 | d + 1, i, h => by
  simp only [allN]
  rw [h i (Int.le_refl _) (by omega), allN_congr d (i + 1) (fun j h1 h2 => h j (by omega) (by omega))]
def kindS (s : ByteArray) : Int :=
 if s.size < 1 ∨ 8 < s.size then 0 else if allN (lowB s) s.size 0 = true then 1 else if allN (upB s) s.size 0 = true then 2 else 0

theorem kindS_bad {s : ByteArray} (h : s.size < 1 ∨ 8 < s.size) : kindS s = 0 := by
 unfold kindS
 exact if_pos h
theorem kindS_good {s : ByteArray} (h1 : 1 ≤ s.size) (h8 : s.size ≤ 8) : kindS s = (if allN (lowB s) s.size 0 = true then 1 else if allN (upB s) s.size 0 = true then 2 else 0) := by
 unfold kindS
 exact if_neg (by omega)
theorem kindS_cases (s : ByteArray) : kindS s = 0 ∨ kindS s = 1 ∨ kindS s = 2 := by
 unfold kindS
 split
 ·
  exact .inl rfl
 ·
  split
  ·
   exact .inr (.inl rfl)
  ·
   split
   ·
    exact .inr (.inr rfl)
   ·
    exact .inl rfl
theorem kindS_size {s : ByteArray} (h : kindS s ≠ 0) : 1 ≤ s.size ∧ s.size ≤ 8 := by
 unfold kindS at h
 split at h
 ·
  exact absurd rfl h
 ·
  omega

/-! ### the document's -/
theorem refKind_step (k : Nat) (s : ByteArray) (a b : Bool) (i : Int) (h0 : 0 ≤ i) (h1 : i < (s.size : Int)) :
 aumbryref03_Kind.l0 (k + 1) s a b i = aumbryref03_Kind.l0 k s (a && lowB s i) (b && upB s i) (wrap64 (i + 1)) := by
 simp only [aumbryref03_Kind.l0]
 rw [if_pos h1, if_pos h0]
 unfold lowB upB
 generalize bt s i = c
 by_cases c1 : c ≥ 48 <;> by_cases c2 : c ≤ 57 <;> by_cases c3 : c ≥ 97 <;> by_cases c4 : c ≤ 122 <;> by_cases c5 : c ≥ 65 <;> by_cases c6 : c ≤ 90 <;> first | (exfalso; omega) | (cases a <;> cases b <;> simp [c1, c2, c3, c4, c5, c6])
theorem refKind_end (k : Nat) (s : ByteArray) (a b : Bool) (i : Int) (h1 : ¬ i < (s.size : Int)) :
 aumbryref03_Kind.l0 (k + 1) s a b i = some (if a = true then 1 else if b = true then 2 else 0) := by
 simp only [aumbryref03_Kind.l0]
 rw [if_neg h1]
 cases a <;> cases b <;> rfl
theorem refKind_loop (s : ByteArray) (hs : s.size ≤ 8) : ∀ (d : Nat) (k : Nat) (a b : Bool) (i : Int), 0 ≤ i → (s.size : Int) - i = d → d < k →
 aumbryref03_Kind.l0 k s a b i = some (if (a && allN (lowB s) d i) = true then 1 else if (b && allN (upB s) d i) = true then 2 else 0)
 | 0, k, a, b, i, h0, hd, hk => by
  obtain ⟨k, rfl⟩ : ∃ m, k = m + 1 := ⟨k - 1, by omega⟩
  rw [refKind_end k s a b i (by omega)]
  simp [allN]
 | d + 1, k, a, b, i, h0, hd, hk => by
  obtain ⟨k, rfl⟩ : ∃ m, k = m + 1 := ⟨k - 1, by omega⟩
  rw [refKind_step k s a b i h0 (by omega), wrap_up h0 (by omega), refKind_loop s hs d k _ _ (i + 1) (by omega) (by omega) (by omega)]
  simp [allN, Bool.and_assoc]
theorem ev_refKind (s : ByteArray) : Ev (fun k => aumbryref03_Kind.f k s) (kindS s) := by
 refine ⟨12, fun k hk => ?_⟩
 show aumbryref03_Kind.f k s = _
 unfold aumbryref03_Kind.f
 obtain ⟨k, rfl⟩ : ∃ m, k = m + 1 := ⟨k - 1, by omega⟩
 by_cases h1 : (s.size : Int) < 1
 ·
  rw [if_pos h1]
  simp [aumbryref03_Kind.j0, kindS_bad (s := s) (.inl (by omega))]
 ·
  rw [if_neg h1]
  simp only [aumbryref03_Kind.j0]
  by_cases h2 : (s.size : Int) > 8
  ·
   rw [if_pos (by simpa using h2), kindS_bad (s := s) (.inr (by omega))]
  ·
   rw [kindS_good (s := s) (by omega) (by omega), if_neg (by simpa using h2), refKind_loop s (by omega) s.size k true true 0 (by omega) (by omega) (by omega)]
   simp

/-! ### the program's -/
def signS (c : Int) : Int × Int := if 97 ≤ c ∧ c ≤ 122 then (1, 1) else if 65 ≤ c ∧ c ≤ 90 then (2, 2) else if 48 ≤ c ∧ c ≤ 57 then (0, 3) else (0, 0)
theorem sign_at (c : Int) (k : Nat) (hk : 2 ≤ k) : name_sign.f k c = some (signS c) := by
 obtain ⟨k, rfl⟩ : ∃ m, k = m + 2 := ⟨k - 2, by omega⟩
 unfold name_sign.f signS
 by_cases c1 : c ≥ 48 <;> by_cases c2 : c ≤ 57 <;> by_cases c3 : c ≥ 97 <;> by_cases c4 : c ≤ 122 <;> by_cases c5 : c ≥ 65 <;> by_cases c6 : c ≤ 90 <;> first | (exfalso; omega) | (simp [name_sign.j0, name_sign.j1, c1, c2, c3, c4, c5, c6])
theorem bits_and_ (a b : Int) (ha : a = 0 ∨ a = 1 ∨ a = 2 ∨ a = 3) (hb : b = 0 ∨ b = 1 ∨ b = 2) : (Go.bits .and .i64 a b = 0) ↔ (b = 0 ∨ (b = 1 ∧ (a = 0 ∨ a = 2)) ∨ (b = 2 ∧ (a = 0 ∨ a = 1))) := by
 rcases ha with rfl | rfl | rfl | rfl <;> rcases hb with rfl | rfl | rfl <;> decide
def goesB (s : ByteArray) (b : Int) (i : Int) : Bool := decide (¬ (Go.bits .and .i64 (signS (bt s i)).2 b = 0))
theorem kind_loop (s : ByteArray) (b : Int) (hs : s.size ≤ 8) : ∀ (d : Nat) (k : Nat) (i : Int), 0 ≤ i → (s.size : Int) - i = d → d + 2 < k →
 name_Kind.l0 k s b (s.size : Int) i = some (if allN (goesB s b) d i = true then b else 0)
 | 0, k, i, h0, hd, hk => by
  obtain ⟨k, rfl⟩ : ∃ m, k = m + 1 := ⟨k - 1, by omega⟩
  simp only [name_Kind.l0]
  rw [if_neg (by omega)]
  simp [allN]
 | d + 1, k, i, h0, hd, hk => by
  obtain ⟨k, rfl⟩ : ∃ m, k = m + 1 := ⟨k - 1, by omega⟩
  simp only [name_Kind.l0]
  rw [if_pos (by omega), if_pos h0, if_pos (by omega), sign_at _ _ (by omega)]
  simp only [Option.bind_some]
  by_cases hg : Go.bits .and .i64 (signS (bt s i)).2 b = 0
  ·
   rw [if_pos hg]
   simp [allN, goesB, hg]
  ·
   rw [if_neg hg, wrap_up h0 (by omega), kind_loop s b hs d k (i + 1) (by omega) (by omega) (by omega)]
   simp [allN, goesB, hg]
theorem signS_two (c : Int) : (signS c).2 = 0 ∨ (signS c).2 = 1 ∨ (signS c).2 = 2 ∨ (signS c).2 = 3 := by
 unfold signS
 repeat' split
 all_goals simp
theorem goes_one (s : ByteArray) (i : Int) (hi : 0 < i) : goesB s 1 i = lowB s i := by
 have h := bits_and_ (signS (bt s i)).2 1 (signS_two _) (by simp)
 unfold goesB lowB
 rw [Bool.eq_iff_iff]
 simp only [decide_eq_true_eq, h, Bool.or_eq_true, Bool.and_eq_true]
 unfold signS
 repeat' split
 all_goals simp
 all_goals omega
theorem goes_two (s : ByteArray) (i : Int) (hi : 0 < i) : goesB s 2 i = upB s i := by
 have h := bits_and_ (signS (bt s i)).2 2 (signS_two _) (by simp)
 unfold goesB upB
 rw [Bool.eq_iff_iff]
 simp only [decide_eq_true_eq, h, Bool.or_eq_true, Bool.and_eq_true]
 unfold signS
 repeat' split
 all_goals simp
 all_goals omega
theorem kind_eq (s : ByteArray) (h1 : 1 ≤ s.size) (h8 : s.size ≤ 8) : (if allN (goesB s (signS (bt s 0)).1) s.size 0 = true then (signS (bt s 0)).1 else 0) = kindS s := by
 rw [kindS_good h1 h8]
 obtain ⟨n, hn⟩ : ∃ n, s.size = n + 1 := ⟨s.size - 1, by omega⟩
 have e1 : allN (goesB s 1) n (0 + 1) = allN (lowB s) n (0 + 1) := allN_congr _ _ (fun j h1 _ => goes_one s j (by omega))
 have e2 : allN (goesB s 2) n (0 + 1) = allN (upB s) n (0 + 1) := allN_congr _ _ (fun j h1 _ => goes_two s j (by omega))
 by_cases hl : 97 ≤ bt s 0 ∧ bt s 0 ≤ 122
 ·
  have hs : signS (bt s 0) = (1, 1) := by unfold signS; rw [if_pos hl]
  have g0 : goesB s 1 0 = true := by unfold goesB; rw [hs]; decide
  have l0 : lowB s 0 = true := by unfold lowB; simp [hl]
  have u0 : upB s 0 = false := by unfold upB; simp; omega
  simp only [hn, hs, allN, e1, g0, l0, u0, Bool.true_and, Bool.false_and]
  split <;> simp
 ·
  by_cases hu : 65 ≤ bt s 0 ∧ bt s 0 ≤ 90
  ·
   have hs : signS (bt s 0) = (2, 2) := by unfold signS; rw [if_neg hl, if_pos hu]
   have g0 : goesB s 2 0 = true := by unfold goesB; rw [hs]; decide
   have l0 : lowB s 0 = false := by unfold lowB; simp; omega
   have u0 : upB s 0 = true := by unfold upB; simp [hu]
   simp only [hn, hs, allN, e2, g0, l0, u0, Bool.true_and, Bool.false_and]
   simp
  ·
   have hs : (signS (bt s 0)).1 = 0 := by unfold signS; rw [if_neg hl, if_neg hu]; split <;> rfl
   have l0 : lowB s 0 = false := by unfold lowB; simp; omega
   have u0 : upB s 0 = false := by unfold upB; simp; omega
   simp only [hn, hs, allN, l0, u0, Bool.true_and, Bool.false_and]
   simp
theorem toList_nil (s : ByteArray) : s.toList = ([] : List UInt8) ↔ s.size = 0 := by
 rw [ByteArray.toList_eq]
 constructor
 ·
  intro h
  have := congrArg List.length h
  simpa [data_length] using this
 ·
  intro h
  apply List.eq_nil_of_length_eq_zero
  rw [data_length]
  exact h
theorem ev_kind (s : ByteArray) : Ev (fun k => name_Kind.f k s) (kindS s) := by
 refine ⟨16, fun k hk => ?_⟩
 show name_Kind.f k s = _
 unfold name_Kind.f
 obtain ⟨k, rfl⟩ : ∃ m, k = m + 1 := ⟨k - 1, by omega⟩
 by_cases h1 : s.toList = ([] : List UInt8)
 ·
  rw [if_pos h1]
  have := (toList_nil s).1 h1
  simp [name_Kind.j0, kindS_bad (s := s) (.inl (by omega))]
 ·
  have h1' : s.size ≠ 0 := fun h => h1 ((toList_nil s).2 h)
  rw [if_neg h1]
  simp only [name_Kind.j0]
  by_cases h2 : (s.size : Int) > 8
  ·
   rw [if_pos (by simpa using h2), kindS_bad (s := s) (.inr (by omega))]
  ·
   rw [if_neg (by simpa using h2), if_pos (by omega), sign_at _ _ (by omega)]
   simp only [Option.bind_some]
   rw [kind_loop s _ (by omega) s.size k 0 (by omega) (by omega) (by omega), kind_eq s (by omega) (by omega)]
end Go.Proofs.Ytdlkhpfgkghhmaa.P

-- ==== PLb
/- Plain laws, part b: a list of cells as terms one behind the other; whether it is a term (both ways come to one function). -/
namespace Go.Proofs.Ytdlkhpfgkghhmaa.P
open Go.RowKit Go.Proofs.YtdlkhpfgkghhmaaW.PrintWords

abbrev Cel := S54
instance celEq : DecidableEq Cel := fun a b =>
 if h : a.f0 = b.f0 ∧ a.f1 = b.f1 then isTrue (by cases a; cases b; simp only at h; rw [h.1, h.2]) else isFalse (fun e => h (by rw [e]; exact ⟨rfl, rfl⟩))
theorem drop_cons {α : Type} {t : List α} {n : Nat} {c : α} {s : List α} (h : t.drop n = c :: s) : n < t.length ∧ (∀ d, t.getD n d = c) ∧ t.drop (n + 1) = s := by
 have h1 : n < t.length := by
  rcases Nat.lt_or_ge n t.length with h1 | h1
  ·
   exact h1
  ·
   rw [List.drop_eq_nil_of_le h1] at h
   cases h
 rw [List.drop_eq_getElem_cons h1] at h
 injection h with h2 h3
 exact ⟨h1, fun d => by rw [List.getD_eq_getElem?_getD, List.getElem?_eq_getElem h1]; exact h2, h3⟩
theorem drop_nil_len {α : Type} {t : List α} {n : Nat} (hn : n ≤ t.length) (h : t.drop n = []) : n = t.length := by
 have := congrArg List.length h
 simp at this
 omega
theorem rd_cel {t : List Cel} {n : Nat} {c : Cel} {s : List Cel} (h : t.drop n = c :: s) : rd_T54 t (n : Int) = c := by
 unfold rd_T54
 exact (drop_cons h).2.1 _

def ar (c : Cel) : Nat := c.f1.toNat
def cellErr (c : Cel) : Int := if kindS c.f0 = 0 then 4 else if c.f1 < 0 then 5 else if c.f1 > 4 then 5 else if kindS c.f0 = 2 then (if c.f1 > 0 then 5 else 0) else 0
def errs : List Cel → Int
 | [] => 0
 | c :: l => if cellErr c = 0 then errs l else cellErr c
def segN : List Cel → Nat → Option (List Cel)
 | l, 0 => some l
 | [], _ + 1 => none
 | c :: l, n + 1 => segN l (n + ar c)
def checkS (t : List Cel) : Int := if t.length > 64 then 6 else if errs t = 0 then (if segN t 1 = some [] then 0 else 3) else errs t

theorem segN_zero (l : List Cel) : segN l 0 = some l := by cases l <;> rfl
theorem segN_add : ∀ (l : List Cel) (a b : Nat), segN l (a + b) = (segN l a).bind fun r => segN r b
 | l, 0, b => by rw [segN_zero]; simp
 | [], a + 1, b => by rw [show a + 1 + b = (a + b) + 1 by omega]; rfl
 | c :: l, a + 1, b => by
  rw [show a + 1 + b = (a + b) + 1 by omega]
  show segN l (a + b + ar c) = (segN l (a + ar c)).bind _
  rw [show a + b + ar c = (a + ar c) + b by omega]
  exact segN_add l (a + ar c) b
theorem segN_len : ∀ {l r : List Cel} {n : Nat}, segN l n = some r → r.length ≤ l.length ∧ (0 < n → r.length < l.length)
 | l, r, 0, h => by
  rw [segN_zero] at h
  injection h with h
  subst h
  exact ⟨Nat.le_refl _, fun h => absurd h (by omega)⟩
 | [], r, n + 1, h => by cases h
 | c :: l, r, n + 1, h => by
  have := (segN_len (l := l) (r := r) (n := n + ar c) h).1
  simp only [List.length_cons]
  exact ⟨by omega, fun _ => by omega⟩
theorem segN_suffix : ∀ {l r : List Cel} {n : Nat}, segN l n = some r → ∃ m, m ≤ l.length ∧ l.drop m = r
 | l, r, 0, h => by
  rw [segN_zero] at h
  injection h with h
  exact ⟨0, by omega, h⟩
 | [], r, n + 1, h => by cases h
 | c :: l, r, n + 1, h => by
  obtain ⟨m, h1, h2⟩ := segN_suffix (l := l) (r := r) (n := n + ar c) h
  exact ⟨m + 1, by simp; omega, h2⟩

structure Okc (c : Cel) : Prop where
 kind : kindS c.f0 ≠ 0
 lo : 0 ≤ c.f1
 hi : c.f1 ≤ 4
 var : kindS c.f0 = 2 → c.f1 = 0
theorem okc_of {c : Cel} (h : cellErr c = 0) : Okc c := by
 unfold cellErr at h
 by_cases h1 : kindS c.f0 = 0
 ·
  rw [if_pos h1] at h; cases h
 ·
  rw [if_neg h1] at h
  by_cases h2 : c.f1 < 0
  ·
   rw [if_pos h2] at h; cases h
  ·
   rw [if_neg h2] at h
   by_cases h3 : c.f1 > 4
   ·
    rw [if_pos h3] at h; cases h
   ·
    rw [if_neg h3] at h
    refine ⟨h1, by omega, by omega, fun hk => ?_⟩
    rw [if_pos hk] at h
    by_cases h4 : c.f1 > 0
    ·
     rw [if_pos h4] at h; cases h
    ·
     omega
theorem errs_ok : ∀ {l : List Cel}, errs l = 0 → ∀ c ∈ l, Okc c
 | [], _, _, h => by cases h
 | a :: l, h, c, hc => by
  unfold errs at h
  by_cases h1 : cellErr a = 0
  ·
   rw [if_pos h1] at h
   rcases List.mem_cons.1 hc with rfl | hc
   ·
    exact okc_of h1
   ·
    exact errs_ok h c hc
  ·
   rw [if_neg h1] at h
   exact absurd h h1
/-! ### the program's: behind, Check -/
theorem ev_cell (c : Cel) : Ev (fun k => term_cell.f k c.f0 c.f1) (cellErr c) := by
 unfold term_cell.f
 refine Ev.bind (ev_kind c.f0) ?_
 refine Ev.congr (f := fun _ => some (cellErr c)) (fun k => ?_) (Ev.now _)
 unfold cellErr
 simp only [apply_ite some]
def behS (t : List Cel) (a n : Nat) : Int := match segN (t.drop a) n with
 | none => -1
 | some r => ((t.length - r.length : Nat) : Int)
theorem ev_behind_loop (t : List Cel) (ht : t.length ≤ 64) (hok : ∀ c ∈ t, Okc c) : ∀ (s : List Cel) (a n : Nat), a ≤ t.length → t.drop a = s → n ≤ 1 + 4 * a →
 Ev (fun k => term_behind.l0 k t (a : Int) (n : Int)) (behS t a n)
 | s, a, 0, ha, hs, hn => by
  refine Ev.step (f := fun _ => some (a : Int)) (fun k => by simp only [term_behind.l0]; rw [if_neg (by omega)]) ?_
  have : behS t a 0 = (a : Int) := by
   unfold behS
   rw [segN_zero]
   simp only [List.length_drop]
   omega
  rw [this]
  exact Ev.now _
 | [], a, n + 1, ha, hs, hn => by
  have hl := drop_nil_len ha hs
  refine Ev.step (f := fun _ => some (-1 : Int)) (fun k => by simp only [term_behind.l0]; rw [if_pos (by omega), if_pos (by omega)]) ?_
  have : behS t a (n + 1) = -1 := by
   unfold behS
   rw [hs]
   rfl
  rw [this]
  exact Ev.now _
 | c :: s, a, n + 1, ha, hs, hn => by
  obtain ⟨h1, h2, h3⟩ := drop_cons hs
  have hc : Okc c := hok c (List.mem_of_mem_drop (hs ▸ List.mem_cons_self ..))
  have har : (ar c : Int) = c.f1 := by unfold ar; have := hc.lo; omega
  have hh := hc.hi
  have hl0 := hc.lo
  refine Ev.step (f := fun k => term_behind.l0 k t ((a + 1 : Nat) : Int) ((n + ar c : Nat) : Int)) (fun k => ?_) ?_
  ·
   simp only [term_behind.l0]
   rw [if_pos (by omega), if_neg (by omega), if_pos (by omega), if_pos (by omega), rd_cel hs, wrap_up (by omega) (by omega)]
   have e : wrap64 (((n + 1 : Nat) : Int) + wrap64 (c.f1 - 1)) = ((n + ar c : Nat) : Int) := by
    rw [wrap_id (i := c.f1 - 1) (by omega) (by omega), wrap_id (by omega) (by omega)]
    omega
   rw [e]
   rfl
  ·
   have : behS t a (n + 1) = behS t (a + 1) (n + ar c) := by
    unfold behS
    rw [hs, h3]
    rfl
   rw [this]
   exact ev_behind_loop t ht hok s (a + 1) (n + ar c) (by omega) h3 (by omega)
theorem ev_behind (t : List Cel) (ht : t.length ≤ 64) (hok : ∀ c ∈ t, Okc c) (a : Nat) (ha : a ≤ t.length) : Ev (fun k => term_behind.f k t (a : Int)) (behS t a 1) := by
 unfold term_behind.f
 exact ev_behind_loop t ht hok _ a 1 ha rfl (by omega)
theorem behS_whole (t : List Cel) : (behS t 0 1 = (t.length : Int)) ↔ segN t 1 = some [] := by
 unfold behS
 rw [List.drop_zero]
 cases h : segN t 1 with
 | none => simp
 | some r =>
  have := segN_len h
  simp only [Option.some.injEq]
  constructor
  ·
   intro h1
   apply List.eq_nil_of_length_eq_zero
   omega
  ·
   rintro rfl
   simp
theorem ev_check_loop (t : List Cel) (ht : t.length ≤ 64) : ∀ (s : List Cel) (a : Nat), a ≤ t.length → t.drop a = s → (∀ c ∈ t.take a, Okc c) →
 Ev (fun k => term_Check.l0 k t t (t.length : Int) (a : Int)) (if errs s = 0 then (if segN t 1 = some [] then 0 else 3) else errs s)
 | [], a, ha, hs, hok => by
  have hl := drop_nil_len ha hs
  rw [hl, List.take_length] at hok
  refine Ev.step (f := fun k => (term_behind.f k t 0).bind fun r => (if r = (t.length : Int) then (some 0) else (some 3))) (fun k => by simp only [term_Check.l0]; rw [if_neg (by omega)]) ?_
  refine Ev.bind (ev_behind t ht hok 0 (by omega)) ?_
  refine Ev.congr (f := fun _ => some (if segN t 1 = some [] then 0 else 3)) (fun k => ?_) (Ev.now _)
  by_cases h : segN t 1 = some []
  ·
   rw [if_pos ((behS_whole t).2 h), if_pos h]
  ·
   rw [if_neg (fun h' => h ((behS_whole t).1 h')), if_neg h]
 | c :: s, a, ha, hs, hok => by
  obtain ⟨h1, h2, h3⟩ := drop_cons hs
  refine Ev.step (f := fun k => (term_cell.f k c.f0 c.f1).bind fun e => (if e = 0 then (term_Check.l0 k t t (t.length : Int) ((a + 1 : Nat) : Int)) else (some e))) (fun k => ?_) ?_
  ·
   simp only [term_Check.l0]
   rw [if_pos (by omega), if_pos (by omega), if_pos (by omega), rd_cel hs, wrap_up (by omega) (by omega)]
   rfl
  ·
   refine Ev.bind (ev_cell c) ?_
   by_cases he : cellErr c = 0
   ·
    refine Ev.congr (f := fun k => term_Check.l0 k t t (t.length : Int) ((a + 1 : Nat) : Int)) (fun k => by rw [if_pos he]) ?_
    have : errs (c :: s) = errs s := by simp only [errs]; rw [if_pos he]
    rw [this]
    refine ev_check_loop t ht s (a + 1) (by omega) h3 (fun x hx => ?_)
    rw [List.take_succ_eq_append_getElem h1] at hx
    rcases List.mem_append.1 hx with hx | hx
    ·
     exact hok x hx
    ·
     have hce : t[a] = c := by have := h2 c; rw [List.getD_eq_getElem?_getD, List.getElem?_eq_getElem h1] at this; exact this
     rw [List.mem_singleton.1 hx, hce]
     exact okc_of he
   ·
    refine Ev.congr (f := fun _ => some (cellErr c)) (fun k => by rw [if_neg he]) ?_
    have : errs (c :: s) = cellErr c := by simp only [errs]; rw [if_neg he]
    rw [this, if_neg he]
    exact Ev.now _
theorem ev_check (t : List Cel) : Ev (fun k => term_Check.f k t) (checkS t) := by
 unfold term_Check.f checkS
 by_cases h : t.length > 64
 ·
  rw [if_pos h]
  exact Ev.congr (f := fun _ => some 6) (fun k => if_pos (by omega)) (Ev.now _)
 ·
  rw [if_neg h]
  exact Ev.congr (f := fun k => term_Check.l0 k t t (t.length : Int) ((0 : Nat) : Int)) (fun k => if_neg (by omega)) (ev_check_loop t (by omega) t 0 (by omega) rfl (by simp))

/-! ### the document's: Behind, Check -/
theorem ev_refBehind_at : ∀ (d : Nat) (t : List Cel) (ht : t.length ≤ 64) (hok : ∀ c ∈ t, Okc c) (a : Nat), t.length - a = d → a ≤ t.length → Ev (fun k => aumbryref04_Behind.f k t (a : Int)) (behS t a 1) := by
 intro d
 induction d using Nat.strongRecOn with
 | _ d ih =>
 intro t ht hok a hd ha
 rcases hs : t.drop a with _ | ⟨c, s⟩
 ·
  have hl := drop_nil_len ha hs
  refine Ev.step (f := fun k => aumbryref04_Behind.j0 k t (a : Int) true) (fun k => by simp only [aumbryref04_Behind.f]; rw [if_neg (by omega)]; congr 1; simp; omega) ?_
  refine Ev.step (f := fun k => some (-1)) (fun k => by simp only [aumbryref04_Behind.j0]; rfl) ?_
  have : behS t a 1 = -1 := by
   unfold behS
   rw [hs]
   rfl
  rw [this]
  exact Ev.now _
 ·
  obtain ⟨h1, h2, h3⟩ := drop_cons hs
  have hc : Okc c := hok c (List.mem_of_mem_drop (hs ▸ List.mem_cons_self ..))
  have har : (ar c : Int) = c.f1 := by unfold ar; have := hc.lo; omega
  have hh := hc.hi
  have hl0 := hc.lo
  refine Ev.step (f := fun k => aumbryref04_Behind.j0 k t (a : Int) false) (fun k => by simp only [aumbryref04_Behind.f]; rw [if_neg (by omega)]; congr 1; simp; omega) ?_
  refine Ev.step (f := fun k => aumbryref04_Behind.l0 k t ((a + 1 : Nat) : Int) (ar c : Int) 0) (fun k => by
   simp only [aumbryref04_Behind.j0]
   rw [if_neg (by simp), if_pos (by omega), if_pos (by omega), rd_cel hs, wrap_up (by omega) (by omega), har]
   rfl) ?_
  have loop : ∀ (m : Nat) (b i : Nat), t.length - b < d → b ≤ t.length → i + m = ar c → Ev (fun k => aumbryref04_Behind.l0 k t (b : Int) (ar c : Int) (i : Int)) (behS t b m) := by
   intro m
   induction m with
   | zero =>
    intro b i hb hbl hi
    refine Ev.step (f := fun _ => some (b : Int)) (fun k => by simp only [aumbryref04_Behind.l0]; rw [if_neg (by omega)]) ?_
    have : behS t b 0 = (b : Int) := by
     unfold behS
     rw [segN_zero]
     simp only [List.length_drop]
     omega
    rw [this]
    exact Ev.now _
   | succ m ihm =>
    intro b i hb hbl hi
    refine Ev.step (f := fun k => (aumbryref04_Behind.f k t (b : Int)).bind fun r => aumbryref04_Behind.l0 k t r (ar c : Int) ((i + 1 : Nat) : Int)) (fun k => by
     simp only [aumbryref04_Behind.l0]
     rw [if_pos (by omega), if_pos (by omega), wrap_up (by omega) (by omega)]
     rfl) ?_
    refine Ev.bind (ih _ hb t ht hok b rfl hbl) ?_
    have hadd : segN (t.drop b) (m + 1) = (segN (t.drop b) 1).bind fun r => segN r m := by rw [show m + 1 = 1 + m by omega]; exact segN_add _ _ _
    cases hr : segN (t.drop b) 1 with
    | none =>
     have e1 : behS t b 1 = -1 := by unfold behS; rw [hr]
     have e2 : behS t b (m + 1) = -1 := by unfold behS; rw [hadd, hr]; rfl
     rw [e1, e2]
     refine Ev.step (f := fun _ => some (-1 : Int)) (fun k => ?_) (Ev.now _)
     simp only [aumbryref04_Behind.l0]
     split <;> simp
    | some r =>
     obtain ⟨q, hq1, hq2⟩ := segN_suffix hr
     rw [List.drop_drop] at hq2
     have hlen := segN_len hr
     simp only [List.length_drop] at hlen hq1
     have hrl : r.length = t.length - (b + q) := by rw [← hq2, List.length_drop]
     have e1 : behS t b 1 = ((b + q : Nat) : Int) := by unfold behS; rw [hr]; simp only; omega
     have e2 : behS t b (m + 1) = behS t (b + q) m := by unfold behS; rw [hadd, hr, hq2]; rfl
     rw [e1, e2]
     exact ihm (b + q) (i + 1) (by omega) (by omega) (by omega)
  have : behS t a 1 = behS t (a + 1) (ar c) := by
   unfold behS
   rw [hs, h3]
   show (match segN s (0 + ar c) with | none => (-1 : Int) | some r => _) = _
   rw [Nat.zero_add]
  rw [this]
  exact loop (ar c) (a + 1) 0 (by omega) (by omega) (by omega)
theorem ev_refBehind (t : List Cel) (ht : t.length ≤ 64) (hok : ∀ c ∈ t, Okc c) (a : Nat) (ha : a ≤ t.length) : Ev (fun k => aumbryref04_Behind.f k t (a : Int)) (behS t a 1) := ev_refBehind_at _ t ht hok a rfl ha
theorem ev_refCheck_loop (t : List Cel) (ht : t.length ≤ 64) : ∀ (s : List Cel) (a : Nat), a ≤ t.length → t.drop a = s → (∀ c ∈ t.take a, Okc c) →
 Ev (fun k => aumbryref04_Check.l0 k t (t.length : Int) (a : Int)) (if errs s = 0 then (if segN t 1 = some [] then 0 else 3) else errs s)
 | [], a, ha, hs, hok => by
  have hl := drop_nil_len ha hs
  rw [hl, List.take_length] at hok
  refine Ev.step (f := fun k => (aumbryref04_Behind.f k t 0).bind fun r => (if r = (t.length : Int) then (some 0) else (some 3))) (fun k => by simp only [aumbryref04_Check.l0]; rw [if_neg (by omega)]) ?_
  refine Ev.bind (ev_refBehind t ht hok 0 (by omega)) ?_
  refine Ev.congr (f := fun _ => some (if segN t 1 = some [] then 0 else 3)) (fun k => ?_) (Ev.now _)
  by_cases h : segN t 1 = some []
  ·
   rw [if_pos ((behS_whole t).2 h), if_pos h]
  ·
   rw [if_neg (fun h' => h ((behS_whole t).1 h')), if_neg h]
 | c :: s, a, ha, hs, hok => by
  obtain ⟨h1, h2, h3⟩ := drop_cons hs
  refine Ev.step (f := fun k => (aumbryref03_Kind.f k c.f0).bind fun e => (if e = 0 then (some 4) else (if c.f1 < 0 then (some 5) else (if c.f1 > 4 then (some 5) else (if e = 2 then (if c.f1 = 0 then (aumbryref04_Check.l0 k t (t.length : Int) ((a + 1 : Nat) : Int)) else (some 5)) else (aumbryref04_Check.l0 k t (t.length : Int) ((a + 1 : Nat) : Int))))))) (fun k => ?_) ?_
  ·
   simp only [aumbryref04_Check.l0]
   rw [if_pos (by omega), if_pos (by omega), if_pos (by omega), rd_cel hs, wrap_up (by omega) (by omega)]
   rfl
  ·
   refine Ev.bind (ev_refKind c.f0) ?_
   by_cases he : cellErr c = 0
   ·
    have ho := okc_of he
    have h4 := ho.hi
    have h0 := ho.lo
    refine Ev.congr (f := fun k => aumbryref04_Check.l0 k t (t.length : Int) ((a + 1 : Nat) : Int)) (fun k => ?_) ?_
    ·
     rw [if_neg ho.kind, if_neg (by omega), if_neg (by omega)]
     by_cases hv : kindS c.f0 = 2
     ·
      rw [if_pos hv, if_pos (ho.var hv)]
     ·
      rw [if_neg hv]
    have : errs (c :: s) = errs s := by simp only [errs]; rw [if_pos he]
    rw [this]
    refine ev_refCheck_loop t ht s (a + 1) (by omega) h3 (fun x hx => ?_)
    rw [List.take_succ_eq_append_getElem h1] at hx
    rcases List.mem_append.1 hx with hx | hx
    ·
     exact hok x hx
    ·
     have hce : t[a] = c := by have := h2 c; rw [List.getD_eq_getElem?_getD, List.getElem?_eq_getElem h1] at this; exact this
     rw [List.mem_singleton.1 hx, hce]
     exact ho
   ·
    refine Ev.congr (f := fun _ => some (cellErr c)) (fun k => ?_) ?_
    ·
     unfold cellErr at he ⊢
     by_cases e1 : kindS c.f0 = 0
     ·
      rw [if_pos e1, if_pos e1]
     ·
      rw [if_neg e1] at he
      rw [if_neg e1, if_neg e1]
      by_cases e2 : c.f1 < 0
      ·
       rw [if_pos e2, if_pos e2]
      ·
       rw [if_neg e2] at he
       rw [if_neg e2, if_neg e2]
       by_cases e3 : c.f1 > 4
       ·
        rw [if_pos e3, if_pos e3]
       ·
        rw [if_neg e3] at he
        rw [if_neg e3, if_neg e3]
        by_cases e4 : kindS c.f0 = 2
        ·
         rw [if_pos e4] at he
         rw [if_pos e4, if_pos e4]
         by_cases e5 : c.f1 > 0
         ·
          rw [if_pos e5, if_neg (by omega)]
         ·
          rw [if_neg e5] at he
          exact absurd rfl he
        ·
         rw [if_neg e4] at he
         exact absurd rfl he
    ·
     have : errs (c :: s) = cellErr c := by simp only [errs]; rw [if_neg he]
     rw [this, if_neg he]
     exact Ev.now _
theorem ev_refCheck (t : List Cel) : Ev (fun k => aumbryref04_Check.f k t) (checkS t) := by
 unfold aumbryref04_Check.f checkS
 by_cases h : t.length > 64
 ·
  rw [if_pos h]
  exact Ev.congr (f := fun _ => some 6) (fun k => if_pos (by omega)) (Ev.now _)
 ·
  rw [if_neg h]
  exact Ev.congr (f := fun k => aumbryref04_Check.l0 k t (t.length : Int) ((0 : Nat) : Int)) (fun k => if_neg (by omega)) (ev_refCheck_loop t (by omega) t 0 (by omega) rfl (by simp))
end Go.Proofs.Ytdlkhpfgkghhmaa.P

-- ==== PLs
/- Plain laws: lists of cells as terms, taken apart (for chapters without match). -/
namespace Go.Proofs.Ytdlkhpfgkghhmaa.P
open Go.RowKit Go.Proofs.YtdlkhpfgkghhmaaW.PrintWords

def fstT (t r : List Cel) : List Cel := t.take (t.length - r.length)
theorem segN_append : ∀ {l r : List Cel} {n : Nat} (q : List Cel), segN l n = some r → segN (l ++ q) n = some (r ++ q)
 | l, r, 0, q, h => by
  rw [segN_zero] at h ⊢
  injection h with h
  rw [h]
 | [], r, n + 1, q, h => by cases h
 | c :: l, r, n + 1, q, h => segN_append (l := l) (r := r) (n := n + ar c) q h
theorem segN_split {t : List Cel} {n : Nat} (h : segN t (n + 1) = some []) : ∃ r, segN t 1 = some r ∧ segN r n = some [] := by
 rw [show n + 1 = 1 + n by omega, segN_add] at h
 cases hr : segN t 1 with
 | none => rw [hr] at h; cases h
 | some r => rw [hr] at h; exact ⟨r, rfl, h⟩
theorem segN_fst {t r : List Cel} {n : Nat} (h : segN t n = some r) : t = fstT t r ++ r ∧ segN (fstT t r) n = some [] := by
 obtain ⟨m, hm, hd⟩ := segN_suffix h
 have hl : r.length = t.length - m := by rw [← hd, List.length_drop]
 have he : fstT t r = t.take m := by unfold fstT; rw [show t.length - r.length = m by omega]
 rw [he]
 refine ⟨by rw [← hd]; exact (List.take_append_drop m t).symm, ?_⟩
 have : ∀ (l : List Cel) (n m : Nat), m ≤ l.length → segN l n = some (l.drop m) → segN (l.take m) n = some [] := by
  intro l
  induction l with
  | nil =>
   intro n m hm h
   have hm0 : m = 0 := by simpa using hm
   subst hm0
   simpa using h
  | cons c l ih =>
   intro n m hm h
   cases n with
   | zero =>
    rw [segN_zero] at h ⊢
    injection h with h
    have := congrArg List.length h
    simp only [List.length_cons, List.length_drop] at this
    have hm0 : m = 0 := by simp at hm; omega
    rw [hm0]
    rfl
   | succ n =>
    cases m with
    | zero =>
     have := segN_len h
     simp at this
    | succ m =>
     simp only [List.drop_succ_cons] at h
     exact ih (n + ar c) m (by simpa using hm) h
 rw [← hd] at h
 exact this t n m hm h

theorem bytes_eq (a b : ByteArray) : a.toList = b.toList ↔ a = b := by
 rw [ByteArray.toList_eq, ByteArray.toList_eq]
 constructor
 ·
  intro h
  cases a; cases b
  simp only [ByteArray.mk.injEq]
  exact Array.toList_inj.1 h
 ·
  intro h
  rw [h]
theorem cel_ne (c d : Cel) : ((!((c.f0.toList) == (d.f0.toList)) || (!(c.f1 == d.f1))) = true) ↔ c ≠ d := by
 cases c with | mk a b => cases d with | mk a' b' =>
 simp only [Bool.or_eq_true, Bool.not_eq_true', beq_eq_false_iff_ne, ne_eq, bytes_eq, S54.mk.injEq]
 by_cases h : a = a' <;> simp [h]
theorem ev_cels_loop (F : Nat → List Cel → List Cel → Int → Int → Option Bool)
 (hF : ∀ k x y n i, F (k + 1) x y n i = if i < n then (if 0 ≤ i then (if i < (x.length : Int) then (if i < (y.length : Int) then (if (!((((rd_T54 x i).f0).toList) == (((rd_T54 y i).f0).toList)) || (!(((rd_T54 x i).f1) == ((rd_T54 y i).f1)))) = true then (some false) else (F k x y n (wrap64 (i + 1)))) else (none)) else (none)) else (none)) else (some true))
 (x y : List Cel) (hl : x.length = y.length) (hb : x.length ≤ 9223372036854775806) : ∀ (s u : List Cel) (a : Nat), a ≤ x.length → x.drop a = s → y.drop a = u → Ev (fun k => F k x y (x.length : Int) (a : Int)) (decide (s = u))
 | [], u, a, ha, hs, hu => by
  have h1 := drop_nil_len ha hs
  have h2 : u = [] := by rw [← hu]; exact List.drop_eq_nil_of_le (by omega)
  refine Ev.step (f := fun _ => some true) (fun k => by rw [hF, if_neg (by omega)]) ?_
  rw [h2]
  exact Ev.now _
 | c :: s, u, a, ha, hs, hu => by
  obtain ⟨h1, _, h3⟩ := drop_cons hs
  rcases u with _ | ⟨d, u⟩
  ·
   have := drop_nil_len (by omega) hu
   omega
  obtain ⟨_, _, h4⟩ := drop_cons hu
  by_cases hcd : c = d
  ·
   refine Ev.step (f := fun k => F k x y (x.length : Int) ((a + 1 : Nat) : Int)) (fun k => by
    rw [hF, if_pos (by omega), if_pos (by omega), if_pos (by omega), if_pos (by omega), rd_cel hs, rd_cel hu, if_neg (fun h => (cel_ne c d).1 h hcd), wrap_up (by omega) (by omega)]
    rfl) ?_
   have : decide (c :: s = d :: u) = decide (s = u) := by subst hcd; simp
   rw [this]
   exact ev_cels_loop F hF x y hl hb s u (a + 1) (by omega) h3 h4
  ·
   refine Ev.step (f := fun _ => some false) (fun k => by
    rw [hF, if_pos (by omega), if_pos (by omega), if_pos (by omega), if_pos (by omega), rd_cel hs, rd_cel hu, if_pos ((cel_ne c d).2 hcd)]) ?_
   have : decide (c :: s = d :: u) = false := by simp [hcd]
   rw [this]
   exact Ev.now _
theorem ev_refSame4 (x y : List Cel) (hb : x.length ≤ 9223372036854775806 ∨ y.length ≤ 9223372036854775806) : Ev (fun k => aumbryref04_Same.f k x y) (decide (x = y)) := by
 unfold aumbryref04_Same.f
 by_cases h : (x.length : Int) = (y.length : Int)
 ·
  exact Ev.congr (f := fun k => aumbryref04_Same.l0 k x y (x.length : Int) ((0 : Nat) : Int)) (fun k => by rw [if_pos h]; rfl) (ev_cels_loop _ (fun k x y n i => rfl) x y (by omega) (by omega) x y 0 (by omega) rfl rfl)
 ·
  refine Ev.congr (f := fun _ => some (decide (x = y))) (fun k => ?_) (Ev.now _)
  rw [if_neg h]
  congr 1
  rw [Eq.comm, decide_eq_false_iff_not]
  rintro rfl
  exact h rfl
theorem clone_at (x : List Cel) (h : x.length < 5864062014805) : api_Cell_71.f x = some x := by
 unfold api_Cell_71.f
 rw [if_pos (by simpa using h)]
 rfl
theorem copy_at (x : List Cel) (h : x.length < 5864062014805) : aumbryref04_Copy.f x = some x := by
 unfold aumbryref04_Copy.f
 rw [if_pos (by simpa using h)]
 rfl

theorem checkS_ok {t : List Cel} (h : checkS t = 0) : t.length ≤ 64 ∧ (∀ c ∈ t, Okc c) ∧ segN t 1 = some [] := by
 unfold checkS at h
 by_cases h1 : t.length > 64
 ·
  rw [if_pos h1] at h
  cases h
 ·
  rw [if_neg h1] at h
  by_cases h2 : errs t = 0
  ·
   rw [if_pos h2] at h
   by_cases h3 : segN t 1 = some []
   ·
    exact ⟨by omega, errs_ok h2, h3⟩
   ·
    rw [if_neg h3] at h
    cases h
  ·
   rw [if_neg h2] at h
   exact absurd h h2
def splitT : Nat → List Cel → List (List Cel)
 | 0, _ => []
 | n + 1, l => match segN l 1 with
  | none => []
  | some r => fstT l r :: splitT n r
def kidsS : List Cel → List (List Cel)
 | [] => []
 | c :: l => splitT (ar c) l
theorem splitT_spec : ∀ (n : Nat) (l : List Cel), segN l n = some [] → (splitT n l).flatten = l ∧ (splitT n l).length = n ∧ ∀ a ∈ splitT n l, segN a 1 = some []
 | 0, l, h => by
  rw [segN_zero] at h
  injection h with h
  subst h
  exact ⟨rfl, rfl, fun a ha => by cases ha⟩
 | n + 1, l, h => by
  obtain ⟨r, h1, h2⟩ := segN_split h
  obtain ⟨g1, g2, g3⟩ := splitT_spec n r h2
  have hf := segN_fst h1
  simp only [splitT, h1, List.flatten_cons, List.length_cons, List.mem_cons]
  refine ⟨by rw [g1]; exact hf.1.symm, by omega, fun a ha => ?_⟩
  rcases ha with rfl | ha
  ·
   exact hf.2
  ·
   exact g3 a ha
theorem cellErr_okc {c : Cel} (h : Okc c) : cellErr c = 0 := by
 unfold cellErr
 have h1 := h.lo
 have h2 := h.hi
 rw [if_neg h.kind, if_neg (by omega), if_neg (by omega)]
 by_cases hk : kindS c.f0 = 2
 ·
  rw [if_pos hk, if_neg (by have := h.var hk; omega)]
 ·
  rw [if_neg hk]
theorem ok_errs : ∀ {l : List Cel}, (∀ c ∈ l, Okc c) → errs l = 0
 | [], _ => rfl
 | a :: l, h => by
  unfold errs
  rw [if_pos (cellErr_okc (h a (List.mem_cons_self ..)))]
  exact ok_errs fun c hc => h c (List.mem_cons_of_mem _ hc)
theorem checkS_of {t : List Cel} (h1 : t.length ≤ 64) (h2 : ∀ c ∈ t, Okc c) (h3 : segN t 1 = some []) : checkS t = 0 := by
 unfold checkS
 rw [if_neg (by omega), if_pos (ok_errs h2), if_pos h3]
theorem mem_fstT {t r : List Cel} {c : Cel} (h : c ∈ fstT t r) : c ∈ t := List.mem_of_mem_take h
theorem seg_at : ∀ (t : List Cel) (n a : Nat), segN t n = some [] → a < t.length → ∃ m, segN (t.drop a) (m + 1) = some []
 | [], _, a, _, ha => by simp at ha
 | c :: l, 0, a, h, ha => by rw [segN_zero] at h; injection h with h; cases h
 | c :: l, n + 1, 0, h, ha => ⟨n, h⟩
 | c :: l, n + 1, a + 1, h, ha => by
  have h' : segN l (n + ar c) = some [] := h
  exact seg_at l (n + ar c) a h' (by simpa using ha)
theorem seg_one {t : List Cel} {n a : Nat} (h : segN t n = some []) (ha : a < t.length) : ∃ r, segN (t.drop a) 1 = some r := by
 obtain ⟨m, hm⟩ := seg_at t n a h ha
 obtain ⟨r, hr, _⟩ := segN_split hm
 exact ⟨r, hr⟩
end Go.Proofs.Ytdlkhpfgkghhmaa.P

-- ==== PLz
/- Plain laws: places in lists, sizes that came in. -/
namespace Go.Proofs.Ytdlkhpfgkghhmaa.P
open Go.RowKit Go.Proofs.YtdlkhpfgkghhmaaW.PrintWords
theorem sz_len {l : List Cel} (h : sz23 l) : l.length < 5864062014805 := by
 have := h.1
 omega
theorem rd_trm {t : List (List Cel)} {n : Nat} {c : List Cel} {s : List (List Cel)} (h : t.drop n = c :: s) : rd_L3 t (n : Int) = c := by
 unfold rd_L3
 exact (drop_cons h).2.1 _
theorem up_cast (a : Nat) (h : a < 9223372036854775807) : wrap64 ((a : Int) + 1) = ((a + 1 : Nat) : Int) := by rw [wrap_up (by omega) (by omega)]; rfl
theorem checkS_len {t : List Cel} (h : checkS t = 0) : t.length ≤ 64 := (checkS_ok h).1
end Go.Proofs.Ytdlkhpfgkghhmaa.P

-- ==== PL7v
/- Plain laws: a term's variables and its arguments: the program's answers and the document's (for chapters without texts of terms). -/
namespace Go.Proofs.Ytdlkhpfgkghhmaa.P
open Go.RowKit Go.Proofs.YtdlkhpfgkghhmaaW.PrintWords
/-! ### lists of texts -/
instance txtMem (a : ByteArray) (l : List ByteArray) : Decidable (a ∈ l) :=
 if h : l.any (fun b => decide (a = b)) = true then isTrue (by obtain ⟨b, h1, h2⟩ := List.any_eq_true.1 h; rw [of_decide_eq_true h2]; exact h1) else isFalse (fun h1 => h (List.any_eq_true.2 ⟨a, h1, decide_eq_true rfl⟩))
theorem rd_txt {t : List ByteArray} {n : Nat} {c : ByteArray} {s : List ByteArray} (h : t.drop n = c :: s) : rdOf ByteArray.empty t (n : Int) = c := by
 unfold rdOf
 exact (drop_cons h).2.1 _
theorem ev_index_loop (l : List ByteArray) (a : ByteArray) (hl : l.length ≤ 9223372036854775806) : ∀ (u : List ByteArray) (i : Nat), i ≤ l.length → l.drop i = u →
 ∃ r, Ev (fun k => slices_Index_string_string.l0 k l a (l.length : Int) (i : Int)) r ∧ decide (r ≥ 0) = decide (a ∈ u)
 | [], i, hi, hu => by
  have h1 := drop_nil_len hi hu
  refine ⟨-1, Ev.step (fun k => (show slices_Index_string_string.l0 (k + 1) l a (l.length : Int) (i : Int) = _ from by rw [slices_Index_string_string.l0])) ?_, by simp⟩
  exact evIfn (by omega) (Ev.now _)
 | b :: u, i, hi, hu => by
  obtain ⟨h1, _, h3⟩ := drop_cons hu
  by_cases hab : a.toList = b.toList
  ·
   refine ⟨(i : Int), Ev.step (fun k => (show slices_Index_string_string.l0 (k + 1) l a (l.length : Int) (i : Int) = _ from by rw [slices_Index_string_string.l0])) ?_, ?_⟩
   ·
    refine evIfp (by omega) (evIfp (by omega) (evIfp (by omega) ?_))
    rw [rd_txt hu]
    exact evIfp hab (Ev.now _)
   ·
    rw [(bytes_eq a b).1 hab]
    simp
  ·
   obtain ⟨r, hr, he⟩ := ev_index_loop l a hl u (i + 1) (by omega) h3
   refine ⟨r, Ev.step (fun k => (show slices_Index_string_string.l0 (k + 1) l a (l.length : Int) (i : Int) = _ from by rw [slices_Index_string_string.l0])) ?_, ?_⟩
   ·
    refine evIfp (by omega) (evIfp (by omega) (evIfp (by omega) ?_))
    rw [rd_txt hu]
    refine evIfn hab ?_
    rw [up_cast i (by omega)]
    exact hr
   ·
    rw [he]
    have : a ≠ b := fun h => hab (by rw [h])
    simp [this]
theorem ev_contains (l : List ByteArray) (a : ByteArray) (hl : l.length ≤ 9223372036854775806) : Ev (fun k => slices_Contains_string_string.f k l a) (decide (a ∈ l)) := by
 unfold slices_Contains_string_string.f slices_Index_string_string.f
 obtain ⟨r, hr, he⟩ := ev_index_loop l a hl l 0 (by omega) rfl
 refine Ev.bind hr ?_
 rw [he]
 exact Ev.now _
theorem ev_has_loop (l : List ByteArray) (a : ByteArray) (hl : l.length ≤ 9223372036854775806) : ∀ (u : List ByteArray) (i : Nat), i ≤ l.length → l.drop i = u →
 Ev (fun k => aumbryref03_Has.l0 k l a (l.length : Int) (i : Int)) (decide (a ∈ u))
 | [], i, hi, hu => by
  have h1 := drop_nil_len hi hu
  refine Ev.step (fun k => (show aumbryref03_Has.l0 (k + 1) l a (l.length : Int) (i : Int) = _ from by rw [aumbryref03_Has.l0])) ?_
  exact evIfn (by omega) (Ev.now _)
 | b :: u, i, hi, hu => by
  obtain ⟨h1, _, h3⟩ := drop_cons hu
  refine Ev.step (fun k => (show aumbryref03_Has.l0 (k + 1) l a (l.length : Int) (i : Int) = _ from by rw [aumbryref03_Has.l0])) ?_
  refine evIfp (by omega) (evIfp (by omega) (evIfp (by omega) ?_))
  rw [rd_txt hu]
  by_cases hab : b.toList = a.toList
  ·
   have : decide (a ∈ b :: u) = true := by rw [(bytes_eq b a).1 hab]; simp
   rw [this]
   exact evIfp hab (Ev.now _)
  ·
   have : decide (a ∈ b :: u) = decide (a ∈ u) := by
    have : a ≠ b := fun h => hab (by rw [h])
    simp [this]
   rw [this]
   refine evIfn hab ?_
   rw [up_cast i (by omega)]
   exact ev_has_loop l a hl u (i + 1) (by omega) h3
theorem ev_has (l : List ByteArray) (a : ByteArray) (hl : l.length ≤ 9223372036854775806) : Ev (fun k => aumbryref03_Has.f k l a) (decide (a ∈ l)) := by
 unfold aumbryref03_Has.f
 exact ev_has_loop l a hl l 0 (by omega) rfl
/-! ### variables -/
def varsS : List ByteArray → List Cel → List ByteArray
 | out, [] => out
 | out, c :: l => if kindS c.f0 = 2 then (if c.f0 ∈ out then varsS out l else varsS (out ++ [c.f0]) l) else varsS out l
theorem ev_vars_loop (t : List Cel) (ht : t.length ≤ 1000) : ∀ (u : List Cel) (i : Nat) (out : List ByteArray), i ≤ t.length → t.drop i = u → out.length ≤ i →
 Ev (fun k => term_Vars.l0 k out t (t.length : Int) (i : Int)) (varsS out u, 0)
 | [], i, out, hi, hu, ho => by
  have h1 := drop_nil_len hi hu
  refine Ev.step (fun k => (show term_Vars.l0 (k + 1) out t (t.length : Int) (i : Int) = _ from by rw [term_Vars.l0])) ?_
  exact evIfn (by omega) (Ev.now _)
 | c :: u, i, out, hi, hu, ho => by
  obtain ⟨h1, _, h3⟩ := drop_cons hu
  refine Ev.step (fun k => (show term_Vars.l0 (k + 1) out t (t.length : Int) (i : Int) = _ from by rw [term_Vars.l0])) ?_
  refine evIfp (by omega) (evIfp (by omega) (evIfp (by omega) ?_))
  simp only [rd_cel hu, up_cast i (by omega)]
  refine Ev.bind (ev_kind c.f0) ?_
  have hv : varsS out (c :: u) = if kindS c.f0 = 2 then (if c.f0 ∈ out then varsS out u else varsS (out ++ [c.f0]) u) else varsS out u := rfl
  by_cases hk : kindS c.f0 = 2
  ·
   refine evIfp hk ?_
   rw [hv, if_pos hk]
   refine Ev.bind (ev_contains out c.f0 (by omega)) ?_
   by_cases hm : c.f0 ∈ out
   ·
    rw [if_pos hm]
    exact evIfp (decide_eq_true hm) (ev_vars_loop t ht u (i + 1) out (by omega) h3 (by omega))
   ·
    rw [if_neg hm]
    exact evIfn (by simpa using hm) (evIfp (by omega) (ev_vars_loop t ht u (i + 1) (out ++ [c.f0]) (by omega) h3 (by simp; omega)))
  ·
   refine evIfn hk ?_
   rw [hv, if_neg hk]
   exact ev_vars_loop t ht u (i + 1) out (by omega) h3 (by omega)
theorem ev_rvars_loop (t : List Cel) (ht : t.length ≤ 1000) : ∀ (u : List Cel) (i : Nat) (out : List ByteArray), i ≤ t.length → t.drop i = u → out.length ≤ i →
 Ev (fun k => aumbryref04_Vars.l0 k t out (t.length : Int) (i : Int)) (varsS out u)
 | [], i, out, hi, hu, ho => by
  have h1 := drop_nil_len hi hu
  refine Ev.step (fun k => (show aumbryref04_Vars.l0 (k + 1) t out (t.length : Int) (i : Int) = _ from by rw [aumbryref04_Vars.l0])) ?_
  exact evIfn (by omega) (Ev.now _)
 | c :: u, i, out, hi, hu, ho => by
  obtain ⟨h1, _, h3⟩ := drop_cons hu
  refine Ev.step (fun k => (show aumbryref04_Vars.l0 (k + 1) t out (t.length : Int) (i : Int) = _ from by rw [aumbryref04_Vars.l0])) ?_
  refine evIfp (by omega) (evIfp (by omega) (evIfp (by omega) ?_))
  simp only [rd_cel hu, up_cast i (by omega)]
  refine Ev.bind (ev_refKind c.f0) ?_
  have hv : varsS out (c :: u) = if kindS c.f0 = 2 then (if c.f0 ∈ out then varsS out u else varsS (out ++ [c.f0]) u) else varsS out u := rfl
  by_cases hk : kindS c.f0 = 2
  ·
   refine evIfp hk ?_
   rw [hv, if_pos hk]
   refine Ev.bind (ev_has out c.f0 (by omega)) ?_
   by_cases hm : c.f0 ∈ out
   ·
    rw [if_pos hm]
    exact evIfp (decide_eq_true hm) (ev_rvars_loop t ht u (i + 1) out (by omega) h3 (by omega))
   ·
    rw [if_neg hm]
    exact evIfn (by simpa using hm) (evIfp (by omega) (ev_rvars_loop t ht u (i + 1) (out ++ [c.f0]) (by omega) h3 (by simp; omega)))
  ·
   refine evIfn hk ?_
   rw [hv, if_neg hk]
   exact ev_rvars_loop t ht u (i + 1) out (by omega) h3 (by omega)
theorem ev_vars {t : List Cel} (h : checkS t = 0) : Ev (fun k => term_Vars.f k t) (varsS [] t, 0) := by
 have := checkS_len h
 unfold term_Vars.f
 refine Ev.bind (ev_check t) (evIfp h ?_)
 exact ev_vars_loop t (by omega) t 0 [] (by omega) rfl (by simp)
theorem ev_vars_no {t : List Cel} (h : ¬ checkS t = 0) : Ev (fun k => term_Vars.f k t) ([], checkS t) := by
 unfold term_Vars.f
 exact Ev.bind (ev_check t) (evIfn h (Ev.now _))
theorem ev_rvars {t : List Cel} (h : t.length ≤ 1000) : Ev (fun k => aumbryref04_Vars.f k t) (varsS [] t) := by
 unfold aumbryref04_Vars.f
 exact ev_rvars_loop t h t 0 [] (by omega) rfl (by simp)
theorem varsS_len : ∀ (u : List Cel) (out : List ByteArray), (varsS out u).length ≤ out.length + u.length
 | [], out => by simp [varsS]
 | c :: u, out => by
  have hv : varsS out (c :: u) = if kindS c.f0 = 2 then (if c.f0 ∈ out then varsS out u else varsS (out ++ [c.f0]) u) else varsS out u := rfl
  have h1 := varsS_len u out
  have h2 := varsS_len u (out ++ [c.f0])
  rw [hv]
  simp only [List.length_append, List.length_cons, List.length_nil] at h2 ⊢
  split
  ·
   split <;> omega
  ·
   omega
/-! ### the document's arguments -/
theorem ev_rkids_loop (t : List Cel) (ht : t.length ≤ 64) (hok : ∀ c ∈ t, Okc c) : ∀ (n a : Nat) (out : List (List Cel)), a ≤ t.length → segN (t.drop a) n = some [] → out.length ≤ a →
 Ev (fun k => aumbryref04_Kids.l0 k t out (a : Int)) (out ++ splitT n (t.drop a))
 | 0, a, out, ha, hn, ho => by
  rw [segN_zero] at hn
  injection hn with hn
  have := drop_nil_len ha hn
  refine Ev.step (fun k => (show aumbryref04_Kids.l0 (k + 1) t out (a : Int) = _ from by rw [aumbryref04_Kids.l0])) ?_
  refine evIfn (by omega) ?_
  simp only [splitT, List.append_nil]
  exact Ev.now _
 | n + 1, a, out, ha, hn, ho => by
  obtain ⟨r, hr1, hr2⟩ := segN_split hn
  have hlt := (segN_len hr1).2 (by omega)
  rw [List.length_drop] at hlt
  obtain ⟨q, hq, hqr⟩ := segN_suffix hr1
  rw [List.drop_drop] at hqr
  rw [List.length_drop] at hq
  have hrl : r.length = t.length - (a + q) := by rw [← hqr, List.length_drop]
  have hb : behS t a 1 = ((a + q : Nat) : Int) := by
   unfold behS
   rw [hr1]
   simp only
   omega
  have hq0 : 0 < q := by omega
  have hpart : ((t.take (((a + q : Nat) : Int)).toNat).drop ((a : Int)).toNat : List Cel) = fstT (t.drop a) r := by
   unfold fstT
   rw [List.length_drop]
   simp only [Int.toNat_natCast]
   rw [List.drop_take]
   congr 1
   omega
  have hbh := ev_refBehind t ht hok a ha
  rw [hb] at hbh
  refine Ev.step (fun k => (show aumbryref04_Kids.l0 (k + 1) t out (a : Int) = _ from by rw [aumbryref04_Kids.l0])) ?_
  refine evIfp (by omega) ?_
  refine Ev.bind hbh ?_
  refine evIfp (by omega) (evIfp (by omega) (evIfp (by omega) ?_))
  have hfl : (fstT (t.drop a) r).length = q := by unfold fstT; rw [List.length_take, List.length_drop]; omega
  simp only [hpart]
  refine Ev.bind (evIs (copy_at _ (by omega))) ?_
  refine evIfp (by omega) ?_
  refine Ev.bind hbh ?_
  have := ev_rkids_loop t ht hok n (a + q) (out ++ [fstT (t.drop a) r]) (by omega) (by rw [hqr]; exact hr2) (by simp; omega)
  have e : out ++ splitT (n + 1) (t.drop a) = out ++ [fstT (t.drop a) r] ++ splitT n (t.drop (a + q)) := by
   simp only [splitT, hr1, hqr, List.append_assoc, List.singleton_append]
  rw [e]
  exact this
theorem ev_rkids {c : Cel} {l : List Cel} (h1 : (c :: l).length ≤ 64) (h2 : ∀ x ∈ c :: l, Okc x) (h3 : segN l (ar c) = some []) : Ev (fun k => aumbryref04_Kids.f k (c :: l)) (splitT (ar c) l) := by
 unfold aumbryref04_Kids.f
 exact ev_rkids_loop (c :: l) h1 h2 (ar c) 1 [] (by simp) h3 (by simp)
end Go.Proofs.Ytdlkhpfgkghhmaa.P

-- ==== PF35
namespace Go.Proofs.Ytdlkhpfgkghhmaa.P
open Go.RowKit Go.Proofs.YtdlkhpfgkghhmaaW.PrintWords Go.Proofs.YtdlkhpfgkghhmaaW.PrintLast Go.Proofs.YtdlkhpfgkghhmaaW.PrintMore
attribute [local go_sem] max2_int min2_int max_two min_two max_three min_three max_four min_four

/-! ### aumbryref07_Turned: function 35 -/
def aumbryref07_Turned.l0 : Nat → List (S70) → List (S70) → Int → Option ((List (S70)))
 | 0, _, _, _ => none
 | k + 1, x0, x3, x4 => if x4 ≥ 0 then (if 0 ≤ x4 then (if x4 < (x0.length : Int) then (if x3.length < 2513169434916 then (aumbryref07_Turned.l0 k x0 (x3 ++ [(⟨(rd_T70 x0 x4).f0, (⟨(rd_T70 x0 x4).f1.f0, (rd_T70 x0 x4).f1.f1⟩ : S54), (rd_T70 x0 x4).f2⟩ : S70)]) (wrap64 (x4 - 1))) else (none)) else (none)) else (none)) else (some x3)
def aumbryref07_Turned.f (k : Nat) (l0 : List (S70)) : Option ((List (S70))) := aumbryref07_Turned.l0 k l0 ([] : List (S70)) (wrap64 ((l0.length : Int) - 1))

-- ==== PF36

/-! ### aumbryref07_Todo: function 36 -/
mutual
def aumbryref07_Todo.l0 : Nat → List (S54) → List (S104) → List (S70) → List (List (S54)) → Int → Int → Option ((List (S70)))
 | 0, _, _, _, _, _, _ => none
 | k + 1, x0, x1, x5, x6, x26, x27 => if x27 < x26 then (if 0 ≤ x27 then (if x27 < (x6.length : Int) then ((aumbryref07_Todo.f k (rd_L3 x6 x27) x1).bind fun t115 => (if x5.length + t115.length < 2513169434916 then (aumbryref07_Todo.l0 k x0 x1 (x5 ++ t115) x6 x26 (wrap64 (x27 + 1))) else (none))) else (none)) else (none)) else (if 0 < (x0.length : Int) then (if x5.length < 2513169434916 then (some (x5 ++ [(⟨1, (⟨(rd_T54 x0 0).f0, (rd_T54 x0 0).f1⟩ : S54), ([] : List (S54))⟩ : S70)])) else (none)) else (none))
def aumbryref07_Todo.f : Nat → List (S54) → List (S104) → Option ((List (S70)))
 | 0, _, _ => none
 | k + 1, l0, l1 => (aumbryref05_Var.f k l0).bind fun t101 => (if t101 = true then (if 0 < (l0.length : Int) then ((aumbryref05_At.f k l1 ((rd_T54 l0 0).f0)).bind fun t103 => (if 0 ≤ t103 then (if t103 < (l1.length : Int) then ((aumbryref04_Copy.f ((rd_T104 l1 t103).f1)).bind fun t105 => (some (([(⟨2, (⟨(⟨#[]⟩ : ByteArray), 0⟩ : S54), t105⟩ : S70)] : List (S70))))) else (none)) else (none))) else (none)) else ((aumbryref04_Kids.f k l0).bind fun t111 => (aumbryref07_Todo.l0 k l0 l1 ([] : List (S70)) t111 (t111.length : Int) 0)))
end

-- ==== PF14

/-! ### aumbryref07_Start: function 14 -/
def aumbryref07_Start.f (k : Nat) (l0 : List (S54)) : Option ((List (S70)) × (List (List (S54))) × Int × List ByteArray × Int) := (aumbryref04_Check.f k l0).bind fun t102 => (if t102 = 0 then ((aumbryref07_Ground.f k l0).bind fun t103 => (if t103 = true then ((aumbryref07_Todo.f k l0 ([] : List (S104))).bind fun t104 => ((aumbryref07_Turned.f k t104).bind fun t107 => (some (t107, ([] : List (List (S54))), 0, ([] : List ByteArray), 0)))) else (some (([] : List (S70)), ([] : List (List (S54))), 0, ([] : List ByteArray), 7)))) else (some (([] : List (S70)), ([] : List (List (S54))), 0, ([] : List ByteArray), t102)))
end Go.Proofs.Ytdlkhpfgkghhmaa.P

-- ==== PL7a
/- Plain laws of chapter 7: ground terms; what is to be done for a term; the state ahead of its first op: the program's answers and the document's. -/
namespace Go.Proofs.Ytdlkhpfgkghhmaa.P
open Go.RowKit Go.Proofs.YtdlkhpfgkghhmaaW.PrintWords
abbrev Opn := S70
abbrev Bnd7 := S104
/-! ### ground terms -/
def gndS (t : List Cel) : Bool := decide (checkS t = 0) && (varsS [] t).isEmpty
theorem len_beq_isEmpty {α : Type} (l : List α) : ((l.length : Int) == 0) = l.isEmpty := by cases l <;> rfl
theorem ev_ground (t : List Cel) : Ev (fun k => rewrite_ground.f k t) (gndS t) := by
 unfold rewrite_ground.f gndS
 by_cases h : checkS t = 0
 ·
  refine Ev.bind (ev_vars h) (evIfp rfl ?_)
  rw [decide_eq_true h, Bool.true_and, ← len_beq_isEmpty]
  exact Ev.now _
 ·
  refine Ev.bind (ev_vars_no h) (evIfn h ?_)
  rw [decide_eq_false h, Bool.false_and]
  exact Ev.now _
theorem ev_rGround (t : List Cel) : Ev (fun k => aumbryref07_Ground.f k t) (gndS t) := by
 unfold aumbryref07_Ground.f gndS
 refine Ev.bind (ev_refCheck t) ?_
 by_cases h : checkS t = 0
 ·
  have := checkS_len h
  refine evIfp h (Ev.bind (ev_rvars (by omega)) ?_)
  rw [decide_eq_true h, Bool.true_and, ← len_beq_isEmpty]
  exact Ev.now _
 ·
  refine evIfn h ?_
  rw [decide_eq_false h, Bool.false_and]
  exact Ev.now _
theorem varsS_ge : ∀ (u : List Cel) (out : List ByteArray), out.length ≤ (varsS out u).length
 | [], out => Nat.le_refl _
 | c :: l, out => by
  unfold varsS
  by_cases h : kindS c.f0 = 2
  ·
   rw [if_pos h]
   by_cases h2 : c.f0 ∈ out
   ·
    rw [if_pos h2]; exact varsS_ge l out
   ·
    rw [if_neg h2]
    have := varsS_ge l (out ++ [c.f0])
    simp at this
    omega
  ·
   rw [if_neg h]; exact varsS_ge l out
theorem varsS_nil : ∀ (u : List Cel), varsS [] u = [] ↔ ∀ c ∈ u, kindS c.f0 ≠ 2
 | [] => by simp [varsS]
 | c :: l => by
  unfold varsS
  by_cases h : kindS c.f0 = 2
  ·
   rw [if_pos h, if_neg (by simp)]
   refine ⟨fun e => ?_, fun e => absurd h (e c (by simp))⟩
   have := varsS_ge l ([] ++ [c.f0])
   rw [e] at this
   simp at this
  ·
   rw [if_neg h, varsS_nil l]
   simp [h]
theorem gndS_iff {t : List Cel} : gndS t = true ↔ checkS t = 0 ∧ ∀ c ∈ t, kindS c.f0 ≠ 2 := by
 unfold gndS
 rw [Bool.and_eq_true, decide_eq_true_eq, List.isEmpty_iff, varsS_nil]
/-! ### what is to be done -/
inductive Po (H : ByteArray → List Cel) : Nat → List Cel → List Opn → Prop
 | nil : Po H 0 [] []
 | have_ {n : Nat} {c : Cel} {l : List Cel} {o : List Opn} : 0 < (H c.f0).length → Po H n l o → Po H (n + 1) (c :: l) (⟨2, z54, H c.f0⟩ :: o)
 | make {n : Nat} {c : Cel} {l1 l2 : List Cel} {o1 o2 : List Opn} : ¬ 0 < (H c.f0).length → Po H (ar c) l1 o1 → Po H n l2 o2 → Po H (n + 1) (c :: (l1 ++ l2)) (o1 ++ ⟨1, c, []⟩ :: o2)
theorem po_of {H : ByteArray → List Cel} : ∀ (m : Nat) (l : List Cel) (n : Nat), l.length ≤ m → (∀ c ∈ l, 0 < (H c.f0).length → ar c = 0) → segN l n = some [] → ∃ o, Po H n l o
 | m, [], n, _, _, h => by
  cases n with
  | zero => exact ⟨[], .nil⟩
  | succ n => cases h
 | 0, c :: l, n, hm, _, h => absurd hm (by simp)
 | m + 1, c :: l, n, hm, hv, h => by
  cases n with
  | zero => rw [segN_zero] at h; injection h with h; cases h
  | succ n =>
   have h' : segN l (n + ar c) = some [] := h
   have hm' : l.length ≤ m := by simpa using hm
   have hv' : ∀ c ∈ l, 0 < (H c.f0).length → ar c = 0 := fun x hx => hv x (List.mem_cons_of_mem _ hx)
   by_cases hc : 0 < (H c.f0).length
   ·
    rw [hv c (List.mem_cons_self ..) hc, Nat.add_zero] at h'
    obtain ⟨o, ho⟩ := po_of m l n hm' hv' h'
    exact ⟨_, .have_ hc ho⟩
   ·
    rw [show n + ar c = ar c + n from Nat.add_comm _ _, segN_add] at h'
    obtain ⟨r, h1, h2⟩ := Option.bind_eq_some_iff.mp h'
    obtain ⟨e, h3⟩ := segN_fst h1
    have hl : (fstT l r).length ≤ m := by rw [e] at hm'; simp at hm'; omega
    have hr : r.length ≤ m := by rw [e] at hm'; simp at hm'; omega
    obtain ⟨o1, p1⟩ := po_of m (fstT l r) (ar c) hl (fun x hx => hv' x (mem_fstT hx)) h3
    obtain ⟨o2, p2⟩ := po_of m r n hr (fun x hx => hv' x (by rw [e]; exact List.mem_append_right _ hx)) h2
    have := Po.make hc p1 p2
    rw [← e] at this
    exact ⟨_, this⟩
theorem po_len {H : ByteArray → List Cel} {n : Nat} {l : List Cel} {o : List Opn} (h : Po H n l o) : o.length = l.length := by
 induction h with
 | nil => rfl
 | have_ _ _ ih => simp [ih]
 | make _ _ _ ih1 ih2 => simp [ih1, ih2]; omega
theorem ev_todoN {H : ByteArray → List Cel} (t : List Cel) (ht : t.length ≤ 64) {n : Nat} {l : List Cel} {o : List Opn} (h : Po H n l o) :
 ∀ (pos : Nat) (q : List Cel) (acc : List Opn), t.drop pos = l ++ q → (∀ c ∈ l, Okc c) → acc.length + o.length ≤ 1000 →
  Ev (fun k => todoN (todoL H t k) n (pos : Int) acc) (acc ++ o, ((pos + l.length : Nat) : Int)) := by
 induction h with
 | nil =>
  intro pos q acc _ _ _
  simp only [todoN, List.append_nil, List.length_nil, Nat.add_zero]
  exact Ev.now _
 | @have_ n c l o hc h ih =>
  intro pos q acc hd hok hs
  obtain ⟨hlt, _, hdr⟩ := drop_cons hd
  have hrd := rd_cel hd
  simp only [List.length_cons] at hs
  simp only [todoN]
  refine Ev.bind (a := (acc ++ [⟨2, z54, H c.f0⟩], (pos : Int) + 1)) ?_ ?_
  ·
   refine Ev.step (fun k => (show todoL H t (k + 1) (pos : Int) acc = _ from by rw [todoL])) ?_
   rw [hrd]
   exact evIfp ⟨by omega, by omega⟩ (evIfp hc (evIfp (by omega) (Ev.now _)))
  ·
   have := ih (pos + 1) q (acc ++ [⟨2, z54, H c.f0⟩]) hdr (fun x hx => hok x (List.mem_cons_of_mem _ hx)) (by simp; omega)
   rw [List.append_assoc, show (pos + 1 + l.length) = (pos + (c :: l).length) by simp; omega] at this
   exact this
 | @make n c l1 l2 o1 o2 hc h1 h2 ih1 ih2 =>
  intro pos q acc hd hok hs
  obtain ⟨hlt, _, hdr⟩ := drop_cons hd
  have hrd := rd_cel hd
  have hoc := hok c (List.mem_cons_self ..)
  simp only [List.length_cons, List.length_append] at hs
  replace hdr : t.drop (pos + 1) = l1 ++ (l2 ++ q) := hdr.trans (List.append_assoc _ _ _)
  simp only [todoN]
  refine Ev.bind (a := (acc ++ o1 ++ [⟨1, c, []⟩], ((pos + 1 + l1.length : Nat) : Int))) ?_ ?_
  ·
   refine Ev.step (fun k => (show todoL H t (k + 1) (pos : Int) acc = _ from by rw [todoL])) ?_
   rw [hrd]
   refine evIfp ⟨by omega, by omega⟩ (evIfn hc (evIfp hoc.hi ?_))
   refine Ev.bind (ih1 (pos + 1) (l2 ++ q) acc hdr (fun x hx => hok x (by simp [hx])) (by omega)) ?_
   exact evIfp (by simp; omega) (Ev.now _)
  ·
   have hdr2 : t.drop (pos + 1 + l1.length) = l2 ++ q := by
    rw [← List.drop_drop, hdr, List.drop_left]
   have := ih2 (pos + 1 + l1.length) q (acc ++ o1 ++ [⟨1, c, []⟩]) hdr2 (fun x hx => hok x (by simp [hx])) (by simp; omega)
   rw [show acc ++ o1 ++ [⟨1, c, []⟩] ++ o2 = acc ++ (o1 ++ ⟨1, c, []⟩ :: o2) by simp, show (pos + 1 + l1.length + l2.length) = (pos + (c :: (l1 ++ l2)).length) by simp; omega] at this
   exact this
theorem ev_todo {H : ByteArray → List Cel} {t : List Cel} (ht : checkS t = 0) {o : List Opn} (h : Po H 1 t o) : Ev (fun k => todoL H t k 0 []) (o, (t.length : Int)) := by
 obtain ⟨h1, h2, _⟩ := checkS_ok ht
 have := ev_todoN t h1 h 0 [] [] (by simp) h2 (by rw [po_len h]; simp; omega)
 obtain ⟨K, hK⟩ := this
 refine ⟨K, fun k hk => ?_⟩
 have h3 := hK k hk
 simp only [todoN, List.nil_append, Nat.zero_add] at h3
 obtain ⟨r, e1, e2⟩ := Option.bind_eq_some_iff.mp h3
 rw [show ((0 : Nat) : Int) = 0 from rfl] at e1
 show todoL H t k 0 [] = _
 rw [e1]
 exact e2
/-! ### the document's -/
theorem ev_var7 (p : List Cel) : Ev (fun k => aumbryref05_Var.f k p) (match p with | [c] => kindS c.f0 == 2 | _ => false) := by
 unfold aumbryref05_Var.f
 match p with
 | [] => exact evIfn (by simp) (Ev.now _)
 | [c] =>
  refine evIfp (by simp) (evIfp (by simp) ?_)
  exact Ev.bind (ev_refKind c.f0) (Ev.now _)
 | a :: b :: l => exact evIfn (by simp; omega) (Ev.now _)
def Told (H : ByteArray → List Cel) (binds : List Bnd7) (c : Cel) : Prop :=
 ∃ j : Nat, Ev (fun k => aumbryref05_At.f k binds c.f0) (j : Int) ∧ j < binds.length ∧ (rd_T104 binds (j : Int)).f1 = H c.f0 ∧ (H c.f0).length < 5864062014805
theorem splitT_cons {n : Nat} {c : Cel} {l1 l2 : List Cel} (h : segN l1 (ar c) = some []) : splitT (n + 1) (c :: (l1 ++ l2)) = (c :: l1) :: splitT n l2 := by
 have h1 : segN (c :: (l1 ++ l2)) 1 = some l2 := by
  show segN (l1 ++ l2) (0 + ar c) = some l2
  rw [Nat.zero_add, segN_append l2 h, List.nil_append]
 simp only [splitT, h1]
 congr 1
 unfold fstT
 rw [show (c :: (l1 ++ l2)).length - l2.length = (c :: l1).length by simp; omega, show c :: (l1 ++ l2) = (c :: l1) ++ l2 from rfl, List.take_left]
/-! ### the other way round; Start -/
theorem rd_opn {t : List Opn} {n : Nat} {c : Opn} {s : List Opn} (h : t.drop n = c :: s) : rd_T70 t (n : Int) = c := by
 have := (drop_cons h).2.1 z70
 unfold rd_T70
 simpa using this
theorem gnd_po {t : List Cel} (h : gndS t = true) : ∃ o, Po (fun _ => []) 1 t o :=
 po_of t.length t 1 (Nat.le_refl _) (fun c _ h1 => by simp at h1) (checkS_ok (gndS_iff.1 h).1).2.2
theorem ev_start_ok {t : List Cel} (h : gndS t = true) {o : List Opn} (ho : Po (fun _ => []) 1 t o) : Ev (fun k => startF k t) (o.reverse, [], 0, [], 0) := by
 have hc := (gndS_iff.1 h).1
 unfold startF
 refine Ev.bind (ev_check t) (evIfp hc (Ev.bind (ev_ground t) (evIfp h ?_)))
 exact Ev.bind (ev_todo hc ho) (Ev.now _)
theorem ev_start_no {t : List Cel} (h : ¬ gndS t = true) : Ev (fun k => startF k t) ([], [], 0, [], if checkS t = 0 then 7 else checkS t) := by
 unfold startF
 refine Ev.bind (ev_check t) ?_
 by_cases hc : checkS t = 0
 ·
  rw [if_pos hc]
  exact evIfp hc (Ev.bind (ev_ground t) (evIfn h (Ev.now _)))
 ·
  rw [if_neg hc]
  exact evIfn hc (Ev.now _)
end Go.Proofs.Ytdlkhpfgkghhmaa.P

-- ==== PF53
namespace Go.Proofs.Ytdlkhpfgkghhmaa.P
open Go.RowKit Go.Proofs.YtdlkhpfgkghhmaaW.PrintWords Go.Proofs.YtdlkhpfgkghhmaaW.PrintLast Go.Proofs.YtdlkhpfgkghhmaaW.PrintMore
attribute [local go_sem] max2_int min2_int max_two min_two max_three min_three max_four min_four

/-! ### aumbryref06_Check: function 53 -/
mutual
def aumbryref06_Check.j0 : Nat → Bool → Int → List (S54) → List (S54) → Option (Int)
 | 0, _, _, _, _ => none
 | k + 1, x15, x102000, x102001, x102002 => if x15 = true then (some 1) else ((aumbryref04_Check.f k x102001).bind fun t102 => (if t102 = 0 then ((aumbryref04_Check.f k x102002).bind fun t103 => (if t103 = 0 then (if (x102001.length : Int) > 8 then (aumbryref06_Check.j1 k true x102000 x102001 x102002) else (aumbryref06_Check.j1 k (decide ((x102002.length : Int) > 8)) x102000 x102001 x102002)) else (some t103))) else (some t102)))
def aumbryref06_Check.j1 : Nat → Bool → Int → List (S54) → List (S54) → Option (Int)
 | 0, _, _, _, _ => none
 | k + 1, x37, x102000, x102001, x102002 => if x37 = true then (some 6) else ((aumbryref05_Var.f k x102001).bind fun t104 => (if t104 = true then (some 20) else ((aumbryref04_Vars.f k x102001).bind fun t105 => ((aumbryref04_Vars.f k x102002).bind fun t108 => (aumbryref06_Check.l0 k t105 t108 (t108.length : Int) 0)))))
def aumbryref06_Check.l0 : Nat → List ByteArray → List ByteArray → Int → Int → Option (Int)
 | 0, _, _, _, _ => none
 | k + 1, x5, x6, x48, x49 => if x49 < x48 then (if 0 ≤ x49 then (if x49 < (x6.length : Int) then ((aumbryref03_Has.f k x5 (rdOf ByteArray.empty x6 x49)).bind fun t112 => (if t112 = true then (aumbryref06_Check.l0 k x5 x6 x48 (wrap64 (x49 + 1))) else (some 7))) else (none)) else (none)) else (some 0)
end
def aumbryref06_Check.f (k : Nat) (a0_0 : Int) (l0_1 : List (S54)) (l0_2 : List (S54)) : Option (Int) := if a0_0 < 0 then (aumbryref06_Check.j0 k true a0_0 l0_1 l0_2) else (aumbryref06_Check.j0 k (decide (a0_0 > 65535)) a0_0 l0_1 l0_2)
end Go.Proofs.Ytdlkhpfgkghhmaa.P

-- ==== PL7r
/- Plain laws of chapter 6: whether a rule may be: the program's answer and the document's come to one function. -/
namespace Go.Proofs.Ytdlkhpfgkghhmaa.P
open Go.RowKit Go.Proofs.YtdlkhpfgkghhmaaW.PrintWords
abbrev zc : Cel := z54
def ruleS (id : Int) (l r : List Cel) : Int := if id < 0 then 1 else if id > 65535 then 1 else if checkS l = 0 then (if checkS r = 0 then (if l.length > 8 then 6 else if r.length > 8 then 6 else
 if kindS (l.getD 0 zc).f0 = 2 then 20 else if (varsS [] r).all (fun v => decide (v ∈ varsS [] l)) = true then 0 else 7) else checkS r) else checkS l
theorem ev_strF (vl : List ByteArray) (hl : vl.length ≤ 9223372036854775806) : ∀ vr : List ByteArray, Ev (fun k => strF k vl vr) (!(vr.all (fun v => decide (v ∈ vl))))
 | [] => Ev.now _
 | v :: u => by
  have e : (fun k => strF k vl (v :: u)) = (fun k => (slices_Contains_string_string.f k vl v).bind fun b => if b = true then strF k vl u else some true) := rfl
  rw [e]
  refine Ev.bind (ev_contains vl v hl) ?_
  by_cases hv : v ∈ vl
  ·
   refine evIfp (decide_eq_true hv) ?_
   have : (v :: u).all (fun v => decide (v ∈ vl)) = u.all (fun v => decide (v ∈ vl)) := by simp [hv]
   rw [this]
   exact ev_strF vl hl u
  ·
   refine evIfn (by simpa using hv) ?_
   have : (v :: u).all (fun v => decide (v ∈ vl)) = false := by simp [hv]
   rw [this]
   exact Ev.now _
theorem cons_term {t : List Cel} (h : checkS t = 0) : ∃ c l, t = c :: l ∧ segN l (ar c) = some [] := by
 obtain ⟨_, _, h3⟩ := checkS_ok h
 cases t with
 | nil => cases h3
 | cons c l =>
  refine ⟨c, l, rfl, ?_⟩
  have h4 : segN l (0 + ar c) = some [] := h3
  rwa [Nat.zero_add] at h4
theorem ok_pos {l : List Cel} (h : checkS l = 0) : 0 < l.length := by
 obtain ⟨c, u, rfl, _⟩ := cons_term h
 simp
theorem vars_len {l : List Cel} (h : checkS l = 0) : (varsS [] l).length ≤ 64 := by
 have := varsS_len l []
 have := checkS_len h
 simp only [List.length_nil] at *
 omega
theorem ev_rch (id : Int) (l r : List Cel) : Ev (fun k => rule_Check.f k id l r) (ruleS id l r) := by
 unfold rule_Check.f rchF ruleS
 by_cases h1 : id < 0
 ·
  simp only [if_pos h1]; exact Ev.now _
 simp only [if_neg h1]
 by_cases h2 : id > 65535
 ·
  simp only [if_pos h2]; exact Ev.now _
 simp only [if_neg h2]
 refine Ev.bind (ev_check l) ?_
 by_cases h3 : checkS l = 0
 case neg =>
  refine evIfn h3 ?_
  rw [if_neg h3]
  exact Ev.now _
 refine evIfp h3 ?_
 rw [if_pos h3]
 refine Ev.bind (ev_check r) ?_
 by_cases h4 : checkS r = 0
 case neg =>
  refine evIfn h4 ?_
  rw [if_neg h4]
  exact Ev.now _
 refine evIfp h4 ?_
 rw [if_pos h4]
 by_cases h5 : l.length > 8
 ·
  simp only [if_pos h5]; exact Ev.now _
 simp only [if_neg h5]
 by_cases h6 : r.length > 8
 ·
  simp only [if_pos h6]; exact Ev.now _
 simp only [if_neg h6]
 refine evIfp (ok_pos h3) ?_
 refine Ev.bind (ev_kind _) ?_
 have e : rd_T54 l 0 = l.getD 0 zc := rfl
 rw [e]
 by_cases h7 : kindS (l.getD 0 zc).f0 = 2
 ·
  refine evIfp h7 ?_
  rw [if_pos h7]
  exact Ev.now _
 refine evIfn h7 ?_
 rw [if_neg h7]
 refine Ev.bind (ev_vars h3) (Ev.bind (ev_vars h4) ?_)
 refine Ev.bind (ev_strF (varsS [] l) (by have := vars_len h3; omega) (varsS [] r)) ?_
 by_cases h8 : (varsS [] r).all (fun v => decide (v ∈ varsS [] l)) = true
 ·
  rw [if_pos h8, h8]
  exact Ev.now _
 ·
  have h9 : (varsS [] r).all (fun v => decide (v ∈ varsS [] l)) = false := by simpa using h8
  rw [if_neg h8, h9]
  exact Ev.now _
theorem ruleS_ok {id : Int} {l r : List Cel} (h : ruleS id l r = 0) : checkS l = 0 ∧ checkS r = 0 ∧ l.length ≤ 8 ∧ r.length ≤ 8 ∧ kindS (l.getD 0 zc).f0 ≠ 2 ∧ (∀ v ∈ varsS [] r, v ∈ varsS [] l) ∧ 0 ≤ id ∧ id ≤ 65535 := by
 unfold ruleS at h
 by_cases h1 : id < 0
 ·
  rw [if_pos h1] at h; cases h
 rw [if_neg h1] at h
 by_cases h2 : id > 65535
 ·
  rw [if_pos h2] at h; cases h
 rw [if_neg h2] at h
 by_cases h3 : checkS l = 0
 case neg => rw [if_neg h3] at h; exact absurd h h3
 rw [if_pos h3] at h
 by_cases h4 : checkS r = 0
 case neg => rw [if_neg h4] at h; exact absurd h h4
 rw [if_pos h4] at h
 by_cases h5 : l.length > 8
 ·
  rw [if_pos h5] at h; cases h
 rw [if_neg h5] at h
 by_cases h6 : r.length > 8
 ·
  rw [if_pos h6] at h; cases h
 rw [if_neg h6] at h
 by_cases h7 : kindS (l.getD 0 zc).f0 = 2
 ·
  rw [if_pos h7] at h; cases h
 rw [if_neg h7] at h
 by_cases h8 : (varsS [] r).all (fun v => decide (v ∈ varsS [] l)) = true
 case neg => rw [if_neg h8] at h; cases h
 exact ⟨h3, h4, by omega, by omega, h7, fun v hv => of_decide_eq_true (List.all_eq_true.1 h8 v hv), by omega, by omega⟩
theorem rcopy_at (id : Int) (l r : List Cel) (hl : l.length < 5864062014805) (hr : r.length < 5864062014805) : aumbryref06_Copy.f id l r = some (id, l, r) := by
 unfold aumbryref06_Copy.f
 rw [copy_at l hl]
 simp only [Option.bind_some]
 rw [copy_at r hr]
 rfl
end Go.Proofs.Ytdlkhpfgkghhmaa.P

-- ==== PF25
namespace Go.Proofs.Ytdlkhpfgkghhmaa.P
open Go.RowKit Go.Proofs.YtdlkhpfgkghhmaaW.PrintWords Go.Proofs.YtdlkhpfgkghhmaaW.PrintLast Go.Proofs.YtdlkhpfgkghhmaaW.PrintMore
attribute [local go_sem] max2_int min2_int max_two min_two max_three min_three max_four min_four

/-! ### aumbryref07_Together: function 25 -/
mutual
def aumbryref07_Together.l0 : Nat → List (S73) → Int → Int → Option (Int)
 | 0, _, _, _ => none
 | k + 1, x0, x7, x8 => if x8 < x7 then (if 0 ≤ x8 then (if x8 < (x0.length : Int) then ((aumbryref06_Check.f k ((rd_T73 x0 x8).f0) ((rd_T73 x0 x8).f1) ((rd_T73 x0 x8).f2)).bind fun t102 => (if t102 = 0 then (aumbryref07_Together.l0 k x0 x7 (wrap64 (x8 + 1))) else (some t102))) else (none)) else (none)) else (aumbryref07_Together.l1 k x0 (x0.length : Int) 0)
def aumbryref07_Together.l1 : Nat → List (S73) → Int → Int → Option (Int)
 | 0, _, _, _ => none
 | k + 1, x0, x21, x22 => if x22 < x21 then (if x22 > 0 then (if 0 ≤ (wrap64 (x22 - 1)) then (if (wrap64 (x22 - 1)) < (x0.length : Int) then (if 0 ≤ x22 then (if x22 < (x0.length : Int) then (if ((rd_T73 x0 (wrap64 (x22 - 1))).f0) ≥ ((rd_T73 x0 x22).f0) then (some 19) else (aumbryref07_Together.l1 k x0 x21 (wrap64 (x22 + 1)))) else (none)) else (none)) else (none)) else (none)) else (aumbryref07_Together.l1 k x0 x21 (wrap64 (x22 + 1)))) else (some 0)
end
def aumbryref07_Together.f (k : Nat) (l0 : List (S73)) : Option (Int) := aumbryref07_Together.l0 k l0 (l0.length : Int) 0
end Go.Proofs.Ytdlkhpfgkghhmaa.P

-- ==== PL7t
/- Plain laws of chapter 7: may rules be used together: the program's answer and the document's; copies of rules. -/
namespace Go.Proofs.Ytdlkhpfgkghhmaa.P
open Go.RowKit Go.Proofs.YtdlkhpfgkghhmaaW.PrintWords
abbrev Rul := S73
theorem rd_rul {t : List Rul} {n : Nat} {c : Rul} {s : List Rul} (h : t.drop n = c :: s) : rd_T73 t (n : Int) = c := by
 have := (drop_cons h).2.1 z73
 unfold rd_T73
 simpa using this
def chkAll : List Rul → Int
 | [] => 0
 | r :: u => if ruleS r.f0 r.f1 r.f2 = 0 then chkAll u else ruleS r.f0 r.f1 r.f2
def ordP : Option Rul → List Rul → Bool
 | _, [] => true
 | none, b :: u => ordP (some b) u
 | some a, b :: u => decide (a.f0 < b.f0) && ordP (some b) u
def togS (l : List Rul) : Int := if chkAll l = 0 then (if ordP none l = true then 0 else 19) else chkAll l
theorem chkAll_ok : ∀ {l : List Rul}, chkAll l = 0 → ∀ r ∈ l, ruleS r.f0 r.f1 r.f2 = 0
 | [], _, r, hr => by cases hr
 | a :: u, h, r, hr => by
  unfold chkAll at h
  by_cases h1 : ruleS a.f0 a.f1 a.f2 = 0
  ·
   rw [if_pos h1] at h
   rcases List.mem_cons.1 hr with rfl | hr
   ·
    exact h1
   ·
    exact chkAll_ok h r hr
  ·
   rw [if_neg h1] at h; exact absurd h h1
theorem togS_ok {l : List Rul} (h : togS l = 0) : ∀ r ∈ l, ruleS r.f0 r.f1 r.f2 = 0 := by
 unfold togS at h
 by_cases h1 : chkAll l = 0
 ·
  exact chkAll_ok h1
 ·
  rw [if_neg h1] at h; exact absurd h h1
theorem ev_tog1 (l : List Rul) (hl : l.length ≤ 2513169434915) : ∀ (u : List Rul) (i : Nat) (a : Rul), 1 ≤ i → i ≤ l.length → l.drop i = u → rd_T73 l ((i : Int) - 1) = a → Ev (fun k => rewrite_together.l1 k l (i : Int)) (if ordP (some a) u = true then 0 else 19)
 | [], i, a, h0, hi, hu, ha => by
  have h1 := drop_nil_len hi hu
  refine Ev.step (fun k => (show rewrite_together.l1 (k + 1) l (i : Int) = _ from by rw [rewrite_together.l1])) ?_
  exact evIfn (by omega) (Ev.now _)
 | b :: u, i, a, h0, hi, hu, ha => by
  obtain ⟨h1, h2, h3⟩ := drop_cons hu
  refine Ev.step (fun k => (show rewrite_together.l1 (k + 1) l (i : Int) = _ from by rw [rewrite_together.l1])) ?_
  simp only [rd_rul hu, up_cast i (by omega), wrap_id (i := (i : Int) - 1) (by omega) (by omega), ha]
  refine evIfp (by omega) (evIfp (by omega) (evIfp (by omega) (evIfp (by omega) ?_)))
  by_cases g : a.f0 ≥ b.f0
  ·
   refine evIfp g ?_
   rw [if_neg (by simp [ordP]; omega)]
   exact Ev.now _
  ·
   refine evIfn g ?_
   have e : ordP (some a) (b :: u) = ordP (some b) u := by simp only [ordP]; rw [decide_eq_true (by omega), Bool.true_and]
   rw [e]
   exact ev_tog1 l hl u (i + 1) b (by omega) (by omega) h3 (by rw [show ((i + 1 : Nat) : Int) - 1 = (i : Int) by omega]; exact rd_rul hu)
theorem ev_tog0 (l : List Rul) (hl : l.length ≤ 2513169434915) (R : Int) (hR : Ev (fun k => rewrite_together.l1 k l 1) R) : ∀ (u : List Rul) (i : Nat), i ≤ l.length → l.drop i = u → Ev (fun k => rewrite_together.l0 k l l (l.length : Int) (i : Int)) (if chkAll u = 0 then R else chkAll u)
 | [], i, hi, hu => by
  have h1 := drop_nil_len hi hu
  refine Ev.step (fun k => (show rewrite_together.l0 (k + 1) l l (l.length : Int) (i : Int) = _ from by rw [rewrite_together.l0])) ?_
  exact evIfn (by omega) hR
 | b :: u, i, hi, hu => by
  obtain ⟨h1, h2, h3⟩ := drop_cons hu
  refine Ev.step (fun k => (show rewrite_together.l0 (k + 1) l l (l.length : Int) (i : Int) = _ from by rw [rewrite_together.l0])) ?_
  simp only [rd_rul hu, up_cast i (by omega)]
  refine evIfp (by omega) (evIfp (by omega) (evIfp (by omega) (Ev.bind (ev_rch b.f0 b.f1 b.f2) ?_)))
  by_cases g : ruleS b.f0 b.f1 b.f2 = 0
  ·
   refine evIfp g ?_
   rw [show chkAll (b :: u) = chkAll u by simp only [chkAll, if_pos g]]
   exact ev_tog0 l hl R hR u (i + 1) (by omega) h3
  ·
   refine evIfn g ?_
   rw [show chkAll (b :: u) = ruleS b.f0 b.f1 b.f2 by simp only [chkAll, if_neg g], if_neg g]
   exact Ev.now _
theorem ev_tog (l : List Rul) (hl : l.length ≤ 2513169434915) : Ev (fun k => rewrite_together.f k l) (togS l) := by
 unfold rewrite_together.f togS
 refine ev_tog0 l hl (if ordP none l = true then 0 else 19) ?_ l 0 (by omega) rfl
 cases l with
 | nil =>
  refine Ev.step (fun k => (show rewrite_together.l1 (k + 1) [] 1 = _ from by rw [rewrite_together.l1])) ?_
  exact evIfn (by simp) (Ev.now _)
 | cons a u => exact ev_tog1 (a :: u) hl u 1 a (by omega) (by simp) rfl rfl
/-! ### copies of rules -/
theorem ev_rules_loop (l : List Rul) (hl : l.length ≤ 2513169434915) (hs : ∀ r ∈ l, r.f1.length < 5864062014805 ∧ r.f2.length < 5864062014805) : ∀ (u : List Rul) (i : Nat) (x : List Rul), i ≤ l.length → l.drop i = u → x = l.take i →
 Ev (fun k => aumbryref06_CopyAll.l0 k l x (l.length : Int) (i : Int)) l
 | [], i, x, hi, hu, hx => by
  have h1 := drop_nil_len hi hu
  refine Ev.step (fun k => (show aumbryref06_CopyAll.l0 (k + 1) l x (l.length : Int) (i : Int) = _ from by rw [aumbryref06_CopyAll.l0])) ?_
  refine evIfn (by omega) ?_
  have : x = l := by rw [hx, h1, List.take_length]
  rw [this]
  exact Ev.now _
 | a :: u, i, x, hi, hu, hx => by
  obtain ⟨h1, h2, h3⟩ := drop_cons hu
  refine Ev.step (fun k => (show aumbryref06_CopyAll.l0 (k + 1) l x (l.length : Int) (i : Int) = _ from by rw [aumbryref06_CopyAll.l0])) ?_
  refine evIfp (by omega) (evIfp (by omega) (evIfp (by omega) ?_))
  simp only [rd_rul hu, up_cast i (by omega)]
  have hm : a ∈ l := List.mem_of_mem_drop (hu ▸ List.mem_cons_self ..)
  refine Ev.bind (evIs (rcopy_at a.f0 a.f1 a.f2 (hs a hm).1 (hs a hm).2)) ?_
  have hxl : x.length = i := by rw [hx, List.length_take]; omega
  refine evIfp (by omega) ?_
  refine ev_rules_loop l hl hs u (i + 1) (x ++ [a]) (by omega) h3 ?_
  rw [hx, List.take_succ_eq_append_getElem h1]
  have := h2 a
  rw [List.getD_eq_getElem?_getD, List.getElem?_eq_getElem h1] at this
  rw [show l[i] = a from this]
theorem ev_rules (l : List Rul) (hl : l.length ≤ 2513169434915) (hs : ∀ r ∈ l, r.f1.length < 5864062014805 ∧ r.f2.length < 5864062014805) : Ev (fun k => aumbrylaw07_rules.f k l) l := by
 unfold aumbrylaw07_rules.f
 exact Ev.bind (show Ev (fun k => aumbryref06_CopyAll.f k l) l from ev_rules_loop l hl hs l 0 [] (by omega) rfl rfl) (Ev.now _)
end Go.Proofs.Ytdlkhpfgkghhmaa.P

-- ==== PQ7c
/- Plain laws, part c: where a pattern fits: along the cells, and part by part. -/
namespace Go.Proofs.Ytdlkhpfgkghhmaa.P.M
open Go.RowKit Go.Proofs.YtdlkhpfgkghhmaaW.PrintWords

abbrev Bnd := S104
def lookB (out : List Bnd) (s : ByteArray) : Option (List Cel) := (out.find? (fun b => decide (b.f0 = s))).map (·.f1)
def fstT (t r : List Cel) : List Cel := t.take (t.length - r.length)
def mat : List Cel → List Cel → List Bnd → Option (List Bnd × List Cel)
 | [], t, out => some (out, t)
 | c :: p, t, out =>
  if kindS c.f0 = 2 then
   match segN t 1 with
   | none => none
   | some r => match lookB out c.f0 with
    | none => mat p r (out ++ [⟨c.f0, fstT t r⟩])
    | some v => if v = fstT t r then mat p r out else none
  else match t with
   | [] => none
   | d :: t' => if d = c then mat p t' out else none

theorem segN_append : ∀ {l r : List Cel} {n : Nat} (q : List Cel), segN l n = some r → segN (l ++ q) n = some (r ++ q)
 | l, r, 0, q, h => by
  rw [segN_zero] at h ⊢
  injection h with h
  rw [h]
 | [], r, n + 1, q, h => by cases h
 | c :: l, r, n + 1, q, h => segN_append (l := l) (r := r) (n := n + ar c) q h
theorem segN_split {t : List Cel} {n : Nat} (h : segN t (n + 1) = some []) : ∃ r, segN t 1 = some r ∧ segN r n = some [] := by
 rw [show n + 1 = 1 + n by omega, segN_add] at h
 cases hr : segN t 1 with
 | none => rw [hr] at h; cases h
 | some r => rw [hr] at h; exact ⟨r, rfl, h⟩
theorem segN_nil_pos {n : Nat} (h : segN [] n = some []) : n = 0 := by
 cases n with
 | zero => rfl
 | succ n => cases h
theorem segN_fst {t r : List Cel} {n : Nat} (h : segN t n = some r) : t = fstT t r ++ r ∧ segN (fstT t r) n = some [] := by
 obtain ⟨m, hm, hd⟩ := segN_suffix h
 have hl : r.length = t.length - m := by rw [← hd, List.length_drop]
 have he : fstT t r = t.take m := by unfold fstT; rw [show t.length - r.length = m by omega]
 rw [he]
 refine ⟨by rw [← hd]; exact (List.take_append_drop m t).symm, ?_⟩
 have : ∀ (l : List Cel) (n m : Nat), m ≤ l.length → segN l n = some (l.drop m) → segN (l.take m) n = some [] := by
  intro l
  induction l with
  | nil =>
   intro n m hm h
   have hm0 : m = 0 := by simpa using hm
   subst hm0
   simpa using h
  | cons c l ih =>
   intro n m hm h
   cases n with
   | zero =>
    rw [segN_zero] at h ⊢
    injection h with h
    have := congrArg List.length h
    simp only [List.length_cons, List.length_drop] at this
    have hm0 : m = 0 := by simp at hm; omega
    rw [hm0]
    rfl
   | succ n =>
    cases m with
    | zero =>
     have := segN_len h
     simp at this
    | succ m =>
     simp only [List.drop_succ_cons] at h
     exact ih (n + ar c) m (by simpa using hm) h
 rw [← hd] at h
 exact this t n m hm h

theorem ev_variable (c : Cel) : Ev (fun k => match_variable.f k c.f0 c.f1) (kindS c.f0 == 2) := by
 unfold match_variable.f
 exact Ev.bind (ev_kind c.f0) (Ev.now _)
theorem ev_end_loop (t : List Cel) (ht : t.length ≤ 64) (hok : ∀ c ∈ t, Okc c) : ∀ (s : List Cel) (a n : Nat) (r : List Cel), a ≤ t.length → t.drop a = s → n ≤ 1 + 4 * a → segN s n = some r →
 Ev (fun k => match_end.l0 k t (a : Int) (n : Int)) ((t.length - r.length : Nat) : Int)
 | s, a, 0, r, ha, hs, hn, hr => by
  refine Ev.step (f := fun _ => some (a : Int)) (fun k => by simp only [match_end.l0]; rw [if_neg (by omega)]) ?_
  rw [segN_zero] at hr
  injection hr with hr
  have : ((t.length - r.length : Nat) : Int) = (a : Int) := by rw [← hr, ← hs, List.length_drop]; omega
  rw [this]
  exact Ev.now _
 | [], a, n + 1, r, ha, hs, hn, hr => by cases hr
 | c :: s, a, n + 1, r, ha, hs, hn, hr => by
  obtain ⟨h1, h2, h3⟩ := drop_cons hs
  have hc : Okc c := hok c (List.mem_of_mem_drop (hs ▸ List.mem_cons_self ..))
  have har : (ar c : Int) = c.f1 := by unfold ar; have := hc.lo; omega
  have hh := hc.hi
  have hl0 := hc.lo
  refine Ev.step (f := fun k => match_end.l0 k t ((a + 1 : Nat) : Int) ((n + ar c : Nat) : Int)) (fun k => ?_) (ev_end_loop t ht hok s (a + 1) (n + ar c) r (by omega) h3 (by omega) hr)
  simp only [match_end.l0]
  rw [if_pos (by omega), if_pos (by omega), if_pos (by omega), rd_cel hs, wrap_up (by omega) (by omega)]
  have e : wrap64 (((n + 1 : Nat) : Int) + wrap64 (c.f1 - 1)) = ((n + ar c : Nat) : Int) := by
   rw [wrap_id (i := c.f1 - 1) (by omega) (by omega), wrap_id (by omega) (by omega)]
   omega
  rw [e]
  rfl
theorem ev_end (t : List Cel) (ht : t.length ≤ 64) (hok : ∀ c ∈ t, Okc c) (a : Nat) (ha : a ≤ t.length) {r : List Cel} (hr : segN (t.drop a) 1 = some r) : Ev (fun k => match_end.f k t (a : Int)) ((t.length - r.length : Nat) : Int) := by
 unfold match_end.f
 exact ev_end_loop t ht hok _ a 1 r ha rfl (by omega) hr
theorem bytes_eq (a b : ByteArray) : a.toList = b.toList ↔ a = b := by
 rw [ByteArray.toList_eq, ByteArray.toList_eq]
 constructor
 ·
  intro h
  cases a; cases b
  simp only [ByteArray.mk.injEq]
  exact Array.toList_inj.1 h
 ·
  intro h
  rw [h]
theorem cel_ne (c d : Cel) : ((!((c.f0.toList) == (d.f0.toList)) || (!(c.f1 == d.f1))) = true) ↔ c ≠ d := by
 cases c with | mk a b => cases d with | mk a' b' =>
 simp only [Bool.or_eq_true, Bool.not_eq_true', beq_eq_false_iff_ne, ne_eq, bytes_eq, S54.mk.injEq]
 by_cases h : a = a' <;> simp [h]
theorem ev_cels_loop (F : Nat → List Cel → List Cel → Int → Int → Option Bool)
 (hF : ∀ k x y n i, F (k + 1) x y n i = if i < n then (if 0 ≤ i then (if i < (x.length : Int) then (if i < (y.length : Int) then (if (!((((rd_T54 x i).f0).toList) == (((rd_T54 y i).f0).toList)) || (!(((rd_T54 x i).f1) == ((rd_T54 y i).f1)))) = true then (some false) else (F k x y n (wrap64 (i + 1)))) else (none)) else (none)) else (none)) else (some true))
 (x y : List Cel) (hl : x.length = y.length) (hb : x.length ≤ 9223372036854775806) : ∀ (s u : List Cel) (a : Nat), a ≤ x.length → x.drop a = s → y.drop a = u → Ev (fun k => F k x y (x.length : Int) (a : Int)) (decide (s = u))
 | [], u, a, ha, hs, hu => by
  have h1 := drop_nil_len ha hs
  have h2 : u = [] := by rw [← hu]; exact List.drop_eq_nil_of_le (by omega)
  refine Ev.step (f := fun _ => some true) (fun k => by rw [hF, if_neg (by omega)]) ?_
  rw [h2]
  exact Ev.now _
 | c :: s, u, a, ha, hs, hu => by
  obtain ⟨h1, _, h3⟩ := drop_cons hs
  rcases u with _ | ⟨d, u⟩
  ·
   have := drop_nil_len (by omega) hu
   omega
  obtain ⟨_, _, h4⟩ := drop_cons hu
  by_cases hcd : c = d
  ·
   refine Ev.step (f := fun k => F k x y (x.length : Int) ((a + 1 : Nat) : Int)) (fun k => by
    rw [hF, if_pos (by omega), if_pos (by omega), if_pos (by omega), if_pos (by omega), rd_cel hs, rd_cel hu, if_neg (fun h => (cel_ne c d).1 h hcd), wrap_up (by omega) (by omega)]
    rfl) ?_
   have : decide (c :: s = d :: u) = decide (s = u) := by subst hcd; simp
   rw [this]
   exact ev_cels_loop F hF x y hl hb s u (a + 1) (by omega) h3 h4
  ·
   refine Ev.step (f := fun _ => some false) (fun k => by
    rw [hF, if_pos (by omega), if_pos (by omega), if_pos (by omega), if_pos (by omega), rd_cel hs, rd_cel hu, if_pos ((cel_ne c d).2 hcd)]) ?_
   have : decide (c :: s = d :: u) = false := by simp [hcd]
   rw [this]
   exact Ev.now _
theorem ev_equal (x y : List Cel) (hb : x.length ≤ 9223372036854775806 ∨ y.length ≤ 9223372036854775806) : Ev (fun k => api_Cell_104.f k x y) (decide (x = y)) := by
 unfold api_Cell_104.f
 by_cases h : (x.length : Int) = (y.length : Int)
 ·
  exact Ev.congr (f := fun k => api_Cell_104.l0 k x y (x.length : Int) ((0 : Nat) : Int)) (fun k => by rw [if_pos h]; rfl) (ev_cels_loop _ (fun k x y n i => rfl) x y (by omega) (by omega) x y 0 (by omega) rfl rfl)
 ·
  refine Ev.congr (f := fun _ => some (decide (x = y))) (fun k => ?_) (Ev.now _)
  rw [if_neg h]
  congr 1
  rw [Eq.comm, decide_eq_false_iff_not]
  rintro rfl
  exact h rfl
theorem ev_refSame4 (x y : List Cel) (hb : x.length ≤ 9223372036854775806 ∨ y.length ≤ 9223372036854775806) : Ev (fun k => aumbryref04_Same.f k x y) (decide (x = y)) := by
 unfold aumbryref04_Same.f
 by_cases h : (x.length : Int) = (y.length : Int)
 ·
  exact Ev.congr (f := fun k => aumbryref04_Same.l0 k x y (x.length : Int) ((0 : Nat) : Int)) (fun k => by rw [if_pos h]; rfl) (ev_cels_loop _ (fun k x y n i => rfl) x y (by omega) (by omega) x y 0 (by omega) rfl rfl)
 ·
  refine Ev.congr (f := fun _ => some (decide (x = y))) (fun k => ?_) (Ev.now _)
  rw [if_neg h]
  congr 1
  rw [Eq.comm, decide_eq_false_iff_not]
  rintro rfl
  exact h rfl
structure MapOk (m : List Cel) (out : List Bnd) : Prop where
 len : m.length = out.length
 has : ∀ s, mapHas m s = (lookB out s).isSome
 at_ : ∀ s v, lookB out s = some v → ∃ j : Nat, mapAt m s = (j : Int) ∧ j < out.length ∧ ∃ b, out[j]? = some b ∧ b.f1 = v
theorem data_eq (a b : ByteArray) : a.data.toList = b.data.toList ↔ a = b := by
 rw [← bytes_eq, ByteArray.toList_eq, ByteArray.toList_eq]
theorem mapOk_nil : MapOk [] [] := ⟨rfl, fun s => rfl, fun s v h => by cases h⟩
theorem mapOk_put {m : List Cel} {out : List Bnd} (h : MapOk m out) (s : ByteArray) (v : List Cel) (hn : lookB out s = none) : MapOk (mapPut m s (out.length : Int)) (out ++ [⟨s, v⟩]) := by
 have hlook : ∀ s', lookB (out ++ [⟨s, v⟩]) s' = if s = s' then some v else lookB out s' := by
  intro s'
  unfold lookB at hn ⊢
  rw [List.find?_append]
  by_cases hs : s = s'
  ·
   subst hs
   rw [if_pos rfl]
   cases hf : out.find? (fun b => decide (b.f0 = s)) with
   | none => simp
   | some b => rw [hf] at hn; cases hn
  ·
   rw [if_neg hs]
   cases hf : out.find? (fun b => decide (b.f0 = s')) with
   | none => simp [hs]
   | some b => simp
 refine ⟨by simp [mapPut, h.len], fun s' => ?_, fun s' v' hv => ?_⟩
 ·
  rw [hlook]
  by_cases hs : s = s'
  ·
   subst hs
   simp [mapHas, mapPut]
  ·
   rw [if_neg hs, ← h.has s']
   have : (s.data.toList == s'.data.toList) = false := by simp only [beq_eq_false_iff_ne, ne_eq, data_eq]; exact hs
   simp only [mapHas, mapPut, List.any_cons, this, Bool.false_or]
 ·
  rw [hlook] at hv
  by_cases hs : s = s'
  ·
   subst hs
   rw [if_pos rfl] at hv
   injection hv with hv
   subst hv
   exact ⟨out.length, by simp [mapAt, mapPut], by simp, ⟨s, v⟩, by simp, rfl⟩
  ·
   rw [if_neg hs] at hv
   obtain ⟨j, h1, h2, b, h3, h4⟩ := h.at_ s' v' hv
   have : (s.data.toList == s'.data.toList) = false := by simp only [beq_eq_false_iff_ne, ne_eq, data_eq]; exact hs
   refine ⟨j, ?_, by simp; omega, b, by rw [List.getElem?_append_left h2]; exact h3, h4⟩
   rw [← h1]
   simp only [mapAt, mapPut, List.find?_cons, this]
def matR (x : Option (List Bnd × List Cel)) : List Bnd × Bool × Int := match x with
 | none => ([], false, 0)
 | some y => (y.1, true, 0)
theorem ev_match_loop (p t : List Cel) (hp : p.length ≤ 64) (ht : t.length ≤ 64) (hokp : ∀ c ∈ p, Okc c) (hokt : ∀ c ∈ t, Okc c) :
 ∀ (s : List Cel) (i a n : Nat) (out : List Bnd) (m : List Cel), i ≤ p.length → a ≤ t.length → p.drop i = s → segN s n = some [] → segN (t.drop a) n = some [] → MapOk m out → out.length ≤ i →
 Ev (fun k => match_Match.l0 k t out m (a : Int) p (p.length : Int) (i : Int)) (matR (mat s (t.drop a) out))
 | [], i, a, n, out, m, hi, ha, hs, hn, hnt, hm, ho => by
  have h1 := drop_nil_len hi hs
  refine Ev.step (f := fun _ => some (out, true, 0)) (fun k => by simp only [match_Match.l0]; rw [if_neg (by omega)]) ?_
  exact Ev.now _
 | c :: s, i, a, n, out, m, hi, ha, hs, hn, hnt, hm, ho => by
  obtain ⟨h1, _, h3⟩ := drop_cons hs
  have hc : Okc c := hokp c (List.mem_of_mem_drop (hs ▸ List.mem_cons_self ..))
  obtain ⟨n, rfl⟩ : ∃ q, n = q + 1 := by
   cases n with
   | zero => rw [segN_zero] at hn; injection hn with hn; cases hn
   | succ n => exact ⟨n, rfl⟩
  have hn' : segN s (n + ar c) = some [] := hn
  obtain ⟨r, hr1, hrn⟩ := segN_split hnt
  have hks := kindS_size hc.kind
  by_cases hv : kindS c.f0 = 2
  ·
   have hac : ar c = 0 := by unfold ar; rw [hc.var hv]; rfl
   rw [hac, Nat.add_zero] at hn'
   obtain ⟨q, hq, hqr⟩ := segN_suffix hr1
   rw [List.drop_drop] at hqr
   rw [List.length_drop] at hq
   have hrl : r.length = t.length - (a + q) := by rw [← hqr, List.length_drop]
   have hpart : ((t.take (((t.length - r.length : Nat) : Int)).toNat).drop ((a : Int)).toNat : List Cel) = fstT (t.drop a) r := by
    unfold fstT
    rw [List.length_drop]
    simp only [Int.toNat_natCast]
    rw [List.drop_take]
    congr 1
    omega
   have hfl : (fstT (t.drop a) r).length = q := by unfold fstT; rw [List.length_take, List.length_drop]; omega
   have hw1 : True → wrap64 ((a : Int) + ((fstT (t.drop a) r).length : Int)) = ((a + q : Nat) : Int) := fun _ => by rw [hfl, wrap_id (by omega) (by omega)]; omega
   have hw2 : True → wrap64 ((i : Int) + 1) = ((i + 1 : Nat) : Int) := fun _ => by rw [wrap_up (by omega) (by omega)]; rfl
   refine Ev.step (fun k => (show match_Match.l0 (k + 1) t out m (a : Int) p (p.length : Int) (i : Int) = _ from by rw [match_Match.l0])) ?_
   refine evIfp (by omega) (evIfp (by omega) (evIfp (by omega) ?_))
   simp only [rd_cel hs]
   refine Ev.bind (ev_variable c) ?_
   refine evIfp (by simp [hv]) ?_
   refine Ev.bind (ev_end t ht hokt a ha hr1) ?_
   refine evIfp (by omega) (evIfp (by omega) (evIfp (by omega) ?_))
   refine Ev.bind (Ev.now _) ?_
   simp only [hpart, hw1 trivial, hw2 trivial]
   refine evIfp (by omega) ?_
   have hmat : mat (c :: s) (t.drop a) out = (match lookB out c.f0 with | none => mat s r (out ++ [⟨c.f0, fstT (t.drop a) r⟩]) | some v => if v = fstT (t.drop a) r then mat s r out else none) := by
    show (if kindS c.f0 = 2 then _ else _) = _
    rw [if_pos hv, hr1]
   rw [hmat]
   cases hl : lookB out c.f0 with
   | none =>
    refine evIfn (by rw [hm.has, hl]; simp) ?_
    have hml := hm.len
    refine evIfp (by omega) ?_
    refine Ev.bind (evIs (clone_at _ (by omega))) ?_
    refine evIfp (by omega) ?_
    have := ev_match_loop p t hp ht hokp hokt s (i + 1) (a + q) n (out ++ [⟨c.f0, fstT (t.drop a) r⟩]) (mapPut m c.f0 (out.length : Int)) (by omega) (by omega) h3 hn' (by rw [hqr]; exact hrn) (mapOk_put hm _ _ hl) (by simp; omega)
    rw [hqr] at this
    exact this
   | some v =>
    obtain ⟨j, hj1, hj2, b, hj3, hj4⟩ := hm.at_ _ _ hl
    have hrd : (rd_T104 out (mapAt m c.f0)).f1 = v := by
     rw [hj1]
     unfold rd_T104
     rw [List.getD_eq_getElem?_getD, Int.toNat_natCast, hj3]
     exact hj4
    refine evIfp (by rw [hm.has, hl]; simp) ?_
    refine evIfp (by omega) (evIfp (by omega) ?_)
    simp only [hrd]
    refine Ev.bind (ev_equal _ _ (.inr (by omega))) ?_
    by_cases he : v = fstT (t.drop a) r
    ·
     refine evIfp (by simpa using he) ?_
     have := ev_match_loop p t hp ht hokp hokt s (i + 1) (a + q) n out m (by omega) (by omega) h3 hn' (by rw [hqr]; exact hrn) hm (by omega)
     rw [hqr] at this
     simp only [he, if_true]
     exact this
    ·
     refine evIfn (by simpa using he) ?_
     simp only [he, if_false]
     exact Ev.now _
  ·
   rcases ht' : t.drop a with _ | ⟨d, u⟩
   ·
    rw [ht'] at hnt
    cases hnt
   obtain ⟨g1, _, g3⟩ := drop_cons ht'
   have hw1 : True → wrap64 ((a : Int) + 1) = ((a + 1 : Nat) : Int) := fun _ => by rw [wrap_up (by omega) (by omega)]; rfl
   have hw2 : True → wrap64 ((i : Int) + 1) = ((i + 1 : Nat) : Int) := fun _ => by rw [wrap_up (by omega) (by omega)]; rfl
   refine Ev.step (fun k => (show match_Match.l0 (k + 1) t out m (a : Int) p (p.length : Int) (i : Int) = _ from by rw [match_Match.l0])) ?_
   refine evIfp (by omega) (evIfp (by omega) (evIfp (by omega) ?_))
   simp only [rd_cel hs, rd_cel ht']
   refine Ev.bind (ev_variable c) ?_
   refine evIfn (by simp [hv]) ?_
   refine evIfp (by omega) (evIfp (by omega) ?_)
   have hmat : mat (c :: s) (d :: u) out = if d = c then mat s u out else none := by
    show (if kindS c.f0 = 2 then _ else _) = _
    rw [if_neg hv]
   rw [hmat]
   by_cases hdc : d = c
   ·
    refine evIfn (fun h => (cel_ne d c).1 h hdc) ?_
    rw [if_pos hdc]
    simp only [hw1 trivial, hw2 trivial]
    have := ev_match_loop p t hp ht hokp hokt s (i + 1) (a + 1) (n + ar c) out m (by omega) (by omega) h3 hn' (by rw [ht'] at hnt; rw [g3, ← hdc]; exact hnt) hm (by omega)
    rw [g3] at this
    exact this
   ·
    refine evIfp ((cel_ne d c).2 hdc) ?_
    rw [if_neg hdc]
    exact Ev.now _
theorem checkS_ok {t : List Cel} (h : checkS t = 0) : t.length ≤ 64 ∧ (∀ c ∈ t, Okc c) ∧ segN t 1 = some [] := by
 unfold checkS at h
 by_cases h1 : t.length > 64
 ·
  rw [if_pos h1] at h
  cases h
 ·
  rw [if_neg h1] at h
  by_cases h2 : errs t = 0
  ·
   rw [if_pos h2] at h
   by_cases h3 : segN t 1 = some []
   ·
    exact ⟨by omega, errs_ok h2, h3⟩
   ·
    rw [if_neg h3] at h
    cases h
  ·
   rw [if_neg h2] at h
   exact absurd h h2
def matchS (p t : List Cel) : List Bnd × Bool × Int := if checkS p = 0 then (if checkS t = 0 then matR (mat p t []) else ([], false, checkS t)) else ([], false, checkS p)
theorem ev_match (p t : List Cel) : Ev (fun k => match_Match.f k p t) (matchS p t) := by
 unfold match_Match.f matchS
 refine Ev.bind (ev_check p) ?_
 by_cases hp : checkS p = 0
 ·
  rw [if_pos hp]
  refine evIfp hp ?_
  refine Ev.bind (ev_check t) ?_
  by_cases ht : checkS t = 0
  ·
   rw [if_pos ht]
   refine evIfp ht ?_
   obtain ⟨p1, p2, p3⟩ := checkS_ok hp
   obtain ⟨t1, t2, t3⟩ := checkS_ok ht
   exact ev_match_loop p t p1 t1 p2 t2 p 0 0 1 [] [] (by omega) (by omega) rfl p3 t3 mapOk_nil (by simp)
  ·
   rw [if_neg ht]
   exact evIfn ht (Ev.now _)
 ·
  rw [if_neg hp]
  exact evIfn hp (Ev.now _)

def splitT : Nat → List Cel → List (List Cel)
 | 0, _ => []
 | n + 1, l => match segN l 1 with
  | none => []
  | some r => fstT l r :: splitT n r
def kidsS : List Cel → List (List Cel)
 | [] => []
 | c :: l => splitT (ar c) l
theorem splitT_spec : ∀ (n : Nat) (l : List Cel), segN l n = some [] → (splitT n l).flatten = l ∧ (splitT n l).length = n ∧ ∀ a ∈ splitT n l, segN a 1 = some []
 | 0, l, h => by
  rw [segN_zero] at h
  injection h with h
  subst h
  exact ⟨rfl, rfl, fun a ha => by cases ha⟩
 | n + 1, l, h => by
  obtain ⟨r, h1, h2⟩ := segN_split h
  obtain ⟨g1, g2, g3⟩ := splitT_spec n r h2
  have hf := segN_fst h1
  simp only [splitT, h1, List.flatten_cons, List.length_cons, List.mem_cons]
  refine ⟨by rw [g1]; exact hf.1.symm, by omega, fun a ha => ?_⟩
  rcases ha with rfl | ha
  ·
   exact hf.2
  ·
   exact g3 a ha
theorem ev_kids_loop (t : List Cel) (ht : t.length ≤ 64) (hok : ∀ c ∈ t, Okc c) : ∀ (n a : Nat) (out : List (List Cel)), a ≤ t.length → segN (t.drop a) n = some [] → out.length ≤ 64 → out.length + n ≤ 64 → 0 < a →
 Ev (fun k => aumbryref04_Kids.l0 k t out (a : Int)) (out ++ splitT n (t.drop a))
 | 0, a, out, ha, hn, ho, hon, hp => by
  rw [segN_zero] at hn
  injection hn with hn
  have := drop_nil_len ha hn
  refine Ev.step (fun k => (show aumbryref04_Kids.l0 (k + 1) t out (a : Int) = _ from by rw [aumbryref04_Kids.l0])) ?_
  refine evIfn (by omega) ?_
  simp only [splitT, List.append_nil]
  exact Ev.now _
 | n + 1, a, out, ha, hn, ho, hon, hp => by
  obtain ⟨r, hr, hrn⟩ := segN_split hn
  have hlt : a < t.length := by
   rcases Nat.lt_or_ge a t.length with h | h
   ·
    exact h
   ·
    rw [List.drop_eq_nil_of_le h] at hr
    cases hr
  obtain ⟨q, hq, hqr⟩ := segN_suffix hr
  rw [List.drop_drop] at hqr
  rw [List.length_drop] at hq
  have hrl : r.length = t.length - (a + q) := by rw [← hqr, List.length_drop]
  have hbeh : behS t a 1 = ((a + q : Nat) : Int) := by unfold behS; rw [hr]; simp only; omega
  have hpart : ((t.take ((((a + q : Nat) : Int)) : Int).toNat).drop (a : Int).toNat) = fstT (t.drop a) r := by
   unfold fstT
   rw [List.length_drop]
   simp only [Int.toNat_natCast]
   rw [List.drop_take]
   congr 1
   omega
  have hfl : (fstT (t.drop a) r).length ≤ 64 := by unfold fstT; rw [List.length_take, List.length_drop]; omega
  refine Ev.step (fun k => (show aumbryref04_Kids.l0 (k + 1) t out (a : Int) = _ from by rw [aumbryref04_Kids.l0])) ?_
  refine evIfp (by omega) ?_
  refine Ev.bind (ev_refBehind t ht hok a ha) ?_
  rw [hbeh]
  refine evIfp (by omega) (evIfp (by omega) (evIfp (by omega) ?_))
  rw [hpart]
  refine Ev.bind (evIs (copy_at _ (by omega))) ?_
  refine evIfp (by omega) ?_
  refine Ev.bind (ev_refBehind t ht hok a ha) ?_
  rw [hbeh]
  have := ev_kids_loop t ht hok n (a + q) (out ++ [fstT (t.drop a) r]) (by omega) (by rw [hqr]; exact hrn) (by simp; omega) (by simp; omega) (by omega)
  have e : out ++ splitT (n + 1) (t.drop a) = out ++ [fstT (t.drop a) r] ++ splitT n (t.drop (a + q)) := by
   simp only [splitT, hr, hqr, List.append_assoc, List.singleton_append]
  rw [e]
  exact this
theorem ev_kids {t : List Cel} (ht : t.length ≤ 64) (hok : ∀ c ∈ t, Okc c) (hs : segN t 1 = some []) : Ev (fun k => aumbryref04_Kids.f k t) (kidsS t) := by
 unfold aumbryref04_Kids.f
 rcases t with _ | ⟨c, l⟩
 ·
  cases hs
 have hc := hok c (List.mem_cons_self ..)
 have hh := hc.hi
 have hs' : segN l (ar c) = some [] := by have : segN l (0 + ar c) = some [] := hs; rwa [Nat.zero_add] at this
 have har : ar c ≤ 4 := by unfold ar; omega
 exact ev_kids_loop (c :: l) ht hok (ar c) 1 [] (by simp) hs' (by simp) (by simp; omega) (by omega)

theorem mat_append : ∀ (p t : List Cel) (n : Nat) (out : List Bnd) (p2 t2 : List Cel), (∀ c ∈ p, Okc c) → segN p n = some [] → segN t n = some [] →
 mat (p ++ p2) (t ++ t2) out = (mat p t out).bind fun x => mat p2 t2 x.1
 | [], t, n, out, p2, t2, hp, h1, h2 => by
  have h0 := segN_nil_pos h1
  subst h0
  rw [segN_zero] at h2
  injection h2 with h2
  subst h2
  rfl
 | c :: p, t, n, out, p2, t2, hp, h1, h2 => by
  have hc := hp c (List.mem_cons_self ..)
  have hp' : ∀ x ∈ p, Okc x := fun x hx => hp x (List.mem_cons_of_mem _ hx)
  obtain ⟨n, rfl⟩ : ∃ q, n = q + 1 := by
   cases n with
   | zero => rw [segN_zero] at h1; injection h1 with h1; cases h1
   | succ n => exact ⟨n, rfl⟩
  have h1' : segN p (n + ar c) = some [] := h1
  show (if kindS c.f0 = 2 then _ else _) = Option.bind (if kindS c.f0 = 2 then _ else _) _
  by_cases hv : kindS c.f0 = 2
  ·
   have hac : ar c = 0 := by unfold ar; rw [hc.var hv]; rfl
   rw [hac, Nat.add_zero] at h1'
   rw [if_pos hv, if_pos hv]
   obtain ⟨q, hq1, hq2⟩ := segN_split h2
   have hf : fstT (t ++ t2) (q ++ t2) = fstT t q := by
    have := segN_len hq1
    unfold fstT
    simp only [List.length_append]
    rw [List.take_append_of_le_length (by omega)]
    congr 1
    omega
   rw [segN_append t2 hq1, hq1]
   simp only [hf]
   cases hl : lookB out c.f0 with
   | none => exact mat_append p q n _ p2 t2 hp' h1' hq2
   | some v =>
    simp only
    by_cases he : v = fstT t q
    ·
     rw [if_pos he, if_pos he]
     exact mat_append p q n _ p2 t2 hp' h1' hq2
    ·
     rw [if_neg he, if_neg he]
     rfl
  ·
   rw [if_neg hv, if_neg hv]
   rcases t with _ | ⟨d, t⟩
   ·
    cases h2
   ·
    show (if d = c then mat (p ++ p2) (t ++ t2) out else none) = Option.bind (if d = c then mat p t out else none) _
    by_cases he : d = c
    ·
     rw [if_pos he, if_pos he]
     subst he
     exact mat_append p t (n + ar d) out p2 t2 hp' h1' h2
    ·
     rw [if_neg he, if_neg he]
     rfl
end Go.Proofs.Ytdlkhpfgkghhmaa.P.M
