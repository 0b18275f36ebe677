/- RewriteInner: the law answers true at every input that the given row speaks of. Conditions: those of the given row, none besides. (Part 4 of 6; written by programs of this session, which drive the kit's print, and by hand.) -/
import Derived.Test.YtdlkhpfgkghhmaaZRewriteInner0
import Derived.Test.YtdlkhpfgkghhmaaZRewriteInner2
set_option maxHeartbeats 8000000
set_option maxRecDepth 100000
set_option linter.unusedVariables false
set_option linter.unusedSimpArgs false
-- ==== PF57
namespace Go.Proofs.Ytdlkhpfgkghhmaa.P
open Go.RowKit Go.Proofs.YtdlkhpfgkghhmaaW.PrintWords Go.Proofs.YtdlkhpfgkghhmaaW.PrintLast Go.Proofs.YtdlkhpfgkghhmaaW.PrintMore
attribute [local go_sem] max2_int min2_int max_two min_two max_three min_three max_four min_four

/-! ### aumbryref05_At: function 57 -/
def aumbryref05_At.l0 : Nat → List (S104) → ByteArray → Int → Int → Option (Int)
 | 0, _, _, _, _ => none
 | k + 1, x0, x1, x7, x8 => if x8 < x7 then (if 0 ≤ x8 then (if x8 < (x0.length : Int) then (if ((rd_T104 x0 x8).f0).toList = x1.toList then (some x8) else (aumbryref05_At.l0 k x0 x1 x7 (wrap64 (x8 + 1)))) else (none)) else (none)) else (some (-1))
def aumbryref05_At.f (k : Nat) (l0 : List (S104)) (a1 : ByteArray) : Option (Int) := aumbryref05_At.l0 k l0 a1 (l0.length : Int) 0
theorem aumbryref05_At.calls (k : Nat) (A0 : Option Addr) (c0 : Nat) (l0 : List (S104)) (a1 : ByteArray) (r : Int) (w : World) (hr0 : Kd.C k104 w A0 l0.length l0) (hc0 : l0.length ≤ c0) (h : aumbryref05_At.f k l0 a1 = some r) :
 Calls Try.prog 57 #[.slice A0 l0.length c0, .string a1] w fun e w' => e = .returned (.int .i64 r) ∧ Drawn0 w w' := by
 have HR0 := zM hr0
 have HC0 := zM hc0
 clear hr0 hc0
 have H : (aumbryref05_At.l0 k l0 a1 (l0.length : Int) 0) = some r := h
 clear h
 have H' := zM H
 clear H
 go_enter Try.func57, Try.ntmps57
 go_wp2
 go_loopg [8] k (fun kq v8 w' => ∃ (x8_1 : Int), v8 = .int .i64 x8_1 ∧ Aside0 (aumbryref05_At.l0 kq l0 a1 (l0.length : Int) x8_1 = some r) ∧ Aside0 (kq ≤ k) ∧ Drawn0 w w')
 case atStart => exact ⟨(0), zy, H', ⟨Nat.le_refl _⟩, zd⟩
 case round =>
  clear H'
  try clear p2
  obtain ⟨x8_1, rfl, HA, HK1, ⟨m1, rfl⟩⟩ := hrel
  cases gk with
  | zero => exact absurd HA.out (by simp [aumbryref05_At.l0])
  | succ k1 =>
   have H := HA.out
   clear HA
   simp only [aumbryref05_At.l0] at H
   by_cases c3 : x8_1 < (l0.length : Int)
   ·
    rw [if_pos c3] at H
    have c3b0 : decide (x8_1 < (l0.length : Int)) = true := zQ c3
    clear c3
    by_cases c4 : 0 ≤ x8_1
    ·
     rw [if_pos c4] at H
     have c4b0 : decide (0 ≤ x8_1) = true := zQ c4
     clear c4
     by_cases c5 : x8_1 < (l0.length : Int)
     ·
      rw [if_pos c5] at H
      have c5b0 : decide (x8_1 < (l0.length : Int)) = true := zQ c5
      clear c5
      by_cases c6 : ((rd_T104 l0 x8_1).f0).toList = a1.toList
      ·
       rw [if_pos c6] at H
       have c6b0 : (((rd_T104 l0 x8_1).f0).toList == a1.toList) = true := zG c6
       have c6b1 : (((rd_T104 l0 x8_1).f0).toList != a1.toList) = false := zH c6
       clear c6
       obtain rfl := zS H
       have p101 : 0 ≤ (x8_1 : Int) := zT zv
       have q101 : x8_1 < (l0.length : Int) := zT zv
       obtain ⟨ad101, A101_1, c101_1, e101, hx101_0, hx101_1, hl101_1, hi101_1⟩ := at_T104 HR0.out x8_1 p101 q101
       cases e101
       have HR101_1 := zM hi101_1
       have HC101_1 := zM hl101_1
       clear hi101_1 hl101_1
       replace p101 := eq_true p101
       replace q101 := eq_true q101
       go_wp2
       go_ret
       exact ⟨zy, zd⟩
      ·
       rw [if_neg c6] at H
       have c6b0 : (((rd_T104 l0 x8_1).f0).toList == a1.toList) = false := zE c6
       have c6b1 : (((rd_T104 l0 x8_1).f0).toList != a1.toList) = true := zF c6
       have H' := zM H
       clear H
       have p101 : 0 ≤ (x8_1 : Int) := zT zv
       have q101 : x8_1 < (l0.length : Int) := zT zv
       obtain ⟨ad101, A101_1, c101_1, e101, hx101_0, hx101_1, hl101_1, hi101_1⟩ := at_T104 HR0.out x8_1 p101 q101
       cases e101
       have HR101_1 := zM hi101_1
       have HC101_1 := zM hl101_1
       clear hi101_1 hl101_1
       replace p101 := eq_true p101
       replace q101 := eq_true q101
       go_wp2
       go_roundg k1
       case measure => have := HK1.out; omega
       case rel => exact ⟨(wrap64 (x8_1 + 1)), zy, H', ⟨by have := HK1.out; omega⟩, zd⟩
     ·
      rw [if_neg c5] at H
      exact absurd H (by simp)
    ·
     rw [if_neg c4] at H
     exact absurd H (by simp)
   ·
    rw [if_neg c3] at H
    have c3b0 : decide (x8_1 < (l0.length : Int)) = false := zR c3
    clear c3
    obtain rfl := zS H
    go_wp2
    go_ret
    exact ⟨zy, zd⟩


-- ==== PF36

/-! ### aumbryref07_Todo: function 36 -/
mutual
def aumbryref07_Todo.l0 : Nat → List (S54) → List (S104) → List (S70) → List (List (S54)) → Int → Int → Option ((List (S70)))
 | 0, _, _, _, _, _, _ => none
 | k + 1, x0, x1, x5, x6, x26, x27 => if x27 < x26 then (if 0 ≤ x27 then (if x27 < (x6.length : Int) then ((aumbryref07_Todo.f k (rd_L3 x6 x27) x1).bind fun t115 => (if x5.length + t115.length < 2513169434916 then (aumbryref07_Todo.l0 k x0 x1 (x5 ++ t115) x6 x26 (wrap64 (x27 + 1))) else (none))) else (none)) else (none)) else (if 0 < (x0.length : Int) then (if x5.length < 2513169434916 then (some (x5 ++ [(⟨1, (⟨(rd_T54 x0 0).f0, (rd_T54 x0 0).f1⟩ : S54), ([] : List (S54))⟩ : S70)])) else (none)) else (none))
def aumbryref07_Todo.f : Nat → List (S54) → List (S104) → Option ((List (S70)))
 | 0, _, _ => none
 | k + 1, l0, l1 => (aumbryref05_Var.f k l0).bind fun t101 => (if t101 = true then (if 0 < (l0.length : Int) then ((aumbryref05_At.f k l1 ((rd_T54 l0 0).f0)).bind fun t103 => (if 0 ≤ t103 then (if t103 < (l1.length : Int) then ((aumbryref04_Copy.f ((rd_T104 l1 t103).f1)).bind fun t105 => (some (([(⟨2, (⟨(⟨#[]⟩ : ByteArray), 0⟩ : S54), t105⟩ : S70)] : List (S70))))) else (none)) else (none))) else (none)) else ((aumbryref04_Kids.f k l0).bind fun t111 => (aumbryref07_Todo.l0 k l0 l1 ([] : List (S70)) t111 (t111.length : Int) 0)))
end
theorem aumbryref07_Todo.calls (k : Nat) : ∀ (A0 : Option Addr) (c0 : Nat) (l0 : List (S54)) (A1 : Option Addr) (c1 : Nat) (l1 : List (S104)) (r : List (S70)) (w : World) (hr0 : Kd.C k54 w A0 l0.length l0) (hc0 : l0.length ≤ c0) (hr1 : Kd.C k104 w A1 l1.length l1) (hc1 : l1.length ≤ c1) (h : aumbryref07_Todo.f k l0 l1 = some r),
 Calls Try.prog 36 #[.slice A0 l0.length c0, .slice A1 l1.length c1] w fun e w' => ∃ v0_ : Value, e = .returned (v0_) ∧ Kd.N k70 70 w' w.heap.size (fun k_ => (w.heap.size ≤ k_)) v0_ r ∧ Below w.heap.size w w' := by
 induction k using Nat.strongRecOn with
 | _ k ih =>
 intro A0 c0 l0 A1 c1 l1 r w hr0 hc0 hr1 hc1 h
 cases k with
 | zero => exact absurd h (by simp [aumbryref07_Todo.f])
 | succ k =>
 simp only [aumbryref07_Todo.f] at h
 have hu70 := Try.underlying70
 have hu54 := Try.underlying54
 have HR0 := zM hr0
 have HC0 := zM hc0
 clear hr0 hc0
 have HR1 := zM hr1
 have HC1 := zM hc1
 clear hr1 hc1
 have HB := zM (Below.refl w.heap.size w)
 have H : ((aumbryref05_Var.f k l0).bind fun t101 => (if t101 = true then (if 0 < (l0.length : Int) then ((aumbryref05_At.f k l1 ((rd_T54 l0 0).f0)).bind fun t103 => (if 0 ≤ t103 then (if t103 < (l1.length : Int) then ((aumbryref04_Copy.f ((rd_T104 l1 t103).f1)).bind fun t105 => (some (([(⟨2, (⟨(⟨#[]⟩ : ByteArray), 0⟩ : S54), t105⟩ : S70)] : List (S70))))) else (none)) else (none))) else (none)) else ((aumbryref04_Kids.f k l0).bind fun t111 => (aumbryref07_Todo.l0 k l0 l1 ([] : List (S70)) t111 (t111.length : Int) 0)))) = some r := h
 clear h
 replace H := zB H
 obtain ⟨t101, A30, H⟩ := H
 try dsimp only at H
 have A3 := zM A30
 clear A30
 by_cases c4 : t101 = true
 ·
  subst c4
  rw [if_pos rfl] at H
  by_cases c5 : 0 < (l0.length : Int)
  ·
   rw [if_pos c5] at H
   have c5b0 : decide (0 < (l0.length : Int)) = true := zQ c5
   have c5b1 : decide (0 < l0.length) = true := zQ (by omega)
   clear c5
   replace H := zB H
   obtain ⟨t103, A60, H⟩ := H
   try dsimp only at H
   have A6 := zM A60
   clear A60
   by_cases c7 : 0 ≤ t103
   ·
    rw [if_pos c7] at H
    have c7b0 : decide (0 ≤ t103) = true := zQ c7
    clear c7
    by_cases c8 : t103 < (l1.length : Int)
    ·
     rw [if_pos c8] at H
     have c8b0 : decide (t103 < (l1.length : Int)) = true := zQ c8
     clear c8
     replace H := zB H
     obtain ⟨t105, A90, H⟩ := H
     try dsimp only at H
     have A9 := zM A90
     clear A90
     obtain ⟨y108, hy108⟩ : ∃ y_ : List (S70), y_ = (([(⟨2, (⟨(⟨#[]⟩ : ByteArray), 0⟩ : S54), t105⟩ : S70)] : List (S70))) := ⟨_, rfl⟩
     replace H : (some y108) = some r := by first | (rw [hy108]; with_reducible exact H) | (have H2_ := (Option.bind_some _ _).symm.trans H; rw [hy108]; with_reducible exact H2_) | (have H2_ := (Option.bind_some _ _).symm.trans H; with_reducible exact H2_) | with_reducible exact H | (rw [hy108]; exact H) | exact H
     have Ny108 := zM hy108
     clear hy108
     obtain rfl := zS H
     go_enter Try.func36, Try.ntmps36
     go_wp2_with (first | ((with_reducible refine gate_callee (f := 56) rfl ?_); refine goesL_ (some 9) rfl rfl Try.func56 (by kernel_rfl) rfl #[.slice A0 l0.length c0] rfl zl ?_; (with_reducible refine (aumbryref05_Var.calls k _ _ l0 true _ ?side1 ?side2 A3.out).mono ?_); (case side1 => exact Kd.C_below HR0.out zg); (case side2 => exact HC0.out); rintro e w' ⟨rfl, ⟨nd, rfl⟩⟩; refine ⟨_, rfl, ?_⟩; have p102 : 0 ≤ (0 : Int) := (by omega); have q102 : 0 < (l0.length : Int) := zT zv; obtain ⟨ad102, e102, hx102_0, hx102_1⟩ := at_T54 HR0.out 0 p102 q102; cases e102; have qi102 : (0 < l0.length) = True := eq_true (by omega); (try rw [show ((0 : Int)).toNat = 0 from rfl] at hx102_0); (try rw [show 0 * 2 = 0 from rfl] at hx102_0); (try rw [Addr.add_zero'] at hx102_0); (try rw [show ((0 : Int)).toNat = 0 from rfl] at hx102_1); (try rw [show 0 * 2 = 0 from rfl] at hx102_1); (try rw [Addr.add_zero'] at hx102_1); replace p102 := eq_true p102; replace q102 := eq_true q102) | ((with_reducible refine gate_callee (f := 57) rfl ?_); refine goesL_ (some 16) rfl rfl Try.func57 (by kernel_rfl) rfl #[.slice A1 l1.length c1, .string ((rd_T54 l0 0).f0)] rfl zl ?_; (with_reducible refine (aumbryref05_At.calls k _ _ l1 ((rd_T54 l0 0).f0) t103 _ ?side1 ?side2 A6.out).mono ?_); (case side1 => exact Kd.C_below HR1.out zg); (case side2 => exact HC1.out); rintro e w' ⟨rfl, ⟨nd, rfl⟩⟩; refine ⟨_, rfl, ?_⟩; have p104 : 0 ≤ (t103 : Int) := zT zv; have q104 : t103 < (l1.length : Int) := zT zv; obtain ⟨ad104, A104_1, c104_1, e104, hx104_0, hx104_1, hl104_1, hi104_1⟩ := at_T104 HR1.out t103 p104 q104; cases e104; have HR104_1 := zM hi104_1; have HC104_1 := zM hl104_1; clear hi104_1 hl104_1; replace p104 := eq_true p104; replace q104 := eq_true q104) | ((with_reducible refine gate_callee (f := 13) rfl ?_); refine goesL_ (some 20) rfl rfl Try.func13 (by kernel_rfl) rfl #[.slice A104_1 ((rd_T104 l1 t103).f1).length c104_1] rfl zl ?_; (with_reducible refine (aumbryref04_Copy.calls _ _ ((rd_T104 l1 t103).f1) t105 _ ?side1 ?side2 A9.out).mono ?_); (case side1 => exact Kd.C_below HR104_1.out zg); (case side2 => exact HC104_1.out); rintro e w10 ⟨v106, rfl, ho0, hb⟩; refine ⟨_, rfl, ?_⟩; have HO107 := zM (Kd.R_lower (Kd.R_newM (M := fun k_ => (w.heap.size ≤ k_)) ho0 (below_size zb) (fun k_ h_ => h_)) (below_size zb)); replace HB := zM (below_step zb hb); (try clear hb); (try clear ho0); obtain ⟨Ao11, co11, eo11⟩ := Kd.R_slice HO107.out; subst eo11) | ((with_reducible refine gate_dst (N := 22) rfl ?_); refine Kd.N_lit k70 _ 70 ?hg (N' := 22) ?hd (xs := ([(⟨2, (⟨(⟨#[]⟩ : ByteArray), 0⟩ : S54), t105⟩ : S70)] : List (S70))) (inner := [.int .i64 2, .string (⟨#[]⟩ : ByteArray), .int .i64 0, .slice Ao11 t105.length co11]) (ok := (fun k_ => (w.heap.size ≤ k_))) (okp := (fun k_ => (w.heap.size ≤ k_))) ?hr ?hp (fun _ hk => hk) ((show ∀ k_, w10.heap.size ≤ k_ → (fun k_ => (w.heap.size ≤ k_)) k_ from fun k_ hk => (Nat.le_trans (below_size zb) hk)) _ (Nat.le_refl _)) (Below.refl _ _) (Nat.le_refl _) (by simp) ?_; (case hd => rfl); (case hg => rfl); (case hr => first | (go_simp; done) | (go_simp; rfl)); (case hp => exact (Reps.c4 (show Kd.FK k70 _ _ (⟨2, (⟨(⟨#[]⟩ : ByteArray), 0⟩ : S54), t105⟩ : S70) [.int .i64 2, .string (⟨#[]⟩ : ByteArray), .int .i64 0, .slice Ao11 t105.length co11] from (k70_mkF _ _ (⟨2, (⟨(⟨#[]⟩ : ByteArray), 0⟩ : S54), t105⟩ : S70) (Kd.R_reads' (Kd.R_mono (ok' := (fun k_ => (w.heap.size ≤ k_))) (HO107.out) (fun k_ hk => hk.1))).2.1 (Kd.R_F (Kd.R_mono (ok' := (fun k_ => (w.heap.size ≤ k_))) (HO107.out) (fun k_ hk => hk.1))))) (Reps.none _ _))); intro v109 w12 ho13 hb hg_ hnew_; clear hg_ hnew_; (first | rw [← Ny108.out] at ho13 | (simp only [Int.reduceToNat] at ho13; rw [← Ny108.out] at ho13)); have HO110 := zM (Kd.N_lower ho13 (below_size zb)); replace HB := zM (below_step zb hb); clear HO107; clear hb ho13))
     go_ret
     exact ⟨_, zw, Kd.N_below HO110.out zg, zb⟩
    ·
     rw [if_neg c8] at H
     exact absurd H (by simp)
   ·
    rw [if_neg c7] at H
    exact absurd H (by simp)
  ·
   rw [if_neg c5] at H
   exact absurd H (by simp)
 ·
  replace c4 := zI c4
  subst c4
  rw [if_neg (show ¬ (false = true) by decide)] at H
  replace H := zB H
  obtain ⟨t111, A140, H⟩ := H
  try dsimp only at H
  have A14 := zM A140
  clear A140
  have H' := zM H
  clear H
  go_enter Try.func36, Try.ntmps36
  go_wp2_with (first | ((with_reducible refine gate_callee (f := 56) rfl ?_); refine goesL_ (some 9) rfl rfl Try.func56 (by kernel_rfl) rfl #[.slice A0 l0.length c0] rfl zl ?_; (with_reducible refine (aumbryref05_Var.calls k _ _ l0 false _ ?side1 ?side2 A3.out).mono ?_); (case side1 => exact Kd.C_below HR0.out zg); (case side2 => exact HC0.out); rintro e w' ⟨rfl, ⟨nd, rfl⟩⟩; refine ⟨_, rfl, ?_⟩) | ((with_reducible refine gate_callee (f := 54) rfl ?_); refine goesL_ (some 24) rfl rfl Try.func54 (by kernel_rfl) rfl #[.slice A0 l0.length c0] rfl zl ?_; (with_reducible refine (aumbryref04_Kids.calls k _ _ l0 t111 _ ?side1 ?side2 A14.out).mono ?_); (case side1 => exact Kd.C_below HR0.out zg); (case side2 => exact HC0.out); rintro e w15 ⟨v112, rfl, ho0, hb⟩; refine ⟨_, rfl, ?_⟩; have HO113 := zM (Kd.N_lower (Kd.N_mono (ok' := fun k_ => (w.heap.size ≤ k_)) (Kd.S_N (Kd.S_bound ho0)) (fun k_ hk_ => (Nat.le_trans (below_size zb) hk_.2.1))) (below_size zb)); replace HB := zM (below_step zb hb); (try clear hb); (try clear ho0); obtain ⟨Ao16, co16, eo16⟩ := Kd.N_slice HO113.out; subst eo16))
  go_loopg [5, 27] k (fun kq v5 v27 w' => ∃ (x5_1 : List (S70)) (x27_1 : Int), v27 = .int .i64 x27_1 ∧ Aside0 (aumbryref07_Todo.l0 kq l0 l1 x5_1 t111 (t111.length : Int) x27_1 = some r) ∧ Aside0 (kq ≤ k) ∧ Aside0 (Kd.N k70 70 w' w.heap.size (fun k_ => (w.heap.size ≤ k_) ∧ some k_ ≠ ((.slice Ao16 t111.length co16) : Value).ownBlock) v5 x5_1) ∧ Aside0 (Kd.N (Kd.slice 54 k54) 23 w' w.heap.size (fun k_ => (w.heap.size ≤ k_) ∧ some k_ ≠ (v5 : Value).ownBlock) (.slice Ao16 t111.length co16) t111) ∧ Aside0 (Below w.heap.size w w'))
  case atStart => exact ⟨(([] : List (S70))), (0), zy, H', ⟨Nat.le_refl _⟩, ⟨by first | exact Kd.S_nil _ _ _ _ _ | exact Kd.N_nil _ _ _ _ _ | exact Kd.V_nil _ _ _ _ _ | exact Kd.Q_nil _ _ _ _ _ | exact Kd.R_nil _ _ _ _ _⟩, ⟨by (with_reducible repeat (first | apply Kd.N_alloc | apply Kd.N_drewN | apply Kd.N_drew)); exact Kd.N_mono HO113.out (fun _ hk => ⟨hk, (by simp [Value.ownBlock])⟩)⟩, ⟨zb⟩⟩
  case round =>
   clear H'
   try clear c1
   try clear p1
   try clear q1
   try clear hx1
   try clear qi1
   try clear p2
   try clear c3
   try clear c4
   try clear c5
   try clear c5b0
   try clear c5b1
   try clear c7
   try clear c7b0
   try clear c8
   try clear c8b0
   try clear c10
   try clear p10
   try clear q10
   try clear hx10
   try clear qi10
   try clear c13
   try clear hx102_0
   try clear hx102_1
   try clear hx104_0
   try clear hx104_1
   try clear p102
   try clear p104
   try clear q102
   try clear q104
   obtain ⟨x5_1, x27_1, rfl, HA, HK1, HO_5, HO_6, HB⟩ := hrel
   cases gk with
   | zero => exact absurd HA.out (by simp [aumbryref07_Todo.l0])
   | succ k1 =>
    have H := HA.out
    clear HA
    simp only [aumbryref07_Todo.l0] at H
    by_cases c17 : x27_1 < (t111.length : Int)
    ·
     rw [if_pos c17] at H
     have c17b0 : decide (x27_1 < (t111.length : Int)) = true := zQ c17
     clear c17
     by_cases c18 : 0 ≤ x27_1
     ·
      rw [if_pos c18] at H
      have c18b0 : decide (0 ≤ x27_1) = true := zQ c18
      clear c18
      by_cases c19 : x27_1 < (t111.length : Int)
      ·
       rw [if_pos c19] at H
       have c19b0 : decide (x27_1 < (t111.length : Int)) = true := zQ c19
       clear c19
       replace H := zB H
       obtain ⟨t115, A200, H⟩ := H
       try dsimp only at H
       have A20 := zM A200
       clear A200
       by_cases c21 : x5_1.length + t115.length < 2513169434916
       ·
        rw [if_pos c21] at H
        have LMc21 := zM c21
        clear c21
        obtain ⟨y118, hy118⟩ : ∃ y_ : List (S70), y_ = (x5_1 ++ t115) := ⟨_, rfl⟩
        replace H : (aumbryref07_Todo.l0 k1 l0 l1 y118 t111 (t111.length : Int) (wrap64 (x27_1 + 1))) = some r := by first | (rw [hy118]; with_reducible exact H) | (have H2_ := (Option.bind_some _ _).symm.trans H; rw [hy118]; with_reducible exact H2_) | (have H2_ := (Option.bind_some _ _).symm.trans H; with_reducible exact H2_) | with_reducible exact H | (rw [hy118]; exact H) | exact H
        have Ny118 := zM hy118
        clear hy118
        have H' := zM H
        clear H
        have p114 : 0 ≤ (x27_1 : Int) := zT zv
        have q114 : x27_1 < (t111.length : Int) := zT zv
        obtain ⟨ad114, A114_0, c114_0, e114, hx114_0, hl114_0, hi114_0⟩ := at_L3 (Kd.N_reads' HO_6.out).2.2 x27_1 p114 q114
        cases e114
        obtain ⟨ce114, hce114, hMe114, hcc114⟩ := Kd.N_get HO_6.out [] x27_1 p114 (by first | exact q114 | exact zT zv | (have e_ := (Kd.N_reads' HO_6.out).1; omega))
        obtain ⟨ua114_0, uc114_0, rfl, ul114_0, ge114_0⟩ := Kd.FK_slice_open hMe114
        have hv114_0 := hcc114 0 _ rfl
        rw [Nat.add_zero, show ((Kd.slice 54 k54)).sz = 1 from rfl, Nat.mul_one] at hv114_0
        replace hv114_0 := zS (hv114_0.symm.trans hx114_0)
        injection hv114_0 with hva_ hvn_ hvc_
        rw [hva_] at ge114_0
        rw [hvc_] at ul114_0
        have HL114_0 := zM (show Kd.V k54 54 _ w.heap.size _ _ (rd_L3 t111 x27_1) from Kd.V_mk ul114_0 ge114_0)
        clear hva_ hvn_ hvc_ ge114_0 ul114_0
        clear hcc114 hce114
        have HR114_0 := zM hi114_0
        have HC114_0 := zM hl114_0
        clear hi114_0 hl114_0
        replace p114 := eq_true p114
        replace q114 := eq_true q114
        go_wp2_with (first | ((with_reducible refine gate_callee (f := 36) rfl ?_); refine goesL_ (some 36) rfl rfl Try.func36 (by kernel_rfl) rfl #[.slice A114_0 (rd_L3 t111 x27_1).length c114_0, .slice A1 l1.length c1] rfl zl ?_; (with_reducible refine (ih k1 (by have := HK1.out; omega) _ _ (rd_L3 t111 x27_1) _ _ l1 t115 _ ?side1 ?side2 ?side3 ?side4 A20.out).mono ?_); (case side1 => repeat (first | exact (by repeat (first | (with_reducible exact HR114_0.out) | (with_reducible first | refine Kd.C_alloc ?_ _ | refine Kd.C_drewN ?_ _ | refine Kd.C_drew ?_) | exact HR114_0.out)) | (with_reducible first | refine Kd.C_alloc ?_ _ | refine Kd.C_drewN ?_ _ | refine Kd.C_drew ?_))); (case side2 => exact HC114_0.out); (case side3 => exact Kd.C_below HR1.out zb); (case side4 => exact HC1.out); rintro e w22 ⟨v116, rfl, ho0, hb⟩; refine ⟨_, rfl, ?_⟩; replace HL114_0 := zM (Kd.V_elder' (Kd.V_below HL114_0.out zg) (Kd.N_base ho0) hb); have HO117 := zM (Kd.N_lower (Kd.N_mono (ok' := fun k_ => (w.heap.size ≤ k_) ∧ some k_ ≠ (u5 : Value).ownBlock ∧ some k_ ≠ (.slice (some ad114) t111.length co16 : Value).ownBlock) ho0 (fun k_ hk_ => ⟨(Nat.le_trans (below_size zb) hk_), (Kd.fresh' (Kd.N_lt (Kd.N_below HO_5.out zg)) k_ hk_), (Kd.fresh' (Kd.N_lt (Kd.N_below HO_6.out zg)) k_ hk_)⟩)) (below_size zb)); replace HO_5 := zM (Kd.N_elder' (Kd.N_below HO_5.out zg) (Kd.N_base ho0) hb); replace HO_6 := zM (Kd.N_elder' (Kd.N_below HO_6.out zg) (Kd.N_base ho0) hb); replace HR114_0 := zM (Kd.C_below (by repeat (first | (with_reducible exact HR114_0.out) | (with_reducible first | refine Kd.C_alloc ?_ _ | refine Kd.C_drewN ?_ _ | refine Kd.C_drew ?_) | exact HR114_0.out)) hb); replace HB := zM (below_step zb hb); (try clear hb); (try clear ho0); obtain ⟨Ao24, co24, eo24⟩ := Kd.N_slice HO117.out; subst eo24) | ((with_reducible refine gate_builtin (b := .append) (xs := #[.tmp 30, .tmp 36]) rfl ?_); at_builtin; refine Kd.N_append_rows k70 (w0 := w) w.heap.size rfl (.tmp 30) (.tmp 36) 24 70 (.agg #[(.int .i64 0), (.string ⟨#[]⟩), (.int .i64 0), (.slice none 0 0)]) 56 rfl Try.underlying24 info70 rfl (by decide) (by omega) u5 x5_1 t115 _ _ _ (fun k_ => (w.heap.size ≤ k_) ∧ some k_ ≠ (.slice (some ad114) t111.length co16 : Value).ownBlock) (fun k_ => ((fun k_ => (w.heap.size ≤ k_) ∧ some k_ ≠ (.slice (some ad114) t111.length co16 : Value).ownBlock)) k_ ∧ some k_ ≠ (u5 : Value).ownBlock) rfl rfl ?aO ?aR (fun _ hk => hk) ?aF ?aB ?aS ?aL ?_; (case aR => exact (by skip; exact Kd.N_F (Kd.N_mono (ok' := (fun k_ => ((fun k_ => (w.heap.size ≤ k_) ∧ some k_ ≠ (.slice (some ad114) t111.length co16 : Value).ownBlock)) k_ ∧ some k_ ≠ (u5 : Value).ownBlock)) (HO117.out) (fun k_ hk => ⟨⟨hk.1, hk.2.2⟩, hk.2.1⟩)))); (case aB => exact zb); (case aF => exact (fun k_ hk => ⟨(Nat.le_trans (below_size zb) hk), Kd.fresh' (Kd.N_lt (Kd.N_below HO_6.out zg)) k_ hk⟩)); (case aO => exact (by (with_reducible repeat (first | apply Kd.N_alloc | apply Kd.N_drewN | apply Kd.N_drew)); exact Kd.N_mono HO_5.out (fun _ hk => ⟨hk.1.1, hk.1.2⟩))); (case aS => exact (below_size zb)); (case aL => have := LMc21.out; omega); intro v119 w23 ho hb hg hat; rw [← Ny118.out] at ho; replace HO_6 := zM (Kd.N_afterv (ok := (fun k_ => (w.heap.size ≤ k_) ∧ some k_ ≠ (.slice Ao24 t115.length co24 : Value).ownBlock)) (by (with_reducible repeat (first | apply Kd.N_alloc | apply Kd.N_drewN | apply Kd.N_drew)); exact Kd.N_mono HO_6.out (fun _ hk => ⟨⟨hk.1.1, hk.2⟩, hk.1.2⟩)) hg hat); replace HL114_0 := zM (Kd.V_afterv (ok := (fun k_ => (w.heap.size ≤ k_) ∧ some k_ ≠ (.slice (some ad114) t111.length co16 : Value).ownBlock ∧ some k_ ≠ (.slice Ao24 t115.length co24 : Value).ownBlock)) (by (with_reducible repeat (first | apply Kd.V_alloc | apply Kd.V_drewN | apply Kd.V_drew)); exact Kd.V_mono HL114_0.out (fun _ hk => ⟨⟨hk.1.1.1, ⟨hk.1.2, hk.2⟩⟩, hk.1.1.2⟩)) hg hat); replace HO117 := zM (Kd.N_afterv (ok := (fun k_ => (w.heap.size ≤ k_) ∧ some k_ ≠ (.slice (some ad114) t111.length co16 : Value).ownBlock)) (by (with_reducible repeat (first | apply Kd.N_alloc | apply Kd.N_drewN | apply Kd.N_drew)); exact Kd.N_mono HO117.out (fun _ hk => ⟨⟨hk.1, hk.2.2⟩, hk.2.1⟩)) hg hat); replace HB := zM (hb); have HO120 := zM (ho); clear HO_5; clear ho hb hg hat))
        go_roundg k1
        case measure => have := HK1.out; omega
        case rel => exact ⟨(y118), (wrap64 (x27_1 + 1)), zy, H', ⟨by have := HK1.out; omega⟩, ⟨Kd.N_below HO120.out zg⟩, ⟨by (with_reducible repeat (first | apply Kd.N_alloc | apply Kd.N_drewN | apply Kd.N_drew)); exact Kd.N_mono HO_6.out (fun _ hk => ⟨hk.1.1, hk.2⟩)⟩, ⟨zb⟩⟩
       ·
        rw [if_neg c21] at H
        exact absurd H (by simp)
      ·
       rw [if_neg c19] at H
       exact absurd H (by simp)
     ·
      rw [if_neg c18] at H
      exact absurd H (by simp)
    ·
     rw [if_neg c17] at H
     have c17b0 : decide (x27_1 < (t111.length : Int)) = false := zR c17
     clear c17
     by_cases c25 : 0 < (l0.length : Int)
     ·
      rw [if_pos c25] at H
      have c25b0 : decide (0 < (l0.length : Int)) = true := zQ c25
      have c25b1 : decide (0 < l0.length) = true := zQ (by omega)
      clear c25
      by_cases c26 : x5_1.length < 2513169434916
      ·
       rw [if_pos c26] at H
       have LMc26 := zM c26
       clear c26
       obtain ⟨y122, hy122⟩ : ∃ y_ : List (S70), y_ = (x5_1 ++ [(⟨1, (⟨(rd_T54 l0 0).f0, (rd_T54 l0 0).f1⟩ : S54), ([] : List (S54))⟩ : S70)]) := ⟨_, rfl⟩
       replace H : (some y122) = some r := by first | (rw [hy122]; with_reducible exact H) | (have H2_ := (Option.bind_some _ _).symm.trans H; rw [hy122]; with_reducible exact H2_) | (have H2_ := (Option.bind_some _ _).symm.trans H; with_reducible exact H2_) | with_reducible exact H | (rw [hy122]; exact H) | exact H
       have Ny122 := zM hy122
       clear hy122
       obtain rfl := zS H
       have p121 : 0 ≤ (0 : Int) := (by omega)
       have q121 : 0 < (l0.length : Int) := zT zv
       obtain ⟨ad121, e121, hx121_0, hx121_1⟩ := at_T54 HR0.out 0 p121 q121
       cases e121
       have qi121 : (0 < l0.length) = True := eq_true (by omega)
       (try rw [show ((0 : Int)).toNat = 0 from rfl] at hx121_0)
       (try rw [show 0 * 2 = 0 from rfl] at hx121_0)
       (try rw [Addr.add_zero'] at hx121_0)
       (try rw [show ((0 : Int)).toNat = 0 from rfl] at hx121_1)
       (try rw [show 0 * 2 = 0 from rfl] at hx121_1)
       (try rw [Addr.add_zero'] at hx121_1)
       replace hx121_0 := (HB.out.cell (World.block_lt_of_cell? w _ hx121_0)).trans hx121_0
       replace hx121_1 := (HB.out.cell (World.block_lt_of_cell? w _ hx121_1)).trans hx121_1
       replace p121 := eq_true p121
       replace q121 := eq_true q121
       go_wp2_with (first | ((with_reducible refine gate_builtin (b := .append) (xs := #[.tmp 39, .tmp 44]) rfl ?_); at_builtin; refine Kd.N_append k70 (w0 := w) w.heap.size rfl (.tmp 39) (.tmp 44) 24 70 (.agg #[(.int .i64 0), (.string ⟨#[]⟩), (.int .i64 0), (.slice none 0 0)]) 56 rfl Try.underlying24 info70 rfl (by decide) (by omega) u5 x5_1 (⟨1, (⟨(rd_T54 l0 0).f0, (rd_T54 l0 0).f1⟩ : S54), ([] : List (S54))⟩ : S70) [.int .i64 1, .string ((rd_T54 l0 0).f0), .int .i64 ((rd_T54 l0 0).f1), .slice none 0 0] (fun k_ => (w.heap.size ≤ k_) ∧ some k_ ≠ (.slice Ao16 t111.length co16 : Value).ownBlock) (fun k_ => ((fun k_ => (w.heap.size ≤ k_) ∧ some k_ ≠ (.slice Ao16 t111.length co16 : Value).ownBlock)) k_ ∧ some k_ ≠ (u5 : Value).ownBlock) rfl rfl ?aP (fun _ hk => hk) ?aF ?aO ?aB ?aS ?aL ?_; (case aP => exact (k70_mkF _ _ (⟨1, (⟨(rd_T54 l0 0).f0, (rd_T54 l0 0).f1⟩ : S54), ([] : List (S54))⟩ : S70) (Nat.le_refl _) (Kd.F_nil _ _ _))); (case aB => exact zb); (case aF => exact (fun k_ hk => ⟨(Nat.le_trans (below_size zb) hk), Kd.fresh' (Kd.N_lt (Kd.N_below HO_6.out zg)) k_ hk⟩)); (case aO => exact (Kd.N_below HO_5.out zg)); (case aS => exact (below_size zb)); (case aL => have := LMc26.out; omega); intro v123 w27 ho hb hg hat; rw [← Ny122.out] at ho; replace HO_6 := zM (Kd.N_afterv (ok := (fun k_ => (w.heap.size ≤ k_))) (Kd.N_below HO_6.out zg) hg hat); replace HB := zM (hb); have HO124 := zM (ho); clear HO_5; clear ho hb hg hat))
       go_ret
       exact ⟨_, zw, by (with_reducible repeat (first | apply Kd.N_alloc | apply Kd.N_drewN | apply Kd.N_drew)); exact Kd.N_mono HO124.out (fun _ hk => hk.1), zb⟩
      ·
       rw [if_neg c26] at H
       exact absurd H (by simp)
     ·
      rw [if_neg c25] at H
      exact absurd H (by simp)


-- ==== PF14

/-! ### aumbryref07_Start: function 14 -/
def aumbryref07_Start.f (k : Nat) (l0 : List (S54)) : Option ((List (S70)) × (List (List (S54))) × Int × List ByteArray × Int) := (aumbryref04_Check.f k l0).bind fun t102 => (if t102 = 0 then ((aumbryref07_Ground.f k l0).bind fun t103 => (if t103 = true then ((aumbryref07_Todo.f k l0 ([] : List (S104))).bind fun t104 => ((aumbryref07_Turned.f k t104).bind fun t107 => (some (t107, ([] : List (List (S54))), 0, ([] : List ByteArray), 0)))) else (some (([] : List (S70)), ([] : List (List (S54))), 0, ([] : List ByteArray), 7)))) else (some (([] : List (S70)), ([] : List (List (S54))), 0, ([] : List ByteArray), t102)))
theorem aumbryref07_Start.calls (k : Nat) (A0 : Option Addr) (c0 : Nat) (l0 : List (S54)) (r1 : List (S70)) (r2 : List (List (S54))) (r3 : Int) (r4 : List ByteArray) (r5 : Int) (w : World) (hr0 : Kd.C k54 w A0 l0.length l0) (hc0 : l0.length ≤ c0) (h : aumbryref07_Start.f k l0 = some (r1, r2, r3, r4, r5)) :
 Calls Try.prog 14 #[.slice A0 l0.length c0] w fun e w' => ∃ v0_ v1_ v3_ : Value, e = .returned (.tuple #[.agg #[v0_, v1_, .int .i64 r3, v3_], .int .i64 r5]) ∧ Kd.N k70 70 w' w.heap.size (fun k_ => (w.heap.size ≤ k_) ∧ some k_ ≠ (v1_ : Value).ownBlock ∧ some k_ ≠ (v3_ : Value).ownBlock) v0_ r1 ∧ Kd.N (Kd.slice 54 k54) 23 w' w.heap.size (fun k_ => (w.heap.size ≤ k_) ∧ some k_ ≠ (v0_ : Value).ownBlock ∧ some k_ ≠ (v3_ : Value).ownBlock) v1_ r2 ∧ Kd.R Kd.string 9 w' w.heap.size (fun k_ => (w.heap.size ≤ k_)) v3_ r4 ∧ Below w.heap.size w w' := by
 have hu28 := Try.underlying28
 have HR0 := zM hr0
 have HC0 := zM hc0
 clear hr0 hc0
 have HB := zM (Below.refl w.heap.size w)
 have H : ((aumbryref04_Check.f k l0).bind fun t102 => (if t102 = 0 then ((aumbryref07_Ground.f k l0).bind fun t103 => (if t103 = true then ((aumbryref07_Todo.f k l0 ([] : List (S104))).bind fun t104 => ((aumbryref07_Turned.f k t104).bind fun t107 => (some (t107, ([] : List (List (S54))), 0, ([] : List ByteArray), 0)))) else (some (([] : List (S70)), ([] : List (List (S54))), 0, ([] : List ByteArray), 7)))) else (some (([] : List (S70)), ([] : List (List (S54))), 0, ([] : List ByteArray), t102)))) = some (r1, r2, r3, r4, r5) := h
 clear h
 replace H := zB H
 obtain ⟨t102, A20, H⟩ := H
 try dsimp only at H
 have A2 := zM A20
 clear A20
 by_cases c3 : t102 = 0
 ·
  rw [if_pos c3] at H
  have c3b0 : (t102 == 0) = true := zG c3
  have c3b1 : (t102 != 0) = false := zH c3
  clear c3
  replace H := zB H
  obtain ⟨t103, A40, H⟩ := H
  try dsimp only at H
  have A4 := zM A40
  clear A40
  by_cases c5 : t103 = true
  ·
   subst c5
   rw [if_pos rfl] at H
   replace H := zB H
   obtain ⟨t104, A60, H⟩ := H
   try dsimp only at H
   have A6 := zM A60
   clear A60
   replace H := zB H
   obtain ⟨t107, A70, H⟩ := H
   try dsimp only at H
   have A7 := zM A70
   clear A70
   simp only [Option.some.injEq, Prod.mk.injEq] at H
   obtain ⟨rfl, rfl, rfl, rfl, rfl⟩ := H
   go_enter Try.func14, Try.ntmps14
   go_wp2_with (first | ((with_reducible refine gate_dst (N := 2) rfl ?_); refine box_event ?hg (N := 2) ?hd (cs := #[.slice none 0 0, .slice none 0 0, .int .i64 0, .slice none 0 0]) (t := 28) ?hr ?_; (case hd => rfl); (case hg => rfl); (case hr => first | (go_simp; done) | (go_simp; rfl)); intro gb101 hg w8 hbox hb; have BK101 := zM (hbox); have GW101 := zM (zh hg : w.heap.size ≤ gb101); have GE101 := zM (zh hg : w.heap.size ≤ gb101); replace HB := zM (below_step zb hb); clear hb hbox hg) | ((with_reducible refine gate_callee (f := 34) rfl ?_); refine goesL_ (some 6) rfl rfl Try.func34 (by kernel_rfl) rfl #[.slice A0 l0.length c0] rfl zl ?_; (with_reducible refine (aumbryref04_Check.calls k _ _ l0 t102 _ ?side1 ?side2 A2.out).mono ?_); (case side1 => exact Kd.C_below HR0.out zb); (case side2 => exact HC0.out); rintro e w' ⟨rfl, ⟨nd, rfl⟩⟩; refine ⟨_, rfl, ?_⟩; (try (rw [drewN_self w8]; generalize hq_ : World.drewN w8 _ = w8; have n0_ : Aside0 (w8.heap[gb101]? = some (.cells #[.slice none 0 0, .slice none 0 0, .int .i64 0, .slice none 0 0] 28 (0, 0))) := ⟨by rw [← hq_]; exact (zk BK101.out)⟩; have n1_ : Aside0 (Below w.heap.size w w8) := ⟨by rw [← hq_]; exact zb⟩; clear BK101 HB hq_; have BK101 := n0_; have HB := n1_; clear n0_ n1_))) | ((with_reducible refine gate_callee (f := 23) rfl ?_); refine goesL_ (some 12) rfl rfl Try.func23 (by kernel_rfl) rfl #[.slice A0 l0.length c0] rfl zl ?_; (with_reducible refine (aumbryref07_Ground.calls k _ _ l0 true _ ?side1 ?side2 A4.out).mono ?_); (case side1 => exact Kd.C_below HR0.out zb); (case side2 => exact HC0.out); rintro e w9 ⟨rfl, hb⟩; refine ⟨_, rfl, ?_⟩; replace BK101 := zM (blk_below (zk BK101.out) hb); replace HB := zM (below_step zb hb); (try clear hb)) | ((with_reducible refine gate_callee (f := 36) rfl ?_); refine goesL_ (some 16) rfl rfl Try.func36 (by kernel_rfl) rfl #[.slice A0 l0.length c0, .slice none 0 0] rfl zl ?_; (refine (aumbryref07_Todo.calls k _ _ l0 _ _ ([] : List (S104)) t104 _ ?side1 ?side2 ?side3 ?side4 A6.out).mono ?_); (case side1 => exact Kd.C_below HR0.out zb); (case side2 => exact HC0.out); (case side3 => exact Kd.C_nil _ _); (case side4 => exact Nat.le_refl _); rintro e w10 ⟨v105, rfl, ho0, hb⟩; refine ⟨_, rfl, ?_⟩; have HO106 := zM (Kd.N_lower (Kd.N_mono (ok' := fun k_ => (w.heap.size ≤ k_) ∧ k_ ≠ gb101) ho0 (fun k_ hk_ => ⟨(Nat.le_trans (below_size zb) hk_), (Kd.freshB (g := gb101) (o := .cells #[.slice none 0 0, .slice none 0 0, .int .i64 0, .slice none 0 0] 28 (0, 0)) (zk BK101.out) k_ hk_)⟩)) (below_size zb)); replace BK101 := zM (blk_below (zk BK101.out) hb); replace HB := zM (below_step zb hb); (try clear hb); (try clear ho0); obtain ⟨Ao11, co11, eo11⟩ := Kd.N_slice HO106.out; subst eo11) | ((with_reducible refine gate_callee (f := 35) rfl ?_); refine goesL_ (some 17) rfl rfl Try.func35 (by kernel_rfl) rfl #[.slice Ao11 t104.length co11] rfl zl ?_; (with_reducible refine (aumbryref07_Turned.calls k (fun k_ => ((w.heap.size ≤ k_) ∧ k_ ≠ gb101)) _ _ t104 t107 _ ?side1 A7.out).mono ?_); (case side1 => exact Kd.N_V (HO106.out)); rintro e w12 ⟨v108, rfl, ho0, hb⟩; refine ⟨_, rfl, ?_⟩; replace HO106 := zM (Kd.N_elder' (Kd.N_below HO106.out zg) (Kd.N_base ho0) hb); have HO109 := zM (Kd.N_lower (Kd.N_mono (ok' := fun k_ => (w.heap.size ≤ k_) ∧ k_ ≠ gb101) ho0 (fun k_ hk_ => ⟨Or.elim hk_ (fun hs_ => hs_.1) (fun hn_ => (Nat.le_trans (below_size zb) hn_)), Or.elim hk_ (fun hs_ => hs_.2) (fun hn_ => (Kd.freshB (g := gb101) (o := .cells #[.slice none 0 0, .slice none 0 0, .int .i64 0, .slice none 0 0] 28 (0, 0)) (zk BK101.out) k_ hn_))⟩)) (below_size zb)); replace BK101 := zM (blk_below (zk BK101.out) hb); replace HB := zM (below_step zb hb); (try clear hb); (try clear ho0); obtain ⟨Ao13, co13, eo13⟩ := Kd.N_slice HO109.out; subst eo13; have hcz14_0 : w12.cell? ⟨gb101, 0, none⟩ = some (.slice none 0 0) := (zX BK101.out 0).trans rfl; have hcz14_1 : w12.cell? ⟨gb101, 1, none⟩ = some (.slice none 0 0) := (zX BK101.out 1).trans rfl; have hcz14_2 : w12.cell? ⟨gb101, 2, none⟩ = some (.int .i64 0) := (zX BK101.out 2).trans rfl; have hcz14_3 : w12.cell? ⟨gb101, 3, none⟩ = some (.slice none 0 0) := (zX BK101.out 3).trans rfl; have hfz14_0 := zY BK101.out 0; have hfz14_1 := zY BK101.out 1; have hfz14_2 := zY BK101.out 2; have hfz14_3 := zY BK101.out 3))
   refine bodyPost_ret (results_ct rfl _ _ gb101 28 #[.slice Ao13 t107.length co13, .slice none 0 0, .int .i64 0, .slice none 0 0] (0, 0) _ rfl (by refine zk ?_; refine blk_put (cs := #[.slice Ao13 t107.length co13, .slice none 0 0, .int .i64 0, .slice none 0 0]) ?_ 3 _ rfl; refine zk ?_; refine blk_put (cs := #[.slice Ao13 t107.length co13, .slice none 0 0, .int .i64 0, .slice none 0 0]) ?_ 2 _ rfl; refine zk ?_; refine blk_put (cs := #[.slice Ao13 t107.length co13, .slice none 0 0, .int .i64 0, .slice none 0 0]) ?_ 1 _ rfl; refine zk ?_; refine blk_put (cs := #[.slice none 0 0, .slice none 0 0, .int .i64 0, .slice none 0 0]) ?_ 0 _ rfl; refine zk ?_; exact BK101.out) Try.underlying28 rfl (by kernel_rfl)) rfl ?_
   exact ⟨_, _, _, zw, by (with_reducible repeat (first | apply Kd.N_alloc | apply Kd.N_drewN | apply Kd.N_drew)); exact Kd.N_mono (Kd.N_far (p := ⟨gb101, 3, none⟩) (Kd.N_far (p := ⟨gb101, 2, none⟩) (Kd.N_far (p := ⟨gb101, 1, none⟩) (Kd.N_far (p := ⟨gb101, 0, none⟩) (Kd.N_mono HO109.out (fun k_ hk => (⟨hk, hk.2⟩ : _ ∧ k_ ≠ gb101))) (fun _ hk => hk.2) (.slice Ao13 t107.length co13)) (fun _ hk => hk.2) (.slice none 0 0)) (fun _ hk => hk.2) (.int .i64 0)) (fun _ hk => hk.2) (.slice none 0 0)) (fun _ hk => ⟨hk.1.1, ⟨(by simp [Value.ownBlock]), (by simp [Value.ownBlock])⟩⟩), by first | exact Kd.S_nil _ _ _ _ _ | exact Kd.N_nil _ _ _ _ _ | exact Kd.V_nil _ _ _ _ _ | exact Kd.Q_nil _ _ _ _ _ | exact Kd.R_nil _ _ _ _ _, by first | exact Kd.R_nil _ _ _ _ _ | exact Kd.N_nil _ _ _ _ _ | exact Kd.V_nil _ _ _ _ _ | exact Kd.Q_nil _ _ _ _ _ | exact Kd.S_nil _ _ _ _ _, zb⟩
  ·
   replace c5 := zI c5
   subst c5
   rw [if_neg (show ¬ (false = true) by decide)] at H
   simp only [Option.some.injEq, Prod.mk.injEq] at H
   obtain ⟨rfl, rfl, rfl, rfl, rfl⟩ := H
   go_enter Try.func14, Try.ntmps14
   go_wp2_with (first | ((with_reducible refine gate_dst (N := 2) rfl ?_); refine box_event ?hg (N := 2) ?hd (cs := #[.slice none 0 0, .slice none 0 0, .int .i64 0, .slice none 0 0]) (t := 28) ?hr ?_; (case hd => rfl); (case hg => rfl); (case hr => first | (go_simp; done) | (go_simp; rfl)); intro gb101 hg w15 hbox hb; have BK101 := zM (hbox); have GW101 := zM (zh hg : w.heap.size ≤ gb101); have GE101 := zM (zh hg : w.heap.size ≤ gb101); replace HB := zM (below_step zb hb); clear hb hbox hg) | ((with_reducible refine gate_callee (f := 34) rfl ?_); refine goesL_ (some 6) rfl rfl Try.func34 (by kernel_rfl) rfl #[.slice A0 l0.length c0] rfl zl ?_; (with_reducible refine (aumbryref04_Check.calls k _ _ l0 t102 _ ?side1 ?side2 A2.out).mono ?_); (case side1 => exact Kd.C_below HR0.out zb); (case side2 => exact HC0.out); rintro e w' ⟨rfl, ⟨nd, rfl⟩⟩; refine ⟨_, rfl, ?_⟩; (try (rw [drewN_self w15]; generalize hq_ : World.drewN w15 _ = w15; have n0_ : Aside0 (w15.heap[gb101]? = some (.cells #[.slice none 0 0, .slice none 0 0, .int .i64 0, .slice none 0 0] 28 (0, 0))) := ⟨by rw [← hq_]; exact (zk BK101.out)⟩; have n1_ : Aside0 (Below w.heap.size w w15) := ⟨by rw [← hq_]; exact zb⟩; clear BK101 HB hq_; have BK101 := n0_; have HB := n1_; clear n0_ n1_))) | ((with_reducible refine gate_callee (f := 23) rfl ?_); refine goesL_ (some 12) rfl rfl Try.func23 (by kernel_rfl) rfl #[.slice A0 l0.length c0] rfl zl ?_; (with_reducible refine (aumbryref07_Ground.calls k _ _ l0 false _ ?side1 ?side2 A4.out).mono ?_); (case side1 => exact Kd.C_below HR0.out zb); (case side2 => exact HC0.out); rintro e w16 ⟨rfl, hb⟩; refine ⟨_, rfl, ?_⟩; replace BK101 := zM (blk_below (zk BK101.out) hb); replace HB := zM (below_step zb hb); (try clear hb); have hcz17_0 : w16.cell? ⟨gb101, 0, none⟩ = some (.slice none 0 0) := (zX BK101.out 0).trans rfl; have hcz17_1 : w16.cell? ⟨gb101, 1, none⟩ = some (.slice none 0 0) := (zX BK101.out 1).trans rfl; have hcz17_2 : w16.cell? ⟨gb101, 2, none⟩ = some (.int .i64 0) := (zX BK101.out 2).trans rfl; have hcz17_3 : w16.cell? ⟨gb101, 3, none⟩ = some (.slice none 0 0) := (zX BK101.out 3).trans rfl; have hfz17_0 := zY BK101.out 0; have hfz17_1 := zY BK101.out 1; have hfz17_2 := zY BK101.out 2; have hfz17_3 := zY BK101.out 3))
   refine bodyPost_ret (results_ct rfl _ _ gb101 28 #[.slice none 0 0, .slice none 0 0, .int .i64 0, .slice none 0 0] (0, 0) _ rfl (by refine zk ?_; refine blk_put (cs := #[.slice none 0 0, .slice none 0 0, .int .i64 0, .slice none 0 0]) ?_ 3 _ rfl; refine zk ?_; refine blk_put (cs := #[.slice none 0 0, .slice none 0 0, .int .i64 0, .slice none 0 0]) ?_ 2 _ rfl; refine zk ?_; refine blk_put (cs := #[.slice none 0 0, .slice none 0 0, .int .i64 0, .slice none 0 0]) ?_ 1 _ rfl; refine zk ?_; refine blk_put (cs := #[.slice none 0 0, .slice none 0 0, .int .i64 0, .slice none 0 0]) ?_ 0 _ rfl; refine zk ?_; exact BK101.out) Try.underlying28 rfl (by kernel_rfl)) rfl ?_
   exact ⟨_, _, _, zw, by first | exact Kd.S_nil _ _ _ _ _ | exact Kd.N_nil _ _ _ _ _ | exact Kd.V_nil _ _ _ _ _ | exact Kd.Q_nil _ _ _ _ _ | exact Kd.R_nil _ _ _ _ _, by first | exact Kd.S_nil _ _ _ _ _ | exact Kd.N_nil _ _ _ _ _ | exact Kd.V_nil _ _ _ _ _ | exact Kd.Q_nil _ _ _ _ _ | exact Kd.R_nil _ _ _ _ _, by first | exact Kd.R_nil _ _ _ _ _ | exact Kd.N_nil _ _ _ _ _ | exact Kd.V_nil _ _ _ _ _ | exact Kd.Q_nil _ _ _ _ _ | exact Kd.S_nil _ _ _ _ _, zb⟩
 ·
  rw [if_neg c3] at H
  have c3b0 : (t102 == 0) = false := zE c3
  have c3b1 : (t102 != 0) = true := zF c3
  simp only [Option.some.injEq, Prod.mk.injEq] at H
  obtain ⟨rfl, rfl, rfl, rfl, rfl⟩ := H
  go_enter Try.func14, Try.ntmps14
  go_wp2_with (first | ((with_reducible refine gate_dst (N := 2) rfl ?_); refine box_event ?hg (N := 2) ?hd (cs := #[.slice none 0 0, .slice none 0 0, .int .i64 0, .slice none 0 0]) (t := 28) ?hr ?_; (case hd => rfl); (case hg => rfl); (case hr => first | (go_simp; done) | (go_simp; rfl)); intro gb101 hg w18 hbox hb; have BK101 := zM (hbox); have GW101 := zM (zh hg : w.heap.size ≤ gb101); have GE101 := zM (zh hg : w.heap.size ≤ gb101); replace HB := zM (below_step zb hb); clear hb hbox hg) | ((with_reducible refine gate_callee (f := 34) rfl ?_); refine goesL_ (some 6) rfl rfl Try.func34 (by kernel_rfl) rfl #[.slice A0 l0.length c0] rfl zl ?_; (with_reducible refine (aumbryref04_Check.calls k _ _ l0 t102 _ ?side1 ?side2 A2.out).mono ?_); (case side1 => exact Kd.C_below HR0.out zb); (case side2 => exact HC0.out); rintro e w' ⟨rfl, ⟨nd, rfl⟩⟩; refine ⟨_, rfl, ?_⟩; (try (rw [drewN_self w18]; generalize hq_ : World.drewN w18 _ = w18; have n0_ : Aside0 (w18.heap[gb101]? = some (.cells #[.slice none 0 0, .slice none 0 0, .int .i64 0, .slice none 0 0] 28 (0, 0))) := ⟨by rw [← hq_]; exact (zk BK101.out)⟩; have n1_ : Aside0 (Below w.heap.size w w18) := ⟨by rw [← hq_]; exact zb⟩; clear BK101 HB hq_; have BK101 := n0_; have HB := n1_; clear n0_ n1_)); have hcz19_0 : w18.cell? ⟨gb101, 0, none⟩ = some (.slice none 0 0) := (zX BK101.out 0).trans rfl; have hcz19_1 : w18.cell? ⟨gb101, 1, none⟩ = some (.slice none 0 0) := (zX BK101.out 1).trans rfl; have hcz19_2 : w18.cell? ⟨gb101, 2, none⟩ = some (.int .i64 0) := (zX BK101.out 2).trans rfl; have hcz19_3 : w18.cell? ⟨gb101, 3, none⟩ = some (.slice none 0 0) := (zX BK101.out 3).trans rfl; have hfz19_0 := zY BK101.out 0; have hfz19_1 := zY BK101.out 1; have hfz19_2 := zY BK101.out 2; have hfz19_3 := zY BK101.out 3))
  refine bodyPost_ret (results_ct rfl _ _ gb101 28 #[.slice none 0 0, .slice none 0 0, .int .i64 0, .slice none 0 0] (0, 0) _ rfl (by refine zk ?_; refine blk_put (cs := #[.slice none 0 0, .slice none 0 0, .int .i64 0, .slice none 0 0]) ?_ 3 _ rfl; refine zk ?_; refine blk_put (cs := #[.slice none 0 0, .slice none 0 0, .int .i64 0, .slice none 0 0]) ?_ 2 _ rfl; refine zk ?_; refine blk_put (cs := #[.slice none 0 0, .slice none 0 0, .int .i64 0, .slice none 0 0]) ?_ 1 _ rfl; refine zk ?_; refine blk_put (cs := #[.slice none 0 0, .slice none 0 0, .int .i64 0, .slice none 0 0]) ?_ 0 _ rfl; refine zk ?_; exact BK101.out) Try.underlying28 rfl (by kernel_rfl)) rfl ?_
  exact ⟨_, _, _, zw, by first | exact Kd.S_nil _ _ _ _ _ | exact Kd.N_nil _ _ _ _ _ | exact Kd.V_nil _ _ _ _ _ | exact Kd.Q_nil _ _ _ _ _ | exact Kd.R_nil _ _ _ _ _, by first | exact Kd.S_nil _ _ _ _ _ | exact Kd.N_nil _ _ _ _ _ | exact Kd.V_nil _ _ _ _ _ | exact Kd.Q_nil _ _ _ _ _ | exact Kd.R_nil _ _ _ _ _, by first | exact Kd.R_nil _ _ _ _ _ | exact Kd.N_nil _ _ _ _ _ | exact Kd.V_nil _ _ _ _ _ | exact Kd.Q_nil _ _ _ _ _ | exact Kd.S_nil _ _ _ _ _, zb⟩


-- ==== PF19

/-! ### aumbrylaw07_few: function 19 -/
def aumbrylaw07_few.f (l0 : List (S73)) (a1 : Int) : Option (Bool) := if (l0.length : Int) ≤ 64 then (some (decide (a1 ≤ 300))) else (some false)
theorem aumbrylaw07_few.calls (A0 : Option Addr) (c0 : Nat) (l0 : List (S73)) (a1 : Int) (r : Bool) (w : World) (hr0 : Kd.C k73 w A0 l0.length l0) (hc0 : l0.length ≤ c0) (h : aumbrylaw07_few.f l0 a1 = some r) :
 Calls Try.prog 19 #[.slice A0 l0.length c0, .int .i64 a1] w fun e w' => e = .returned (.bool r) ∧ Drawn0 w w' := by
 have HR0 := zM hr0
 have HC0 := zM hc0
 clear hr0 hc0
 have H : (if (l0.length : Int) ≤ 64 then (some (decide (a1 ≤ 300))) else (some false)) = some r := h
 clear h
 by_cases c3 : (l0.length : Int) ≤ 64
 ·
  rw [if_pos c3] at H
  have c3b0 : decide ((l0.length : Int) ≤ 64) = true := zQ c3
  have c3b1 : decide (l0.length ≤ 64) = true := zQ (by omega)
  clear c3
  obtain rfl := zS H
  go_enter Try.func19, Try.ntmps19
  go_wp2
  go_ret
  exact ⟨zy, zd⟩
 ·
  rw [if_neg c3] at H
  have c3b0 : decide ((l0.length : Int) ≤ 64) = false := zR c3
  have c3b1 : decide (l0.length ≤ 64) = false := zR (by omega)
  clear c3
  obtain rfl := zS H
  go_enter Try.func19, Try.ntmps19
  go_wp2
  go_ret
  exact ⟨zy, zd⟩


-- ==== PF76

/-! ### aumbryref06_Copy: function 76 -/
def aumbryref06_Copy.f (a0_0 : Int) (l0_1 : List (S54)) (l0_2 : List (S54)) : Option (Int × (List (S54)) × (List (S54))) := (aumbryref04_Copy.f l0_1).bind fun t103 => ((aumbryref04_Copy.f l0_2).bind fun t106 => (some (a0_0, t103, t106)))
def aumbryref06_Copy.T1 : Bool × List (List Nat × List Nat) := (true, [([], []), ([0], [0]), ([], []), ([2], [2]), ([3], [3]), ([], []), ([5], [5]), ([6, 4], [6]), ([1, 4, 7], [1, 4, 7]), ([8, 7, 0, 1, 2, 3, 4, 5, 6, 7, 8], [8])])
def aumbryref06_Copy.B1 : List Nat := [0, 1, 0, 4, 12, 0, 32, 124, 255, 511]
theorem aumbryref06_Copy.tab1 : rtab .any (opsOf Try.f76 1) = aumbryref06_Copy.T1 := by kernel_rfl
theorem aumbryref06_Copy.bits1 : waitsOk aumbryref06_Copy.T1.2 aumbryref06_Copy.B1 = true := by kernel_rfl
theorem aumbryref06_Copy.calls (a0_0 : Int) (A0_1 : Option Addr) (c0_1 : Nat) (l0_1 : List (S54)) (A0_2 : Option Addr) (c0_2 : Nat) (l0_2 : List (S54)) (r1 : Int) (r2 : List (S54)) (r3 : List (S54)) (w : World) (hr0_1 : Kd.C k54 w A0_1 l0_1.length l0_1) (hc0_1 : l0_1.length ≤ c0_1) (hr0_2 : Kd.C k54 w A0_2 l0_2.length l0_2) (hc0_2 : l0_2.length ≤ c0_2) (h : aumbryref06_Copy.f a0_0 l0_1 l0_2 = some (r1, r2, r3)) :
 Calls Try.prog 76 #[.agg #[.int .i64 a0_0, .slice A0_1 l0_1.length c0_1, .slice A0_2 l0_2.length c0_2]] w fun e w' => ∃ v1_ v2_ : Value, e = .returned (.agg #[.int .i64 r1, v1_, v2_]) ∧ Kd.R k54 54 w' w.heap.size (fun k_ => some k_ ≠ (v2_ : Value).ownBlock) v1_ r2 ∧ Kd.R k54 54 w' w.heap.size (fun k_ => some k_ ≠ (v1_ : Value).ownBlock) v2_ r3 ∧ Below w.heap.size w w' := by
 have hu73 := Try.underlying73
 have HR0_1 := zM hr0_1
 have HC0_1 := zM hc0_1
 clear hr0_1 hc0_1
 have HR0_2 := zM hr0_2
 have HC0_2 := zM hc0_2
 clear hr0_2 hc0_2
 have HB := zM (Below.refl w.heap.size w)
 have H : ((aumbryref04_Copy.f l0_1).bind fun t103 => ((aumbryref04_Copy.f l0_2).bind fun t106 => (some (a0_0, t103, t106)))) = some (r1, r2, r3) := h
 clear h
 replace H := zB H
 obtain ⟨t103, A20, H⟩ := H
 try dsimp only at H
 have A2 := zM A20
 clear A20
 replace H := zB H
 obtain ⟨t106, A30, H⟩ := H
 try dsimp only at H
 have A3 := zM A30
 clear A30
 simp only [Option.some.injEq, Prod.mk.injEq] at H
 obtain ⟨rfl, rfl, rfl⟩ := H
 go_enter Try.func76, Try.ntmps76
 try go_wp2_with (first | ((with_reducible refine gate_dst (N := 1) rfl ?_); refine box_event ?hg (N := 1) ?hd (cs := #[.int .i64 a0_0, .slice A0_1 l0_1.length c0_1, .slice A0_2 l0_2.length c0_2]) (t := 73) ?hr ?_; (case hd => rfl); (case hg => rfl); (case hr => first | (go_simp; done) | (go_simp; rfl)); intro gb101 hg w4 hbox hb; have BK101 := zM (hbox); have GW101 := zM (zh hg : w.heap.size ≤ gb101); have GE101 := zM (zh hg : w.heap.size ≤ gb101); replace HB := zM (below_step zb hb); clear hb hbox hg) | ((with_reducible refine gate_dst (N := 2) rfl ?_); refine box_event ?hg (N := 2) ?hd (cs := #[.int .i64 0, .slice none 0 0, .slice none 0 0]) (t := 73) ?hr ?_; (case hd => rfl); (case hg => rfl); (case hr => first | (go_simp; done) | (go_simp; rfl)); intro gb102 hg w5 hbox hb; have BK102 := zM (hbox); have GW102 := zM (zh hg : w.heap.size ≤ gb102); have GE102 := zM (zh hg : w.heap.size ≤ gb102); replace HB := zM (below_step zb hb); have NB101_102 := zM ((by rw [hg]; exact Nat.ne_of_lt (blk_lt (zk BK101.out)) : gb101 ≠ gb102)); have NB102_101 := zM ((by rw [hg]; exact Nat.ne_of_gt (blk_lt (zk BK101.out)) : gb102 ≠ gb101)); replace BK101 := zM (blk_below (zk BK101.out) hb); clear hb hbox hg))
 have n0_ := zM (blk_drew BK101.out)
 have n1_ := zM (blk_drew BK102.out)
 have n2_ := zM (zD HB.out)
 clear BK101
 clear BK102
 clear HB
 have BK101 := n0_
 have BK102 := n1_
 have HB := n2_
 clear n0_ n1_ n2_
 refine start_ (n := 10) (S := fun w' => w'.cell? ⟨gb101, 0, none⟩ = some (.int .i64 a0_0) ∧ w'.cell? ⟨gb101, 1, none⟩ = some (.slice A0_1 l0_1.length c0_1) ∧ w'.cell? ⟨gb101, 2, none⟩ = some (.slice A0_2 l0_2.length c0_2)) (ds := []) #[false, false, false, false, false, false, false, false, false, false] (by kernel_rfl) rfl rfl ⟨(zX BK101.out 0).trans rfl, (zX BK101.out 1).trans rfl, (zX BK101.out 2).trans rfl⟩ (fun hHeld => ?_); refine with_tabW aumbryref06_Copy.tab1 aumbryref06_Copy.bits1 (fun HT_ HW_ => ?_)
 generalize w5.drew = w6 at BK101 BK102 HB hHeld ⊢
 refine pure_ (i := 0) (N := some 3) (v := ?_) (a' := ?_) #[true, false, false, false, false, false, false, false, false, false] rfl rfl (any_of HT_.out (by kernel_rfl)) (fun _ _ _ h => h) (Or.inl ⟨by rfl, ?_⟩) ?_ ?_
 rotate_left
 ·
  intro w'
  go_simp
  with_reducible rfl
 rotate_left
 ·
  simp only [Act.put, zp1, zp2, zp3, i64_w, i32_w]
  rfl
 refine pure_ (i := 2) (N := some 5) (v := ?_) (a' := ?_) #[true, false, true, false, false, false, false, false, false, false] rfl rfl (any_of HT_.out (by kernel_rfl)) (fun _ _ _ h => h) (Or.inl ⟨by rfl, ?_⟩) ?_ ?_
 rotate_left
 ·
  intro w'
  go_simp
  with_reducible rfl
 rotate_left
 ·
  simp only [Act.put, zp1, zp2, zp3, i64_w, i32_w]
  rfl
 refine pure_ (i := 5) (N := some 8) (v := ?_) (a' := ?_) #[true, false, true, false, false, true, false, false, false, false] rfl rfl (any_of HT_.out (by kernel_rfl)) (fun _ _ _ h => h) (Or.inl ⟨by rfl, ?_⟩) ?_ ?_
 rotate_left
 ·
  intro w'
  go_simp
  with_reducible rfl
 rotate_left
 ·
  simp only [Act.put, zp1, zp2, zp3, i64_w, i32_w]
  rfl
 refine take_ (i := 1) (N := some 4) (v := ?_) (a' := ?_) #[true, true, true, false, false, true, false, false, false, false] rfl rfl (take_ofW HT_.out HW_.out (by kernel_rfl)) (fun _ _ _ h => h) (Or.inl ⟨by rfl, ?_⟩) hHeld ?_ ?_
 rotate_left
 ·
  rintro w' ⟨s0, s1, s2⟩
  go_simp
  with_reducible rfl
 rotate_left
 ·
  simp only [Act.put, zp1, zp2, zp3, i64_w, i32_w]
  rfl
 refine take_ (i := 3) (N := some 6) (v := ?_) (a' := ?_) #[true, true, true, true, false, true, false, false, false, false] rfl rfl (take_ofW HT_.out HW_.out (by kernel_rfl)) (fun _ _ _ h => h) (Or.inl ⟨by rfl, ?_⟩) hHeld ?_ ?_
 rotate_left
 ·
  rintro w' ⟨s0, s1, s2⟩
  go_simp
  with_reducible rfl
 rotate_left
 ·
  simp only [Act.put, zp1, zp2, zp3, i64_w, i32_w]
  rfl
 refine take_ (i := 6) (N := some 9) (v := ?_) (a' := ?_) #[true, true, true, true, false, true, true, false, false, false] rfl rfl (take_ofW HT_.out HW_.out (by kernel_rfl)) (fun _ _ _ h => h) (Or.inl ⟨by rfl, ?_⟩) hHeld ?_ ?_
 rotate_left
 ·
  rintro w' ⟨s0, s1, s2⟩
  go_simp
  with_reducible rfl
 rotate_left
 ·
  simp only [Act.put, zp1, zp2, zp3, i64_w, i32_w]
  rfl
 refine one_ (i := 4) (N := some 7) #[true, true, true, true, true, true, true, false, false, false] rfl rfl (one_of HT_.out (by kernel_rfl)) (by decide) (fun K hK => ?_)
 refine goes_ Try.func13 (by kernel_rfl) rfl #[.slice A0_1 l0_1.length c0_1] (by rfl) rfl rfl zl ?_
 with_reducible refine (aumbryref04_Copy.calls _ _ l0_1 t103 _ ?side1 ?side2 A2.out).mono ?_
 (case side1 => exact Kd.C_below HR0_1.out zb)
 (case side2 => exact HC0_1.out)
 rintro e w7 ⟨v104, rfl, ho0, hb⟩
 refine ⟨_, rfl, ?_⟩
 have n0_ := zM (Kd.R_lower ho0 (below_size zb))
 have n1_ := zM (blk_below (zk BK101.out) hb)
 have n2_ := zM (blk_below (zk BK102.out) hb)
 have n3_ := zM (below_step zb hb)
 clear BK101
 clear BK102
 clear HB
 have HO105 := n0_
 have BK101 := n1_
 have BK102 := n2_
 have HB := n3_
 clear n0_ n1_ n2_ n3_
 (try clear hb)
 (try clear hb2)
 (try clear hk)
 (try clear hi)
 (try clear ho0)
 refine hK.out _ _ ⟨(zX BK101.out 0).trans rfl, (zX BK101.out 1).trans rfl, (zX BK101.out 2).trans rfl⟩ (fun hHeld => ?_)
 clear hK K
 refine norm_ (a' := ?_) ?_ ?_
 rotate_left
 ·
  show Act.put _ (some 7) _ = _
  simp only [Act.put, zp1, zp2, zp3, i64_w, i32_w]
  rfl
 refine one_ (i := 7) (N := some 10) #[true, true, true, true, true, true, true, true, false, false] rfl rfl (one_of HT_.out (by kernel_rfl)) (by decide) (fun K hK => ?_)
 refine goes_ Try.func13 (by kernel_rfl) rfl #[.slice A0_2 l0_2.length c0_2] (by rfl) rfl rfl zl ?_
 with_reducible refine (aumbryref04_Copy.calls _ _ l0_2 t106 _ ?side1 ?side2 A3.out).mono ?_
 (case side1 => exact Kd.C_below HR0_2.out zb)
 (case side2 => exact HC0_2.out)
 rintro e w8 ⟨v107, rfl, ho0, hb⟩
 refine ⟨_, rfl, ?_⟩
 have n0_ := zM (Kd.R_elder' (zr HO105.out) (Kd.R_base ho0) hb)
 have n1_ := zM (Kd.R_lower (Kd.R_new' ho0 (Kd.R_lt (zr HO105.out))) (below_size zb))
 have n2_ := zM (blk_below (zk BK101.out) hb)
 have n3_ := zM (blk_below (zk BK102.out) hb)
 have n4_ := zM (below_step zb hb)
 clear HO105
 clear BK101
 clear BK102
 clear HB
 have HO105 := n0_
 have HO108 := n1_
 have BK101 := n2_
 have BK102 := n3_
 have HB := n4_
 clear n0_ n1_ n2_ n3_ n4_
 (try clear hb)
 (try clear hb2)
 (try clear hk)
 (try clear hi)
 (try clear ho0)
 obtain ⟨Ao9, co9, eo9⟩ := Kd.R_slice HO108.out
 (first | subst eo9 | (injection eo9 with f1_ f2_ f3_; have f4_ := f1_.symm; have f5_ := f3_.symm; clear f1_ f2_ f3_; subst f4_; subst f5_))
 obtain ⟨Ao10, co10, eo10⟩ := Kd.R_slice HO105.out
 (first | subst eo10 | (injection eo10 with f1_ f2_ f3_; have f4_ := f1_.symm; have f5_ := f3_.symm; clear f1_ f2_ f3_; subst f4_; subst f5_))
 refine hK.out _ _ ⟨(zX BK101.out 0).trans rfl, (zX BK101.out 1).trans rfl, (zX BK101.out 2).trans rfl⟩ (fun hHeld => ?_)
 clear hK K
 refine norm_ (a' := ?_) ?_ ?_
 rotate_left
 ·
  show Act.put _ (some 10) _ = _
  simp only [Act.put, zp1, zp2, zp3, i64_w, i32_w]
  rfl
 refine pure_ (i := 8) (N := some 11) (v := ?_) (a' := ?_) #[true, true, true, true, true, true, true, true, true, false] rfl rfl (any_of HT_.out (by kernel_rfl)) (fun _ _ _ h => h) (Or.inl ⟨by rfl, ?_⟩) ?_ ?_
 rotate_left
 ·
  intro w'
  go_simp
  with_reducible rfl
 rotate_left
 ·
  simp only [Act.put, zp1, zp2, zp3, i64_w, i32_w]
  rfl
 refine one_ (i := 9) (N := none) #[true, true, true, true, true, true, true, true, true, true] rfl rfl (one_of HT_.out (by kernel_rfl)) (by decide) (fun K hK => ?_)
 have hs11 : w8.cell? ⟨gb102, 0, none⟩ = some (.int .i64 0) := (zX BK102.out 0).trans rfl
 have hfs11 := zY BK102.out 0
 have hns11_0 := NB101_102.out
 have hms11_0 := NB102_101.out
 have hs12 : w8.cell? ⟨gb102, 1, none⟩ = some (.slice none 0 0) := (zX BK102.out 1).trans rfl
 have hfs12 := zY BK102.out 1
 have hns12_0 := NB101_102.out
 have hms12_0 := NB102_101.out
 have hs13 : w8.cell? ⟨gb102, 2, none⟩ = some (.slice none 0 0) := (zX BK102.out 2).trans rfl
 have hfs13 := zY BK102.out 2
 have hns13_0 := NB101_102.out
 have hms13_0 := NB102_101.out
 refine skip_ (w1 := ?_) (by rfl) rfl ?_ ?_
 rotate_left
 ·
  go_simp
  rfl
 refine hK.out _ _ ⟨((cell_far (p := ⟨gb102, _, none⟩) NB101_102.out _).trans (((cell_far (p := ⟨gb102, _, none⟩) NB101_102.out _).trans (((cell_far (p := ⟨gb102, _, none⟩) NB101_102.out _).trans (hHeld.1)))))), ((cell_far (p := ⟨gb102, _, none⟩) NB101_102.out _).trans (((cell_far (p := ⟨gb102, _, none⟩) NB101_102.out _).trans (((cell_far (p := ⟨gb102, _, none⟩) NB101_102.out _).trans (hHeld.2.1)))))), ((cell_far (p := ⟨gb102, _, none⟩) NB101_102.out _).trans (((cell_far (p := ⟨gb102, _, none⟩) NB101_102.out _).trans (((cell_far (p := ⟨gb102, _, none⟩) NB101_102.out _).trans (hHeld.2.2))))))⟩ (fun hHeld => ?_)
 clear hK K
 refine done_ (done_of HT_.out (by kernel_rfl)) ?_
 try go_wp2
 refine bodyPost_ret (results_cell_row rfl _ _ gb102 73 #[.int .i64 a0_0, .slice Ao10 t103.length co10, .slice Ao9 t106.length co9] (0, 0) _ rfl (by refine zk ?_; refine blk_put (cs := #[.int .i64 a0_0, .slice Ao10 t103.length co10, .slice none 0 0]) ?_ 2 _ rfl; refine zk ?_; refine blk_put (cs := #[.int .i64 a0_0, .slice none 0 0, .slice none 0 0]) ?_ 1 _ rfl; refine zk ?_; refine blk_put (cs := #[.int .i64 0, .slice none 0 0, .slice none 0 0]) ?_ 0 _ rfl; refine zk ?_; exact BK102.out) Try.underlying73 rfl (by kernel_rfl)) rfl ?_
 exact ⟨_, _, zw, by (with_reducible repeat (first | apply Kd.R_alloc | apply Kd.R_drewN | apply Kd.R_drew)); exact Kd.R_mono (Kd.R_far (p := ⟨gb102, 2, none⟩) (Kd.R_far (p := ⟨gb102, 1, none⟩) (Kd.R_far (p := ⟨gb102, 0, none⟩) (Kd.R_types HO105.out BK102.out (by decide)) (fun _ hk => hk.2) (.int .i64 a0_0)) (fun _ hk => hk.2) (.slice Ao10 t103.length co10)) (fun _ hk => hk.2) (.slice Ao9 t106.length co9)) (fun _ hk => hk.1.2), by (with_reducible repeat (first | apply Kd.R_alloc | apply Kd.R_drewN | apply Kd.R_drew)); exact Kd.R_mono (Kd.R_far (p := ⟨gb102, 2, none⟩) (Kd.R_far (p := ⟨gb102, 1, none⟩) (Kd.R_far (p := ⟨gb102, 0, none⟩) (Kd.R_types HO108.out BK102.out (by decide)) (fun _ hk => hk.2) (.int .i64 a0_0)) (fun _ hk => hk.2) (.slice Ao10 t103.length co10)) (fun _ hk => hk.2) (.slice Ao9 t106.length co9)) (fun _ hk => hk.1.2), zb⟩


-- ==== PF50

/-! ### aumbryref06_CopyAll: function 50 -/
def aumbryref06_CopyAll.l0 : Nat → List (S73) → List (S73) → Int → Int → Option ((List (S73)))
 | 0, _, _, _, _ => none
 | k + 1, x0, x3, x6, x7 => if x7 < x6 then (if 0 ≤ x7 then (if x7 < (x0.length : Int) then ((aumbryref06_Copy.f ((rd_T73 x0 x7).f0) ((rd_T73 x0 x7).f1) ((rd_T73 x0 x7).f2)).bind fun bt102 => (if x3.length < 2513169434916 then (aumbryref06_CopyAll.l0 k x0 (x3 ++ [(⟨bt102.1, bt102.2.1, bt102.2.2⟩ : S73)]) x6 (wrap64 (x7 + 1))) else (none))) else (none)) else (none)) else (some x3)
def aumbryref06_CopyAll.f (k : Nat) (l0 : List (S73)) : Option ((List (S73))) := aumbryref06_CopyAll.l0 k l0 ([] : List (S73)) (l0.length : Int) 0
theorem aumbryref06_CopyAll.calls (k : Nat) (A0 : Option Addr) (c0 : Nat) (l0 : List (S73)) (r : List (S73)) (w : World) (hr0 : Kd.C k73 w A0 l0.length l0) (hc0 : l0.length ≤ c0) (h : aumbryref06_CopyAll.f k l0 = some r) :
 Calls Try.prog 50 #[.slice A0 l0.length c0] w fun e w' => ∃ v0_ : Value, e = .returned (v0_) ∧ Kd.S k73 73 w' w.heap.size (fun _ => True) v0_ r ∧ Below w.heap.size w w' := by
 have hu73 := Try.underlying73
 have HR0 := zM hr0
 have HC0 := zM hc0
 clear hr0 hc0
 have HB := zM (Below.refl w.heap.size w)
 have H : (aumbryref06_CopyAll.l0 k l0 ([] : List (S73)) (l0.length : Int) 0) = some r := h
 clear h
 have H' := zM H
 clear H
 go_enter Try.func50, Try.ntmps50
 go_wp2
 go_loopg [3, 7] k (fun kq v3 v7 w' => ∃ (x3_1 : List (S73)) (x7_1 : Int), v7 = .int .i64 x7_1 ∧ Aside0 (aumbryref06_CopyAll.l0 kq l0 x3_1 (l0.length : Int) x7_1 = some r) ∧ Aside0 (kq ≤ k) ∧ Aside0 (Kd.S k73 73 w' w.heap.size (fun _ => True) v3 x3_1) ∧ Aside0 (Below w.heap.size w w'))
 case atStart => exact ⟨(([] : List (S73))), (0), zy, H', ⟨Nat.le_refl _⟩, ⟨by first | exact Kd.S_nil _ _ _ _ _ | exact Kd.N_nil _ _ _ _ _ | exact Kd.V_nil _ _ _ _ _ | exact Kd.Q_nil _ _ _ _ _ | exact Kd.R_nil _ _ _ _ _⟩, ⟨zb⟩⟩
 case round =>
  clear H'
  obtain ⟨x3_1, x7_1, rfl, HA, HK1, HO_3, HB⟩ := hrel
  cases gk with
  | zero => exact absurd HA.out (by simp [aumbryref06_CopyAll.l0])
  | succ k1 =>
   have H := HA.out
   clear HA
   simp only [aumbryref06_CopyAll.l0] at H
   by_cases c2 : x7_1 < (l0.length : Int)
   ·
    rw [if_pos c2] at H
    have c2b0 : decide (x7_1 < (l0.length : Int)) = true := zQ c2
    clear c2
    by_cases c3 : 0 ≤ x7_1
    ·
     rw [if_pos c3] at H
     have c3b0 : decide (0 ≤ x7_1) = true := zQ c3
     clear c3
     by_cases c4 : x7_1 < (l0.length : Int)
     ·
      rw [if_pos c4] at H
      have c4b0 : decide (x7_1 < (l0.length : Int)) = true := zQ c4
      clear c4
      replace H := zB H
      obtain ⟨⟨t102, t103, t106⟩, A50, H⟩ := H
      try dsimp only at H
      have A5 := zM A50
      clear A50
      by_cases c6 : x3_1.length < 2513169434916
      ·
       rw [if_pos c6] at H
       have LMc6 := zM c6
       clear c6
       obtain ⟨y109, hy109⟩ : ∃ y_ : List (S73), y_ = (x3_1 ++ [(⟨t102, t103, t106⟩ : S73)]) := ⟨_, rfl⟩
       replace H : (aumbryref06_CopyAll.l0 k1 l0 y109 (l0.length : Int) (wrap64 (x7_1 + 1))) = some r := by first | (rw [hy109]; with_reducible exact H) | (have H2_ := (Option.bind_some _ _).symm.trans H; rw [hy109]; with_reducible exact H2_) | (have H2_ := (Option.bind_some _ _).symm.trans H; with_reducible exact H2_) | with_reducible exact H | (rw [hy109]; exact H) | exact H
       have Ny109 := zM hy109
       clear hy109
       have H' := zM H
       clear H
       have p101 : 0 ≤ (x7_1 : Int) := zT zv
       have q101 : x7_1 < (l0.length : Int) := zT zv
       obtain ⟨ad101, A101_1, c101_1, A101_2, c101_2, e101, hx101_0, hx101_1, hx101_2, hl101_1, hi101_1, hl101_2, hi101_2⟩ := at_T73 HR0.out x7_1 p101 q101
       cases e101
       replace hx101_0 := (HB.out.cell (World.block_lt_of_cell? w _ hx101_0)).trans hx101_0
       replace hx101_1 := (HB.out.cell (World.block_lt_of_cell? w _ hx101_1)).trans hx101_1
       replace hx101_2 := (HB.out.cell (World.block_lt_of_cell? w _ hx101_2)).trans hx101_2
       have HR101_1 := zM hi101_1
       have HC101_1 := zM hl101_1
       clear hi101_1 hl101_1
       have HR101_2 := zM hi101_2
       have HC101_2 := zM hl101_2
       clear hi101_2 hl101_2
       replace p101 := eq_true p101
       replace q101 := eq_true q101
       go_wp2_with (first | ((with_reducible refine gate_callee (f := 76) rfl ?_); refine goesL_ (some 15) rfl rfl Try.func76 (by kernel_rfl) rfl #[.agg #[.int .i64 ((rd_T73 l0 x7_1).f0), .slice A101_1 ((rd_T73 l0 x7_1).f1).length c101_1, .slice A101_2 ((rd_T73 l0 x7_1).f2).length c101_2]] rfl zl ?_; (with_reducible refine (aumbryref06_Copy.calls ((rd_T73 l0 x7_1).f0) _ _ ((rd_T73 l0 x7_1).f1) _ _ ((rd_T73 l0 x7_1).f2) t102 t103 t106 _ ?side1 ?side2 ?side3 ?side4 A5.out).mono ?_); (case side1 => exact Kd.C_below HR101_1.out zb); (case side2 => exact HC101_1.out); (case side3 => exact Kd.C_below HR101_2.out zb); (case side4 => exact HC101_2.out); rintro e w7 ⟨v104, v107, rfl, ho0, ho1, hb⟩; refine ⟨_, rfl, ?_⟩; replace HO_3 := zM (Kd.S_mono (Kd.S_told (Kd.S_told (Kd.S_old (Kd.S_below HO_3.out zg) hb) (Kd.R_base ho0)) (Kd.R_base ho1)) (fun _ h_ => h_.1)); have HO105 := zM (Kd.R_lower ho0 (below_size zb)); have HO108 := zM (Kd.R_lower ho1 (below_size zb)); replace HB := zM (below_step zb hb); (try clear hb); (try clear ho0); (try clear ho1); obtain ⟨Ao9, co9, eo9⟩ := Kd.R_slice HO105.out; subst eo9; obtain ⟨Ao10, co10, eo10⟩ := Kd.R_slice HO108.out; subst eo10) | ((with_reducible refine gate_builtin (b := .append) (xs := #[.tmp 10, .tmp 16]) rfl ?_); at_builtin; refine Kd.S_append k73 (w0 := w) w.heap.size rfl (.tmp 10) (.tmp 16) 41 73 (.agg #[(.int .i64 0), (.slice none 0 0), (.slice none 0 0)]) 56 rfl Try.underlying41 info73 rfl (by decide) (by omega) u3 x3_1 (⟨t102, t103, t106⟩ : S73) [.int .i64 t102, .slice Ao9 t103.length co9, .slice Ao10 t106.length co10] (fun _ => True) (fun k_ => some k_ = (.slice Ao9 t103.length co9 : Value).ownBlock ∨ some k_ = (.slice Ao10 t106.length co10 : Value).ownBlock) rfl rfl ?aP (fun k_ hk_ => hk_.elim (fun h_ => ((Kd.R_mono (ok' := fun k_ => ((fun _ => True)) k_ ∧ some k_ ≠ (u3 : Value).ownBlock) (Kd.R_apart' (HO105.out) (Kd.S_typed HO_3.out) (by decide)) (fun k_ hk => ⟨trivial, hk.2⟩))).1 k_ h_.symm) (fun h_ => ((Kd.R_mono (ok' := fun k_ => ((fun _ => True)) k_ ∧ some k_ ≠ (u3 : Value).ownBlock) (Kd.R_apart' (HO108.out) (Kd.S_typed HO_3.out) (by decide)) (fun k_ hk => ⟨trivial, hk.2⟩))).1 k_ h_.symm)) ?aF ?aO ?aB ?aS ?aL ?_; (case aP => exact k73_mkM _ _ _ (⟨t102, t103, t106⟩ : S73) (Kd.R_mono (Kd.R_tight rfl (Kd.R_mono (ok' := fun k_ => ((fun _ => True)) k_ ∧ some k_ ≠ (u3 : Value).ownBlock) (Kd.R_apart' (HO105.out) (Kd.S_typed HO_3.out) (by decide)) (fun k_ hk => ⟨trivial, hk.2⟩))) (fun _ h_ => Or.inl h_)) (Kd.R_mono (Kd.R_tight rfl (Kd.R_mono (ok' := fun k_ => ((fun _ => True)) k_ ∧ some k_ ≠ (u3 : Value).ownBlock) (Kd.R_apart' (HO108.out) (Kd.S_typed HO_3.out) (by decide)) (fun k_ hk => ⟨trivial, hk.2⟩))) (fun _ h_ => Or.inr (h_)))); (case aB => exact zb); (case aF => exact (fun _ _ => trivial)); (case aO => exact (by (with_reducible repeat (first | apply Kd.S_alloc | apply Kd.S_drewN | apply Kd.S_drew)); exact Kd.S_mono HO_3.out (fun k_ hk => ⟨trivial, fun e_ => e_.elim (fun h_ => hk.1.2 h_) (fun h_ => hk.2 h_)⟩))); (case aS => exact (below_size zb)); (case aL => have := LMc6.out; omega); intro v110 w8 ho hb hg hat; rw [← Ny109.out] at ho; replace HB := zM (hb); have HO111 := zM (ho); clear HO105 HO108 HO_3; clear ho hb hg hat))
       go_roundg k1
       case measure => have := HK1.out; omega
       case rel => exact ⟨(y109), (wrap64 (x7_1 + 1)), zy, H', ⟨by have := HK1.out; omega⟩, ⟨Kd.S_below HO111.out zg⟩, ⟨zb⟩⟩
      ·
       rw [if_neg c6] at H
       exact absurd H (by simp)
     ·
      rw [if_neg c4] at H
      exact absurd H (by simp)
    ·
     rw [if_neg c3] at H
     exact absurd H (by simp)
   ·
    rw [if_neg c2] at H
    have c2b0 : decide (x7_1 < (l0.length : Int)) = false := zR c2
    clear c2
    obtain rfl := zS H
    go_wp2
    go_ret
    exact ⟨_, zw, Kd.S_below HO_3.out zg, zb⟩


-- ==== PF21

/-! ### aumbrylaw07_rules: function 21 -/
def aumbrylaw07_rules.f (k : Nat) (l0 : List (S73)) : Option ((List (S73))) := (aumbryref06_CopyAll.f k l0).bind fun t101 => (some t101)
theorem aumbrylaw07_rules.calls (k : Nat) (A0 : Option Addr) (c0 : Nat) (l0 : List (S73)) (r : List (S73)) (w : World) (hr0 : Kd.C k73 w A0 l0.length l0) (hc0 : l0.length ≤ c0) (h : aumbrylaw07_rules.f k l0 = some r) :
 Calls Try.prog 21 #[.slice A0 l0.length c0] w fun e w' => ∃ v0_ : Value, e = .returned (v0_) ∧ Kd.S k73 73 w' w.heap.size (fun _ => True) v0_ r ∧ Below w.heap.size w w' := by
 have HR0 := zM hr0
 have HC0 := zM hc0
 clear hr0 hc0
 have HB := zM (Below.refl w.heap.size w)
 have H : ((aumbryref06_CopyAll.f k l0).bind fun t101 => (some t101)) = some r := h
 clear h
 replace H := zB H
 obtain ⟨t101, A20, H⟩ := H
 try dsimp only at H
 have A2 := zM A20
 clear A20
 obtain rfl := zS H
 go_enter Try.func21, Try.ntmps21
 go_wp2_with (first | ((with_reducible refine gate_callee (f := 50) rfl ?_); refine goesL_ (some 4) rfl rfl Try.func50 (by kernel_rfl) rfl #[.slice A0 l0.length c0] rfl zl ?_; (with_reducible refine (aumbryref06_CopyAll.calls k _ _ l0 t101 _ ?side1 ?side2 A2.out).mono ?_); (case side1 => exact Kd.C_below HR0.out zg); (case side2 => exact HC0.out); rintro e w3 ⟨v102, rfl, ho0, hb⟩; refine ⟨_, rfl, ?_⟩; have HO103 := zM (Kd.S_lower ho0 (below_size zb)); replace HB := zM (below_step zb hb); (try clear hb); (try clear ho0)))
 go_ret
 exact ⟨_, zw, Kd.S_below HO103.out zg, zb⟩


-- ==== PF53

/-! ### aumbryref06_Check: function 53 -/
mutual
def aumbryref06_Check.j0 : Nat → Bool → Int → List (S54) → List (S54) → Option (Int)
 | 0, _, _, _, _ => none
 | k + 1, x15, x102000, x102001, x102002 => if x15 = true then (some 1) else ((aumbryref04_Check.f k x102001).bind fun t102 => (if t102 = 0 then ((aumbryref04_Check.f k x102002).bind fun t103 => (if t103 = 0 then (if (x102001.length : Int) > 8 then (aumbryref06_Check.j1 k true x102000 x102001 x102002) else (aumbryref06_Check.j1 k (decide ((x102002.length : Int) > 8)) x102000 x102001 x102002)) else (some t103))) else (some t102)))
def aumbryref06_Check.j1 : Nat → Bool → Int → List (S54) → List (S54) → Option (Int)
 | 0, _, _, _, _ => none
 | k + 1, x37, x102000, x102001, x102002 => if x37 = true then (some 6) else ((aumbryref05_Var.f k x102001).bind fun t104 => (if t104 = true then (some 20) else ((aumbryref04_Vars.f k x102001).bind fun t105 => ((aumbryref04_Vars.f k x102002).bind fun t108 => (aumbryref06_Check.l0 k t105 t108 (t108.length : Int) 0)))))
def aumbryref06_Check.l0 : Nat → List ByteArray → List ByteArray → Int → Int → Option (Int)
 | 0, _, _, _, _ => none
 | k + 1, x5, x6, x48, x49 => if x49 < x48 then (if 0 ≤ x49 then (if x49 < (x6.length : Int) then ((aumbryref03_Has.f k x5 (rdOf ByteArray.empty x6 x49)).bind fun t112 => (if t112 = true then (aumbryref06_Check.l0 k x5 x6 x48 (wrap64 (x49 + 1))) else (some 7))) else (none)) else (none)) else (some 0)
end
def aumbryref06_Check.f (k : Nat) (a0_0 : Int) (l0_1 : List (S54)) (l0_2 : List (S54)) : Option (Int) := if a0_0 < 0 then (aumbryref06_Check.j0 k true a0_0 l0_1 l0_2) else (aumbryref06_Check.j0 k (decide (a0_0 > 65535)) a0_0 l0_1 l0_2)
def aumbryref06_Check.T13 : Bool × List (List Nat × List Nat) := (true, [([], []), ([0], [0]), ([1], [1]), ([], []), ([3], [3]), ([4, 2], [4]), ([2, 5, 0, 1, 2], [2]), ([5, 6, 0, 1, 2, 3, 4, 5, 6], [5])])
def aumbryref06_Check.B13 : List Nat := [0, 1, 3, 0, 8, 31, 63, 127]
theorem aumbryref06_Check.tab13 : rtab .any (opsOf Try.f53 13) = aumbryref06_Check.T13 := by kernel_rfl
theorem aumbryref06_Check.bits13 : waitsOk aumbryref06_Check.T13.2 aumbryref06_Check.B13 = true := by kernel_rfl
theorem aumbryref06_Check.calls (k : Nat) (a0_0 : Int) (A0_1 : Option Addr) (c0_1 : Nat) (l0_1 : List (S54)) (A0_2 : Option Addr) (c0_2 : Nat) (l0_2 : List (S54)) (r : Int) (w : World) (hr0_1 : Kd.C k54 w A0_1 l0_1.length l0_1) (hc0_1 : l0_1.length ≤ c0_1) (hr0_2 : Kd.C k54 w A0_2 l0_2.length l0_2) (hc0_2 : l0_2.length ≤ c0_2) (h : aumbryref06_Check.f k a0_0 l0_1 l0_2 = some r) :
 Calls Try.prog 53 #[.agg #[.int .i64 a0_0, .slice A0_1 l0_1.length c0_1, .slice A0_2 l0_2.length c0_2]] w fun e w' => e = .returned (.int .i64 r) ∧ Below w.heap.size w w' := by
 have hu73 := Try.underlying73
 have HR0_1 := zM hr0_1
 have HC0_1 := zM hc0_1
 clear hr0_1 hc0_1
 have HR0_2 := zM hr0_2
 have HC0_2 := zM hc0_2
 clear hr0_2 hc0_2
 have HB := zM (Below.refl w.heap.size w)
 have H : (if a0_0 < 0 then (aumbryref06_Check.j0 k true a0_0 l0_1 l0_2) else (aumbryref06_Check.j0 k (decide (a0_0 > 65535)) a0_0 l0_1 l0_2)) = some r := h
 clear h
 have HC2 := zM H
 clear H
 go_enter Try.func53, Try.ntmps53
 go_upto_region 1 with (first | ((with_reducible refine gate_dst (N := 1) rfl ?_); (try (refine gate_guard (by rfl) ?_; dsimp only)); refine box_event ?hg (N := 1) ?hd (cs := #[.int .i64 a0_0, .slice A0_1 l0_1.length c0_1, .slice A0_2 l0_2.length c0_2]) (t := 73) ?hr ?_; (case hd => rfl); (case hg => rfl); (case hr => first | (go_simp; done) | (go_simp; rfl)); intro gb101 hg w3 hbox hb; have BK101 := zM (hbox); have GW101 := zM (zh hg : w.heap.size ≤ gb101); have GE101 := zM (zh hg : w.heap.size ≤ gb101); replace HB := zM (below_step zb hb); clear hb hbox hg))
 (try simp only [Act.put, List.setIfInBounds_toArray, List.set_cons_zero, List.set_cons_succ])
 go_cut [15] (fun v15 wc => ∃ (kq : Nat) (x15_1 : Bool), v15 = .bool x15_1 ∧ Aside0 (aumbryref06_Check.j0 kq x15_1 a0_0 l0_1 l0_2 = some r) ∧ Aside0 (kq ≤ k) ∧ Aside0 (wc.heap[gb101]? = some (.cells #[.int .i64 a0_0, (.slice A0_1 l0_1.length c0_1), (.slice A0_2 l0_2.length c0_2)] 73 (0, 0))) ∧ Aside0 (Below w.heap.size w wc))
 case first =>
  have H := HC2.out
  clear HC2
  by_cases c4 : a0_0 < 0
  ·
   rw [if_pos c4] at H
   have c4b0 : decide (a0_0 < 0) = true := zQ c4
   clear c4
   (first | rw [c4b0] | (simp only [i64_w, i32_w]; rw [c4b0]) | skip)
   have H' := zM H
   clear H
   have hcz5_0 : w3.cell? ⟨gb101, 0, none⟩ = some (.int .i64 a0_0) := (zX BK101.out 0).trans rfl
   have hcz5_1 : w3.cell? ⟨gb101, 1, none⟩ = some (.slice A0_1 l0_1.length c0_1) := (zX BK101.out 1).trans rfl
   have hcz5_2 : w3.cell? ⟨gb101, 2, none⟩ = some (.slice A0_2 l0_2.length c0_2) := (zX BK101.out 2).trans rfl
   have hfz5_0 := zY BK101.out 0
   have hfz5_1 := zY BK101.out 1
   have hfz5_2 := zY BK101.out 2
   go_wp2
   go_meet
   case rel => exact ⟨_, (true), zy, H', ⟨by first | omega | exact Nat.le_refl _⟩, ⟨by refine zk ?_; exact BK101.out⟩, ⟨zb⟩⟩
  ·
   rw [if_neg c4] at H
   have c4b0 : decide (a0_0 < 0) = false := zR c4
   clear c4
   (first | rw [c4b0] | (simp only [i64_w, i32_w]; rw [c4b0]) | skip)
   have H' := zM H
   clear H
   have hcz6_0 : w3.cell? ⟨gb101, 0, none⟩ = some (.int .i64 a0_0) := (zX BK101.out 0).trans rfl
   have hcz6_1 : w3.cell? ⟨gb101, 1, none⟩ = some (.slice A0_1 l0_1.length c0_1) := (zX BK101.out 1).trans rfl
   have hcz6_2 : w3.cell? ⟨gb101, 2, none⟩ = some (.slice A0_2 l0_2.length c0_2) := (zX BK101.out 2).trans rfl
   have hfz6_0 := zY BK101.out 0
   have hfz6_1 := zY BK101.out 1
   have hfz6_2 := zY BK101.out 2
   go_wp2
   go_meet
   case rel => exact ⟨_, (decide (a0_0 > 65535)), zy, H', ⟨by first | omega | exact Nat.le_refl _⟩, ⟨by refine zk ?_; exact BK101.out⟩, ⟨zb⟩⟩
 case rest =>
  clear HC2
  try clear p2
  try clear c4
  try clear c4b0
  try clear c5
  try clear hcz5_0
  try clear hcz5_1
  try clear hcz5_2
  try clear hcz6_0
  try clear hcz6_1
  try clear hcz6_2
  try clear hfz5_0
  try clear hfz5_1
  try clear hfz5_2
  try clear hfz6_0
  try clear hfz6_1
  try clear hfz6_2
  obtain ⟨kq, x15_1, rfl, HA, HJ1, BK101, HB⟩ := hcut
  cases kq with
  | zero => exact absurd HA.out (by simp [aumbryref06_Check.j0])
  | succ kj1 =>
   have H := HA.out
   clear HA
   simp only [aumbryref06_Check.j0] at H
   by_cases c7 : x15_1 = true
   ·
    subst c7
    rw [if_pos rfl] at H
    obtain rfl := zS H
    go_wp2
    go_ret
    exact ⟨zw, zb⟩
   ·
    replace c7 := zI c7
    subst c7
    rw [if_neg (show ¬ (false = true) by decide)] at H
    replace H := zB H
    obtain ⟨t102, A80, H⟩ := H
    try dsimp only at H
    have A8 := zM A80
    clear A80
    by_cases c9 : t102 = 0
    ·
     rw [if_pos c9] at H
     have c9b0 : (t102 == 0) = true := zG c9
     have c9b1 : (t102 != 0) = false := zH c9
     clear c9
     replace H := zB H
     obtain ⟨t103, A100, H⟩ := H
     try dsimp only at H
     have A10 := zM A100
     clear A100
     by_cases c11 : t103 = 0
     ·
      rw [if_pos c11] at H
      have c11b0 : (t103 == 0) = true := zG c11
      have c11b1 : (t103 != 0) = false := zH c11
      clear c11
      have HC12 := zM H
      clear H
      have hcz13_0 : wc.cell? ⟨gb101, 0, none⟩ = some (.int .i64 a0_0) := (zX BK101.out 0).trans rfl
      have hcz13_1 : wc.cell? ⟨gb101, 1, none⟩ = some (.slice A0_1 l0_1.length c0_1) := (zX BK101.out 1).trans rfl
      have hcz13_2 : wc.cell? ⟨gb101, 2, none⟩ = some (.slice A0_2 l0_2.length c0_2) := (zX BK101.out 2).trans rfl
      have hfz13_0 := zY BK101.out 0
      have hfz13_1 := zY BK101.out 1
      have hfz13_2 := zY BK101.out 2
      go_upto_region 9 with (first | ((with_reducible refine gate_callee (f := 34) rfl ?_); refine goesL_ (some 18) rfl rfl Try.func34 (by kernel_rfl) rfl #[.slice A0_1 l0_1.length c0_1] rfl zl ?_; (with_reducible refine (aumbryref04_Check.calls kj1 _ _ l0_1 t102 _ ?side1 ?side2 A8.out).mono ?_); (case side1 => exact Kd.C_below HR0_1.out zb); (case side2 => exact HC0_1.out); rintro e w' ⟨rfl, ⟨nd, rfl⟩⟩; refine ⟨_, rfl, ?_⟩) | ((with_reducible refine gate_callee (f := 34) rfl ?_); refine goesL_ (some 24) rfl rfl Try.func34 (by kernel_rfl) rfl #[.slice A0_2 l0_2.length c0_2] rfl zl ?_; (with_reducible refine (aumbryref04_Check.calls kj1 _ _ l0_2 t103 _ ?side1 ?side2 A10.out).mono ?_); (case side1 => exact Kd.C_below (Kd.C_below HR0_2.out zb) zg); (case side2 => exact HC0_2.out); rintro e w' ⟨rfl, ⟨nd, rfl⟩⟩; refine ⟨_, rfl, ?_⟩))
      (try simp only [Act.put, List.setIfInBounds_toArray, List.set_cons_zero, List.set_cons_succ])
      go_cut [37] (fun v37 wc => ∃ (kq : Nat) (x37_11 : Bool), v37 = .bool x37_11 ∧ Aside0 (aumbryref06_Check.j1 kq x37_11 a0_0 l0_1 l0_2 = some r) ∧ Aside0 (kq ≤ kj1) ∧ Aside0 (wc.heap[gb101]? = some (.cells #[.int .i64 a0_0, (.slice A0_1 l0_1.length c0_1), (.slice A0_2 l0_2.length c0_2)] 73 (0, 0))) ∧ Aside0 (Below w.heap.size w wc))
      case first =>
       have H := HC12.out
       clear HC12
       by_cases c14 : (l0_1.length : Int) > 8
       ·
        rw [if_pos c14] at H
        have c14b0 : decide (8 < (l0_1.length : Int)) = true := zQ c14
        have c14b1 : decide (8 < l0_1.length) = true := zQ (by omega)
        clear c14
        (first | rw [c14b0] | (simp only [i64_w, i32_w]; rw [c14b0]) | skip)
        have H' := zM H
        clear H
        have hcz15_0 : wc.cell? ⟨gb101, 0, none⟩ = some (.int .i64 a0_0) := (zX BK101.out 0).trans rfl
        have hcz15_1 : wc.cell? ⟨gb101, 1, none⟩ = some (.slice A0_1 l0_1.length c0_1) := (zX BK101.out 1).trans rfl
        have hcz15_2 : wc.cell? ⟨gb101, 2, none⟩ = some (.slice A0_2 l0_2.length c0_2) := (zX BK101.out 2).trans rfl
        have hfz15_0 := zY BK101.out 0
        have hfz15_1 := zY BK101.out 1
        have hfz15_2 := zY BK101.out 2
        go_wp2
        go_meet
        case rel => exact ⟨_, (true), zy, H', ⟨by have := HJ1.out; first | omega | exact Nat.le_refl _⟩, ⟨by refine zk ?_; exact BK101.out⟩, ⟨zb⟩⟩
       ·
        rw [if_neg c14] at H
        have c14b0 : decide (8 < (l0_1.length : Int)) = false := zR c14
        have c14b1 : decide (8 < l0_1.length) = false := zR (by omega)
        clear c14
        (first | rw [c14b0] | (simp only [i64_w, i32_w]; rw [c14b0]) | skip)
        have H' := zM H
        clear H
        have hcz16_0 : wc.cell? ⟨gb101, 0, none⟩ = some (.int .i64 a0_0) := (zX BK101.out 0).trans rfl
        have hcz16_1 : wc.cell? ⟨gb101, 1, none⟩ = some (.slice A0_1 l0_1.length c0_1) := (zX BK101.out 1).trans rfl
        have hcz16_2 : wc.cell? ⟨gb101, 2, none⟩ = some (.slice A0_2 l0_2.length c0_2) := (zX BK101.out 2).trans rfl
        have hfz16_0 := zY BK101.out 0
        have hfz16_1 := zY BK101.out 1
        have hfz16_2 := zY BK101.out 2
        go_wp2
        go_meet
        case rel => exact ⟨_, (decide ((l0_2.length : Int) > 8)), zy, H', ⟨by have := HJ1.out; first | omega | exact Nat.le_refl _⟩, ⟨by refine zk ?_; exact BK101.out⟩, ⟨zb⟩⟩
      case rest =>
       clear HC12
       try clear c1
       try clear p2
       try clear c3
       try clear c4
       try clear c4b0
       try clear c5
       try clear c7
       try clear c9
       try clear c9b0
       try clear c9b1
       try clear c11
       try clear c11b0
       try clear c11b1
       try clear c14
       try clear c14b0
       try clear c14b1
       try clear hcz13_0
       try clear hcz13_1
       try clear hcz13_2
       try clear hcz15_0
       try clear hcz15_1
       try clear hcz15_2
       try clear hcz16_0
       try clear hcz16_1
       try clear hcz16_2
       try clear hcz5_0
       try clear hcz5_1
       try clear hcz5_2
       try clear hcz6_0
       try clear hcz6_1
       try clear hcz6_2
       try clear hfz13_0
       try clear hfz13_1
       try clear hfz13_2
       try clear hfz15_0
       try clear hfz15_1
       try clear hfz15_2
       try clear hfz16_0
       try clear hfz16_1
       try clear hfz16_2
       try clear hfz5_0
       try clear hfz5_1
       try clear hfz5_2
       try clear hfz6_0
       try clear hfz6_1
       try clear hfz6_2
       try clear p2
       obtain ⟨kq, x37_11, rfl, HA, HJ11, BK101, HB⟩ := hcut
       cases kq with
       | zero => exact absurd HA.out (by simp [aumbryref06_Check.j1])
       | succ kj11 =>
        have H := HA.out
        clear HA
        simp only [aumbryref06_Check.j1] at H
        by_cases c17 : x37_11 = true
        ·
         subst c17
         rw [if_pos rfl] at H
         obtain rfl := zS H
         go_wp2
         go_ret
         exact ⟨zw, zb⟩
        ·
         replace c17 := zI c17
         subst c17
         rw [if_neg (show ¬ (false = true) by decide)] at H
         replace H := zB H
         obtain ⟨t104, A180, H⟩ := H
         try dsimp only at H
         have A18 := zM A180
         clear A180
         by_cases c19 : t104 = true
         ·
          subst c19
          rw [if_pos rfl] at H
          obtain rfl := zS H
          have hcz20_0 : wc.cell? ⟨gb101, 0, none⟩ = some (.int .i64 a0_0) := (zX BK101.out 0).trans rfl
          have hcz20_1 : wc.cell? ⟨gb101, 1, none⟩ = some (.slice A0_1 l0_1.length c0_1) := (zX BK101.out 1).trans rfl
          have hcz20_2 : wc.cell? ⟨gb101, 2, none⟩ = some (.slice A0_2 l0_2.length c0_2) := (zX BK101.out 2).trans rfl
          have hfz20_0 := zY BK101.out 0
          have hfz20_1 := zY BK101.out 1
          have hfz20_2 := zY BK101.out 2
          go_wp2_with (first | ((with_reducible refine gate_callee (f := 56) rfl ?_); refine goesL_ (some 40) rfl rfl Try.func56 (by kernel_rfl) rfl #[.slice A0_1 l0_1.length c0_1] rfl zl ?_; (with_reducible refine (aumbryref05_Var.calls kj11 _ _ l0_1 true _ ?side1 ?side2 A18.out).mono ?_); (case side1 => exact Kd.C_below HR0_1.out zb); (case side2 => exact HC0_1.out); rintro e w' ⟨rfl, ⟨nd, rfl⟩⟩; refine ⟨_, rfl, ?_⟩))
          go_ret
          exact ⟨zw, zb⟩
         ·
          replace c19 := zI c19
          subst c19
          rw [if_neg (show ¬ (false = true) by decide)] at H
          replace H := zB H
          obtain ⟨t105, A210, H⟩ := H
          try dsimp only at H
          have A21 := zM A210
          clear A210
          replace H := zB H
          obtain ⟨t108, A220, H⟩ := H
          try dsimp only at H
          have A22 := zM A220
          clear A220
          have H' := zM H
          clear H
          have hcz23_0 : wc.cell? ⟨gb101, 0, none⟩ = some (.int .i64 a0_0) := (zX BK101.out 0).trans rfl
          have hcz23_1 : wc.cell? ⟨gb101, 1, none⟩ = some (.slice A0_1 l0_1.length c0_1) := (zX BK101.out 1).trans rfl
          have hcz23_2 : wc.cell? ⟨gb101, 2, none⟩ = some (.slice A0_2 l0_2.length c0_2) := (zX BK101.out 2).trans rfl
          have hfz23_0 := zY BK101.out 0
          have hfz23_1 := zY BK101.out 1
          have hfz23_2 := zY BK101.out 2
          try go_wp2_with (first | ((with_reducible refine gate_callee (f := 56) rfl ?_); refine goesL_ (some 40) rfl rfl Try.func56 (by kernel_rfl) rfl #[.slice A0_1 l0_1.length c0_1] rfl zl ?_; (with_reducible refine (aumbryref05_Var.calls kj11 _ _ l0_1 false _ ?side1 ?side2 A18.out).mono ?_); (case side1 => exact Kd.C_below HR0_1.out zb); (case side2 => exact HC0_1.out); rintro e w' ⟨rfl, ⟨nd, rfl⟩⟩; refine ⟨_, rfl, ?_⟩))
          (try (rw [drewN_self wc]; generalize hq_ : World.drewN wc _ = wc; have n0_ : Aside0 (wc.heap[gb101]? = some (.cells #[.int .i64 a0_0, .slice A0_1 l0_1.length c0_1, .slice A0_2 l0_2.length c0_2] 73 (0, 0))) := ⟨by rw [← hq_]; exact (zk BK101.out)⟩; have n1_ : Aside0 (Below w.heap.size w wc) := ⟨by rw [← hq_]; exact zb⟩; clear BK101 HB hq_; have BK101 := n0_; have HB := n1_; clear n0_ n1_))
          have n0_ := zM (blk_drew BK101.out)
          have n1_ := zM (zD HB.out)
          clear BK101
          clear HB
          have BK101 := n0_
          have HB := n1_
          clear n0_ n1_
          refine start_ (n := 8) (S := fun w' => w'.cell? ⟨gb101, 0, none⟩ = some (.int .i64 a0_0) ∧ w'.cell? ⟨gb101, 1, none⟩ = some (.slice A0_1 l0_1.length c0_1) ∧ w'.cell? ⟨gb101, 2, none⟩ = some (.slice A0_2 l0_2.length c0_2)) (ds := []) #[false, false, false, false, false, false, false, false] (by kernel_rfl) rfl rfl ⟨(zX BK101.out 0).trans rfl, (zX BK101.out 1).trans rfl, (zX BK101.out 2).trans rfl⟩ (fun hHeld => ?_); refine with_tabW aumbryref06_Check.tab13 aumbryref06_Check.bits13 (fun HT_ HW_ => ?_)
          generalize wc.drew = w24 at BK101 HB hHeld ⊢
          refine pure_ (i := 0) (N := some 41) (v := ?_) (a' := ?_) #[true, false, false, false, false, false, false, false] rfl rfl (any_of HT_.out (by kernel_rfl)) (fun _ _ _ h => h) (Or.inl ⟨by rfl, ?_⟩) ?_ ?_
          rotate_left
          ·
           intro w'
           go_simp
           with_reducible rfl
          rotate_left
          ·
           simp only [Act.put, zp1, zp2, zp3, i64_w, i32_w]
           rfl
          refine pure_ (i := 3) (N := some 44) (v := ?_) (a' := ?_) #[true, false, false, true, false, false, false, false] rfl rfl (any_of HT_.out (by kernel_rfl)) (fun _ _ _ h => h) (Or.inl ⟨by rfl, ?_⟩) ?_ ?_
          rotate_left
          ·
           intro w'
           go_simp
           with_reducible rfl
          rotate_left
          ·
           simp only [Act.put, zp1, zp2, zp3, i64_w, i32_w]
           rfl
          refine take_ (i := 1) (N := some 42) (v := ?_) (a' := ?_) #[true, true, false, true, false, false, false, false] rfl rfl (take_ofW HT_.out HW_.out (by kernel_rfl)) (fun _ _ _ h => h) (Or.inl ⟨by rfl, ?_⟩) hHeld ?_ ?_
          rotate_left
          ·
           rintro w' ⟨s0, s1, s2⟩
           go_simp
           with_reducible rfl
          rotate_left
          ·
           simp only [Act.put, zp1, zp2, zp3, i64_w, i32_w]
           rfl
          refine take_ (i := 4) (N := some 45) (v := ?_) (a' := ?_) #[true, true, false, true, true, false, false, false] rfl rfl (take_ofW HT_.out HW_.out (by kernel_rfl)) (fun _ _ _ h => h) (Or.inl ⟨by rfl, ?_⟩) hHeld ?_ ?_
          rotate_left
          ·
           rintro w' ⟨s0, s1, s2⟩
           go_simp
           with_reducible rfl
          rotate_left
          ·
           simp only [Act.put, zp1, zp2, zp3, i64_w, i32_w]
           rfl
          refine one_ (i := 2) (N := some 43) #[true, true, true, true, true, false, false, false] rfl rfl (one_of HT_.out (by kernel_rfl)) (by decide) (fun K hK => ?_)
          refine goes_ Try.func52 (by kernel_rfl) rfl #[.slice A0_1 l0_1.length c0_1] (by rfl) rfl rfl zl ?_
          with_reducible refine (aumbryref04_Vars.calls kj11 _ _ l0_1 t105 _ ?side1 ?side2 A21.out).mono ?_
          (case side1 => exact Kd.C_below HR0_1.out zb)
          (case side2 => exact HC0_1.out)
          rintro e w25 ⟨v106, rfl, ho0, hb⟩
          refine ⟨_, rfl, ?_⟩
          have n0_ := zM (Kd.R_lower ho0 (below_size zb))
          have n1_ := zM (blk_below (zk BK101.out) hb)
          have n2_ := zM (below_step zb hb)
          clear BK101
          clear HB
          have HO107 := n0_
          have BK101 := n1_
          have HB := n2_
          clear n0_ n1_ n2_
          (try clear hb)
          (try clear hb2)
          (try clear hk)
          (try clear hi)
          (try clear ho0)
          refine hK.out _ _ ⟨(zX BK101.out 0).trans rfl, (zX BK101.out 1).trans rfl, (zX BK101.out 2).trans rfl⟩ (fun hHeld => ?_)
          clear hK K
          refine norm_ (a' := ?_) ?_ ?_
          rotate_left
          ·
           show Act.put _ (some 43) _ = _
           simp only [Act.put, zp1, zp2, zp3, i64_w, i32_w]
           rfl
          refine one_ (i := 5) (N := some 46) #[true, true, true, true, true, true, false, false] rfl rfl (one_of HT_.out (by kernel_rfl)) (by decide) (fun K hK => ?_)
          refine goes_ Try.func52 (by kernel_rfl) rfl #[.slice A0_2 l0_2.length c0_2] (by rfl) rfl rfl zl ?_
          with_reducible refine (aumbryref04_Vars.calls kj11 _ _ l0_2 t108 _ ?side1 ?side2 A22.out).mono ?_
          (case side1 => exact Kd.C_below HR0_2.out zb)
          (case side2 => exact HC0_2.out)
          rintro e w26 ⟨v109, rfl, ho0, hb⟩
          refine ⟨_, rfl, ?_⟩
          have n0_ := zM (Kd.R_elder' (zr HO107.out) (Kd.R_base ho0) hb)
          have n1_ := zM (Kd.R_lower (Kd.R_new' ho0 (Kd.R_lt (zr HO107.out))) (below_size zb))
          have n2_ := zM (blk_below (zk BK101.out) hb)
          have n3_ := zM (below_step zb hb)
          clear HO107
          clear BK101
          clear HB
          have HO107 := n0_
          have HO110 := n1_
          have BK101 := n2_
          have HB := n3_
          clear n0_ n1_ n2_ n3_
          (try clear hb)
          (try clear hb2)
          (try clear hk)
          (try clear hi)
          (try clear ho0)
          refine hK.out _ _ ⟨(zX BK101.out 0).trans rfl, (zX BK101.out 1).trans rfl, (zX BK101.out 2).trans rfl⟩ (fun hHeld => ?_)
          clear hK K
          refine norm_ (a' := ?_) ?_ ?_
          rotate_left
          ·
           show Act.put _ (some 46) _ = _
           simp only [Act.put, zp1, zp2, zp3, i64_w, i32_w]
           rfl
          refine pure_ (i := 6) (N := some 5) (v := ?_) (a' := ?_) #[true, true, true, true, true, true, true, false] rfl rfl (any_of HT_.out (by kernel_rfl)) (fun _ _ _ h => h) (Or.inl ⟨by rfl, ?_⟩) ?_ ?_
          rotate_left
          ·
           intro w'
           go_simp
           with_reducible rfl
          rotate_left
          ·
           simp only [Act.put, zp1, zp2, zp3, i64_w, i32_w]
           rfl
          refine pure_ (i := 7) (N := some 6) (v := ?_) (a' := ?_) #[true, true, true, true, true, true, true, true] rfl rfl (any_of HT_.out (by kernel_rfl)) (fun _ _ _ h => h) (Or.inl ⟨by rfl, ?_⟩) ?_ ?_
          rotate_left
          ·
           intro w'
           go_simp
           with_reducible rfl
          rotate_left
          ·
           simp only [Act.put, zp1, zp2, zp3, i64_w, i32_w]
           rfl
          refine done_ (done_of HT_.out (by kernel_rfl)) ?_
          obtain ⟨Ao27, co27, eo27⟩ := Kd.R_slice HO110.out
          subst eo27
          try go_wp2
          go_loopg [49] kj11 (fun kq v49 w' => ∃ (x49_3 : Int), v49 = .int .i64 x49_3 ∧ Aside0 (aumbryref06_Check.l0 kq t105 t108 (t108.length : Int) x49_3 = some r) ∧ Aside0 (kq ≤ kj11) ∧ Aside0 (Kd.R Kd.string 9 w' w.heap.size (fun k_ => some k_ ≠ ((.slice Ao27 t108.length co27) : Value).ownBlock) v106 t105) ∧ Aside0 (Kd.R Kd.string 9 w' w.heap.size (fun k_ => some k_ ≠ (v106 : Value).ownBlock) (.slice Ao27 t108.length co27) t108) ∧ Aside0 (w'.heap[gb101]? = some (.cells #[.int .i64 a0_0, (.slice A0_1 l0_1.length c0_1), (.slice A0_2 l0_2.length c0_2)] 73 (0, 0))) ∧ Aside0 (Below w.heap.size w w'))
          case atStart => exact ⟨(0), zy, H', ⟨Nat.le_refl _⟩, ⟨by (with_reducible repeat (first | apply Kd.R_alloc | apply Kd.R_drewN | apply Kd.R_drew)); exact Kd.R_mono HO107.out (fun _ hk => hk.2)⟩, ⟨by (with_reducible repeat (first | apply Kd.R_alloc | apply Kd.R_drewN | apply Kd.R_drew)); exact Kd.R_mono HO110.out (fun _ hk => hk.2)⟩, ⟨by refine zk ?_; exact BK101.out⟩, ⟨zb⟩⟩
          case round =>
           clear H'
           try clear c1
           try clear p2
           try clear c3
           try clear c4
           try clear c4b0
           try clear c5
           try clear c7
           try clear c9
           try clear c9b0
           try clear c9b1
           try clear c11
           try clear c11b0
           try clear c11b1
           try clear c14
           try clear c14b0
           try clear c14b1
           try clear c17
           try clear c19
           try clear hcz13_0
           try clear hcz13_1
           try clear hcz13_2
           try clear hcz15_0
           try clear hcz15_1
           try clear hcz15_2
           try clear hcz16_0
           try clear hcz16_1
           try clear hcz16_2
           try clear hcz20_0
           try clear hcz20_1
           try clear hcz20_2
           try clear hcz23_0
           try clear hcz23_1
           try clear hcz23_2
           try clear hcz5_0
           try clear hcz5_1
           try clear hcz5_2
           try clear hcz6_0
           try clear hcz6_1
           try clear hcz6_2
           try clear hfz13_0
           try clear hfz13_1
           try clear hfz13_2
           try clear hfz15_0
           try clear hfz15_1
           try clear hfz15_2
           try clear hfz16_0
           try clear hfz16_1
           try clear hfz16_2
           try clear hfz20_0
           try clear hfz20_1
           try clear hfz20_2
           try clear hfz23_0
           try clear hfz23_1
           try clear hfz23_2
           try clear hfz5_0
           try clear hfz5_1
           try clear hfz5_2
           try clear hfz6_0
           try clear hfz6_1
           try clear hfz6_2
           try clear p2
           obtain ⟨x49_3, rfl, HA, HK3, HO_5, HO_6, BK101, HB⟩ := hrel
           cases gk with
           | zero => exact absurd HA.out (by simp [aumbryref06_Check.l0])
           | succ k3 =>
            have H := HA.out
            clear HA
            simp only [aumbryref06_Check.l0] at H
            by_cases c28 : x49_3 < (t108.length : Int)
            ·
             rw [if_pos c28] at H
             have c28b0 : decide (x49_3 < (t108.length : Int)) = true := zQ c28
             clear c28
             by_cases c29 : 0 ≤ x49_3
             ·
              rw [if_pos c29] at H
              have c29b0 : decide (0 ≤ x49_3) = true := zQ c29
              clear c29
              by_cases c30 : x49_3 < (t108.length : Int)
              ·
               rw [if_pos c30] at H
               have c30b0 : decide (x49_3 < (t108.length : Int)) = true := zQ c30
               clear c30
               replace H := zB H
               obtain ⟨t112, A310, H⟩ := H
               try dsimp only at H
               have A31 := zM A310
               clear A310
               by_cases c32 : t112 = true
               ·
                subst c32
                rw [if_pos rfl] at H
                have H' := zM H
                clear H
                have p111 : 0 ≤ (x49_3 : Int) := zT zv
                have q111 : x49_3 < (t108.length : Int) := zT zv
                obtain ⟨ad111, e111, hx111_0⟩ := Kd.at_string (Kd.R_reads' HO_6.out).2.2 x49_3 p111 q111
                cases e111
                replace p111 := eq_true p111
                replace q111 := eq_true q111
                obtain ⟨Ao33, co33, eo33⟩ := Kd.R_slice HO_5.out
                subst eo33
                go_wp2_with (first | ((with_reducible refine gate_callee (f := 78) rfl ?_); refine goesL_ (some 57) rfl rfl Try.func78 (by kernel_rfl) rfl #[.slice Ao33 t105.length co33, .string (rdOf ByteArray.empty t108 x49_3)] rfl zl ?_; (with_reducible refine (aumbryref03_Has.calls k3 _ _ t105 (rdOf ByteArray.empty t108 x49_3) true _ ?side1 ?side2 A31.out).mono ?_); (case side1 => exact Kd.C_below (Kd.R_reads' HO_5.out).2.2 zg); (case side2 => exact (Kd.R_reads' HO_5.out).2.1); rintro e w' ⟨rfl, ⟨nd, rfl⟩⟩; refine ⟨_, rfl, ?_⟩))
                go_roundg k3
                case measure => have := HJ1.out; have := HJ11.out; have := HK3.out; omega
                case rel => exact ⟨(wrap64 (x49_3 + 1)), zy, H', ⟨by have := HJ1.out; have := HJ11.out; have := HK3.out; omega⟩, ⟨zr HO_5.out⟩, ⟨zr HO_6.out⟩, ⟨by refine zk ?_; exact BK101.out⟩, ⟨zb⟩⟩
               ·
                replace c32 := zI c32
                subst c32
                rw [if_neg (show ¬ (false = true) by decide)] at H
                obtain rfl := zS H
                have p111 : 0 ≤ (x49_3 : Int) := zT zv
                have q111 : x49_3 < (t108.length : Int) := zT zv
                obtain ⟨ad111, e111, hx111_0⟩ := Kd.at_string (Kd.R_reads' HO_6.out).2.2 x49_3 p111 q111
                cases e111
                replace p111 := eq_true p111
                replace q111 := eq_true q111
                obtain ⟨Ao34, co34, eo34⟩ := Kd.R_slice HO_5.out
                subst eo34
                go_wp2_with (first | ((with_reducible refine gate_callee (f := 78) rfl ?_); refine goesL_ (some 57) rfl rfl Try.func78 (by kernel_rfl) rfl #[.slice Ao34 t105.length co34, .string (rdOf ByteArray.empty t108 x49_3)] rfl zl ?_; (with_reducible refine (aumbryref03_Has.calls k3 _ _ t105 (rdOf ByteArray.empty t108 x49_3) false _ ?side1 ?side2 A31.out).mono ?_); (case side1 => exact Kd.C_below (Kd.R_reads' HO_5.out).2.2 zg); (case side2 => exact (Kd.R_reads' HO_5.out).2.1); rintro e w' ⟨rfl, ⟨nd, rfl⟩⟩; refine ⟨_, rfl, ?_⟩))
                go_ret
                exact ⟨zw, zb⟩
              ·
               rw [if_neg c30] at H
               exact absurd H (by simp)
             ·
              rw [if_neg c29] at H
              exact absurd H (by simp)
            ·
             rw [if_neg c28] at H
             have c28b0 : decide (x49_3 < (t108.length : Int)) = false := zR c28
             clear c28
             obtain rfl := zS H
             go_wp2
             go_ret
             exact ⟨zw, zb⟩
     ·
      rw [if_neg c11] at H
      have c11b0 : (t103 == 0) = false := zE c11
      have c11b1 : (t103 != 0) = true := zF c11
      obtain rfl := zS H
      have hcz35_0 : wc.cell? ⟨gb101, 0, none⟩ = some (.int .i64 a0_0) := (zX BK101.out 0).trans rfl
      have hcz35_1 : wc.cell? ⟨gb101, 1, none⟩ = some (.slice A0_1 l0_1.length c0_1) := (zX BK101.out 1).trans rfl
      have hcz35_2 : wc.cell? ⟨gb101, 2, none⟩ = some (.slice A0_2 l0_2.length c0_2) := (zX BK101.out 2).trans rfl
      have hfz35_0 := zY BK101.out 0
      have hfz35_1 := zY BK101.out 1
      have hfz35_2 := zY BK101.out 2
      go_wp2_with (first | ((with_reducible refine gate_callee (f := 34) rfl ?_); refine goesL_ (some 18) rfl rfl Try.func34 (by kernel_rfl) rfl #[.slice A0_1 l0_1.length c0_1] rfl zl ?_; (with_reducible refine (aumbryref04_Check.calls kj1 _ _ l0_1 t102 _ ?side1 ?side2 A8.out).mono ?_); (case side1 => exact Kd.C_below HR0_1.out zb); (case side2 => exact HC0_1.out); rintro e w' ⟨rfl, ⟨nd, rfl⟩⟩; refine ⟨_, rfl, ?_⟩) | ((with_reducible refine gate_callee (f := 34) rfl ?_); refine goesL_ (some 24) rfl rfl Try.func34 (by kernel_rfl) rfl #[.slice A0_2 l0_2.length c0_2] rfl zl ?_; (with_reducible refine (aumbryref04_Check.calls kj1 _ _ l0_2 t103 _ ?side1 ?side2 A10.out).mono ?_); (case side1 => exact Kd.C_below (Kd.C_below HR0_2.out zb) zg); (case side2 => exact HC0_2.out); rintro e w' ⟨rfl, ⟨nd, rfl⟩⟩; refine ⟨_, rfl, ?_⟩))
      go_ret
      exact ⟨zw, zb⟩
    ·
     rw [if_neg c9] at H
     have c9b0 : (t102 == 0) = false := zE c9
     have c9b1 : (t102 != 0) = true := zF c9
     obtain rfl := zS H
     have hcz36_0 : wc.cell? ⟨gb101, 0, none⟩ = some (.int .i64 a0_0) := (zX BK101.out 0).trans rfl
     have hcz36_1 : wc.cell? ⟨gb101, 1, none⟩ = some (.slice A0_1 l0_1.length c0_1) := (zX BK101.out 1).trans rfl
     have hcz36_2 : wc.cell? ⟨gb101, 2, none⟩ = some (.slice A0_2 l0_2.length c0_2) := (zX BK101.out 2).trans rfl
     have hfz36_0 := zY BK101.out 0
     have hfz36_1 := zY BK101.out 1
     have hfz36_2 := zY BK101.out 2
     go_wp2_with (first | ((with_reducible refine gate_callee (f := 34) rfl ?_); refine goesL_ (some 18) rfl rfl Try.func34 (by kernel_rfl) rfl #[.slice A0_1 l0_1.length c0_1] rfl zl ?_; (with_reducible refine (aumbryref04_Check.calls kj1 _ _ l0_1 t102 _ ?side1 ?side2 A8.out).mono ?_); (case side1 => exact Kd.C_below HR0_1.out zb); (case side2 => exact HC0_1.out); rintro e w' ⟨rfl, ⟨nd, rfl⟩⟩; refine ⟨_, rfl, ?_⟩))
     go_ret
     exact ⟨zw, zb⟩


-- ==== PF25

/-! ### aumbryref07_Together: function 25 -/
mutual
def aumbryref07_Together.l0 : Nat → List (S73) → Int → Int → Option (Int)
 | 0, _, _, _ => none
 | k + 1, x0, x7, x8 => if x8 < x7 then (if 0 ≤ x8 then (if x8 < (x0.length : Int) then ((aumbryref06_Check.f k ((rd_T73 x0 x8).f0) ((rd_T73 x0 x8).f1) ((rd_T73 x0 x8).f2)).bind fun t102 => (if t102 = 0 then (aumbryref07_Together.l0 k x0 x7 (wrap64 (x8 + 1))) else (some t102))) else (none)) else (none)) else (aumbryref07_Together.l1 k x0 (x0.length : Int) 0)
def aumbryref07_Together.l1 : Nat → List (S73) → Int → Int → Option (Int)
 | 0, _, _, _ => none
 | k + 1, x0, x21, x22 => if x22 < x21 then (if x22 > 0 then (if 0 ≤ (wrap64 (x22 - 1)) then (if (wrap64 (x22 - 1)) < (x0.length : Int) then (if 0 ≤ x22 then (if x22 < (x0.length : Int) then (if ((rd_T73 x0 (wrap64 (x22 - 1))).f0) ≥ ((rd_T73 x0 x22).f0) then (some 19) else (aumbryref07_Together.l1 k x0 x21 (wrap64 (x22 + 1)))) else (none)) else (none)) else (none)) else (none)) else (aumbryref07_Together.l1 k x0 x21 (wrap64 (x22 + 1)))) else (some 0)
end
def aumbryref07_Together.f (k : Nat) (l0 : List (S73)) : Option (Int) := aumbryref07_Together.l0 k l0 (l0.length : Int) 0
theorem aumbryref07_Together.calls (k : Nat) (A0 : Option Addr) (c0 : Nat) (l0 : List (S73)) (r : Int) (w : World) (hr0 : Kd.C k73 w A0 l0.length l0) (hc0 : l0.length ≤ c0) (h : aumbryref07_Together.f k l0 = some r) :
 Calls Try.prog 25 #[.slice A0 l0.length c0] w fun e w' => e = .returned (.int .i64 r) ∧ Below w.heap.size w w' := by
 have hu73 := Try.underlying73
 have HR0 := zM hr0
 have HC0 := zM hc0
 clear hr0 hc0
 have HB := zM (Below.refl w.heap.size w)
 have H : (aumbryref07_Together.l0 k l0 (l0.length : Int) 0) = some r := h
 clear h
 have H' := zM H
 clear H
 go_enter Try.func25, Try.ntmps25
 go_wp2
 repeat (go_quiet (fail); try go_wp2)
 go_loopg [8] k (fun kq v8 w' => ∃ (x8_1 : Int), v8 = .int .i64 x8_1 ∧ Aside0 (aumbryref07_Together.l0 kq l0 (l0.length : Int) x8_1 = some r) ∧ Aside0 (kq ≤ k) ∧ Aside0 (Below w.heap.size w w'))
 case atStart => exact ⟨(0), zy, H', ⟨Nat.le_refl _⟩, ⟨zb⟩⟩
 case round =>
  clear H'
  obtain ⟨x8_1, rfl, HA, HK1, HB⟩ := hrel
  cases gk with
  | zero => exact absurd HA.out (by simp [aumbryref07_Together.l0])
  | succ k1 =>
   have H := HA.out
   clear HA
   simp only [aumbryref07_Together.l0] at H
   by_cases c2 : x8_1 < (l0.length : Int)
   ·
    rw [if_pos c2] at H
    have c2b0 : decide (x8_1 < (l0.length : Int)) = true := zQ c2
    clear c2
    by_cases c3 : 0 ≤ x8_1
    ·
     rw [if_pos c3] at H
     have c3b0 : decide (0 ≤ x8_1) = true := zQ c3
     clear c3
     by_cases c4 : x8_1 < (l0.length : Int)
     ·
      rw [if_pos c4] at H
      have c4b0 : decide (x8_1 < (l0.length : Int)) = true := zQ c4
      clear c4
      replace H := zB H
      obtain ⟨t102, A50, H⟩ := H
      try dsimp only at H
      have A5 := zM A50
      clear A50
      by_cases c6 : t102 = 0
      ·
       rw [if_pos c6] at H
       have c6b0 : (t102 == 0) = true := zG c6
       have c6b1 : (t102 != 0) = false := zH c6
       clear c6
       have H' := zM H
       clear H
       have p101 : 0 ≤ (x8_1 : Int) := zT zv
       have q101 : x8_1 < (l0.length : Int) := zT zv
       obtain ⟨ad101, A101_1, c101_1, A101_2, c101_2, e101, hx101_0, hx101_1, hx101_2, hl101_1, hi101_1, hl101_2, hi101_2⟩ := at_T73 HR0.out x8_1 p101 q101
       cases e101
       replace hx101_0 := (HB.out.cell (World.block_lt_of_cell? w _ hx101_0)).trans hx101_0
       replace hx101_1 := (HB.out.cell (World.block_lt_of_cell? w _ hx101_1)).trans hx101_1
       replace hx101_2 := (HB.out.cell (World.block_lt_of_cell? w _ hx101_2)).trans hx101_2
       have HR101_1 := zM hi101_1
       have HC101_1 := zM hl101_1
       clear hi101_1 hl101_1
       have HR101_2 := zM hi101_2
       have HC101_2 := zM hl101_2
       clear hi101_2 hl101_2
       replace p101 := eq_true p101
       replace q101 := eq_true q101
       go_wp2_with (first | (go_at_call 53; (with_reducible refine (aumbryref06_Check.calls k1 ((rd_T73 l0 x8_1).f0) _ _ ((rd_T73 l0 x8_1).f1) _ _ ((rd_T73 l0 x8_1).f2) t102 _ ?side1 ?side2 ?side3 ?side4 A5.out).mono ?_); (case side1 => exact Kd.C_below HR101_1.out zb); (case side2 => exact HC101_1.out); (case side3 => exact Kd.C_below HR101_2.out zb); (case side4 => exact HC101_2.out); rintro e w7 ⟨rfl, hb⟩; replace HB := zM (below_step zb hb); (try clear hb)))
       repeat (go_quiet (first | (go_at_call 53; (with_reducible refine (aumbryref06_Check.calls k1 ((rd_T73 l0 x8_1).f0) _ _ ((rd_T73 l0 x8_1).f1) _ _ ((rd_T73 l0 x8_1).f2) t102 _ ?side1 ?side2 ?side3 ?side4 A5.out).mono ?_); (case side1 => exact Kd.C_below HR101_1.out zb); (case side2 => exact HC101_1.out); (case side3 => exact Kd.C_below HR101_2.out zb); (case side4 => exact HC101_2.out); rintro e w7 ⟨rfl, hb⟩; replace HB := zM (below_step zb hb); (try clear hb))); try go_wp2_with (first | (go_at_call 53; (with_reducible refine (aumbryref06_Check.calls k1 ((rd_T73 l0 x8_1).f0) _ _ ((rd_T73 l0 x8_1).f1) _ _ ((rd_T73 l0 x8_1).f2) t102 _ ?side1 ?side2 ?side3 ?side4 A5.out).mono ?_); (case side1 => exact Kd.C_below HR101_1.out zb); (case side2 => exact HC101_1.out); (case side3 => exact Kd.C_below HR101_2.out zb); (case side4 => exact HC101_2.out); rintro e w7 ⟨rfl, hb⟩; replace HB := zM (below_step zb hb); (try clear hb))))
       go_roundg k1
       case measure => have := HK1.out; omega
       case rel => exact ⟨(wrap64 (x8_1 + 1)), zy, H', ⟨by have := HK1.out; omega⟩, ⟨zb⟩⟩
      ·
       rw [if_neg c6] at H
       have c6b0 : (t102 == 0) = false := zE c6
       have c6b1 : (t102 != 0) = true := zF c6
       obtain rfl := zS H
       have p101 : 0 ≤ (x8_1 : Int) := zT zv
       have q101 : x8_1 < (l0.length : Int) := zT zv
       obtain ⟨ad101, A101_1, c101_1, A101_2, c101_2, e101, hx101_0, hx101_1, hx101_2, hl101_1, hi101_1, hl101_2, hi101_2⟩ := at_T73 HR0.out x8_1 p101 q101
       cases e101
       replace hx101_0 := (HB.out.cell (World.block_lt_of_cell? w _ hx101_0)).trans hx101_0
       replace hx101_1 := (HB.out.cell (World.block_lt_of_cell? w _ hx101_1)).trans hx101_1
       replace hx101_2 := (HB.out.cell (World.block_lt_of_cell? w _ hx101_2)).trans hx101_2
       have HR101_1 := zM hi101_1
       have HC101_1 := zM hl101_1
       clear hi101_1 hl101_1
       have HR101_2 := zM hi101_2
       have HC101_2 := zM hl101_2
       clear hi101_2 hl101_2
       replace p101 := eq_true p101
       replace q101 := eq_true q101
       go_wp2_with (first | (go_at_call 53; (with_reducible refine (aumbryref06_Check.calls k1 ((rd_T73 l0 x8_1).f0) _ _ ((rd_T73 l0 x8_1).f1) _ _ ((rd_T73 l0 x8_1).f2) t102 _ ?side1 ?side2 ?side3 ?side4 A5.out).mono ?_); (case side1 => exact Kd.C_below HR101_1.out zb); (case side2 => exact HC101_1.out); (case side3 => exact Kd.C_below HR101_2.out zb); (case side4 => exact HC101_2.out); rintro e w8 ⟨rfl, hb⟩; replace HB := zM (below_step zb hb); (try clear hb)))
       repeat (go_quiet (first | (go_at_call 53; (with_reducible refine (aumbryref06_Check.calls k1 ((rd_T73 l0 x8_1).f0) _ _ ((rd_T73 l0 x8_1).f1) _ _ ((rd_T73 l0 x8_1).f2) t102 _ ?side1 ?side2 ?side3 ?side4 A5.out).mono ?_); (case side1 => exact Kd.C_below HR101_1.out zb); (case side2 => exact HC101_1.out); (case side3 => exact Kd.C_below HR101_2.out zb); (case side4 => exact HC101_2.out); rintro e w8 ⟨rfl, hb⟩; replace HB := zM (below_step zb hb); (try clear hb))); try go_wp2_with (first | (go_at_call 53; (with_reducible refine (aumbryref06_Check.calls k1 ((rd_T73 l0 x8_1).f0) _ _ ((rd_T73 l0 x8_1).f1) _ _ ((rd_T73 l0 x8_1).f2) t102 _ ?side1 ?side2 ?side3 ?side4 A5.out).mono ?_); (case side1 => exact Kd.C_below HR101_1.out zb); (case side2 => exact HC101_1.out); (case side3 => exact Kd.C_below HR101_2.out zb); (case side4 => exact HC101_2.out); rintro e w8 ⟨rfl, hb⟩; replace HB := zM (below_step zb hb); (try clear hb))))
       go_ret
       exact ⟨zw, zb⟩
     ·
      rw [if_neg c4] at H
      exact absurd H (by simp)
    ·
     rw [if_neg c3] at H
     exact absurd H (by simp)
   ·
    rw [if_neg c2] at H
    have c2b0 : decide (x8_1 < (l0.length : Int)) = false := zR c2
    clear c2
    have H' := zM H
    clear H
    go_wp2
    repeat (go_quiet (fail); try go_wp2)
    go_loopg [22] k1 (fun kq v22 w' => ∃ (x22_2 : Int), v22 = .int .i64 x22_2 ∧ Aside0 (aumbryref07_Together.l1 kq l0 (l0.length : Int) x22_2 = some r) ∧ Aside0 (kq ≤ k1) ∧ Aside0 (Below w.heap.size w w'))
    case atStart => exact ⟨(0), zy, H', ⟨Nat.le_refl _⟩, ⟨zb⟩⟩
    case round =>
     clear H'
     try clear c1
     try clear p1
     try clear q1
     try clear hx1
     try clear c2
     try clear c2b0
     try clear p2
     try clear c3
     try clear c3b0
     try clear c4
     try clear c4b0
     try clear c6
     try clear c6b0
     try clear c6b1
     try clear p6
     try clear hx101_0
     try clear hx101_1
     try clear hx101_2
     try clear p101
     try clear q101
     obtain ⟨x22_2, rfl, HA, HK2, HB⟩ := hrel
     cases gk with
     | zero => exact absurd HA.out (by simp [aumbryref07_Together.l1])
     | succ k2 =>
      have H := HA.out
      clear HA
      simp only [aumbryref07_Together.l1] at H
      by_cases c9 : x22_2 < (l0.length : Int)
      ·
       rw [if_pos c9] at H
       have c9b0 : decide (x22_2 < (l0.length : Int)) = true := zQ c9
       clear c9
       by_cases c10 : x22_2 > 0
       ·
        rw [if_pos c10] at H
        have c10b0 : decide (0 < x22_2) = true := zQ c10
        clear c10
        obtain ⟨ji11, hji11⟩ : ∃ j_ : Int, (wrap64 (x22_2 - 1)) = j_ := ⟨_, rfl⟩
        replace H : (if 0 ≤ (ji11) then (if (ji11) < (l0.length : Int) then (if 0 ≤ x22_2 then (if x22_2 < (l0.length : Int) then (if ((rd_T73 l0 (ji11)).f0) ≥ ((rd_T73 l0 x22_2).f0) then (some 19) else (aumbryref07_Together.l1 k2 l0 (l0.length : Int) (wrap64 (x22_2 + 1)))) else (none)) else (none)) else (none)) else (none)) = some r := by first | (rw [hji11] at H; exact H) | (simp only [hji11] at H ⊢; exact H)
        have hji11w : (IntKind.i64.wrap (x22_2 - 1)) = ji11 := (i64_w _).trans hji11
        by_cases c12 : 0 ≤ (ji11)
        ·
         rw [if_pos c12] at H
         have c12b0 : decide (0 ≤ (ji11)) = true := zQ c12
         clear c12
         by_cases c13 : (ji11) < (l0.length : Int)
         ·
          rw [if_pos c13] at H
          have c13b0 : decide ((ji11) < (l0.length : Int)) = true := zQ c13
          clear c13
          by_cases c14 : 0 ≤ x22_2
          ·
           rw [if_pos c14] at H
           have c14b0 : decide (0 ≤ x22_2) = true := zQ c14
           clear c14
           by_cases c15 : x22_2 < (l0.length : Int)
           ·
            rw [if_pos c15] at H
            have c15b0 : decide (x22_2 < (l0.length : Int)) = true := zQ c15
            clear c15
            by_cases c16 : ((rd_T73 l0 (ji11)).f0) ≥ ((rd_T73 l0 x22_2).f0)
            ·
             rw [if_pos c16] at H
             have c16b0 : decide (((rd_T73 l0 x22_2).f0) ≤ ((rd_T73 l0 (ji11)).f0)) = true := zQ c16
             clear c16
             obtain rfl := zS H
             have p103 : 0 ≤ ((ji11) : Int) := zT zv
             have q103 : (ji11) < (l0.length : Int) := zT zv
             obtain ⟨ad103, A103_1, c103_1, A103_2, c103_2, e103, hx103_0, hx103_1, hx103_2, hl103_1, hi103_1, hl103_2, hi103_2⟩ := at_T73 HR0.out (ji11) p103 q103
             cases e103
             replace hx103_0 := (HB.out.cell (World.block_lt_of_cell? w _ hx103_0)).trans hx103_0
             replace hx103_1 := (HB.out.cell (World.block_lt_of_cell? w _ hx103_1)).trans hx103_1
             replace hx103_2 := (HB.out.cell (World.block_lt_of_cell? w _ hx103_2)).trans hx103_2
             have HR103_1 := zM hi103_1
             have HC103_1 := zM hl103_1
             clear hi103_1 hl103_1
             have HR103_2 := zM hi103_2
             have HC103_2 := zM hl103_2
             clear hi103_2 hl103_2
             replace p103 := eq_true p103
             replace q103 := eq_true q103
             have p104 : 0 ≤ (x22_2 : Int) := zT zv
             have q104 : x22_2 < (l0.length : Int) := zT zv
             obtain ⟨ad104, A104_1, c104_1, A104_2, c104_2, e104, hx104_0, hx104_1, hx104_2, hl104_1, hi104_1, hl104_2, hi104_2⟩ := at_T73 HR0.out x22_2 p104 q104
             obtain rfl : ad103 = ad104 := (by injection e104)
             replace hx104_0 := (HB.out.cell (World.block_lt_of_cell? w _ hx104_0)).trans hx104_0
             replace hx104_1 := (HB.out.cell (World.block_lt_of_cell? w _ hx104_1)).trans hx104_1
             replace hx104_2 := (HB.out.cell (World.block_lt_of_cell? w _ hx104_2)).trans hx104_2
             have HR104_1 := zM hi104_1
             have HC104_1 := zM hl104_1
             clear hi104_1 hl104_1
             have HR104_2 := zM hi104_2
             have HC104_2 := zM hl104_2
             clear hi104_2 hl104_2
             replace p104 := eq_true p104
             replace q104 := eq_true q104
             go_wp2
             repeat (go_quiet (fail); try go_wp2)
             go_ret
             exact ⟨by first | rfl | (simp [errW_none, errW_some] <;> rfl) | (simp only [← hji11]; first | rfl | (simp [errW_none, errW_some] <;> rfl)) | (simp [*, errW_none, errW_some] <;> rfl), zb⟩
            ·
             rw [if_neg c16] at H
             have c16b0 : decide (((rd_T73 l0 x22_2).f0) ≤ ((rd_T73 l0 (ji11)).f0)) = false := zR c16
             clear c16
             have H' := zM H
             clear H
             have p103 : 0 ≤ ((ji11) : Int) := zT zv
             have q103 : (ji11) < (l0.length : Int) := zT zv
             obtain ⟨ad103, A103_1, c103_1, A103_2, c103_2, e103, hx103_0, hx103_1, hx103_2, hl103_1, hi103_1, hl103_2, hi103_2⟩ := at_T73 HR0.out (ji11) p103 q103
             cases e103
             replace hx103_0 := (HB.out.cell (World.block_lt_of_cell? w _ hx103_0)).trans hx103_0
             replace hx103_1 := (HB.out.cell (World.block_lt_of_cell? w _ hx103_1)).trans hx103_1
             replace hx103_2 := (HB.out.cell (World.block_lt_of_cell? w _ hx103_2)).trans hx103_2
             have HR103_1 := zM hi103_1
             have HC103_1 := zM hl103_1
             clear hi103_1 hl103_1
             have HR103_2 := zM hi103_2
             have HC103_2 := zM hl103_2
             clear hi103_2 hl103_2
             replace p103 := eq_true p103
             replace q103 := eq_true q103
             have p104 : 0 ≤ (x22_2 : Int) := zT zv
             have q104 : x22_2 < (l0.length : Int) := zT zv
             obtain ⟨ad104, A104_1, c104_1, A104_2, c104_2, e104, hx104_0, hx104_1, hx104_2, hl104_1, hi104_1, hl104_2, hi104_2⟩ := at_T73 HR0.out x22_2 p104 q104
             obtain rfl : ad103 = ad104 := (by injection e104)
             replace hx104_0 := (HB.out.cell (World.block_lt_of_cell? w _ hx104_0)).trans hx104_0
             replace hx104_1 := (HB.out.cell (World.block_lt_of_cell? w _ hx104_1)).trans hx104_1
             replace hx104_2 := (HB.out.cell (World.block_lt_of_cell? w _ hx104_2)).trans hx104_2
             have HR104_1 := zM hi104_1
             have HC104_1 := zM hl104_1
             clear hi104_1 hl104_1
             have HR104_2 := zM hi104_2
             have HC104_2 := zM hl104_2
             clear hi104_2 hl104_2
             replace p104 := eq_true p104
             replace q104 := eq_true q104
             go_wp2
             repeat (go_quiet (fail); try go_wp2)
             go_roundg k2
             case measure => have := HK1.out; have := HK2.out; omega
             case rel => exact ⟨(wrap64 (x22_2 + 1)), zy, H', ⟨by have := HK1.out; have := HK2.out; omega⟩, ⟨zb⟩⟩
           ·
            rw [if_neg c15] at H
            exact absurd H (by simp)
          ·
           rw [if_neg c14] at H
           exact absurd H (by simp)
         ·
          rw [if_neg c13] at H
          exact absurd H (by simp)
        ·
         rw [if_neg c12] at H
         exact absurd H (by simp)
       ·
        rw [if_neg c10] at H
        have c10b0 : decide (0 < x22_2) = false := zR c10
        clear c10
        have H' := zM H
        clear H
        go_wp2
        repeat (go_quiet (fail); try go_wp2)
        go_roundg k2
        case measure => have := HK1.out; have := HK2.out; omega
        case rel => exact ⟨(wrap64 (x22_2 + 1)), zy, H', ⟨by have := HK1.out; have := HK2.out; omega⟩, ⟨zb⟩⟩
      ·
       rw [if_neg c9] at H
       have c9b0 : decide (x22_2 < (l0.length : Int)) = false := zR c9
       clear c9
       obtain rfl := zS H
       go_wp2
       repeat (go_quiet (fail); try go_wp2)
       go_ret
       exact ⟨zw, zb⟩


-- ==== PF27

attribute [local go_sem high] eqA54
/-! ### aumbryref04_Same: function 27 -/
def aumbryref04_Same.l0 : Nat → List (S54) → List (S54) → Int → Int → Option (Bool)
 | 0, _, _, _, _ => none
 | k + 1, x0, x1, x12, x13 => if x13 < x12 then (if 0 ≤ x13 then (if x13 < (x0.length : Int) then (if x13 < (x1.length : Int) then (if (!((((rd_T54 x0 x13).f0).toList) == (((rd_T54 x1 x13).f0).toList)) || (!(((rd_T54 x0 x13).f1) == ((rd_T54 x1 x13).f1)))) = true then (some false) else (aumbryref04_Same.l0 k x0 x1 x12 (wrap64 (x13 + 1)))) else (none)) else (none)) else (none)) else (some true)
def aumbryref04_Same.f (k : Nat) (l0 : List (S54)) (l1 : List (S54)) : Option (Bool) := if (l0.length : Int) = (l1.length : Int) then (aumbryref04_Same.l0 k l0 l1 (l0.length : Int) 0) else (some false)
theorem aumbryref04_Same.calls (k : Nat) (A0 : Option Addr) (c0 : Nat) (l0 : List (S54)) (A1 : Option Addr) (c1 : Nat) (l1 : List (S54)) (r : Bool) (w : World) (hr0 : Kd.C k54 w A0 l0.length l0) (hc0 : l0.length ≤ c0) (hr1 : Kd.C k54 w A1 l1.length l1) (hc1 : l1.length ≤ c1) (h : aumbryref04_Same.f k l0 l1 = some r) :
 Calls Try.prog 27 #[.slice A0 l0.length c0, .slice A1 l1.length c1] w fun e w' => e = .returned (.bool r) ∧ Drawn0 w w' := by
 have hu54 := Try.underlying54
 have HR0 := zM hr0
 have HC0 := zM hc0
 clear hr0 hc0
 have HR1 := zM hr1
 have HC1 := zM hc1
 clear hr1 hc1
 have H : (if (l0.length : Int) = (l1.length : Int) then (aumbryref04_Same.l0 k l0 l1 (l0.length : Int) 0) else (some false)) = some r := h
 clear h
 by_cases c3 : (l0.length : Int) = (l1.length : Int)
 ·
  rw [if_pos c3] at H
  have c3b0 : ((l0.length : Int) == (l1.length : Int)) = true := zG c3
  have c3b1 : ((l0.length : Int) != (l1.length : Int)) = false := zH c3
  have c3b2 : (l0.length == l1.length) = true := by first | simpa using c3 | (simp at c3 ⊢; omega)
  clear c3
  have H' := zM H
  clear H
  go_enter Try.func27, Try.ntmps27
  go_wp2
  repeat (go_quiet (fail); try go_wp2)
  go_loopg [13] k (fun kq v13 w' => ∃ (x13_1 : Int), v13 = .int .i64 x13_1 ∧ Aside0 (aumbryref04_Same.l0 kq l0 l1 (l0.length : Int) x13_1 = some r) ∧ Aside0 (kq ≤ k) ∧ Drawn0 w w')
  case atStart => exact ⟨(0), zy, H', ⟨Nat.le_refl _⟩, zd⟩
  case round =>
   clear H'
   try clear c1
   try clear c2
   try clear p2
   try clear c3
   try clear c3b0
   try clear c3b1
   try clear c3b2
   obtain ⟨x13_1, rfl, HA, HK1, ⟨m1, rfl⟩⟩ := hrel
   cases gk with
   | zero => exact absurd HA.out (by simp [aumbryref04_Same.l0])
   | succ k1 =>
    have H := HA.out
    clear HA
    simp only [aumbryref04_Same.l0] at H
    by_cases c4 : x13_1 < (l0.length : Int)
    ·
     rw [if_pos c4] at H
     have c4b0 : decide (x13_1 < (l0.length : Int)) = true := zQ c4
     clear c4
     by_cases c5 : 0 ≤ x13_1
     ·
      rw [if_pos c5] at H
      have c5b0 : decide (0 ≤ x13_1) = true := zQ c5
      clear c5
      by_cases c6 : x13_1 < (l0.length : Int)
      ·
       rw [if_pos c6] at H
       have c6b0 : decide (x13_1 < (l0.length : Int)) = true := zQ c6
       clear c6
       by_cases c7 : x13_1 < (l1.length : Int)
       ·
        rw [if_pos c7] at H
        have c7b0 : decide (x13_1 < (l1.length : Int)) = true := zQ c7
        clear c7
        by_cases c8 : (!((((rd_T54 l0 x13_1).f0).toList) == (((rd_T54 l1 x13_1).f0).toList)) || (!(((rd_T54 l0 x13_1).f1) == ((rd_T54 l1 x13_1).f1)))) = true
        ·
         rw [if_pos c8] at H
         have c8b0 : (!((((rd_T54 l0 x13_1).f0).toList) == (((rd_T54 l1 x13_1).f0).toList)) || (!(((rd_T54 l0 x13_1).f1) == ((rd_T54 l1 x13_1).f1)))) = true := c8
         clear c8
         obtain rfl := zS H
         have p101 : 0 ≤ (x13_1 : Int) := zT zv
         have q101 : x13_1 < (l0.length : Int) := zT zv
         obtain ⟨ad101, e101, hx101_0, hx101_1⟩ := at_T54 HR0.out x13_1 p101 q101
         cases e101
         replace p101 := eq_true p101
         replace q101 := eq_true q101
         have p102 : 0 ≤ (x13_1 : Int) := zT zv
         have q102 : x13_1 < (l1.length : Int) := zT zv
         obtain ⟨ad102, e102, hx102_0, hx102_1⟩ := at_T54 HR1.out x13_1 p102 q102
         cases e102
         replace p102 := eq_true p102
         replace q102 := eq_true q102
         go_wp2
         repeat (go_quiet (fail); try go_wp2)
         go_ret
         exact ⟨zy, zd⟩
        ·
         rw [if_neg c8] at H
         have c8b0 : (!((((rd_T54 l0 x13_1).f0).toList) == (((rd_T54 l1 x13_1).f0).toList)) || (!(((rd_T54 l0 x13_1).f1) == ((rd_T54 l1 x13_1).f1)))) = false := by simpa using c8
         clear c8
         have H' := zM H
         clear H
         have p101 : 0 ≤ (x13_1 : Int) := zT zv
         have q101 : x13_1 < (l0.length : Int) := zT zv
         obtain ⟨ad101, e101, hx101_0, hx101_1⟩ := at_T54 HR0.out x13_1 p101 q101
         cases e101
         replace p101 := eq_true p101
         replace q101 := eq_true q101
         have p102 : 0 ≤ (x13_1 : Int) := zT zv
         have q102 : x13_1 < (l1.length : Int) := zT zv
         obtain ⟨ad102, e102, hx102_0, hx102_1⟩ := at_T54 HR1.out x13_1 p102 q102
         cases e102
         replace p102 := eq_true p102
         replace q102 := eq_true q102
         go_wp2
         repeat (go_quiet (fail); try go_wp2)
         go_roundg k1
         case measure => have := HK1.out; omega
         case rel => exact ⟨(wrap64 (x13_1 + 1)), zy, H', ⟨by have := HK1.out; omega⟩, zd⟩
       ·
        rw [if_neg c7] at H
        exact absurd H (by simp)
      ·
       rw [if_neg c6] at H
       exact absurd H (by simp)
     ·
      rw [if_neg c5] at H
      exact absurd H (by simp)
    ·
     rw [if_neg c4] at H
     have c4b0 : decide (x13_1 < (l0.length : Int)) = false := zR c4
     clear c4
     obtain rfl := zS H
     go_wp2
     repeat (go_quiet (fail); try go_wp2)
     go_ret
     exact ⟨zy, zd⟩
 ·
  rw [if_neg c3] at H
  have c3b0 : ((l0.length : Int) == (l1.length : Int)) = false := zE c3
  have c3b1 : ((l0.length : Int) != (l1.length : Int)) = true := zF c3
  have c3b2 : (l0.length == l1.length) = false := by first | simpa using c3 | (simp at c3 ⊢; omega)
  obtain rfl := zS H
  go_enter Try.func27, Try.ntmps27
  go_wp2
  repeat (go_quiet (fail); try go_wp2)
  go_ret
  exact ⟨zy, zd⟩


-- ==== PF79

attribute [local go_sem high] eqA54
/-! ### aumbryref05_Fit: function 79 -/
mutual
def aumbryref05_Fit.l0 : Nat → List (S104) → List (List (S54)) → List (List (S54)) → Int → Int → Option ((List (S104)) × Bool)
 | 0, _, _, _, _, _ => none
 | k + 1, x2, x9, x10, x54, x55 => if x55 < x54 then (if 0 ≤ x55 then (if x55 < (x9.length : Int) then (if x55 < (x10.length : Int) then ((aumbryref05_Fit.f k (rd_L3 x9 x55) (rd_L3 x10 x55) x2).bind fun bt123 => (if bt123.2 = true then (aumbryref05_Fit.l0 k bt123.1 x9 x10 x54 (wrap64 (x55 + 1))) else (some (([] : List (S104)), false)))) else (none)) else (none)) else (none)) else (some (x2, true))
def aumbryref05_Fit.f : Nat → List (S54) → List (S54) → List (S104) → Option ((List (S104)) × Bool)
 | 0, _, _, _ => none
 | k + 1, l0, l1, l2 => (aumbryref05_Var.f k l0).bind fun t101 => (if t101 = true then (if 0 < (l0.length : Int) then ((aumbryref05_At.f k l2 ((rd_T54 l0 0).f0)).bind fun t103 => (if t103 < 0 then ((aumbryref04_Copy.f l1).bind fun t105 => (if l2.length < 3518437208883 then (some ((l2 ++ [(⟨(rd_T54 l0 0).f0, t105⟩ : S104)]), true)) else (none))) else (if 0 ≤ t103 then (if t103 < (l2.length : Int) then ((aumbryref04_Same.f k ((rd_T104 l2 t103).f1) l1).bind fun t112 => (some (l2, t112))) else (none)) else (none)))) else (none)) else (if 0 < (l0.length : Int) then (if 0 < (l1.length : Int) then (if (!((((rd_T54 l0 0).f0).toList) == (((rd_T54 l1 0).f0).toList)) || (!(((rd_T54 l0 0).f1) == ((rd_T54 l1 0).f1)))) = true then (some (([] : List (S104)), false)) else ((aumbryref04_Kids.f k l0).bind fun t115 => ((aumbryref04_Kids.f k l1).bind fun t118 => (aumbryref05_Fit.l0 k l2 t115 t118 (t115.length : Int) 0)))) else (none)) else (none)))
end
def aumbryref05_Fit.T4 : Bool × List (List Nat × List Nat) := (true, [([], []), ([], []), ([1], [1]), ([2], [2]), ([3], [3]), ([], []), ([5], [5]), ([4, 6], [4, 6]), ([7], [7]), ([0, 8, 6], [0, 8]), ([9, 9, 0, 1, 2, 3, 4, 5, 6, 7, 8, 9], [9]), ([10, 0, 1, 2, 3, 4, 5, 6, 7, 8, 9, 10], [])])
def aumbryref05_Fit.B4 : List Nat := [0, 0, 2, 6, 14, 0, 32, 126, 254, 511, 1023, 2047]
theorem aumbryref05_Fit.tab4 : rtab .any (opsOf Try.f79 4) = aumbryref05_Fit.T4 := by kernel_rfl
theorem aumbryref05_Fit.bits4 : waitsOk aumbryref05_Fit.T4.2 aumbryref05_Fit.B4 = true := by kernel_rfl
def aumbryref05_Fit.T12 : Bool × List (List Nat × List Nat) := (true, [([], []), ([], []), ([0, 1], [0, 1]), ([2], [2]), ([], []), ([], []), ([4, 5], [4, 5]), ([6], [6]), ([], []), ([3, 7, 8], [3, 7, 8]), ([9], [9]), ([10], [10]), ([10], [10]), ([11, 9, 0, 1, 2, 3, 4, 5, 6, 7, 8, 9, 10, 11], [11]), ([12, 13, 0, 1, 2, 3, 4, 5, 6, 7, 8, 9, 10, 11, 12, 13], [12])])
def aumbryref05_Fit.B12 : List Nat := [0, 0, 3, 7, 0, 0, 48, 112, 0, 511, 1023, 2047, 2047, 4095, 16383]
theorem aumbryref05_Fit.tab12 : rtab .any (opsOf Try.f79 12) = aumbryref05_Fit.T12 := by kernel_rfl
theorem aumbryref05_Fit.bits12 : waitsOk aumbryref05_Fit.T12.2 aumbryref05_Fit.B12 = true := by kernel_rfl
theorem aumbryref05_Fit.callsN (k : Nat) : ∀ (A0 : Option Addr) (c0 : Nat) (l0 : List (S54)) (A1 : Option Addr) (c1 : Nat) (l1 : List (S54)) (P2_ PQ_ : Nat → Prop) (u9000_ : Value) (l2 : List (S104)) (r1 : List (S104)) (r2 : Bool) (w0 w : World) (hB : Below w0.heap.size w0 w) (hr0 : ∀ W_, Kept w W_ (fun k_ => P2_ k_) → Kd.C k54 W_ A0 l0.length l0) (hc0 : l0.length ≤ c0) (hr1 : ∀ W_, Kept w W_ (fun k_ => P2_ k_) → Kd.C k54 W_ A1 l1.length l1) (hc1 : l1.length ≤ c1) (ho2 : Kd.S k104 104 w w0.heap.size PQ_ u9000_ l2) (hu2 : ∀ k_ : Nat, (u9000_ : Value).ownBlock = some k_ → P2_ k_) (h : aumbryref05_Fit.f k l0 l1 l2 = some (r1, r2)),
 Calls Try.prog 79 #[.slice A0 l0.length c0, .slice A1 l1.length c1, u9000_] w fun e w' => ∃ v0_ : Value, e = .returned (.tuple #[v0_, .bool r2]) ∧ Kd.S k104 104 w' w0.heap.size (fun k_ => (PQ_ k_ ∨ w.heap.size ≤ k_)) v0_ r1 ∧ Below w0.heap.size w0 w' ∧ Kept w w' (fun k_ => P2_ k_) ∧ (∀ k_ : Nat, (v0_ : Value).ownBlock = some k_ → P2_ k_ ∨ w.heap.size ≤ k_) := by
 induction k using Nat.strongRecOn with
 | _ k ih =>
 intro A0 c0 l0 A1 c1 l1 P2_ PQ_ u9000_ l2 r1 r2 w0 w hB hr0 hc0 hr1 hc1 ho2 hu2 h
 cases k with
 | zero => exact absurd h (by simp [aumbryref05_Fit.f])
 | succ k =>
 simp only [aumbryref05_Fit.f] at h
 have hu104 := Try.underlying104
 have hu54 := Try.underlying54
 have HR0 := zM hr0
 have HC0 := zM hc0
 clear hr0 hc0
 have HR1 := zM hr1
 have HC1 := zM hc1
 clear hr1 hc1
 have HO2 := zM (show Kd.S k104 104 w w0.heap.size (fun k_ => (PQ_ k_ ∨ w.heap.size ≤ k_)) u9000_ l2 from Kd.S_mono ho2 (fun k_ hk => (.inl hk)))
 have HV := zM (show ∀ k_ : Nat, (u9000_ : Value).ownBlock = some k_ → P2_ k_ ∨ w.heap.size ≤ k_ from fun k_ e_ => .inl (hu2 k_ e_))
 clear hu2
 have HK := zM (Kept.refl w (fun k_ => P2_ k_))
 have HW0 := zM hB.size
 have HB := zM hB
 clear hB
 have H : ((aumbryref05_Var.f k l0).bind fun t101 => (if t101 = true then (if 0 < (l0.length : Int) then ((aumbryref05_At.f k l2 ((rd_T54 l0 0).f0)).bind fun t103 => (if t103 < 0 then ((aumbryref04_Copy.f l1).bind fun t105 => (if l2.length < 3518437208883 then (some ((l2 ++ [(⟨(rd_T54 l0 0).f0, t105⟩ : S104)]), true)) else (none))) else (if 0 ≤ t103 then (if t103 < (l2.length : Int) then ((aumbryref04_Same.f k ((rd_T104 l2 t103).f1) l1).bind fun t112 => (some (l2, t112))) else (none)) else (none)))) else (none)) else (if 0 < (l0.length : Int) then (if 0 < (l1.length : Int) then (if (!((((rd_T54 l0 0).f0).toList) == (((rd_T54 l1 0).f0).toList)) || (!(((rd_T54 l0 0).f1) == ((rd_T54 l1 0).f1)))) = true then (some (([] : List (S104)), false)) else ((aumbryref04_Kids.f k l0).bind fun t115 => ((aumbryref04_Kids.f k l1).bind fun t118 => (aumbryref05_Fit.l0 k l2 t115 t118 (t115.length : Int) 0)))) else (none)) else (none)))) = some (r1, r2) := h
 clear h
 replace H := zB H
 obtain ⟨t101, A40, H⟩ := H
 try dsimp only at H
 have A4 := zM A40
 clear A40
 by_cases c5 : t101 = true
 ·
  subst c5
  rw [if_pos rfl] at H
  by_cases c6 : 0 < (l0.length : Int)
  ·
   rw [if_pos c6] at H
   have c6b0 : decide (0 < (l0.length : Int)) = true := zQ c6
   have c6b1 : decide (0 < l0.length) = true := zQ (by omega)
   clear c6
   replace H := zB H
   obtain ⟨t103, A70, H⟩ := H
   try dsimp only at H
   have A7 := zM A70
   clear A70
   by_cases c8 : t103 < 0
   ·
    rw [if_pos c8] at H
    have c8b0 : decide (t103 < 0) = true := zQ c8
    clear c8
    replace H := zB H
    obtain ⟨t105, A90, H⟩ := H
    try dsimp only at H
    have A9 := zM A90
    clear A90
    by_cases c10 : l2.length < 3518437208883
    ·
     rw [if_pos c10] at H
     have LMc10 := zM c10
     clear c10
     obtain ⟨y108, hy108⟩ : ∃ y_ : List (S104), y_ = (l2 ++ [(⟨(rd_T54 l0 0).f0, t105⟩ : S104)]) := ⟨_, rfl⟩
     replace H : (some (y108, true)) = some (r1, r2) := by first | (rw [hy108]; with_reducible exact H) | (have H2_ := (Option.bind_some _ _).symm.trans H; rw [hy108]; with_reducible exact H2_) | (have H2_ := (Option.bind_some _ _).symm.trans H; with_reducible exact H2_) | with_reducible exact H | (rw [hy108]; exact H) | exact H
     have Ny108 := zM hy108
     clear hy108
     simp only [Option.some.injEq, Prod.mk.injEq] at H
     obtain ⟨rfl, rfl⟩ := H
     go_enter Try.func79, Try.ntmps79
     try go_wp2_with (first | ((with_reducible refine gate_callee (f := 56) rfl ?_); refine goesL_ (some 15) rfl rfl Try.func56 (by kernel_rfl) rfl #[.slice A0 l0.length c0] rfl zl ?_; (with_reducible refine (aumbryref05_Var.calls k _ _ l0 true _ ?side1 ?side2 A4.out).mono ?_); (case side1 => exact Kd.C_kept_now HR0.out (zf)); (case side2 => exact HC0.out); rintro e w' ⟨rfl, ⟨nd, rfl⟩⟩; refine ⟨_, rfl, ?_⟩; have p102 : 0 ≤ (0 : Int) := (by omega); have q102 : 0 < (l0.length : Int) := zT zv; obtain ⟨ad102, e102, hx102_0, hx102_1⟩ := at_T54 (Kd.C_kept_now HR0.out HK.out) 0 p102 q102; cases e102; have qi102 : (0 < l0.length) = True := eq_true (by omega); (try rw [show ((0 : Int)).toNat = 0 from rfl] at hx102_0); (try rw [show 0 * 2 = 0 from rfl] at hx102_0); (try rw [Addr.add_zero'] at hx102_0); (try rw [show ((0 : Int)).toNat = 0 from rfl] at hx102_1); (try rw [show 0 * 2 = 0 from rfl] at hx102_1); (try rw [Addr.add_zero'] at hx102_1); replace p102 := eq_true p102; replace q102 := eq_true q102; obtain ⟨Ao11, co11, eo11⟩ := Kd.S_slice HO2.out; subst eo11) | ((with_reducible refine gate_callee (f := 57) rfl ?_); refine goesL_ (some 21) rfl rfl Try.func57 (by kernel_rfl) rfl #[.slice Ao11 l2.length co11, .string ((rd_T54 l0 0).f0)] rfl zl ?_; (with_reducible refine (aumbryref05_At.calls k _ _ l2 ((rd_T54 l0 0).f0) t103 _ ?side1 ?side2 A7.out).mono ?_); (case side1 => exact Kd.C_below (Kd.S_reads' HO2.out).2.2 zg); (case side2 => exact (Kd.S_reads' HO2.out).2.1); rintro e w' ⟨rfl, ⟨nd, rfl⟩⟩; refine ⟨_, rfl, ?_⟩))
     (try (rw [drewN_self w]; generalize hq_ : World.drewN w _ = wz; have n0_ : Aside0 (Kd.S k104 104 wz w0.heap.size (fun k_ => (PQ_ k_ ∨ w.heap.size ≤ k_)) (.slice Ao11 l2.length co11) l2) := ⟨by rw [← hq_]; exact (Kd.S_below HO2.out zg)⟩; have n1_ : Aside0 (Kept w wz (fun k_ => P2_ k_)) := ⟨by rw [← hq_]; exact (zf)⟩; have n2_ : Aside0 (Below w0.heap.size w0 wz) := ⟨by rw [← hq_]; exact zb⟩; clear HO2 HK HB hq_; have HO2 := n0_; have HK := n1_; have HB := n2_; clear n0_ n1_ n2_))
     have n0_ := zM (Kd.S_drew HO2.out)
     have n1_ := zM (Kept.drew HK.out)
     have n2_ := zM (zD HB.out)
     clear HO2
     clear HK
     clear HB
     have HO2 := n0_
     have HK := n1_
     have HB := n2_
     clear n0_ n1_ n2_
     have p104 : 0 ≤ (0 : Int) := (by omega)
     have q104 : 0 < (l0.length : Int) := zT zv
     obtain ⟨ad104, e104, hx104_0, hx104_1⟩ := at_T54 (Kd.C_kept_now HR0.out HK.out) 0 p104 q104
     have hw104_1 := hx104_1
     (try rw [show ((0 : Int)).toNat = 0 from rfl] at hw104_1)
     (try rw [show 0 * 2 = 0 from rfl] at hw104_1)
     (try rw [Addr.add_zero'] at hw104_1)
     have hw104_0 := hx104_0
     (try rw [show ((0 : Int)).toNat = 0 from rfl] at hw104_0)
     (try rw [show 0 * 2 = 0 from rfl] at hw104_0)
     (try rw [Addr.add_zero'] at hw104_0)
     obtain rfl : ad102 = ad104 := (by injection e104)
     have qi104 : (0 < l0.length) = True := eq_true (by omega)
     (try rw [show ((0 : Int)).toNat = 0 from rfl] at hx104_0)
     (try rw [show 0 * 2 = 0 from rfl] at hx104_0)
     (try rw [Addr.add_zero'] at hx104_0)
     (try rw [show ((0 : Int)).toNat = 0 from rfl] at hx104_1)
     (try rw [show 0 * 2 = 0 from rfl] at hx104_1)
     (try rw [Addr.add_zero'] at hx104_1)
     replace p104 := eq_true p104
     replace q104 := eq_true q104
     refine start_ (n := 12) (S := fun w' => w'.cell? ad102 = some (.string ((rd_T54 l0 0).f0)) ∧ w'.cell? ⟨ad102.block, ad102.off + 1, none⟩ = some (.int .i64 ((rd_T54 l0 0).f1))) (ds := [8, 9]) #[false, false, false, false, false, false, false, false, false, false, false, false] (by kernel_rfl) rfl rfl ⟨hx104_0, hx104_1⟩ (fun hHeld => ?_); refine with_tabW aumbryref05_Fit.tab4 aumbryref05_Fit.bits4 (fun HT_ HW_ => ?_)
     generalize wz.drew = w12 at HO2 HK HB hx104_0 hx104_1 hHeld ⊢
     refine pure_ (i := 0) (N := some 24) (v := ?_) (a' := ?_) #[true, false, false, false, false, false, false, false, false, false, false, false] rfl rfl (any_of HT_.out (by kernel_rfl)) (fun _ _ _ h => h) (Or.inl ⟨by rfl, ?_⟩) ?_ ?_
     rotate_left
     ·
      intro w'
      go_simp
      with_reducible rfl
     rotate_left
     ·
      simp only [Act.put, zp1, zp2, zp3, i64_w, i32_w]
      rfl
     refine pure_ (i := 1) (N := some 25) (v := ?_) (a' := ?_) #[true, true, false, false, false, false, false, false, false, false, false, false] rfl rfl (any_of HT_.out (by kernel_rfl)) (fun _ _ _ h => h) (Or.inl ⟨by rfl, ?_⟩) ?_ ?_
     rotate_left
     ·
      intro w'
      go_simp
      with_reducible rfl
     rotate_left
     ·
      simp only [Act.put, zp1, zp2, zp3, i64_w, i32_w]
      rfl
     refine pure_ (i := 2) (N := some 26) (v := ?_) (a' := ?_) #[true, true, true, false, false, false, false, false, false, false, false, false] rfl rfl (any_of HT_.out (by kernel_rfl)) (fun _ _ _ h => h) (Or.inl ⟨by rfl, ?_⟩) ?_ ?_
     rotate_left
     ·
      intro w'
      go_simp
      with_reducible rfl
     rotate_left
     ·
      simp only [Act.put, zp1, zp2, zp3, i64_w, i32_w]
      rfl
     refine pure_ (i := 3) (N := some 27) (v := ?_) (a' := ?_) #[true, true, true, true, false, false, false, false, false, false, false, false] rfl rfl (any_of HT_.out (by kernel_rfl)) (fun _ _ _ h => h) (Or.inl ⟨by rfl, ?_⟩) ?_ ?_
     rotate_left
     ·
      intro w'
      go_simp
      with_reducible rfl
     rotate_left
     ·
      simp only [Act.put, zp1, zp2, zp3, i64_w, i32_w]
      rfl
     refine pure_ (i := 5) (N := some 29) (v := ?_) (a' := ?_) #[true, true, true, true, false, true, false, false, false, false, false, false] rfl rfl (any_of HT_.out (by kernel_rfl)) (fun _ _ _ h => h) (Or.inl ⟨by rfl, ?_⟩) ?_ ?_
     rotate_left
     ·
      intro w'
      go_simp
      with_reducible rfl
     rotate_left
     ·
      simp only [Act.put, zp1, zp2, zp3, i64_w, i32_w]
      rfl
     refine take_ (i := 4) (N := some 28) (v := ?_) (a' := ?_) #[true, true, true, true, true, true, false, false, false, false, false, false] rfl rfl (take_ofW HT_.out HW_.out (by kernel_rfl)) (fun _ _ _ h => h) (Or.inl ⟨by rfl, ?_⟩) hHeld ?_ ?_
     rotate_left
     ·
      rintro w' ⟨s0, s1⟩
      go_simp
      with_reducible rfl
     rotate_left
     ·
      simp only [Act.put, zp1, zp2, zp3, i64_w, i32_w]
      rfl
     refine one_ (i := 6) (N := some 30) #[true, true, true, true, true, true, true, false, false, false, false, false] rfl rfl (one_of HT_.out (by kernel_rfl)) (by decide) (fun K hK => ?_)
     refine goes_ Try.func13 (by kernel_rfl) rfl #[.slice A1 l1.length c1] (by rfl) rfl rfl zl ?_
     with_reducible refine (aumbryref04_Copy.calls _ _ l1 t105 _ ?side1 ?side2 A9.out).mono ?_
     (case side1 => exact Kd.C_kept_now HR1.out (zf))
     (case side2 => exact HC1.out)
     rintro e w13 ⟨v106, rfl, ho0, hb⟩
     have HS0_ := (hb.cell (World.block_lt_of_cell? _ _ (hHeld.1))).trans (hHeld.1)
     have HS1_ := (hb.cell (World.block_lt_of_cell? _ _ (hHeld.2))).trans (hHeld.2)
     refine ⟨_, rfl, ?_⟩
     have n0_ := zM (Kd.S_elder' (Kd.S_below HO2.out zg) (Kd.R_base ho0) hb)
     have n1_ := zM (Kd.R_lower (Kd.R_newM (M := fun k_ => (PQ_ k_ ∨ w.heap.size ≤ k_)) ho0 (by first | exact HK.out.1 | exact (show Kept w _ (fun k_ => P2_ k_) from zf).1) (fun k_ h_ => .inr h_)) (below_size zb))
     have n2_ := zM (Kept.below (S := (fun k_ => P2_ k_)) (zf) hb)
     have n3_ := zM (below_step zb hb)
     clear HO2
     clear HK
     clear HB
     have HO2 := n0_
     have HO107 := n1_
     have HK := n2_
     have HB := n3_
     clear n0_ n1_ n2_ n3_
     (try clear hb)
     (try clear hb2)
     (try clear hk)
     (try clear hi)
     (try clear ho0)
     obtain ⟨Ao14, co14, eo14⟩ := Kd.R_slice HO107.out
     (first | subst eo14 | (injection eo14 with f1_ f2_ f3_; have f4_ := f1_.symm; have f5_ := f3_.symm; clear f1_ f2_ f3_; subst f4_; subst f5_))
     refine hK.out _ _ ⟨HS0_, HS1_⟩ (fun hHeld => ?_)
     clear hK K
     refine norm_ (a' := ?_) ?_ ?_
     rotate_left
     ·
      show Act.put _ (some 30) _ = _
      simp only [Act.put, zp1, zp2, zp3, i64_w, i32_w]
      rfl
     refine pure_ (i := 7) (N := some 31) (v := ?_) (a' := ?_) #[true, true, true, true, true, true, true, true, false, false, false, false] rfl rfl (any_of HT_.out (by kernel_rfl)) (fun _ _ _ h => h) (Or.inl ⟨by rfl, ?_⟩) ?_ ?_
     rotate_left
     ·
      intro w'
      go_simp
      with_reducible rfl
     rotate_left
     ·
      simp only [Act.put, zp1, zp2, zp3, i64_w, i32_w]
      rfl
     refine last_ (i := 8) (N := some 32) #[true, true, true, true, true, true, true, true, true, false, false, false] rfl rfl (one_of HT_.out (by kernel_rfl)) (by decide) (fun K hK => ?_)
     refine value_ (w1 := ?_) (v := ?_) (by rfl) rfl ?_ ?_
     rotate_left 2
     ·
      go_simp
      constructor
      ·
       rfl
      ·
       rfl
     refine hK.out _ _ ?_
     clear hK K
     refine norm_ (a' := ?_) ?_ ?_
     rotate_left
     ·
      show Act.put _ (some 32) _ = _
      simp only [Act.put, zp1, zp2, zp3, i64_w, i32_w]
      rfl
     refine last_ (i := 9) (N := some 33) #[true, true, true, true, true, true, true, true, true, true, false, false] rfl rfl (one_of HT_.out (by kernel_rfl)) (by decide) (fun K hK => ?_)
     refine Kd.S_append_step k104 (w0 := w0) w0.heap.size (by rfl) (.tmp 24) (.tmp 32) 100 104 (.agg #[(.string ⟨#[]⟩), (.slice none 0 0)]) 40 rfl Try.underlying100 info104 rfl (by decide) (by omega) (.slice Ao11 l2.length co11) l2 (⟨(rd_T54 l0 0).f0, t105⟩ : S104) [.string ((rd_T54 l0 0).f0), .slice Ao14 t105.length co14] (fun k_ => (PQ_ k_ ∨ w.heap.size ≤ k_)) (fun k_ => some k_ = (.slice Ao14 t105.length co14 : Value).ownBlock) rfl rfl ?aP (fun k_ hk_ => ((Kd.R_mono (ok' := fun k_ => ((fun k_ => (PQ_ k_ ∨ w.heap.size ≤ k_))) k_ ∧ some k_ ≠ (.slice Ao11 l2.length co11 : Value).ownBlock) (Kd.R_apart' (HO107.out) (Kd.S_typed HO2.out) (by decide)) (fun k_ hk => ⟨hk.1.1, hk.2⟩))).1 k_ hk_.symm) ?aF ?aO ?aB ?aS ?aL ?_
     (case aP => exact k104_mkM _ _ _ (⟨(rd_T54 l0 0).f0, t105⟩ : S104) (Kd.R_mono (Kd.R_tight rfl (Kd.R_mono (ok' := fun k_ => ((fun k_ => (PQ_ k_ ∨ w.heap.size ≤ k_))) k_ ∧ some k_ ≠ (.slice Ao11 l2.length co11 : Value).ownBlock) (Kd.R_apart' (HO107.out) (Kd.S_typed HO2.out) (by decide)) (fun k_ hk => ⟨hk.1.1, hk.2⟩))) (fun _ h_ => h_)))
     (case aB => exact zb)
     (case aF => exact (fun k_ hk => (.inr (Nat.le_trans (by first | exact HK.out.1 | exact (show Kept w _ (fun k_ => P2_ k_) from zf).1) hk))))
     (case aO => exact (by (with_reducible repeat (first | apply Kd.S_alloc | apply Kd.S_drewN | apply Kd.S_drew)); exact Kd.S_mono HO2.out (fun k_ hk => ⟨hk.1, fun e_ => hk.2 e_⟩)))
     (case aS => exact (below_size zb))
     (case aL => have := LMc10.out; omega)
     intro v109 w15 ho hb hg hat
     have nv_ := zM (show ∀ k_ : Nat, (v109 : Value).ownBlock = some k_ → P2_ k_ ∨ w.heap.size ≤ k_ from fun k_ e_ => hat.elim (fun h_ => HV.out k_ (h_ ▸ e_)) (fun ⟨b_, h1_, h2_⟩ => .inr (by rw [h1_] at e_; injection e_ with e_; subst e_; exact Nat.le_trans (show Kept w _ (fun k_ => P2_ k_) from zf).1 h2_)))
     have HV2 := nv_
     rw [← Ny108.out] at ho
     have n0_ := zM (hb)
     have n1_ := zM (Kept.of_grown (S := (fun k_ => P2_ k_)) hg (zf) (fun k_ e_ => HV.out k_ e_))
     have n2_ := zM (ho)
     clear HB
     clear HK
     clear HO2
     clear HO107
     have HB := n0_
     have HK := n1_
     have HO110 := n2_
     clear n0_ n1_ n2_
     clear ho hb hg hat
     refine hK.out _ _ ?_
     clear hK K
     refine norm_ (a' := ?_) ?_ ?_
     rotate_left
     ·
      show Act.put _ (some 33) _ = _
      simp only [Act.put, zp1, zp2, zp3, i64_w, i32_w]
      rfl
     refine pure_ (i := 10) (N := some 6) (v := ?_) (a' := ?_) #[true, true, true, true, true, true, true, true, true, true, true, false] rfl rfl (any_of HT_.out (by kernel_rfl)) (fun _ _ _ h => h) (Or.inl ⟨by rfl, ?_⟩) ?_ ?_
     rotate_left
     ·
      intro w'
      go_simp
      with_reducible rfl
     rotate_left
     ·
      simp only [Act.put, zp1, zp2, zp3, i64_w, i32_w]
      rfl
     refine pure_ (i := 11) (N := some 7) (v := ?_) (a' := ?_) #[true, true, true, true, true, true, true, true, true, true, true, true] rfl rfl (any_of HT_.out (by kernel_rfl)) (fun _ _ _ h => h) (Or.inl ⟨by rfl, ?_⟩) ?_ ?_
     rotate_left
     ·
      intro w'
      go_simp
      with_reducible rfl
     rotate_left
     ·
      simp only [Act.put, zp1, zp2, zp3, i64_w, i32_w]
      rfl
     refine done_ (done_of HT_.out (by kernel_rfl)) ?_
     try go_wp2
     go_ret2
     exact ⟨_, zw, Kd.S_below HO110.out zg, zb, zf, by first | exact HV2.out | exact HV.out⟩
    ·
     rw [if_neg c10] at H
     exact absurd H (by simp)
   ·
    rw [if_neg c8] at H
    have c8b0 : decide (t103 < 0) = false := zR c8
    clear c8
    by_cases c16 : 0 ≤ t103
    ·
     rw [if_pos c16] at H
     have c16b0 : decide (0 ≤ t103) = true := zQ c16
     clear c16
     by_cases c17 : t103 < (l2.length : Int)
     ·
      rw [if_pos c17] at H
      have c17b0 : decide (t103 < (l2.length : Int)) = true := zQ c17
      clear c17
      replace H := zB H
      obtain ⟨t112, A180, H⟩ := H
      try dsimp only at H
      have A18 := zM A180
      clear A180
      simp only [Option.some.injEq, Prod.mk.injEq] at H
      obtain ⟨rfl, rfl⟩ := H
      go_enter Try.func79, Try.ntmps79
      go_wp2_with (first | ((with_reducible refine gate_callee (f := 56) rfl ?_); refine goesL_ (some 15) rfl rfl Try.func56 (by kernel_rfl) rfl #[.slice A0 l0.length c0] rfl zl ?_; (with_reducible refine (aumbryref05_Var.calls k _ _ l0 true _ ?side1 ?side2 A4.out).mono ?_); (case side1 => exact Kd.C_kept_now HR0.out (zf)); (case side2 => exact HC0.out); rintro e w' ⟨rfl, ⟨nd, rfl⟩⟩; refine ⟨_, rfl, ?_⟩; have p102 : 0 ≤ (0 : Int) := (by omega); have q102 : 0 < (l0.length : Int) := zT zv; obtain ⟨ad102, e102, hx102_0, hx102_1⟩ := at_T54 (Kd.C_kept_now HR0.out HK.out) 0 p102 q102; cases e102; have qi102 : (0 < l0.length) = True := eq_true (by omega); (try rw [show ((0 : Int)).toNat = 0 from rfl] at hx102_0); (try rw [show 0 * 2 = 0 from rfl] at hx102_0); (try rw [Addr.add_zero'] at hx102_0); (try rw [show ((0 : Int)).toNat = 0 from rfl] at hx102_1); (try rw [show 0 * 2 = 0 from rfl] at hx102_1); (try rw [Addr.add_zero'] at hx102_1); replace p102 := eq_true p102; replace q102 := eq_true q102; obtain ⟨Ao19, co19, eo19⟩ := Kd.S_slice HO2.out; subst eo19) | ((with_reducible refine gate_callee (f := 57) rfl ?_); refine goesL_ (some 21) rfl rfl Try.func57 (by kernel_rfl) rfl #[.slice Ao19 l2.length co19, .string ((rd_T54 l0 0).f0)] rfl zl ?_; (with_reducible refine (aumbryref05_At.calls k _ _ l2 ((rd_T54 l0 0).f0) t103 _ ?side1 ?side2 A7.out).mono ?_); (case side1 => exact Kd.C_below (Kd.S_reads' HO2.out).2.2 zg); (case side2 => exact (Kd.S_reads' HO2.out).2.1); rintro e w' ⟨rfl, ⟨nd, rfl⟩⟩; refine ⟨_, rfl, ?_⟩; have p111 : 0 ≤ (t103 : Int) := zT zv; have q111 : t103 < (l2.length : Int) := zT zv; obtain ⟨ad111, A111_1, c111_1, e111, hx111_0, hx111_1, hl111_1, hi111_1⟩ := at_T104 (Kd.S_reads' HO2.out).2.2 t103 p111 q111; cases e111; obtain ⟨ce111, hce111, hMe111, hcc111⟩ := Kd.S_get HO2.out z104 t103 p111 (by first | exact q111 | exact zT zv | (have e_ := (Kd.S_reads' HO2.out).1; omega)); obtain ⟨ve111_1, rfl, ge111_1⟩ := k104_openM hMe111; have hv111_1 := hcc111 1 _ rfl; rw [add_field _ _ 1 (by omega)] at hv111_1; replace hv111_1 := zS (hv111_1.symm.trans hx111_1); rw [hv111_1] at ge111_1; have HL111_1 := zM (show Kd.R k54 54 _ _ _ _ ((rd_T104 l2 t103).f1) from ge111_1); clear hv111_1 ge111_1; clear hcc111 hce111; have HR111_1 := zM hi111_1; have HC111_1 := zM hl111_1; clear hi111_1 hl111_1; replace p111 := eq_true p111; replace q111 := eq_true q111) | ((with_reducible refine gate_callee (f := 27) rfl ?_); refine goesL_ (some 41) rfl rfl Try.func27 (by kernel_rfl) rfl #[.slice A111_1 ((rd_T104 l2 t103).f1).length c111_1, .slice A1 l1.length c1] rfl zl ?_; (with_reducible refine (aumbryref04_Same.calls k _ _ ((rd_T104 l2 t103).f1) _ _ l1 t112 _ ?side1 ?side2 ?side3 ?side4 A18.out).mono ?_); (case side1 => repeat (first | exact (by repeat (first | (with_reducible exact HR111_1.out) | (with_reducible first | refine Kd.C_alloc ?_ _ | refine Kd.C_drewN ?_ _ | refine Kd.C_drew ?_) | exact HR111_1.out)) | (with_reducible first | refine Kd.C_alloc ?_ _ | refine Kd.C_drewN ?_ _ | refine Kd.C_drew ?_))); (case side2 => exact HC111_1.out); (case side3 => exact Kd.C_kept_now HR1.out (zf)); (case side4 => exact HC1.out); rintro e w' ⟨rfl, ⟨nd, rfl⟩⟩; refine ⟨_, rfl, ?_⟩))
      go_ret2
      exact ⟨_, zw, Kd.S_below HO2.out zg, zb, zf, by first | exact HV2.out | exact HV.out⟩
     ·
      rw [if_neg c17] at H
      exact absurd H (by simp)
    ·
     rw [if_neg c16] at H
     exact absurd H (by simp)
  ·
   rw [if_neg c6] at H
   exact absurd H (by simp)
 ·
  replace c5 := zI c5
  subst c5
  rw [if_neg (show ¬ (false = true) by decide)] at H
  by_cases c20 : 0 < (l0.length : Int)
  ·
   rw [if_pos c20] at H
   have c20b0 : decide (0 < (l0.length : Int)) = true := zQ c20
   have c20b1 : decide (0 < l0.length) = true := zQ (by omega)
   clear c20
   by_cases c21 : 0 < (l1.length : Int)
   ·
    rw [if_pos c21] at H
    have c21b0 : decide (0 < (l1.length : Int)) = true := zQ c21
    have c21b1 : decide (0 < l1.length) = true := zQ (by omega)
    clear c21
    by_cases c22 : (!((((rd_T54 l0 0).f0).toList) == (((rd_T54 l1 0).f0).toList)) || (!(((rd_T54 l0 0).f1) == ((rd_T54 l1 0).f1)))) = true
    ·
     rw [if_pos c22] at H
     have c22b0 : (!((((rd_T54 l0 0).f0).toList) == (((rd_T54 l1 0).f0).toList)) || (!(((rd_T54 l0 0).f1) == ((rd_T54 l1 0).f1)))) = true := c22
     clear c22
     simp only [Option.some.injEq, Prod.mk.injEq] at H
     obtain ⟨rfl, rfl⟩ := H
     go_enter Try.func79, Try.ntmps79
     try go_wp2_with (first | ((with_reducible refine gate_callee (f := 56) rfl ?_); refine goesL_ (some 15) rfl rfl Try.func56 (by kernel_rfl) rfl #[.slice A0 l0.length c0] rfl zl ?_; (with_reducible refine (aumbryref05_Var.calls k _ _ l0 false _ ?side1 ?side2 A4.out).mono ?_); (case side1 => exact Kd.C_kept_now HR0.out (zf)); (case side2 => exact HC0.out); rintro e w' ⟨rfl, ⟨nd, rfl⟩⟩; refine ⟨_, rfl, ?_⟩))
     (try (rw [drewN_self w]; generalize hq_ : World.drewN w _ = wz; have n0_ : Aside0 (Kd.S k104 104 wz w0.heap.size (fun k_ => (PQ_ k_ ∨ w.heap.size ≤ k_)) u9000_ l2) := ⟨by rw [← hq_]; exact (Kd.S_below HO2.out zg)⟩; have n1_ : Aside0 (Kept w wz (fun k_ => P2_ k_)) := ⟨by rw [← hq_]; exact (zf)⟩; have n2_ : Aside0 (Below w0.heap.size w0 wz) := ⟨by rw [← hq_]; exact zb⟩; clear HO2 HK HB hq_; have HO2 := n0_; have HK := n1_; have HB := n2_; clear n0_ n1_ n2_))
     have n0_ := zM (Kd.S_drew HO2.out)
     have n1_ := zM (Kept.drew HK.out)
     have n2_ := zM (zD HB.out)
     clear HO2
     clear HK
     clear HB
     have HO2 := n0_
     have HK := n1_
     have HB := n2_
     clear n0_ n1_ n2_
     have p113 : 0 ≤ (0 : Int) := (by omega)
     have q113 : 0 < (l0.length : Int) := zT zv
     obtain ⟨ad113, e113, hx113_0, hx113_1⟩ := at_T54 (Kd.C_kept_now HR0.out HK.out) 0 p113 q113
     have hw113_1 := hx113_1
     (try rw [show ((0 : Int)).toNat = 0 from rfl] at hw113_1)
     (try rw [show 0 * 2 = 0 from rfl] at hw113_1)
     (try rw [Addr.add_zero'] at hw113_1)
     have hw113_0 := hx113_0
     (try rw [show ((0 : Int)).toNat = 0 from rfl] at hw113_0)
     (try rw [show 0 * 2 = 0 from rfl] at hw113_0)
     (try rw [Addr.add_zero'] at hw113_0)
     cases e113
     have qi113 : (0 < l0.length) = True := eq_true (by omega)
     (try rw [show ((0 : Int)).toNat = 0 from rfl] at hx113_0)
     (try rw [show 0 * 2 = 0 from rfl] at hx113_0)
     (try rw [Addr.add_zero'] at hx113_0)
     (try rw [show ((0 : Int)).toNat = 0 from rfl] at hx113_1)
     (try rw [show 0 * 2 = 0 from rfl] at hx113_1)
     (try rw [Addr.add_zero'] at hx113_1)
     replace p113 := eq_true p113
     replace q113 := eq_true q113
     have p114 : 0 ≤ (0 : Int) := (by omega)
     have q114 : 0 < (l1.length : Int) := zT zv
     obtain ⟨ad114, e114, hx114_0, hx114_1⟩ := at_T54 (Kd.C_kept_now HR1.out HK.out) 0 p114 q114
     have hw114_1 := hx114_1
     (try rw [show ((0 : Int)).toNat = 0 from rfl] at hw114_1)
     (try rw [show 0 * 2 = 0 from rfl] at hw114_1)
     (try rw [Addr.add_zero'] at hw114_1)
     have hw114_0 := hx114_0
     (try rw [show ((0 : Int)).toNat = 0 from rfl] at hw114_0)
     (try rw [show 0 * 2 = 0 from rfl] at hw114_0)
     (try rw [Addr.add_zero'] at hw114_0)
     cases e114
     have qi114 : (0 < l1.length) = True := eq_true (by omega)
     (try rw [show ((0 : Int)).toNat = 0 from rfl] at hx114_0)
     (try rw [show 0 * 2 = 0 from rfl] at hx114_0)
     (try rw [Addr.add_zero'] at hx114_0)
     (try rw [show ((0 : Int)).toNat = 0 from rfl] at hx114_1)
     (try rw [show 0 * 2 = 0 from rfl] at hx114_1)
     (try rw [Addr.add_zero'] at hx114_1)
     replace p114 := eq_true p114
     replace q114 := eq_true q114
     refine start_ (n := 7) (S := fun w' => w'.cell? ad113 = some (.string ((rd_T54 l0 0).f0)) ∧ w'.cell? ⟨ad113.block, ad113.off + 1, none⟩ = some (.int .i64 ((rd_T54 l0 0).f1)) ∧ w'.cell? ad114 = some (.string ((rd_T54 l1 0).f0)) ∧ w'.cell? ⟨ad114.block, ad114.off + 1, none⟩ = some (.int .i64 ((rd_T54 l1 0).f1))) (ds := []) #[false, false, false, false, false, false, false] (by kernel_rfl) rfl rfl ⟨hx113_0, hx113_1, hx114_0, hx114_1⟩ (fun hHeld => ?_)
     generalize wz.drew = w23 at HO2 HK HB hx113_0 hx113_1 hx114_0 hx114_1 hHeld ⊢
     refine pure_ (i := 0) (N := some 42) (v := ?_) (a' := ?_) #[true, false, false, false, false, false, false] rfl rfl (by kernel_rfl) (fun _ _ _ h => h) (Or.inl ⟨by rfl, ?_⟩) ?_ ?_
     rotate_left
     ·
      intro w'
      go_simp
      with_reducible rfl
     rotate_left
     ·
      simp only [Act.put, zp1, zp2, zp3, i64_w, i32_w]
      rfl
     refine pure_ (i := 1) (N := some 43) (v := ?_) (a' := ?_) #[true, true, false, false, false, false, false] rfl rfl (by kernel_rfl) (fun _ _ _ h => h) (Or.inl ⟨by rfl, ?_⟩) ?_ ?_
     rotate_left
     ·
      intro w'
      go_simp
      with_reducible rfl
     rotate_left
     ·
      simp only [Act.put, zp1, zp2, zp3, i64_w, i32_w]
      rfl
     refine pure_ (i := 3) (N := some 45) (v := ?_) (a' := ?_) #[true, true, false, true, false, false, false] rfl rfl (by kernel_rfl) (fun _ _ _ h => h) (Or.inl ⟨by rfl, ?_⟩) ?_ ?_
     rotate_left
     ·
      intro w'
      go_simp
      with_reducible rfl
     rotate_left
     ·
      simp only [Act.put, zp1, zp2, zp3, i64_w, i32_w]
      rfl
     refine pure_ (i := 4) (N := some 46) (v := ?_) (a' := ?_) #[true, true, false, true, true, false, false] rfl rfl (by kernel_rfl) (fun _ _ _ h => h) (Or.inl ⟨by rfl, ?_⟩) ?_ ?_
     rotate_left
     ·
      intro w'
      go_simp
      with_reducible rfl
     rotate_left
     ·
      simp only [Act.put, zp1, zp2, zp3, i64_w, i32_w]
      rfl
     refine take_ (i := 2) (N := some 44) (v := ?_) (a' := ?_) #[true, true, true, true, true, false, false] rfl rfl (by kernel_rfl) (fun _ _ _ h => h) (Or.inl ⟨by rfl, ?_⟩) hHeld ?_ ?_
     rotate_left
     ·
      rintro w' ⟨s0, s1, s2, s3⟩
      go_simp
      with_reducible rfl
     rotate_left
     ·
      simp only [Act.put, zp1, zp2, zp3, i64_w, i32_w]
      rfl
     refine take_ (i := 5) (N := some 47) (v := ?_) (a' := ?_) #[true, true, true, true, true, true, false] rfl rfl (by kernel_rfl) (fun _ _ _ h => h) (Or.inl ⟨by rfl, ?_⟩) hHeld ?_ ?_
     rotate_left
     ·
      rintro w' ⟨s0, s1, s2, s3⟩
      go_simp
      with_reducible rfl
     rotate_left
     ·
      simp only [Act.put, zp1, zp2, zp3, i64_w, i32_w]
      rfl
     refine pure_ (i := 6) (N := some 48) (v := ?_) (a' := ?_) #[true, true, true, true, true, true, true] rfl rfl (by kernel_rfl) (fun _ _ _ h => h) (Or.inl ⟨by rfl, ?_⟩) ?_ ?_
     rotate_left
     ·
      intro w'
      go_simp
      with_reducible rfl
     rotate_left
     ·
      simp only [Act.put, zp1, zp2, zp3, i64_w, i32_w]
      rfl
     refine done_ (by kernel_rfl) ?_
     try go_wp2
     go_ret2
     exact ⟨_, zw, by first | exact Kd.S_nil _ _ _ _ _ | exact Kd.N_nil _ _ _ _ _ | exact Kd.V_nil _ _ _ _ _ | exact Kd.Q_nil _ _ _ _ _ | exact Kd.R_nil _ _ _ _ _, zb, zf, fun k_ e_ => by simp [Value.ownBlock] at e_⟩
    ·
     rw [if_neg c22] at H
     have c22b0 : (!((((rd_T54 l0 0).f0).toList) == (((rd_T54 l1 0).f0).toList)) || (!(((rd_T54 l0 0).f1) == ((rd_T54 l1 0).f1)))) = false := by simpa using c22
     clear c22
     replace H := zB H
     obtain ⟨t115, A240, H⟩ := H
     try dsimp only at H
     have A24 := zM A240
     clear A240
     replace H := zB H
     obtain ⟨t118, A250, H⟩ := H
     try dsimp only at H
     have A25 := zM A250
     clear A250
     have H' := zM H
     clear H
     go_enter Try.func79, Try.ntmps79
     try go_wp2_with (first | ((with_reducible refine gate_callee (f := 56) rfl ?_); refine goesL_ (some 15) rfl rfl Try.func56 (by kernel_rfl) rfl #[.slice A0 l0.length c0] rfl zl ?_; (with_reducible refine (aumbryref05_Var.calls k _ _ l0 false _ ?side1 ?side2 A4.out).mono ?_); (case side1 => exact Kd.C_kept_now HR0.out (zf)); (case side2 => exact HC0.out); rintro e w' ⟨rfl, ⟨nd, rfl⟩⟩; refine ⟨_, rfl, ?_⟩))
     (try (rw [drewN_self w]; generalize hq_ : World.drewN w _ = wz; have n0_ : Aside0 (Kd.S k104 104 wz w0.heap.size (fun k_ => (PQ_ k_ ∨ w.heap.size ≤ k_)) u9000_ l2) := ⟨by rw [← hq_]; exact (Kd.S_below HO2.out zg)⟩; have n1_ : Aside0 (Kept w wz (fun k_ => P2_ k_)) := ⟨by rw [← hq_]; exact (zf)⟩; have n2_ : Aside0 (Below w0.heap.size w0 wz) := ⟨by rw [← hq_]; exact zb⟩; clear HO2 HK HB hq_; have HO2 := n0_; have HK := n1_; have HB := n2_; clear n0_ n1_ n2_))
     have n0_ := zM (Kd.S_drew HO2.out)
     have n1_ := zM (Kept.drew HK.out)
     have n2_ := zM (zD HB.out)
     clear HO2
     clear HK
     clear HB
     have HO2 := n0_
     have HK := n1_
     have HB := n2_
     clear n0_ n1_ n2_
     have p113 : 0 ≤ (0 : Int) := (by omega)
     have q113 : 0 < (l0.length : Int) := zT zv
     obtain ⟨ad113, e113, hx113_0, hx113_1⟩ := at_T54 (Kd.C_kept_now HR0.out HK.out) 0 p113 q113
     have hw113_1 := hx113_1
     (try rw [show ((0 : Int)).toNat = 0 from rfl] at hw113_1)
     (try rw [show 0 * 2 = 0 from rfl] at hw113_1)
     (try rw [Addr.add_zero'] at hw113_1)
     have hw113_0 := hx113_0
     (try rw [show ((0 : Int)).toNat = 0 from rfl] at hw113_0)
     (try rw [show 0 * 2 = 0 from rfl] at hw113_0)
     (try rw [Addr.add_zero'] at hw113_0)
     cases e113
     have qi113 : (0 < l0.length) = True := eq_true (by omega)
     (try rw [show ((0 : Int)).toNat = 0 from rfl] at hx113_0)
     (try rw [show 0 * 2 = 0 from rfl] at hx113_0)
     (try rw [Addr.add_zero'] at hx113_0)
     (try rw [show ((0 : Int)).toNat = 0 from rfl] at hx113_1)
     (try rw [show 0 * 2 = 0 from rfl] at hx113_1)
     (try rw [Addr.add_zero'] at hx113_1)
     replace p113 := eq_true p113
     replace q113 := eq_true q113
     have p114 : 0 ≤ (0 : Int) := (by omega)
     have q114 : 0 < (l1.length : Int) := zT zv
     obtain ⟨ad114, e114, hx114_0, hx114_1⟩ := at_T54 (Kd.C_kept_now HR1.out HK.out) 0 p114 q114
     have hw114_1 := hx114_1
     (try rw [show ((0 : Int)).toNat = 0 from rfl] at hw114_1)
     (try rw [show 0 * 2 = 0 from rfl] at hw114_1)
     (try rw [Addr.add_zero'] at hw114_1)
     have hw114_0 := hx114_0
     (try rw [show ((0 : Int)).toNat = 0 from rfl] at hw114_0)
     (try rw [show 0 * 2 = 0 from rfl] at hw114_0)
     (try rw [Addr.add_zero'] at hw114_0)
     cases e114
     have qi114 : (0 < l1.length) = True := eq_true (by omega)
     (try rw [show ((0 : Int)).toNat = 0 from rfl] at hx114_0)
     (try rw [show 0 * 2 = 0 from rfl] at hx114_0)
     (try rw [Addr.add_zero'] at hx114_0)
     (try rw [show ((0 : Int)).toNat = 0 from rfl] at hx114_1)
     (try rw [show 0 * 2 = 0 from rfl] at hx114_1)
     (try rw [Addr.add_zero'] at hx114_1)
     replace p114 := eq_true p114
     replace q114 := eq_true q114
     refine start_ (n := 7) (S := fun w' => w'.cell? ad113 = some (.string ((rd_T54 l0 0).f0)) ∧ w'.cell? ⟨ad113.block, ad113.off + 1, none⟩ = some (.int .i64 ((rd_T54 l0 0).f1)) ∧ w'.cell? ad114 = some (.string ((rd_T54 l1 0).f0)) ∧ w'.cell? ⟨ad114.block, ad114.off + 1, none⟩ = some (.int .i64 ((rd_T54 l1 0).f1))) (ds := []) #[false, false, false, false, false, false, false] (by kernel_rfl) rfl rfl ⟨hx113_0, hx113_1, hx114_0, hx114_1⟩ (fun hHeld => ?_)
     generalize wz.drew = w26 at HO2 HK HB hx113_0 hx113_1 hx114_0 hx114_1 hHeld ⊢
     refine pure_ (i := 0) (N := some 42) (v := ?_) (a' := ?_) #[true, false, false, false, false, false, false] rfl rfl (by kernel_rfl) (fun _ _ _ h => h) (Or.inl ⟨by rfl, ?_⟩) ?_ ?_
     rotate_left
     ·
      intro w'
      go_simp
      with_reducible rfl
     rotate_left
     ·
      simp only [Act.put, zp1, zp2, zp3, i64_w, i32_w]
      rfl
     refine pure_ (i := 1) (N := some 43) (v := ?_) (a' := ?_) #[true, true, false, false, false, false, false] rfl rfl (by kernel_rfl) (fun _ _ _ h => h) (Or.inl ⟨by rfl, ?_⟩) ?_ ?_
     rotate_left
     ·
      intro w'
      go_simp
      with_reducible rfl
     rotate_left
     ·
      simp only [Act.put, zp1, zp2, zp3, i64_w, i32_w]
      rfl
     refine pure_ (i := 3) (N := some 45) (v := ?_) (a' := ?_) #[true, true, false, true, false, false, false] rfl rfl (by kernel_rfl) (fun _ _ _ h => h) (Or.inl ⟨by rfl, ?_⟩) ?_ ?_
     rotate_left
     ·
      intro w'
      go_simp
      with_reducible rfl
     rotate_left
     ·
      simp only [Act.put, zp1, zp2, zp3, i64_w, i32_w]
      rfl
     refine pure_ (i := 4) (N := some 46) (v := ?_) (a' := ?_) #[true, true, false, true, true, false, false] rfl rfl (by kernel_rfl) (fun _ _ _ h => h) (Or.inl ⟨by rfl, ?_⟩) ?_ ?_
     rotate_left
     ·
      intro w'
      go_simp
      with_reducible rfl
     rotate_left
     ·
      simp only [Act.put, zp1, zp2, zp3, i64_w, i32_w]
      rfl
     refine take_ (i := 2) (N := some 44) (v := ?_) (a' := ?_) #[true, true, true, true, true, false, false] rfl rfl (by kernel_rfl) (fun _ _ _ h => h) (Or.inl ⟨by rfl, ?_⟩) hHeld ?_ ?_
     rotate_left
     ·
      rintro w' ⟨s0, s1, s2, s3⟩
      go_simp
      with_reducible rfl
     rotate_left
     ·
      simp only [Act.put, zp1, zp2, zp3, i64_w, i32_w]
      rfl
     refine take_ (i := 5) (N := some 47) (v := ?_) (a' := ?_) #[true, true, true, true, true, true, false] rfl rfl (by kernel_rfl) (fun _ _ _ h => h) (Or.inl ⟨by rfl, ?_⟩) hHeld ?_ ?_
     rotate_left
     ·
      rintro w' ⟨s0, s1, s2, s3⟩
      go_simp
      with_reducible rfl
     rotate_left
     ·
      simp only [Act.put, zp1, zp2, zp3, i64_w, i32_w]
      rfl
     refine pure_ (i := 6) (N := some 48) (v := ?_) (a' := ?_) #[true, true, true, true, true, true, true] rfl rfl (by kernel_rfl) (fun _ _ _ h => h) (Or.inl ⟨by rfl, ?_⟩) ?_ ?_
     rotate_left
     ·
      intro w'
      go_simp
      with_reducible rfl
     rotate_left
     ·
      simp only [Act.put, zp1, zp2, zp3, i64_w, i32_w]
      rfl
     refine done_ (by kernel_rfl) ?_
     try go_wp2_with (first | ((with_reducible refine gate_callee (f := 54) rfl ?_); refine goesL_ (some 50) rfl rfl Try.func54 (by kernel_rfl) rfl #[.slice (some ad113) l0.length c0] rfl zl ?_; (with_reducible refine (aumbryref04_Kids.calls k _ _ l0 t115 _ ?side1 ?side2 A24.out).mono ?_); (case side1 => exact Kd.C_kept_now HR0.out (zf)); (case side2 => exact HC0.out); rintro e w27 ⟨v116, rfl, ho0, hb⟩; refine ⟨_, rfl, ?_⟩; replace HO2 := zM (Kd.S_below (Kd.S_below HO2.out zg) hb); have HO117 := zM (Kd.S_lower (Kd.S_newM (M := fun k_ => (PQ_ k_ ∨ w.heap.size ≤ k_)) ho0 (by first | exact HK.out.1 | exact (show Kept w _ (fun k_ => P2_ k_) from zf).1) (fun k_ h_ => .inr h_)) (below_size zb)); replace HK := zM (Kept.below (S := (fun k_ => P2_ k_)) (zf) hb); replace HB := zM (below_step zb hb); (try clear hb); (try clear ho0)) | ((with_reducible refine gate_callee (f := 54) rfl ?_); refine goesL_ (some 52) rfl rfl Try.func54 (by kernel_rfl) rfl #[.slice (some ad114) l1.length c1] rfl zl ?_; (with_reducible refine (aumbryref04_Kids.calls k _ _ l1 t118 _ ?side1 ?side2 A25.out).mono ?_); (case side1 => exact Kd.C_kept_now HR1.out (zf)); (case side2 => exact HC1.out); rintro e w28 ⟨v119, rfl, ho0, hb⟩; refine ⟨_, rfl, ?_⟩; replace HO2 := zM (Kd.S_below (Kd.S_below HO2.out zg) hb); have HO120 := zM (Kd.S_lower (Kd.S_new' (Kd.S_newM (M := fun k_ => (PQ_ k_ ∨ w.heap.size ≤ k_)) ho0 (by first | exact HK.out.1 | exact (show Kept w _ (fun k_ => P2_ k_) from zf).1) (fun k_ h_ => .inr h_)) (Kd.S_lt (Kd.S_below HO117.out zg))) (below_size zb)); replace HO117 := zM (Kd.S_elder' (Kd.S_below HO117.out zg) (Kd.S_base ho0) hb); replace HK := zM (Kept.below (S := (fun k_ => P2_ k_)) (zf) hb); replace HB := zM (below_step zb hb); (try clear hb); (try clear ho0); obtain ⟨Ao29, co29, eo29⟩ := Kd.S_slice HO117.out; subst eo29))
     go_loopg [2, 55] k (fun kq v2 v55 w' => ∃ (x2_1 : List (S104)) (x55_1 : Int), v55 = .int .i64 x55_1 ∧ Aside0 (aumbryref05_Fit.l0 kq x2_1 t115 t118 (t115.length : Int) x55_1 = some (r1, r2)) ∧ Aside0 (kq ≤ k) ∧ Aside0 (Kd.S k104 104 w' w0.heap.size (fun k_ => (PQ_ k_ ∨ w.heap.size ≤ k_)) v2 x2_1) ∧ Aside0 (Kd.S (Kd.slice 54 k54) 23 w' w0.heap.size (fun k_ => (PQ_ k_ ∨ w.heap.size ≤ k_) ∧ some k_ ≠ (v119 : Value).ownBlock) (.slice Ao29 t115.length co29) t115) ∧ Aside0 (Kd.S (Kd.slice 54 k54) 23 w' w0.heap.size (fun k_ => (PQ_ k_ ∨ w.heap.size ≤ k_) ∧ some k_ ≠ ((.slice Ao29 t115.length co29) : Value).ownBlock) v119 t118) ∧ Aside0 (Kept w w' (fun k_ => P2_ k_)) ∧ Aside0 (Below w0.heap.size w0 w') ∧ Aside0 (∀ k_ : Nat, (v2 : Value).ownBlock = some k_ → P2_ k_ ∨ w.heap.size ≤ k_))
     case atStart => exact ⟨(l2), (0), zy, H', ⟨Nat.le_refl _⟩, ⟨Kd.S_below HO2.out zg⟩, ⟨by (with_reducible repeat (first | apply Kd.S_alloc | apply Kd.S_drewN | apply Kd.S_drew)); exact Kd.S_mono HO117.out (fun _ hk => ⟨hk.1.1, hk.2⟩)⟩, ⟨by (with_reducible repeat (first | apply Kd.S_alloc | apply Kd.S_drewN | apply Kd.S_drew)); exact Kd.S_mono HO120.out (fun _ hk => ⟨hk.1.1, hk.2⟩)⟩, ⟨zf⟩, ⟨zb⟩, HV⟩
     case round =>
      clear H'
      try clear c1
      try clear p1
      try clear q1
      try clear hx1
      try clear qi1
      try clear c2
      try clear p2
      try clear c5
      try clear c6
      try clear c6b0
      try clear c6b1
      try clear c7
      try clear c8
      try clear c8b0
      try clear c10
      try clear p10
      try clear q10
      try clear hx10
      try clear qi10
      try clear c11
      try clear p11
      try clear q11
      try clear hx11
      try clear qi11
      try clear c13
      try clear c16
      try clear c16b0
      try clear c17
      try clear c17b0
      try clear c20
      try clear c20b0
      try clear c20b1
      try clear c21
      try clear c21b0
      try clear c21b1
      try clear c22
      try clear c22b0
      try clear c27
      try clear hx102_0
      try clear hx102_1
      try clear hx104_0
      try clear hx104_1
      try clear hx111_0
      try clear hx111_1
      try clear hx113_0
      try clear hx113_1
      try clear hx114_0
      try clear hx114_1
      try clear p102
      try clear p104
      try clear p111
      try clear p113
      try clear p114
      try clear q102
      try clear q104
      try clear q111
      try clear q113
      try clear q114
      obtain ⟨x2_1, x55_1, rfl, HA, HK1, HO_2, HO_9, HO_10, HK, HB, HV⟩ := hrel
      cases gk with
      | zero => exact absurd HA.out (by simp [aumbryref05_Fit.l0])
      | succ k1 =>
       have H := HA.out
       clear HA
       simp only [aumbryref05_Fit.l0] at H
       by_cases c30 : x55_1 < (t115.length : Int)
       ·
        rw [if_pos c30] at H
        have c30b0 : decide (x55_1 < (t115.length : Int)) = true := zQ c30
        clear c30
        by_cases c31 : 0 ≤ x55_1
        ·
         rw [if_pos c31] at H
         have c31b0 : decide (0 ≤ x55_1) = true := zQ c31
         clear c31
         by_cases c32 : x55_1 < (t115.length : Int)
         ·
          rw [if_pos c32] at H
          have c32b0 : decide (x55_1 < (t115.length : Int)) = true := zQ c32
          clear c32
          by_cases c33 : x55_1 < (t118.length : Int)
          ·
           rw [if_pos c33] at H
           have c33b0 : decide (x55_1 < (t118.length : Int)) = true := zQ c33
           clear c33
           replace H := zB H
           obtain ⟨⟨t123, t126⟩, A340, H⟩ := H
           try dsimp only at H
           have A34 := zM A340
           clear A340
           by_cases c35 : t126 = true
           ·
            subst c35
            rw [if_pos rfl] at H
            have H' := zM H
            clear H
            try go_wp2
            have n0_ := zM (Kd.S_drew HO_2.out)
            have n1_ := zM (Kd.S_drew HO_9.out)
            have n2_ := zM (Kd.S_drew HO_10.out)
            have n3_ := zM (Kept.drew HK.out)
            have n4_ := zM (zD HB.out)
            clear HO_2
            clear HO_9
            clear HO_10
            clear HK
            clear HB
            have HO_2 := n0_
            have HO_9 := n1_
            have HO_10 := n2_
            have HK := n3_
            have HB := n4_
            clear n0_ n1_ n2_ n3_ n4_
            have p121 : 0 ≤ (x55_1 : Int) := zT zv
            have q121 : x55_1 < (t115.length : Int) := zT zv
            obtain ⟨ad121, A121_0, c121_0, e121, hx121_0, hl121_0, hi121_0⟩ := at_L3 (Kd.S_reads' HO_9.out).2.2 x55_1 p121 q121
            cases e121
            obtain ⟨ce121, hce121, hMe121, hcc121⟩ := Kd.S_get HO_9.out [] x55_1 p121 (by first | exact q121 | exact zT zv | (have e_ := (Kd.S_reads' HO_9.out).1; omega))
            obtain ⟨ve121_0, rfl, ge121_0⟩ := hMe121
            have hv121_0 := hcc121 0 _ rfl
            rw [Nat.add_zero, show ((Kd.slice 54 k54)).sz = 1 from rfl, Nat.mul_one] at hv121_0
            replace hv121_0 := zS (hv121_0.symm.trans hx121_0)
            rw [hv121_0] at ge121_0
            have HL121_0 := zM (show Kd.R k54 54 _ _ _ _ (rd_L3 t115 x55_1) from ge121_0)
            clear hv121_0 ge121_0
            clear hcc121 hce121
            have HR121_0 := zM hi121_0
            have HC121_0 := zM hl121_0
            clear hi121_0 hl121_0
            replace p121 := eq_true p121
            replace q121 := eq_true q121
            obtain ⟨Ao37, co37, eo37⟩ := Kd.S_slice HO_10.out
            (first | subst eo37 | (injection eo37 with f1_ f2_ f3_; have f4_ := f1_.symm; have f5_ := f3_.symm; clear f1_ f2_ f3_; subst f4_; subst f5_))
            have p122 : 0 ≤ (x55_1 : Int) := zT zv
            have q122 : x55_1 < (t118.length : Int) := zT zv
            obtain ⟨ad122, A122_0, c122_0, e122, hx122_0, hl122_0, hi122_0⟩ := at_L3 (Kd.S_reads' HO_10.out).2.2 x55_1 p122 q122
            cases e122
            obtain ⟨ce122, hce122, hMe122, hcc122⟩ := Kd.S_get HO_10.out [] x55_1 p122 (by first | exact q122 | exact zT zv | (have e_ := (Kd.S_reads' HO_10.out).1; omega))
            obtain ⟨ve122_0, rfl, ge122_0⟩ := hMe122
            have hv122_0 := hcc122 0 _ rfl
            rw [Nat.add_zero, show ((Kd.slice 54 k54)).sz = 1 from rfl, Nat.mul_one] at hv122_0
            replace hv122_0 := zS (hv122_0.symm.trans hx122_0)
            rw [hv122_0] at ge122_0
            have HL122_0 := zM (show Kd.R k54 54 _ _ _ _ (rd_L3 t118 x55_1) from ge122_0)
            clear hv122_0 ge122_0
            clear hcc122 hce122
            have HR122_0 := zM hi122_0
            have HC122_0 := zM hl122_0
            clear hi122_0 hl122_0
            replace p122 := eq_true p122
            replace q122 := eq_true q122
            obtain ⟨Ao38, co38, eo38⟩ := Kd.S_slice HO_2.out
            (first | subst eo38 | (injection eo38 with f1_ f2_ f3_; have f4_ := f1_.symm; have f5_ := f3_.symm; clear f1_ f2_ f3_; subst f4_; subst f5_))
            refine start_ (n := 15) (S := fun w' => w'.cell? (ad121.add (x55_1).toNat) = some (.slice A121_0 (rd_L3 t115 x55_1).length c121_0) ∧ w'.cell? (ad122.add (x55_1).toNat) = some (.slice A122_0 (rd_L3 t118 x55_1).length c122_0)) (ds := []) #[false, false, false, false, false, false, false, false, false, false, false, false, false, false, false] (by kernel_rfl) rfl rfl ⟨hx121_0, hx122_0⟩ (fun hHeld => ?_); refine with_tabW aumbryref05_Fit.tab12 aumbryref05_Fit.bits12 (fun HT_ HW_ => ?_)
            generalize wr.drew = w36 at HO_2 HO_9 HO_10 HK HB HL121_0 HL122_0 HR121_0 HR122_0 hx121_0 hx122_0 hHeld ⊢
            refine pure_ (i := 0) (N := some 59) (v := ?_) (a' := ?_) #[true, false, false, false, false, false, false, false, false, false, false, false, false, false, false] rfl rfl (any_of HT_.out (by kernel_rfl)) (fun _ _ _ h => h) (Or.inl ⟨by rfl, ?_⟩) ?_ ?_
            rotate_left
            ·
             intro w'
             go_simp
             with_reducible rfl
            rotate_left
            ·
             simp only [Act.put, zp1, zp2, zp3, i64_w, i32_w]
             rfl
            refine pure_ (i := 1) (N := some 60) (v := ?_) (a' := ?_) #[true, true, false, false, false, false, false, false, false, false, false, false, false, false, false] rfl rfl (any_of HT_.out (by kernel_rfl)) (fun _ _ _ h => h) (Or.inl ⟨by rfl, ?_⟩) ?_ ?_
            rotate_left
            ·
             intro w'
             go_simp
             with_reducible rfl
            rotate_left
            ·
             simp only [Act.put, zp1, zp2, zp3, i64_w, i32_w]
             rfl
            refine pure_ (i := 2) (N := some 61) (v := ?_) (a' := ?_) #[true, true, true, false, false, false, false, false, false, false, false, false, false, false, false] rfl rfl (any_of HT_.out (by kernel_rfl)) (fun _ _ _ h => h) (Or.inl ⟨by rfl, ?_⟩) ?_ ?_
            rotate_left
            ·
             intro w'
             go_simp
             with_reducible rfl
            rotate_left
            ·
             simp only [Act.put, zp1, zp2, zp3, i64_w, i32_w]
             rfl
            refine pure_ (i := 4) (N := some 63) (v := ?_) (a' := ?_) #[true, true, true, false, true, false, false, false, false, false, false, false, false, false, false] rfl rfl (any_of HT_.out (by kernel_rfl)) (fun _ _ _ h => h) (Or.inl ⟨by rfl, ?_⟩) ?_ ?_
            rotate_left
            ·
             intro w'
             go_simp
             with_reducible rfl
            rotate_left
            ·
             simp only [Act.put, zp1, zp2, zp3, i64_w, i32_w]
             rfl
            refine pure_ (i := 5) (N := some 64) (v := ?_) (a' := ?_) #[true, true, true, false, true, true, false, false, false, false, false, false, false, false, false] rfl rfl (any_of HT_.out (by kernel_rfl)) (fun _ _ _ h => h) (Or.inl ⟨by rfl, ?_⟩) ?_ ?_
            rotate_left
            ·
             intro w'
             go_simp
             with_reducible rfl
            rotate_left
            ·
             simp only [Act.put, zp1, zp2, zp3, i64_w, i32_w]
             rfl
            refine pure_ (i := 6) (N := some 65) (v := ?_) (a' := ?_) #[true, true, true, false, true, true, true, false, false, false, false, false, false, false, false] rfl rfl (any_of HT_.out (by kernel_rfl)) (fun _ _ _ h => h) (Or.inl ⟨by rfl, ?_⟩) ?_ ?_
            rotate_left
            ·
             intro w'
             go_simp
             with_reducible rfl
            rotate_left
            ·
             simp only [Act.put, zp1, zp2, zp3, i64_w, i32_w]
             rfl
            refine pure_ (i := 8) (N := some 67) (v := ?_) (a' := ?_) #[true, true, true, false, true, true, true, false, true, false, false, false, false, false, false] rfl rfl (any_of HT_.out (by kernel_rfl)) (fun _ _ _ h => h) (Or.inl ⟨by rfl, ?_⟩) ?_ ?_
            rotate_left
            ·
             intro w'
             go_simp
             with_reducible rfl
            rotate_left
            ·
             simp only [Act.put, zp1, zp2, zp3, i64_w, i32_w]
             rfl
            refine take_ (i := 3) (N := some 62) (v := ?_) (a' := ?_) #[true, true, true, true, true, true, true, false, true, false, false, false, false, false, false] rfl rfl (take_ofW HT_.out HW_.out (by kernel_rfl)) (fun _ _ _ h => h) (Or.inl ⟨by rfl, ?_⟩) hHeld ?_ ?_
            rotate_left
            ·
             rintro w' ⟨s0, s1⟩
             go_simp
             with_reducible rfl
            rotate_left
            ·
             simp only [Act.put, zp1, zp2, zp3, i64_w, i32_w]
             rfl
            refine take_ (i := 7) (N := some 66) (v := ?_) (a' := ?_) #[true, true, true, true, true, true, true, true, true, false, false, false, false, false, false] rfl rfl (take_ofW HT_.out HW_.out (by kernel_rfl)) (fun _ _ _ h => h) (Or.inl ⟨by rfl, ?_⟩) hHeld ?_ ?_
            rotate_left
            ·
             rintro w' ⟨s0, s1⟩
             go_simp
             with_reducible rfl
            rotate_left
            ·
             simp only [Act.put, zp1, zp2, zp3, i64_w, i32_w]
             rfl
            refine one_ (i := 9) (N := some 68) #[true, true, true, true, true, true, true, true, true, true, false, false, false, false, false] rfl rfl (one_of HT_.out (by kernel_rfl)) (by decide) (fun K hK => ?_)
            refine goes_ Try.func79 (by kernel_rfl) rfl #[.slice A121_0 (rd_L3 t115 x55_1).length c121_0, .slice A122_0 (rd_L3 t118 x55_1).length c122_0, .slice Ao38 x2_1.length co38] (by rfl) rfl rfl zl ?_
            with_reducible refine (ih k1 (by have := HK1.out; omega) _ _ (rd_L3 t115 x55_1) _ _ (rd_L3 t118 x55_1) (fun k_ => some k_ = (.slice Ao38 x2_1.length co38 : Value).ownBlock) (fun k_ => (PQ_ k_ ∨ w.heap.size ≤ k_)) (.slice Ao38 x2_1.length co38) x2_1 t123 true w0 _ ?side1 ?side2 ?side3 ?side4 ?side5 ?side6 ?side7 A34.out).mono ?_
            (case side1 => exact zb)
            (case side2 => exact Kd.C_kept_own ((Kd.R_apart' HL121_0.out (Kd.S_typed HO_2.out) (by decide))) (fun k_ hk_ hs_ => (hk_.2) hs_))
            (case side3 => exact HC121_0.out)
            (case side4 => exact Kd.C_kept_own ((Kd.R_apart' HL122_0.out (Kd.S_typed HO_2.out) (by decide))) (fun k_ hk_ hs_ => (hk_.2) hs_))
            (case side5 => exact HC122_0.out)
            (case side6 => exact HO_2.out)
            (case side7 => exact fun k_ e_ => e_.symm)
            rintro e w39 ⟨v124, rfl, ho0, hb, hkp, hv⟩
            have HS0_ := Go.Proofs.YtdlkhpfgkghhmaaW.PrintWords.cell_kept (hHeld.1) hkp (by first | (rw [add_block]; exact (fun hs_ => (((Kd.S_R (Kd.S_apart' HO_9.out (Kd.S_typed HO_2.out) (by decide))).1 _ rfl).2) hs_)) | (show ¬ _; simp only [add_block]; exact (fun hs_ => (((Kd.S_R (Kd.S_apart' HO_9.out (Kd.S_typed HO_2.out) (by decide))).1 _ rfl).2) hs_)) | exact (fun hs_ => (((Kd.S_R (Kd.S_apart' HO_9.out (Kd.S_typed HO_2.out) (by decide))).1 _ rfl).2) hs_))
            have HS1_ := Go.Proofs.YtdlkhpfgkghhmaaW.PrintWords.cell_kept (hHeld.2) hkp (by first | (rw [add_block]; exact (fun hs_ => (((Kd.S_R (Kd.S_apart' HO_10.out (Kd.S_typed HO_2.out) (by decide))).1 _ rfl).2) hs_)) | (show ¬ _; simp only [add_block]; exact (fun hs_ => (((Kd.S_R (Kd.S_apart' HO_10.out (Kd.S_typed HO_2.out) (by decide))).1 _ rfl).2) hs_)) | exact (fun hs_ => (((Kd.S_R (Kd.S_apart' HO_10.out (Kd.S_typed HO_2.out) (by decide))).1 _ rfl).2) hs_))
            refine ⟨_, rfl, ?_⟩
            have n0_ := zM (Kd.S_mono (ok' := fun k_ => (PQ_ k_ ∨ w.heap.size ≤ k_) ∧ some k_ ≠ (.slice (some ad122) t118.length co37 : Value).ownBlock) (Kd.S_keptB ((Kd.S_apart' HO_9.out (Kd.S_typed HO_2.out) (by decide))) hkp (fun k_ hk_ hs_ => (hk_.2) hs_)) (fun k_ hk_ => ⟨hk_.1.1.1, hk_.1.1.2⟩))
            have n1_ := zM (Kd.S_mono (ok' := fun k_ => (PQ_ k_ ∨ w.heap.size ≤ k_) ∧ some k_ ≠ (.slice (some ad121) t115.length co29 : Value).ownBlock) (Kd.S_keptB ((Kd.S_apart' HO_10.out (Kd.S_typed HO_2.out) (by decide))) hkp (fun k_ hk_ hs_ => (hk_.2) hs_)) (fun k_ hk_ => ⟨hk_.1.1.1, hk_.1.1.2⟩))
            have n2_ := zM (Kd.S_mono (ok' := fun k_ => (PQ_ k_ ∨ w.heap.size ≤ k_)) ho0 (fun k_ hk_ => Or.elim hk_ (fun hs_ => hs_) (fun hn_ => (.inr (Nat.le_trans (by first | exact HK.out.1 | exact (show Kept w _ (fun k_ => P2_ k_) from zf).1) hn_)))))
            have n3_ := zM (Kept.then_ (S := (fun k_ => P2_ k_)) (zf) hkp (fun k_ hs_ => HV.out k_ hs_.symm))
            have n4_ := zM (hb)
            have n5_ := zM (show ∀ k_ : Nat, (v124 : Value).ownBlock = some k_ → P2_ k_ ∨ w.heap.size ≤ k_ from fun k_ e_ => (hv k_ e_).elim (fun e2_ => HV.out k_ e2_.symm) (fun hn_ => .inr (Nat.le_trans (show Kept w _ (fun k_ => P2_ k_) from zf).1 hn_)))
            clear HV hv
            have HV := n5_
            clear n5_
            clear HO_9
            clear HO_10
            clear HK
            clear HB
            clear HO_2
            clear HL121_0
            clear HL122_0
            have HO_9 := n0_
            have HO_10 := n1_
            have HO125 := n2_
            have HK := n3_
            have HB := n4_
            clear n0_ n1_ n2_ n3_ n4_
            (try clear hb)
            (try clear hkp)
            (try clear ho0)
            refine hK.out _ _ ⟨HS0_, HS1_⟩ (fun hHeld => ?_)
            clear hK K
            refine norm_ (a' := ?_) ?_ ?_
            rotate_left
            ·
             show Act.put _ (some 68) _ = _
             simp only [Act.put, zp1, zp2, zp3, i64_w, i32_w]
             rfl
            refine pure_ (i := 10) (N := some 58) (v := ?_) (a' := ?_) #[true, true, true, true, true, true, true, true, true, true, true, false, false, false, false] rfl rfl (any_of HT_.out (by kernel_rfl)) (fun _ _ _ h => h) (Or.inl ⟨by rfl, ?_⟩) ?_ ?_
            rotate_left
            ·
             intro w'
             go_simp
             with_reducible rfl
            rotate_left
            ·
             simp only [Act.put, zp1, zp2, zp3, i64_w, i32_w]
             rfl
            refine pure_ (i := 11) (N := some 69) (v := ?_) (a' := ?_) #[true, true, true, true, true, true, true, true, true, true, true, true, false, false, false] rfl rfl (any_of HT_.out (by kernel_rfl)) (fun _ _ _ h => h) (Or.inl ⟨by rfl, ?_⟩) ?_ ?_
            rotate_left
            ·
             intro w'
             go_simp
             with_reducible rfl
            rotate_left
            ·
             simp only [Act.put, zp1, zp2, zp3, i64_w, i32_w]
             rfl
            refine pure_ (i := 12) (N := some 70) (v := ?_) (a' := ?_) #[true, true, true, true, true, true, true, true, true, true, true, true, true, false, false] rfl rfl (any_of HT_.out (by kernel_rfl)) (fun _ _ _ h => h) (Or.inl ⟨by rfl, ?_⟩) ?_ ?_
            rotate_left
            ·
             intro w'
             go_simp
             with_reducible rfl
            rotate_left
            ·
             simp only [Act.put, zp1, zp2, zp3, i64_w, i32_w]
             rfl
            refine pure_ (i := 13) (N := some 12) (v := ?_) (a' := ?_) #[true, true, true, true, true, true, true, true, true, true, true, true, true, true, false] rfl rfl (any_of HT_.out (by kernel_rfl)) (fun _ _ _ h => h) (Or.inl ⟨by rfl, ?_⟩) ?_ ?_
            rotate_left
            ·
             intro w'
             go_simp
             with_reducible rfl
            rotate_left
            ·
             simp only [Act.put, zp1, zp2, zp3, i64_w, i32_w]
             rfl
            refine pure_ (i := 14) (N := some 13) (v := ?_) (a' := ?_) #[true, true, true, true, true, true, true, true, true, true, true, true, true, true, true] rfl rfl (any_of HT_.out (by kernel_rfl)) (fun _ _ _ h => h) (Or.inl ⟨by rfl, ?_⟩) ?_ ?_
            rotate_left
            ·
             intro w'
             go_simp
             with_reducible rfl
            rotate_left
            ·
             simp only [Act.put, zp1, zp2, zp3, i64_w, i32_w]
             rfl
            refine done_ (done_of HT_.out (by kernel_rfl)) ?_
            try go_wp2
            go_roundg k1
            case measure => have := HK1.out; omega
            case rel => exact ⟨(t123), (wrap64 (x55_1 + 1)), zy, H', ⟨by have := HK1.out; omega⟩, ⟨Kd.S_below HO125.out zg⟩, ⟨Kd.S_below HO_9.out zg⟩, ⟨Kd.S_below HO_10.out zg⟩, ⟨zf⟩, ⟨zb⟩, HV⟩
           ·
            replace c35 := zI c35
            subst c35
            rw [if_neg (show ¬ (false = true) by decide)] at H
            simp only [Option.some.injEq, Prod.mk.injEq] at H
            obtain ⟨rfl, rfl⟩ := H
            try go_wp2
            have n0_ := zM (Kd.S_drew HO_2.out)
            have n1_ := zM (Kd.S_drew HO_9.out)
            have n2_ := zM (Kd.S_drew HO_10.out)
            have n3_ := zM (Kept.drew HK.out)
            have n4_ := zM (zD HB.out)
            clear HO_2
            clear HO_9
            clear HO_10
            clear HK
            clear HB
            have HO_2 := n0_
            have HO_9 := n1_
            have HO_10 := n2_
            have HK := n3_
            have HB := n4_
            clear n0_ n1_ n2_ n3_ n4_
            have p121 : 0 ≤ (x55_1 : Int) := zT zv
            have q121 : x55_1 < (t115.length : Int) := zT zv
            obtain ⟨ad121, A121_0, c121_0, e121, hx121_0, hl121_0, hi121_0⟩ := at_L3 (Kd.S_reads' HO_9.out).2.2 x55_1 p121 q121
            cases e121
            obtain ⟨ce121, hce121, hMe121, hcc121⟩ := Kd.S_get HO_9.out [] x55_1 p121 (by first | exact q121 | exact zT zv | (have e_ := (Kd.S_reads' HO_9.out).1; omega))
            obtain ⟨ve121_0, rfl, ge121_0⟩ := hMe121
            have hv121_0 := hcc121 0 _ rfl
            rw [Nat.add_zero, show ((Kd.slice 54 k54)).sz = 1 from rfl, Nat.mul_one] at hv121_0
            replace hv121_0 := zS (hv121_0.symm.trans hx121_0)
            rw [hv121_0] at ge121_0
            have HL121_0 := zM (show Kd.R k54 54 _ _ _ _ (rd_L3 t115 x55_1) from ge121_0)
            clear hv121_0 ge121_0
            clear hcc121 hce121
            have HR121_0 := zM hi121_0
            have HC121_0 := zM hl121_0
            clear hi121_0 hl121_0
            replace p121 := eq_true p121
            replace q121 := eq_true q121
            obtain ⟨Ao41, co41, eo41⟩ := Kd.S_slice HO_10.out
            (first | subst eo41 | (injection eo41 with f1_ f2_ f3_; have f4_ := f1_.symm; have f5_ := f3_.symm; clear f1_ f2_ f3_; subst f4_; subst f5_))
            have p122 : 0 ≤ (x55_1 : Int) := zT zv
            have q122 : x55_1 < (t118.length : Int) := zT zv
            obtain ⟨ad122, A122_0, c122_0, e122, hx122_0, hl122_0, hi122_0⟩ := at_L3 (Kd.S_reads' HO_10.out).2.2 x55_1 p122 q122
            cases e122
            obtain ⟨ce122, hce122, hMe122, hcc122⟩ := Kd.S_get HO_10.out [] x55_1 p122 (by first | exact q122 | exact zT zv | (have e_ := (Kd.S_reads' HO_10.out).1; omega))
            obtain ⟨ve122_0, rfl, ge122_0⟩ := hMe122
            have hv122_0 := hcc122 0 _ rfl
            rw [Nat.add_zero, show ((Kd.slice 54 k54)).sz = 1 from rfl, Nat.mul_one] at hv122_0
            replace hv122_0 := zS (hv122_0.symm.trans hx122_0)
            rw [hv122_0] at ge122_0
            have HL122_0 := zM (show Kd.R k54 54 _ _ _ _ (rd_L3 t118 x55_1) from ge122_0)
            clear hv122_0 ge122_0
            clear hcc122 hce122
            have HR122_0 := zM hi122_0
            have HC122_0 := zM hl122_0
            clear hi122_0 hl122_0
            replace p122 := eq_true p122
            replace q122 := eq_true q122
            obtain ⟨Ao42, co42, eo42⟩ := Kd.S_slice HO_2.out
            (first | subst eo42 | (injection eo42 with f1_ f2_ f3_; have f4_ := f1_.symm; have f5_ := f3_.symm; clear f1_ f2_ f3_; subst f4_; subst f5_))
            refine start_ (n := 15) (S := fun w' => w'.cell? (ad121.add (x55_1).toNat) = some (.slice A121_0 (rd_L3 t115 x55_1).length c121_0) ∧ w'.cell? (ad122.add (x55_1).toNat) = some (.slice A122_0 (rd_L3 t118 x55_1).length c122_0)) (ds := []) #[false, false, false, false, false, false, false, false, false, false, false, false, false, false, false] (by kernel_rfl) rfl rfl ⟨hx121_0, hx122_0⟩ (fun hHeld => ?_); refine with_tabW aumbryref05_Fit.tab12 aumbryref05_Fit.bits12 (fun HT_ HW_ => ?_)
            generalize wr.drew = w40 at HO_2 HO_9 HO_10 HK HB HL121_0 HL122_0 HR121_0 HR122_0 hx121_0 hx122_0 hHeld ⊢
            refine pure_ (i := 0) (N := some 59) (v := ?_) (a' := ?_) #[true, false, false, false, false, false, false, false, false, false, false, false, false, false, false] rfl rfl (any_of HT_.out (by kernel_rfl)) (fun _ _ _ h => h) (Or.inl ⟨by rfl, ?_⟩) ?_ ?_
            rotate_left
            ·
             intro w'
             go_simp
             with_reducible rfl
            rotate_left
            ·
             simp only [Act.put, zp1, zp2, zp3, i64_w, i32_w]
             rfl
            refine pure_ (i := 1) (N := some 60) (v := ?_) (a' := ?_) #[true, true, false, false, false, false, false, false, false, false, false, false, false, false, false] rfl rfl (any_of HT_.out (by kernel_rfl)) (fun _ _ _ h => h) (Or.inl ⟨by rfl, ?_⟩) ?_ ?_
            rotate_left
            ·
             intro w'
             go_simp
             with_reducible rfl
            rotate_left
            ·
             simp only [Act.put, zp1, zp2, zp3, i64_w, i32_w]
             rfl
            refine pure_ (i := 2) (N := some 61) (v := ?_) (a' := ?_) #[true, true, true, false, false, false, false, false, false, false, false, false, false, false, false] rfl rfl (any_of HT_.out (by kernel_rfl)) (fun _ _ _ h => h) (Or.inl ⟨by rfl, ?_⟩) ?_ ?_
            rotate_left
            ·
             intro w'
             go_simp
             with_reducible rfl
            rotate_left
            ·
             simp only [Act.put, zp1, zp2, zp3, i64_w, i32_w]
             rfl
            refine pure_ (i := 4) (N := some 63) (v := ?_) (a' := ?_) #[true, true, true, false, true, false, false, false, false, false, false, false, false, false, false] rfl rfl (any_of HT_.out (by kernel_rfl)) (fun _ _ _ h => h) (Or.inl ⟨by rfl, ?_⟩) ?_ ?_
            rotate_left
            ·
             intro w'
             go_simp
             with_reducible rfl
            rotate_left
            ·
             simp only [Act.put, zp1, zp2, zp3, i64_w, i32_w]
             rfl
            refine pure_ (i := 5) (N := some 64) (v := ?_) (a' := ?_) #[true, true, true, false, true, true, false, false, false, false, false, false, false, false, false] rfl rfl (any_of HT_.out (by kernel_rfl)) (fun _ _ _ h => h) (Or.inl ⟨by rfl, ?_⟩) ?_ ?_
            rotate_left
            ·
             intro w'
             go_simp
             with_reducible rfl
            rotate_left
            ·
             simp only [Act.put, zp1, zp2, zp3, i64_w, i32_w]
             rfl
            refine pure_ (i := 6) (N := some 65) (v := ?_) (a' := ?_) #[true, true, true, false, true, true, true, false, false, false, false, false, false, false, false] rfl rfl (any_of HT_.out (by kernel_rfl)) (fun _ _ _ h => h) (Or.inl ⟨by rfl, ?_⟩) ?_ ?_
            rotate_left
            ·
             intro w'
             go_simp
             with_reducible rfl
            rotate_left
            ·
             simp only [Act.put, zp1, zp2, zp3, i64_w, i32_w]
             rfl
            refine pure_ (i := 8) (N := some 67) (v := ?_) (a' := ?_) #[true, true, true, false, true, true, true, false, true, false, false, false, false, false, false] rfl rfl (any_of HT_.out (by kernel_rfl)) (fun _ _ _ h => h) (Or.inl ⟨by rfl, ?_⟩) ?_ ?_
            rotate_left
            ·
             intro w'
             go_simp
             with_reducible rfl
            rotate_left
            ·
             simp only [Act.put, zp1, zp2, zp3, i64_w, i32_w]
             rfl
            refine take_ (i := 3) (N := some 62) (v := ?_) (a' := ?_) #[true, true, true, true, true, true, true, false, true, false, false, false, false, false, false] rfl rfl (take_ofW HT_.out HW_.out (by kernel_rfl)) (fun _ _ _ h => h) (Or.inl ⟨by rfl, ?_⟩) hHeld ?_ ?_
            rotate_left
            ·
             rintro w' ⟨s0, s1⟩
             go_simp
             with_reducible rfl
            rotate_left
            ·
             simp only [Act.put, zp1, zp2, zp3, i64_w, i32_w]
             rfl
            refine take_ (i := 7) (N := some 66) (v := ?_) (a' := ?_) #[true, true, true, true, true, true, true, true, true, false, false, false, false, false, false] rfl rfl (take_ofW HT_.out HW_.out (by kernel_rfl)) (fun _ _ _ h => h) (Or.inl ⟨by rfl, ?_⟩) hHeld ?_ ?_
            rotate_left
            ·
             rintro w' ⟨s0, s1⟩
             go_simp
             with_reducible rfl
            rotate_left
            ·
             simp only [Act.put, zp1, zp2, zp3, i64_w, i32_w]
             rfl
            refine one_ (i := 9) (N := some 68) #[true, true, true, true, true, true, true, true, true, true, false, false, false, false, false] rfl rfl (one_of HT_.out (by kernel_rfl)) (by decide) (fun K hK => ?_)
            refine goes_ Try.func79 (by kernel_rfl) rfl #[.slice A121_0 (rd_L3 t115 x55_1).length c121_0, .slice A122_0 (rd_L3 t118 x55_1).length c122_0, .slice Ao42 x2_1.length co42] (by rfl) rfl rfl zl ?_
            with_reducible refine (ih k1 (by have := HK1.out; omega) _ _ (rd_L3 t115 x55_1) _ _ (rd_L3 t118 x55_1) (fun k_ => some k_ = (.slice Ao42 x2_1.length co42 : Value).ownBlock) (fun k_ => (PQ_ k_ ∨ w.heap.size ≤ k_)) (.slice Ao42 x2_1.length co42) x2_1 t123 false w0 _ ?side1 ?side2 ?side3 ?side4 ?side5 ?side6 ?side7 A34.out).mono ?_
            (case side1 => exact zb)
            (case side2 => exact Kd.C_kept_own ((Kd.R_apart' HL121_0.out (Kd.S_typed HO_2.out) (by decide))) (fun k_ hk_ hs_ => (hk_.2) hs_))
            (case side3 => exact HC121_0.out)
            (case side4 => exact Kd.C_kept_own ((Kd.R_apart' HL122_0.out (Kd.S_typed HO_2.out) (by decide))) (fun k_ hk_ hs_ => (hk_.2) hs_))
            (case side5 => exact HC122_0.out)
            (case side6 => exact HO_2.out)
            (case side7 => exact fun k_ e_ => e_.symm)
            rintro e w43 ⟨v124, rfl, ho0, hb, hkp, hv⟩
            have HS0_ := Go.Proofs.YtdlkhpfgkghhmaaW.PrintWords.cell_kept (hHeld.1) hkp (by first | (rw [add_block]; exact (fun hs_ => (((Kd.S_R (Kd.S_apart' HO_9.out (Kd.S_typed HO_2.out) (by decide))).1 _ rfl).2) hs_)) | (show ¬ _; simp only [add_block]; exact (fun hs_ => (((Kd.S_R (Kd.S_apart' HO_9.out (Kd.S_typed HO_2.out) (by decide))).1 _ rfl).2) hs_)) | exact (fun hs_ => (((Kd.S_R (Kd.S_apart' HO_9.out (Kd.S_typed HO_2.out) (by decide))).1 _ rfl).2) hs_))
            have HS1_ := Go.Proofs.YtdlkhpfgkghhmaaW.PrintWords.cell_kept (hHeld.2) hkp (by first | (rw [add_block]; exact (fun hs_ => (((Kd.S_R (Kd.S_apart' HO_10.out (Kd.S_typed HO_2.out) (by decide))).1 _ rfl).2) hs_)) | (show ¬ _; simp only [add_block]; exact (fun hs_ => (((Kd.S_R (Kd.S_apart' HO_10.out (Kd.S_typed HO_2.out) (by decide))).1 _ rfl).2) hs_)) | exact (fun hs_ => (((Kd.S_R (Kd.S_apart' HO_10.out (Kd.S_typed HO_2.out) (by decide))).1 _ rfl).2) hs_))
            refine ⟨_, rfl, ?_⟩
            have n0_ := zM (Kd.S_mono (ok' := fun k_ => (PQ_ k_ ∨ w.heap.size ≤ k_) ∧ some k_ ≠ (.slice (some ad122) t118.length co41 : Value).ownBlock) (Kd.S_keptB ((Kd.S_apart' HO_9.out (Kd.S_typed HO_2.out) (by decide))) hkp (fun k_ hk_ hs_ => (hk_.2) hs_)) (fun k_ hk_ => ⟨hk_.1.1.1, hk_.1.1.2⟩))
            have n1_ := zM (Kd.S_mono (ok' := fun k_ => (PQ_ k_ ∨ w.heap.size ≤ k_) ∧ some k_ ≠ (.slice (some ad121) t115.length co29 : Value).ownBlock) (Kd.S_keptB ((Kd.S_apart' HO_10.out (Kd.S_typed HO_2.out) (by decide))) hkp (fun k_ hk_ hs_ => (hk_.2) hs_)) (fun k_ hk_ => ⟨hk_.1.1.1, hk_.1.1.2⟩))
            have n2_ := zM (Kd.S_mono (ok' := fun k_ => (PQ_ k_ ∨ w.heap.size ≤ k_)) ho0 (fun k_ hk_ => Or.elim hk_ (fun hs_ => hs_) (fun hn_ => (.inr (Nat.le_trans (by first | exact HK.out.1 | exact (show Kept w _ (fun k_ => P2_ k_) from zf).1) hn_)))))
            have n3_ := zM (Kept.then_ (S := (fun k_ => P2_ k_)) (zf) hkp (fun k_ hs_ => HV.out k_ hs_.symm))
            have n4_ := zM (hb)
            have n5_ := zM (show ∀ k_ : Nat, (v124 : Value).ownBlock = some k_ → P2_ k_ ∨ w.heap.size ≤ k_ from fun k_ e_ => (hv k_ e_).elim (fun e2_ => HV.out k_ e2_.symm) (fun hn_ => .inr (Nat.le_trans (show Kept w _ (fun k_ => P2_ k_) from zf).1 hn_)))
            clear HV hv
            have HV := n5_
            clear n5_
            clear HO_9
            clear HO_10
            clear HK
            clear HB
            clear HO_2
            clear HL121_0
            clear HL122_0
            have HO_9 := n0_
            have HO_10 := n1_
            have HO125 := n2_
            have HK := n3_
            have HB := n4_
            clear n0_ n1_ n2_ n3_ n4_
            (try clear hb)
            (try clear hkp)
            (try clear ho0)
            refine hK.out _ _ ⟨HS0_, HS1_⟩ (fun hHeld => ?_)
            clear hK K
            refine norm_ (a' := ?_) ?_ ?_
            rotate_left
            ·
             show Act.put _ (some 68) _ = _
             simp only [Act.put, zp1, zp2, zp3, i64_w, i32_w]
             rfl
            refine pure_ (i := 10) (N := some 58) (v := ?_) (a' := ?_) #[true, true, true, true, true, true, true, true, true, true, true, false, false, false, false] rfl rfl (any_of HT_.out (by kernel_rfl)) (fun _ _ _ h => h) (Or.inl ⟨by rfl, ?_⟩) ?_ ?_
            rotate_left
            ·
             intro w'
             go_simp
             with_reducible rfl
            rotate_left
            ·
             simp only [Act.put, zp1, zp2, zp3, i64_w, i32_w]
             rfl
            refine pure_ (i := 11) (N := some 69) (v := ?_) (a' := ?_) #[true, true, true, true, true, true, true, true, true, true, true, true, false, false, false] rfl rfl (any_of HT_.out (by kernel_rfl)) (fun _ _ _ h => h) (Or.inl ⟨by rfl, ?_⟩) ?_ ?_
            rotate_left
            ·
             intro w'
             go_simp
             with_reducible rfl
            rotate_left
            ·
             simp only [Act.put, zp1, zp2, zp3, i64_w, i32_w]
             rfl
            refine pure_ (i := 12) (N := some 70) (v := ?_) (a' := ?_) #[true, true, true, true, true, true, true, true, true, true, true, true, true, false, false] rfl rfl (any_of HT_.out (by kernel_rfl)) (fun _ _ _ h => h) (Or.inl ⟨by rfl, ?_⟩) ?_ ?_
            rotate_left
            ·
             intro w'
             go_simp
             with_reducible rfl
            rotate_left
            ·
             simp only [Act.put, zp1, zp2, zp3, i64_w, i32_w]
             rfl
            refine pure_ (i := 13) (N := some 12) (v := ?_) (a' := ?_) #[true, true, true, true, true, true, true, true, true, true, true, true, true, true, false] rfl rfl (any_of HT_.out (by kernel_rfl)) (fun _ _ _ h => h) (Or.inl ⟨by rfl, ?_⟩) ?_ ?_
            rotate_left
            ·
             intro w'
             go_simp
             with_reducible rfl
            rotate_left
            ·
             simp only [Act.put, zp1, zp2, zp3, i64_w, i32_w]
             rfl
            refine pure_ (i := 14) (N := some 13) (v := ?_) (a' := ?_) #[true, true, true, true, true, true, true, true, true, true, true, true, true, true, true] rfl rfl (any_of HT_.out (by kernel_rfl)) (fun _ _ _ h => h) (Or.inl ⟨by rfl, ?_⟩) ?_ ?_
            rotate_left
            ·
             intro w'
             go_simp
             with_reducible rfl
            rotate_left
            ·
             simp only [Act.put, zp1, zp2, zp3, i64_w, i32_w]
             rfl
            refine done_ (done_of HT_.out (by kernel_rfl)) ?_
            try go_wp2
            go_ret2
            exact ⟨_, zw, by first | exact Kd.S_nil _ _ _ _ _ | exact Kd.N_nil _ _ _ _ _ | exact Kd.V_nil _ _ _ _ _ | exact Kd.Q_nil _ _ _ _ _ | exact Kd.R_nil _ _ _ _ _, zb, zf, fun k_ e_ => by simp [Value.ownBlock] at e_⟩
          ·
           rw [if_neg c33] at H
           exact absurd H (by simp)
         ·
          rw [if_neg c32] at H
          exact absurd H (by simp)
        ·
         rw [if_neg c31] at H
         exact absurd H (by simp)
       ·
        rw [if_neg c30] at H
        have c30b0 : decide (x55_1 < (t115.length : Int)) = false := zR c30
        clear c30
        simp only [Option.some.injEq, Prod.mk.injEq] at H
        obtain ⟨rfl, rfl⟩ := H
        go_wp2
        go_ret2
        exact ⟨_, zw, Kd.S_below HO_2.out zg, zb, zf, by first | exact HV2.out | exact HV.out⟩
   ·
    rw [if_neg c21] at H
    exact absurd H (by simp)
  ·
   rw [if_neg c20] at H
   exact absurd H (by simp)

theorem aumbryref05_Fit.calls (k : Nat) : ∀ (A0 : Option Addr) (c0 : Nat) (l0 : List (S54)) (A1 : Option Addr) (c1 : Nat) (l1 : List (S54)) (P2_ : Nat → Prop) (u9000_ : Value) (l2 : List (S104)) (r1 : List (S104)) (r2 : Bool) (w0 w : World) (hB : Below w0.heap.size w0 w) (hr0 : ∀ W_, Kept w W_ (fun k_ => P2_ k_) → Kd.C k54 W_ A0 l0.length l0) (hc0 : l0.length ≤ c0) (hr1 : ∀ W_, Kept w W_ (fun k_ => P2_ k_) → Kd.C k54 W_ A1 l1.length l1) (hc1 : l1.length ≤ c1) (ho2 : Kd.S k104 104 w w0.heap.size P2_ u9000_ l2) (h : aumbryref05_Fit.f k l0 l1 l2 = some (r1, r2)),
 Calls Try.prog 79 #[.slice A0 l0.length c0, .slice A1 l1.length c1, u9000_] w fun e w' => ∃ v0_ : Value, e = .returned (.tuple #[v0_, .bool r2]) ∧ Kd.S k104 104 w' w0.heap.size (fun k_ => (P2_ k_ ∨ w.heap.size ≤ k_)) v0_ r1 ∧ Below w0.heap.size w0 w' ∧ Kept w w' (fun k_ => P2_ k_) := by
 intro A0 c0 l0 A1 c1 l1 P2_ u9000_ l2 r1 r2 w0 w hB hr0 hc0 hr1 hc1 ho2 h
 refine (aumbryref05_Fit.callsN k A0 c0 l0 A1 c1 l1 P2_ P2_ u9000_ l2 r1 r2 w0 w hB hr0 hc0 hr1 hc1 ho2 (fun k_ e_ => (Kd.S_R ho2).1 k_ e_) h).mono ?_
 rintro e w' ⟨v0_, he, ho, hb, hk, _⟩
 exact ⟨v0_, he, ho, hb, hk⟩


-- ==== PF55

/-! ### aumbryref07_First: function 55 -/
def aumbryref07_First.l0 : Nat → List (S73) → List (S54) → Int → Int → Option (Int × (List (S104)))
 | 0, _, _, _, _ => none
 | k + 1, x0, x1, x10, x11 => if x11 < x10 then (if 0 ≤ x11 then (if x11 < (x0.length : Int) then ((aumbryref05_Fit.f k ((rd_T73 x0 x11).f1) x1 ([] : List (S104))).bind fun bt102 => (if bt102.2 = true then (some (x11, bt102.1)) else (aumbryref07_First.l0 k x0 x1 x10 (wrap64 (x11 + 1))))) else (none)) else (none)) else (some ((-1), ([] : List (S104))))
def aumbryref07_First.f (k : Nat) (l0 : List (S73)) (l1 : List (S54)) : Option (Int × (List (S104))) := aumbryref07_First.l0 k l0 l1 (l0.length : Int) 0
theorem aumbryref07_First.calls (k : Nat) (A0 : Option Addr) (c0 : Nat) (l0 : List (S73)) (A1 : Option Addr) (c1 : Nat) (l1 : List (S54)) (r1 : Int) (r2 : List (S104)) (w : World) (hr0 : Kd.C k73 w A0 l0.length l0) (hc0 : l0.length ≤ c0) (hr1 : Kd.C k54 w A1 l1.length l1) (hc1 : l1.length ≤ c1) (h : aumbryref07_First.f k l0 l1 = some (r1, r2)) :
 Calls Try.prog 55 #[.slice A0 l0.length c0, .slice A1 l1.length c1] w fun e w' => ∃ v1_ : Value, e = .returned (.tuple #[.int .i64 r1, v1_]) ∧ Kd.S k104 104 w' w.heap.size (fun _ => True) v1_ r2 ∧ Below w.heap.size w w' := by
 have HR0 := zM hr0
 have HC0 := zM hc0
 clear hr0 hc0
 have HR1 := zM hr1
 have HC1 := zM hc1
 clear hr1 hc1
 have HB := zM (Below.refl w.heap.size w)
 have H : (aumbryref07_First.l0 k l0 l1 (l0.length : Int) 0) = some (r1, r2) := h
 clear h
 have H' := zM H
 clear H
 go_enter Try.func55, Try.ntmps55
 go_wp2
 go_loopg [11] k (fun kq v11 w' => ∃ (x11_1 : Int), v11 = .int .i64 x11_1 ∧ Aside0 (aumbryref07_First.l0 kq l0 l1 (l0.length : Int) x11_1 = some (r1, r2)) ∧ Aside0 (kq ≤ k) ∧ Aside0 (Below w.heap.size w w'))
 case atStart => exact ⟨(0), zy, H', ⟨Nat.le_refl _⟩, ⟨zb⟩⟩
 case round =>
  clear H'
  try clear c1
  try clear p2
  obtain ⟨x11_1, rfl, HA, HK1, HB⟩ := hrel
  cases gk with
  | zero => exact absurd HA.out (by simp [aumbryref07_First.l0])
  | succ k1 =>
   have H := HA.out
   clear HA
   simp only [aumbryref07_First.l0] at H
   by_cases c3 : x11_1 < (l0.length : Int)
   ·
    rw [if_pos c3] at H
    have c3b0 : decide (x11_1 < (l0.length : Int)) = true := zQ c3
    clear c3
    by_cases c4 : 0 ≤ x11_1
    ·
     rw [if_pos c4] at H
     have c4b0 : decide (0 ≤ x11_1) = true := zQ c4
     clear c4
     by_cases c5 : x11_1 < (l0.length : Int)
     ·
      rw [if_pos c5] at H
      have c5b0 : decide (x11_1 < (l0.length : Int)) = true := zQ c5
      clear c5
      replace H := zB H
      obtain ⟨⟨t102, t105⟩, A60, H⟩ := H
      try dsimp only at H
      have A6 := zM A60
      clear A60
      by_cases c7 : t105 = true
      ·
       subst c7
       rw [if_pos rfl] at H
       simp only [Option.some.injEq, Prod.mk.injEq] at H
       obtain ⟨rfl, rfl⟩ := H
       have p101 : 0 ≤ (x11_1 : Int) := zT zv
       have q101 : x11_1 < (l0.length : Int) := zT zv
       obtain ⟨ad101, A101_1, c101_1, A101_2, c101_2, e101, hx101_0, hx101_1, hx101_2, hl101_1, hi101_1, hl101_2, hi101_2⟩ := at_T73 HR0.out x11_1 p101 q101
       cases e101
       replace hx101_0 := (HB.out.cell (World.block_lt_of_cell? w _ hx101_0)).trans hx101_0
       replace hx101_1 := (HB.out.cell (World.block_lt_of_cell? w _ hx101_1)).trans hx101_1
       replace hx101_2 := (HB.out.cell (World.block_lt_of_cell? w _ hx101_2)).trans hx101_2
       have HR101_1 := zM hi101_1
       have HC101_1 := zM hl101_1
       clear hi101_1 hl101_1
       have HR101_2 := zM hi101_2
       have HC101_2 := zM hl101_2
       clear hi101_2 hl101_2
       replace p101 := eq_true p101
       replace q101 := eq_true q101
       go_wp2_with (first | ((with_reducible refine gate_callee (f := 79) rfl ?_); refine goesL_ (some 21) rfl rfl Try.func79 (by kernel_rfl) rfl #[.slice A101_1 ((rd_T73 l0 x11_1).f1).length c101_1, .slice A1 l1.length c1, .slice none 0 0] rfl zl ?_; (refine (aumbryref05_Fit.calls k1 _ _ ((rd_T73 l0 x11_1).f1) _ _ l1 (fun k_ => some k_ = (.slice none 0 0 : Value).ownBlock) (.slice none 0 0) ([] : List (S104)) t102 true w _ ?side1 ?side2 ?side3 ?side4 ?side5 ?side6 A6.out).mono ?_); (case side1 => exact zb); (case side2 => exact Kd.C_kept_came k54_heap HR101_1.out zb (fun k_ hs_ => (fun e_ => by simp [Value.ownBlock] at e_) hs_)); (case side3 => exact HC101_1.out); (case side4 => exact Kd.C_kept_came k54_heap HR1.out zb (fun k_ hs_ => (fun e_ => by simp [Value.ownBlock] at e_) hs_)); (case side5 => exact HC1.out); (case side6 => exact Kd.S_nil _ _ _ _ _); rintro e w8 ⟨v103, rfl, ho0, hb, hkp⟩; refine ⟨_, rfl, ?_⟩; have HO104 := zM (Kd.S_mono (ok' := fun k_ => True) ho0 (fun k_ hk_ => trivial)); replace HB := zM (hb); (try clear hb); (try clear hkp); (try clear ho0)))
       go_ret2
       exact ⟨_, zw, Kd.S_below HO104.out zg, zb⟩
      ·
       replace c7 := zI c7
       subst c7
       rw [if_neg (show ¬ (false = true) by decide)] at H
       have H' := zM H
       clear H
       have p101 : 0 ≤ (x11_1 : Int) := zT zv
       have q101 : x11_1 < (l0.length : Int) := zT zv
       obtain ⟨ad101, A101_1, c101_1, A101_2, c101_2, e101, hx101_0, hx101_1, hx101_2, hl101_1, hi101_1, hl101_2, hi101_2⟩ := at_T73 HR0.out x11_1 p101 q101
       cases e101
       replace hx101_0 := (HB.out.cell (World.block_lt_of_cell? w _ hx101_0)).trans hx101_0
       replace hx101_1 := (HB.out.cell (World.block_lt_of_cell? w _ hx101_1)).trans hx101_1
       replace hx101_2 := (HB.out.cell (World.block_lt_of_cell? w _ hx101_2)).trans hx101_2
       have HR101_1 := zM hi101_1
       have HC101_1 := zM hl101_1
       clear hi101_1 hl101_1
       have HR101_2 := zM hi101_2
       have HC101_2 := zM hl101_2
       clear hi101_2 hl101_2
       replace p101 := eq_true p101
       replace q101 := eq_true q101
       go_wp2_with (first | ((with_reducible refine gate_callee (f := 79) rfl ?_); refine goesL_ (some 21) rfl rfl Try.func79 (by kernel_rfl) rfl #[.slice A101_1 ((rd_T73 l0 x11_1).f1).length c101_1, .slice A1 l1.length c1, .slice none 0 0] rfl zl ?_; (refine (aumbryref05_Fit.calls k1 _ _ ((rd_T73 l0 x11_1).f1) _ _ l1 (fun k_ => some k_ = (.slice none 0 0 : Value).ownBlock) (.slice none 0 0) ([] : List (S104)) t102 false w _ ?side1 ?side2 ?side3 ?side4 ?side5 ?side6 A6.out).mono ?_); (case side1 => exact zb); (case side2 => exact Kd.C_kept_came k54_heap HR101_1.out zb (fun k_ hs_ => (fun e_ => by simp [Value.ownBlock] at e_) hs_)); (case side3 => exact HC101_1.out); (case side4 => exact Kd.C_kept_came k54_heap HR1.out zb (fun k_ hs_ => (fun e_ => by simp [Value.ownBlock] at e_) hs_)); (case side5 => exact HC1.out); (case side6 => exact Kd.S_nil _ _ _ _ _); rintro e w9 ⟨v103, rfl, ho0, hb, hkp⟩; refine ⟨_, rfl, ?_⟩; have HO104 := zM (Kd.S_mono (ok' := fun k_ => True) ho0 (fun k_ hk_ => trivial)); replace HB := zM (hb); (try clear hb); (try clear hkp); (try clear ho0)))
       go_roundg k1
       case measure => have := HK1.out; omega
       case rel => exact ⟨(wrap64 (x11_1 + 1)), zy, H', ⟨by have := HK1.out; omega⟩, ⟨zb⟩⟩
     ·
      rw [if_neg c5] at H
      exact absurd H (by simp)
    ·
     rw [if_neg c4] at H
     exact absurd H (by simp)
   ·
    rw [if_neg c3] at H
    have c3b0 : decide (x11_1 < (l0.length : Int)) = false := zR c3
    clear c3
    simp only [Option.some.injEq, Prod.mk.injEq] at H
    obtain ⟨rfl, rfl⟩ := H
    go_wp2
    go_ret2
    exact ⟨_, zw, by first | exact Kd.S_nil _ _ _ _ _ | exact Kd.N_nil _ _ _ _ _ | exact Kd.V_nil _ _ _ _ _ | exact Kd.Q_nil _ _ _ _ _ | exact Kd.R_nil _ _ _ _ _, zb⟩


-- ==== PF58

/-! ### aumbryref05_Put: function 58 -/
def aumbryref05_Put.l0 : Nat → List (S54) → List (S104) → List (S54) → Int → Int → Option ((List (S54)))
 | 0, _, _, _, _, _ => none
 | k + 1, x0, x1, x5, x8, x9 => if x9 < x8 then (if 0 ≤ x9 then (if x9 < (x0.length : Int) then ((aumbryref03_Kind.f k ((rd_T54 x0 x9).f0)).bind fun t102 => (if t102 = 2 then ((aumbryref05_At.f k x1 ((rd_T54 x0 x9).f0)).bind fun t104 => (if 0 ≤ t104 then (if t104 < (x1.length : Int) then (if x5.length + ((rd_T104 x1 t104).f1).length < 5864062014805 then (aumbryref05_Put.l0 k x0 x1 (x5 ++ ((rd_T104 x1 t104).f1)) x8 (wrap64 (x9 + 1))) else (none)) else (none)) else (none))) else (if x5.length < 5864062014805 then (aumbryref05_Put.l0 k x0 x1 (x5 ++ [(⟨(rd_T54 x0 x9).f0, (rd_T54 x0 x9).f1⟩ : S54)]) x8 (wrap64 (x9 + 1))) else (none)))) else (none)) else (none)) else (some x5)
def aumbryref05_Put.f (k : Nat) (l0 : List (S54)) (l1 : List (S104)) : Option ((List (S54))) := aumbryref05_Put.l0 k l0 l1 ([] : List (S54)) (l0.length : Int) 0
theorem aumbryref05_Put.calls (k : Nat) (A0 : Option Addr) (c0 : Nat) (l0 : List (S54)) (A1 : Option Addr) (c1 : Nat) (l1 : List (S104)) (r : List (S54)) (w : World) (hr0 : Kd.C k54 w A0 l0.length l0) (hc0 : l0.length ≤ c0) (hr1 : Kd.C k104 w A1 l1.length l1) (hc1 : l1.length ≤ c1) (h : aumbryref05_Put.f k l0 l1 = some r) :
 Calls Try.prog 58 #[.slice A0 l0.length c0, .slice A1 l1.length c1] w fun e w' => ∃ v0_ : Value, e = .returned (v0_) ∧ Kd.R k54 54 w' w.heap.size (fun _ => True) v0_ r ∧ Below w.heap.size w w' := by
 have hu54 := Try.underlying54
 have HR0 := zM hr0
 have HC0 := zM hc0
 clear hr0 hc0
 have HR1 := zM hr1
 have HC1 := zM hc1
 clear hr1 hc1
 have HB := zM (Below.refl w.heap.size w)
 have H : (aumbryref05_Put.l0 k l0 l1 ([] : List (S54)) (l0.length : Int) 0) = some r := h
 clear h
 have H' := zM H
 clear H
 go_enter Try.func58, Try.ntmps58
 go_wp2
 go_loopg [5, 9] k (fun kq v5 v9 w' => ∃ (x5_1 : List (S54)) (x9_1 : Int), v9 = .int .i64 x9_1 ∧ Aside0 (aumbryref05_Put.l0 kq l0 l1 x5_1 (l0.length : Int) x9_1 = some r) ∧ Aside0 (kq ≤ k) ∧ Aside0 (Kd.R k54 54 w' w.heap.size (fun _ => True) v5 x5_1) ∧ Aside0 (Below w.heap.size w w'))
 case atStart => exact ⟨(([] : List (S54))), (0), zy, H', ⟨Nat.le_refl _⟩, ⟨by first | exact Kd.R_nil _ _ _ _ _ | exact Kd.N_nil _ _ _ _ _ | exact Kd.V_nil _ _ _ _ _ | exact Kd.Q_nil _ _ _ _ _ | exact Kd.S_nil _ _ _ _ _⟩, ⟨zb⟩⟩
 case round =>
  clear H'
  try clear c1
  try clear p2
  obtain ⟨x5_1, x9_1, rfl, HA, HK1, HO_5, HB⟩ := hrel
  cases gk with
  | zero => exact absurd HA.out (by simp [aumbryref05_Put.l0])
  | succ k1 =>
   have H := HA.out
   clear HA
   simp only [aumbryref05_Put.l0] at H
   by_cases c3 : x9_1 < (l0.length : Int)
   ·
    rw [if_pos c3] at H
    have c3b0 : decide (x9_1 < (l0.length : Int)) = true := zQ c3
    clear c3
    by_cases c4 : 0 ≤ x9_1
    ·
     rw [if_pos c4] at H
     have c4b0 : decide (0 ≤ x9_1) = true := zQ c4
     clear c4
     by_cases c5 : x9_1 < (l0.length : Int)
     ·
      rw [if_pos c5] at H
      have c5b0 : decide (x9_1 < (l0.length : Int)) = true := zQ c5
      clear c5
      replace H := zB H
      obtain ⟨t102, A60, H⟩ := H
      try dsimp only at H
      have A6 := zM A60
      clear A60
      by_cases c7 : t102 = 2
      ·
       rw [if_pos c7] at H
       have c7b0 : (t102 == 2) = true := zG c7
       have c7b1 : (t102 != 2) = false := zH c7
       clear c7
       replace H := zB H
       obtain ⟨t104, A80, H⟩ := H
       try dsimp only at H
       have A8 := zM A80
       clear A80
       by_cases c9 : 0 ≤ t104
       ·
        rw [if_pos c9] at H
        have c9b0 : decide (0 ≤ t104) = true := zQ c9
        clear c9
        by_cases c10 : t104 < (l1.length : Int)
        ·
         rw [if_pos c10] at H
         have c10b0 : decide (t104 < (l1.length : Int)) = true := zQ c10
         clear c10
         by_cases c11 : x5_1.length + ((rd_T104 l1 t104).f1).length < 5864062014805
         ·
          rw [if_pos c11] at H
          have LMc11 := zM c11
          clear c11
          obtain ⟨y106, hy106⟩ : ∃ y_ : List (S54), y_ = (x5_1 ++ ((rd_T104 l1 t104).f1)) := ⟨_, rfl⟩
          replace H : (aumbryref05_Put.l0 k1 l0 l1 y106 (l0.length : Int) (wrap64 (x9_1 + 1))) = some r := by first | (rw [hy106]; with_reducible exact H) | (have H2_ := (Option.bind_some _ _).symm.trans H; rw [hy106]; with_reducible exact H2_) | (have H2_ := (Option.bind_some _ _).symm.trans H; with_reducible exact H2_) | with_reducible exact H | (rw [hy106]; exact H) | exact H
          have Ny106 := zM hy106
          clear hy106
          have H' := zM H
          clear H
          have p101 : 0 ≤ (x9_1 : Int) := zT zv
          have q101 : x9_1 < (l0.length : Int) := zT zv
          obtain ⟨ad101, e101, hx101_0, hx101_1⟩ := at_T54 HR0.out x9_1 p101 q101
          cases e101
          replace hx101_0 := (HB.out.cell (World.block_lt_of_cell? w _ hx101_0)).trans hx101_0
          replace hx101_1 := (HB.out.cell (World.block_lt_of_cell? w _ hx101_1)).trans hx101_1
          replace p101 := eq_true p101
          replace q101 := eq_true q101
          go_wp2_with (first | ((with_reducible refine gate_callee (f := 45) rfl ?_); refine goesL_ (some 17) rfl rfl Try.func45 (by kernel_rfl) rfl #[.string ((rd_T54 l0 x9_1).f0)] rfl zl ?_; (with_reducible refine (aumbryref03_Kind.calls k1 ((rd_T54 l0 x9_1).f0) t102 _ A6.out).mono ?_); rintro e w' ⟨rfl, ⟨nd, rfl⟩⟩; refine ⟨_, rfl, ?_⟩; have p103 : 0 ≤ (x9_1 : Int) := zT zv; have q103 : x9_1 < (l0.length : Int) := zT zv; obtain ⟨ad103, e103, hx103_0, hx103_1⟩ := at_T54 HR0.out x9_1 p103 q103; obtain rfl : ad101 = ad103 := (by injection e103); replace hx103_0 := (HB.out.cell (World.block_lt_of_cell? w _ hx103_0)).trans hx103_0; replace hx103_1 := (HB.out.cell (World.block_lt_of_cell? w _ hx103_1)).trans hx103_1; replace p103 := eq_true p103; replace q103 := eq_true q103) | ((with_reducible refine gate_callee (f := 57) rfl ?_); refine goesL_ (some 27) rfl rfl Try.func57 (by kernel_rfl) rfl #[.slice A1 l1.length c1, .string ((rd_T54 l0 x9_1).f0)] rfl zl ?_; (with_reducible refine (aumbryref05_At.calls k1 _ _ l1 ((rd_T54 l0 x9_1).f0) t104 _ ?side1 ?side2 A8.out).mono ?_); (case side1 => exact Kd.C_below (Kd.C_below HR1.out zb) zg); (case side2 => exact HC1.out); rintro e w' ⟨rfl, ⟨nd, rfl⟩⟩; refine ⟨_, rfl, ?_⟩; have p105 : 0 ≤ (t104 : Int) := zT zv; have q105 : t104 < (l1.length : Int) := zT zv; obtain ⟨ad105, A105_1, c105_1, e105, hx105_0, hx105_1, hl105_1, hi105_1⟩ := at_T104 HR1.out t104 p105 q105; cases e105; replace hx105_0 := (HB.out.cell (World.block_lt_of_cell? w _ hx105_0)).trans hx105_0; replace hx105_1 := (HB.out.cell (World.block_lt_of_cell? w _ hx105_1)).trans hx105_1; have HR105_1 := zM hi105_1; have HC105_1 := zM hl105_1; clear hi105_1 hl105_1; replace p105 := eq_true p105; replace q105 := eq_true q105) | ((with_reducible refine gate_builtin (b := .append) (xs := #[.tmp 19, .tmp 30]) rfl ?_); at_builtin; refine Kd.R_append_rows k54 (w0 := w) w.heap.size rfl (.tmp 19) (.tmp 30) 23 54 (.agg #[(.string ⟨#[]⟩), (.int .i64 0)]) 24 rfl Try.underlying23 info54 rfl (by decide) (by omega) u5 x5_1 ((rd_T104 l1 t104).f1) _ _ _ (fun _ => True) (fun _ => False) rfl rfl ?aO ?aR (fun _ _ h => h) (fun _ h => h.elim) ?aF ?aB ?aS ?aL ?_; (case aR => exact Kd.C_below (Kd.C_below HR105_1.out zb) zg); (case aB => exact zb); (case aF => exact (fun _ _ => trivial)); (case aO => exact (zr HO_5.out)); (case aS => exact (below_size zb)); (case aL => have := LMc11.out; omega); intro v107 w12 ho hb hg hat; rw [← Ny106.out] at ho; replace HB := zM (hb); have HO108 := zM (ho); clear HO_5; clear ho hb hg hat))
          go_roundg k1
          case measure => have := HK1.out; omega
          case rel => exact ⟨(y106), (wrap64 (x9_1 + 1)), zy, H', ⟨by have := HK1.out; omega⟩, ⟨zr HO108.out⟩, ⟨zb⟩⟩
         ·
          rw [if_neg c11] at H
          exact absurd H (by simp)
        ·
         rw [if_neg c10] at H
         exact absurd H (by simp)
       ·
        rw [if_neg c9] at H
        exact absurd H (by simp)
      ·
       rw [if_neg c7] at H
       have c7b0 : (t102 == 2) = false := zE c7
       have c7b1 : (t102 != 2) = true := zF c7
       by_cases c13 : x5_1.length < 5864062014805
       ·
        rw [if_pos c13] at H
        have LMc13 := zM c13
        clear c13
        obtain ⟨y110, hy110⟩ : ∃ y_ : List (S54), y_ = (x5_1 ++ [(⟨(rd_T54 l0 x9_1).f0, (rd_T54 l0 x9_1).f1⟩ : S54)]) := ⟨_, rfl⟩
        replace H : (aumbryref05_Put.l0 k1 l0 l1 y110 (l0.length : Int) (wrap64 (x9_1 + 1))) = some r := by first | (rw [hy110]; with_reducible exact H) | (have H2_ := (Option.bind_some _ _).symm.trans H; rw [hy110]; with_reducible exact H2_) | (have H2_ := (Option.bind_some _ _).symm.trans H; with_reducible exact H2_) | with_reducible exact H | (rw [hy110]; exact H) | exact H
        have Ny110 := zM hy110
        clear hy110
        have H' := zM H
        clear H
        have p101 : 0 ≤ (x9_1 : Int) := zT zv
        have q101 : x9_1 < (l0.length : Int) := zT zv
        obtain ⟨ad101, e101, hx101_0, hx101_1⟩ := at_T54 HR0.out x9_1 p101 q101
        cases e101
        replace hx101_0 := (HB.out.cell (World.block_lt_of_cell? w _ hx101_0)).trans hx101_0
        replace hx101_1 := (HB.out.cell (World.block_lt_of_cell? w _ hx101_1)).trans hx101_1
        replace p101 := eq_true p101
        replace q101 := eq_true q101
        go_wp2_with (first | ((with_reducible refine gate_callee (f := 45) rfl ?_); refine goesL_ (some 17) rfl rfl Try.func45 (by kernel_rfl) rfl #[.string ((rd_T54 l0 x9_1).f0)] rfl zl ?_; (with_reducible refine (aumbryref03_Kind.calls k1 ((rd_T54 l0 x9_1).f0) t102 _ A6.out).mono ?_); rintro e w' ⟨rfl, ⟨nd, rfl⟩⟩; refine ⟨_, rfl, ?_⟩; have p109 : 0 ≤ (x9_1 : Int) := zT zv; have q109 : x9_1 < (l0.length : Int) := zT zv; obtain ⟨ad109, e109, hx109_0, hx109_1⟩ := at_T54 HR0.out x9_1 p109 q109; obtain rfl : ad101 = ad109 := (by injection e109); replace hx109_0 := (HB.out.cell (World.block_lt_of_cell? w _ hx109_0)).trans hx109_0; replace hx109_1 := (HB.out.cell (World.block_lt_of_cell? w _ hx109_1)).trans hx109_1; replace p109 := eq_true p109; replace q109 := eq_true q109) | ((with_reducible refine gate_builtin (b := .append) (xs := #[.tmp 32, .tmp 37]) rfl ?_); at_builtin; refine Kd.R_append k54 (w0 := w) w.heap.size rfl (.tmp 32) (.tmp 37) 23 54 (.agg #[(.string ⟨#[]⟩), (.int .i64 0)]) 24 rfl Try.underlying23 info54 rfl (by decide) (by omega) u5 x5_1 (⟨(rd_T54 l0 x9_1).f0, (rd_T54 l0 x9_1).f1⟩ : S54) [.string ((rd_T54 l0 x9_1).f0), .int .i64 ((rd_T54 l0 x9_1).f1)] (fun _ => True) (fun _ => False) rfl rfl ?aP (fun _ hk => hk.elim) ?aF ?aO ?aB ?aS ?aL ?_; (case aP => exact k54_mkM _ _ _ (⟨(rd_T54 l0 x9_1).f0, (rd_T54 l0 x9_1).f1⟩ : S54)); (case aB => exact zb); (case aF => exact (fun _ _ => trivial)); (case aO => exact (zr HO_5.out)); (case aS => exact (below_size zb)); (case aL => have := LMc13.out; omega); intro v111 w14 ho hb hg hat; rw [← Ny110.out] at ho; replace HB := zM (hb); have HO112 := zM (ho); clear HO_5; clear ho hb hg hat))
        go_roundg k1
        case measure => have := HK1.out; omega
        case rel => exact ⟨(y110), (wrap64 (x9_1 + 1)), zy, H', ⟨by have := HK1.out; omega⟩, ⟨zr HO112.out⟩, ⟨zb⟩⟩
       ·
        rw [if_neg c13] at H
        exact absurd H (by simp)
     ·
      rw [if_neg c5] at H
      exact absurd H (by simp)
    ·
     rw [if_neg c4] at H
     exact absurd H (by simp)
   ·
    rw [if_neg c3] at H
    have c3b0 : decide (x9_1 < (l0.length : Int)) = false := zR c3
    clear c3
    obtain rfl := zS H
    go_wp2
    go_ret
    exact ⟨_, zw, zr HO_5.out, zb⟩


-- ==== PF26

/-! ### aumbryref07_Inner: function 26 -/
mutual
def aumbryref07_Inner.l0 : Nat → List (S73) → List (S54) → Int → Option ((List (S54)) × Int × Int)
 | 0, _, _, _ => none
 | k + 1, x0, x1, x2 => (aumbryref04_Kids.f k x1).bind fun t101 => (if 0 < (x1.length : Int) then (aumbryref07_Inner.l1 k x0 x2 t101 (([(⟨(rd_T54 x1 0).f0, (rd_T54 x1 0).f1⟩ : S54)] : List (S54))) (t101.length : Int) 0) else (none))
def aumbryref07_Inner.l1 : Nat → List (S73) → Int → List (List (S54)) → List (S54) → Int → Int → Option ((List (S54)) × Int × Int)
 | 0, _, _, _, _, _, _ => none
 | k + 1, x0, x2, x9, x10, x25, x26 => if x26 < x25 then (if 0 ≤ x26 then (if x26 < (x9.length : Int) then ((aumbryref07_Inner.f k x0 (rd_L3 x9 x26) x2).bind fun bt109 => (if bt109.2.2 = 0 then (if x10.length + bt109.1.length < 5864062014805 then (aumbryref07_Inner.l1 k x0 bt109.2.1 x9 (x10 ++ bt109.1) x25 (wrap64 (x26 + 1))) else (none)) else (some (([] : List (S54)), 0, bt109.2.2)))) else (none)) else (none)) else (if (x10.length : Int) > 64 then (some (([] : List (S54)), 0, 6)) else ((aumbryref07_First.f k x0 x10).bind fun bt117 => (if bt117.1 < 0 then (some (x10, x2, 0)) else (if x2 ≤ 0 then (some (([] : List (S54)), 0, 14)) else (if 0 ≤ bt117.1 then (if bt117.1 < (x0.length : Int) then ((aumbryref05_Var.f k ((rd_T73 x0 bt117.1).f2)).bind fun t122 => (if t122 = true then (if 0 < (((rd_T73 x0 bt117.1).f2).length : Int) then ((aumbryref05_At.f k bt117.2 ((rd_T54 ((rd_T73 x0 bt117.1).f2) 0).f0)).bind fun t124 => (if 0 ≤ t124 then (if t124 < (bt117.2.length : Int) then ((aumbryref04_Copy.f ((rd_T104 bt117.2 t124).f1)).bind fun t126 => (some (t126, wrap64 (x2 - 1), 0))) else (none)) else (none))) else (none)) else ((aumbryref05_Put.f k ((rd_T73 x0 bt117.1).f2) bt117.2).bind fun t129 => (if (t129.length : Int) > 4000 then (some (([] : List (S54)), 0, 6)) else (aumbryref07_Inner.l0 k x0 t129 (wrap64 (x2 - 1))))))) else (none)) else (none))))))
def aumbryref07_Inner.f : Nat → List (S73) → List (S54) → Int → Option ((List (S54)) × Int × Int)
 | 0, _, _, _ => none
 | k + 1, l0, l1, a2 => aumbryref07_Inner.l0 k l0 l1 a2
end
theorem aumbryref07_Inner.calls (k : Nat) : ∀ (A0 : Option Addr) (c0 : Nat) (l0 : List (S73)) (P1_ : Nat → Prop) (A1 : Option Addr) (c1 : Nat) (l1 : List (S54)) (a2 : Int) (r1 : List (S54)) (r2 : Int) (r3 : Int) (w : World) (hr0 : Kd.C k73 w A0 l0.length l0) (hc0 : l0.length ≤ c0) (hs1 : Kd.V k54 54 w w.heap.size (fun k_ => P1_ k_) (.slice A1 l1.length c1) l1) (h : aumbryref07_Inner.f k l0 l1 a2 = some (r1, r2, r3)),
 Calls Try.prog 26 #[.slice A0 l0.length c0, .slice A1 l1.length c1, .int .i64 a2] w fun e w' => ∃ v0_ : Value, e = .returned (.tuple #[v0_, .int .i64 r2, .int .i64 r3]) ∧ Kd.R k54 54 w' w.heap.size (fun k_ => (w.heap.size ≤ k_)) v0_ r1 ∧ Below w.heap.size w w' := by
 induction k using Nat.strongRecOn with
 | _ k ih =>
 intro A0 c0 l0 P1_ A1 c1 l1 a2 r1 r2 r3 w hr0 hc0 hs1 h
 cases k with
 | zero => exact absurd h (by simp [aumbryref07_Inner.f])
 | succ k =>
 simp only [aumbryref07_Inner.f] at h
 have hu54 := Try.underlying54
 have HR0 := zM hr0
 have HC0 := zM hc0
 clear hr0 hc0
 have HO1 := zM (show Kd.V k54 54 w w.heap.size (fun k_ => (P1_ k_ ∨ w.heap.size ≤ k_)) (.slice A1 l1.length c1) l1 from Kd.V_mono hs1 (fun k_ hk => .inl hk))
 have HB := zM (Below.refl w.heap.size w)
 have H : (aumbryref07_Inner.l0 k l0 l1 a2) = some (r1, r2, r3) := h
 clear h
 have H' := zM H
 clear H
 go_enter Try.func26, Try.ntmps26
 go_wp2
 go_loopg [1, 2] k (fun kq v1 v2 w' => ∃ (x1_1 : List (S54)) (x2_1 : Int), v2 = .int .i64 x2_1 ∧ Aside0 (aumbryref07_Inner.l0 kq l0 x1_1 x2_1 = some (r1, r2, r3)) ∧ Aside0 (kq ≤ k) ∧ Aside0 (Kd.V k54 54 w' w.heap.size (fun k_ => (P1_ k_ ∨ w.heap.size ≤ k_)) v1 x1_1) ∧ Aside0 (Below w.heap.size w w'))
 case atStart => exact ⟨(l1), (a2), zy, H', ⟨Nat.le_refl _⟩, ⟨Kd.V_below HO1.out zg⟩, ⟨zb⟩⟩
 case round =>
  clear H'
  try clear c1
  try clear c2
  try clear p2
  obtain ⟨x1_1, x2_1, rfl, HA, HK1, HO_1, HB⟩ := hrel
  cases gk with
  | zero => exact absurd HA.out (by simp [aumbryref07_Inner.l0])
  | succ k1 =>
   have H := HA.out
   clear HA
   simp only [aumbryref07_Inner.l0] at H
   replace H := zB H
   obtain ⟨t101, A40, H⟩ := H
   try dsimp only at H
   have A4 := zM A40
   clear A40
   by_cases c5 : 0 < (x1_1.length : Int)
   ·
    rw [if_pos c5] at H
    have c5b0 : decide (0 < (x1_1.length : Int)) = true := zQ c5
    have c5b1 : decide (0 < x1_1.length) = true := zQ (by omega)
    clear c5
    obtain ⟨y105, hy105⟩ : ∃ y_ : List (S54), y_ = (([(⟨(rd_T54 x1_1 0).f0, (rd_T54 x1_1 0).f1⟩ : S54)] : List (S54))) := ⟨_, rfl⟩
    replace H : (aumbryref07_Inner.l1 k1 l0 x2_1 t101 y105 (t101.length : Int) 0) = some (r1, r2, r3) := by first | (rw [hy105]; with_reducible exact H) | (have H2_ := (Option.bind_some _ _).symm.trans H; rw [hy105]; with_reducible exact H2_) | (have H2_ := (Option.bind_some _ _).symm.trans H; with_reducible exact H2_) | with_reducible exact H | (rw [hy105]; exact H) | exact H
    have Ny105 := zM hy105
    clear hy105
    have H' := zM H
    clear H
    obtain ⟨Ao6, co6, eo6⟩ := Kd.V_slice HO_1.out
    subst eo6
    go_wp2_with (first | ((with_reducible refine gate_callee (f := 54) rfl ?_); refine goesL_ (some 19) rfl rfl Try.func54 (by kernel_rfl) rfl #[.slice Ao6 x1_1.length co6] rfl zl ?_; (with_reducible refine (aumbryref04_Kids.calls k1 _ _ x1_1 t101 _ ?side1 ?side2 A4.out).mono ?_); (case side1 => exact Kd.C_below (Kd.V_reads' HO_1.out).2.2 zg); (case side2 => exact (Kd.V_reads' HO_1.out).2.1); rintro e w7 ⟨v102, rfl, ho0, hb⟩; refine ⟨_, rfl, ?_⟩; replace HO_1 := zM (Kd.V_elder' (Kd.V_below HO_1.out zg) (Kd.S_base ho0) hb); have HO103 := zM (Kd.S_lower (Kd.S_newM (M := fun k_ => (w.heap.size ≤ k_)) ho0 (below_size zb) (fun k_ h_ => h_)) (below_size zb)); replace HB := zM (below_step zb hb); (try clear hb); (try clear ho0); have p104 : 0 ≤ (0 : Int) := (by omega); have q104 : 0 < (x1_1.length : Int) := zT zv; obtain ⟨ad104, e104, hx104_0, hx104_1⟩ := at_T54 (Kd.V_reads' HO_1.out).2.2 0 p104 q104; cases e104; have qi104 : (0 < x1_1.length) = True := eq_true (by omega); (try rw [show ((0 : Int)).toNat = 0 from rfl] at hx104_0); (try rw [show 0 * 2 = 0 from rfl] at hx104_0); (try rw [Addr.add_zero'] at hx104_0); (try rw [show ((0 : Int)).toNat = 0 from rfl] at hx104_1); (try rw [show 0 * 2 = 0 from rfl] at hx104_1); (try rw [Addr.add_zero'] at hx104_1); replace p104 := eq_true p104; replace q104 := eq_true q104) | ((with_reducible refine gate_dst (N := 23) rfl ?_); refine Kd.R_lit k54 _ 54 ?hg (N := 23) ?hd (xs := ([(⟨(rd_T54 x1_1 0).f0, (rd_T54 x1_1 0).f1⟩ : S54)] : List (S54))) (inner := [.string ((rd_T54 x1_1 0).f0), .int .i64 ((rd_T54 x1_1 0).f1)]) (ok := fun _ => True) (okp := fun _ => True) ?hr ?hp (fun _ hk => hk) trivial (Below.refl _ _) (Nat.le_refl _) (by simp) ?_; (case hd => rfl); (case hg => rfl); (case hr => first | (go_simp; done) | (go_simp; rfl)); (case hp => exact (Reps.c2 (show Kd.M k54 _ _ _ (⟨(rd_T54 x1_1 0).f0, (rd_T54 x1_1 0).f1⟩ : S54) [.string ((rd_T54 x1_1 0).f0), .int .i64 ((rd_T54 x1_1 0).f1)] from (k54_mkM _ _ _ (⟨(rd_T54 x1_1 0).f0, (rd_T54 x1_1 0).f1⟩ : S54) )) (Reps.none _ _))); intro v106 w8 ho9 hb hg_ hnew_; clear hg_ hnew_; (first | rw [← Ny105.out] at ho9 | (simp only [Int.reduceToNat] at ho9; rw [← Ny105.out] at ho9)); replace HO_1 := zM (Kd.V_elder' (Kd.V_below HO_1.out zg) (Kd.R_base ho9) hb); replace HO103 := zM (Kd.S_elder' (Kd.S_below HO103.out zg) (Kd.R_base ho9) hb); have HO107 := zM (Kd.R_lower (Kd.R_newM (M := fun k_ => (w.heap.size ≤ k_)) ho9 (below_size zb) (fun k_ h_ => h_)) (below_size zb)); replace HB := zM (below_step zb hb); clear hb ho9; obtain ⟨Ao10, co10, eo10⟩ := Kd.S_slice HO103.out; subst eo10))
    go_loopg [2, 10, 26] k1 (fun kq v2 v10 v26 w' => ∃ (x2_2 : Int) (x10_2 : List (S54)) (x26_2 : Int), v2 = .int .i64 x2_2 ∧ v26 = .int .i64 x26_2 ∧ Aside0 (aumbryref07_Inner.l1 kq l0 x2_2 t101 x10_2 (t101.length : Int) x26_2 = some (r1, r2, r3)) ∧ Aside0 (kq ≤ k1) ∧ Aside0 (Kd.S (Kd.slice 54 k54) 23 w' w.heap.size (fun k_ => (w.heap.size ≤ k_) ∧ some k_ ≠ (v10 : Value).ownBlock) (.slice Ao10 t101.length co10) t101) ∧ Aside0 (Kd.R k54 54 w' w.heap.size (fun k_ => (w.heap.size ≤ k_)) v10 x10_2) ∧ Aside0 (Below w.heap.size w w'))
    case atStart => exact ⟨(x2_1), (y105), (0), zy, zy, H', ⟨Nat.le_refl _⟩, ⟨by (with_reducible repeat (first | apply Kd.S_alloc | apply Kd.S_drewN | apply Kd.S_drew)); exact Kd.S_mono HO103.out (fun _ hk => ⟨hk.1.1, hk.2⟩)⟩, ⟨by (with_reducible repeat (first | apply Kd.R_alloc | apply Kd.R_drewN | apply Kd.R_drew)); exact Kd.R_mono HO107.out (fun _ hk => hk.1)⟩, ⟨zb⟩⟩
    case round =>
     clear H'
     try clear c1
     try clear p1
     try clear q1
     try clear hx1
     try clear qi1
     try clear c2
     try clear p2
     try clear c5
     try clear c5b0
     try clear c5b1
     try clear p10
     try clear q10
     try clear hx10
     try clear qi10
     try clear hx104_0
     try clear hx104_1
     try clear p104
     try clear p2
     try clear q104
     obtain ⟨x2_2, x10_2, x26_2, rfl, rfl, HA, HK2, HO_9, HO_10, HB⟩ := hrel
     cases gk with
     | zero => exact absurd HA.out (by simp [aumbryref07_Inner.l1])
     | succ k2 =>
      have H := HA.out
      clear HA
      simp only [aumbryref07_Inner.l1] at H
      by_cases c11 : x26_2 < (t101.length : Int)
      ·
       rw [if_pos c11] at H
       have c11b0 : decide (x26_2 < (t101.length : Int)) = true := zQ c11
       clear c11
       by_cases c12 : 0 ≤ x26_2
       ·
        rw [if_pos c12] at H
        have c12b0 : decide (0 ≤ x26_2) = true := zQ c12
        clear c12
        by_cases c13 : x26_2 < (t101.length : Int)
        ·
         rw [if_pos c13] at H
         have c13b0 : decide (x26_2 < (t101.length : Int)) = true := zQ c13
         clear c13
         replace H := zB H
         obtain ⟨⟨t109, t112, t113⟩, A140, H⟩ := H
         try dsimp only at H
         have A14 := zM A140
         clear A140
         by_cases c15 : t113 = 0
         ·
          rw [if_pos c15] at H
          have c15b0 : (t113 == 0) = true := zG c15
          have c15b1 : (t113 != 0) = false := zH c15
          clear c15
          by_cases c16 : x10_2.length + t109.length < 5864062014805
          ·
           rw [if_pos c16] at H
           have LMc16 := zM c16
           clear c16
           obtain ⟨y114, hy114⟩ : ∃ y_ : List (S54), y_ = (x10_2 ++ t109) := ⟨_, rfl⟩
           replace H : (aumbryref07_Inner.l1 k2 l0 t112 t101 y114 (t101.length : Int) (wrap64 (x26_2 + 1))) = some (r1, r2, r3) := by first | (rw [hy114]; with_reducible exact H) | (have H2_ := (Option.bind_some _ _).symm.trans H; rw [hy114]; with_reducible exact H2_) | (have H2_ := (Option.bind_some _ _).symm.trans H; with_reducible exact H2_) | with_reducible exact H | (rw [hy114]; exact H) | exact H
           have Ny114 := zM hy114
           clear hy114
           have H' := zM H
           clear H
           have p108 : 0 ≤ (x26_2 : Int) := zT zv
           have q108 : x26_2 < (t101.length : Int) := zT zv
           obtain ⟨ad108, A108_0, c108_0, e108, hx108_0, hl108_0, hi108_0⟩ := at_L3 (Kd.S_reads' HO_9.out).2.2 x26_2 p108 q108
           cases e108
           obtain ⟨ce108, hce108, hMe108, hcc108⟩ := Kd.S_get HO_9.out [] x26_2 p108 (by first | exact q108 | exact zT zv | (have e_ := (Kd.S_reads' HO_9.out).1; omega))
           obtain ⟨ve108_0, rfl, ge108_0⟩ := hMe108
           have hv108_0 := hcc108 0 _ rfl
           rw [Nat.add_zero, show ((Kd.slice 54 k54)).sz = 1 from rfl, Nat.mul_one] at hv108_0
           replace hv108_0 := zS (hv108_0.symm.trans hx108_0)
           rw [hv108_0] at ge108_0
           have HL108_0 := zM (show Kd.R k54 54 _ _ _ _ (rd_L3 t101 x26_2) from ge108_0)
           clear hv108_0 ge108_0
           clear hcc108 hce108
           have HR108_0 := zM hi108_0
           have HC108_0 := zM hl108_0
           clear hi108_0 hl108_0
           replace p108 := eq_true p108
           replace q108 := eq_true q108
           go_wp2_with (first | ((with_reducible refine gate_callee (f := 26) rfl ?_); refine goesL_ (some 36) rfl rfl Try.func26 (by kernel_rfl) rfl #[.slice A0 l0.length c0, .slice A108_0 (rd_L3 t101 x26_2).length c108_0, .int .i64 x2_2] rfl zl ?_; (with_reducible refine (ih k2 (by have := HK1.out; have := HK2.out; omega) _ _ l0 (fun k_ => some k_ = (.slice A108_0 (rd_L3 t101 x26_2).length c108_0 : Value).ownBlock) _ _ (rd_L3 t101 x26_2) x2_2 t109 t112 t113 _ ?side1 ?side2 ?side3 A14.out).mono ?_); (case side1 => exact Kd.C_below HR0.out zb); (case side2 => exact HC0.out); (case side3 => exact Kd.R_V (Kd.R_tight rfl (HL108_0.out))); rintro e w17 ⟨v110, rfl, ho0, hb⟩; refine ⟨_, rfl, ?_⟩; replace HO_9 := zM (Kd.S_elder' (Kd.S_below HO_9.out zg) (Kd.R_base ho0) hb); have HO111 := zM (Kd.R_lower (Kd.R_new' (Kd.R_new' (Kd.R_newM (M := fun k_ => (w.heap.size ≤ k_)) (Kd.R_mono (ok' := fun k_ => True) ho0 (fun _ hk_ => trivial)) (below_size zb) (fun k_ h_ => h_)) (Kd.R_lt (zr HO_10.out))) (Kd.R_lt (zr HL108_0.out))) (below_size zb)); replace HO_10 := zM (Kd.R_elder' (zr HO_10.out) (Kd.R_base ho0) hb); replace HL108_0 := zM (Kd.R_elder' (zr HL108_0.out) (Kd.R_base ho0) hb); replace HR108_0 := zM (Kd.C_below (by repeat (first | (with_reducible exact HR108_0.out) | (with_reducible first | refine Kd.C_alloc ?_ _ | refine Kd.C_drewN ?_ _ | refine Kd.C_drew ?_) | exact HR108_0.out)) hb); replace HB := zM (below_step zb hb); (try clear hb); (try clear ho0); obtain ⟨Ao19, co19, eo19⟩ := Kd.R_slice HO111.out; subst eo19) | ((with_reducible refine gate_builtin (b := .append) (xs := #[.tmp 44, .tmp 45]) rfl ?_); at_builtin; refine Kd.R_append_rows k54 (w0 := w) w.heap.size rfl (.tmp 44) (.tmp 45) 23 54 (.agg #[(.string ⟨#[]⟩), (.int .i64 0)]) 24 rfl Try.underlying23 info54 rfl (by decide) (by omega) u10 x10_2 t109 _ _ _ (fun k_ => (w.heap.size ≤ k_) ∧ some k_ ≠ (.slice Ao19 t109.length co19 : Value).ownBlock) (fun _ => False) rfl rfl ?aO ?aR (fun _ _ h => h) (fun _ h => h.elim) ?aF ?aB ?aS ?aL ?_; (case aR => exact Kd.C_below (Kd.R_reads' HO111.out).2.2 zg); (case aB => exact zb); (case aF => exact (fun k_ hk => ⟨(Nat.le_trans (below_size zb) hk), Kd.fresh' (Kd.R_lt (zr HO111.out)) k_ hk⟩)); (case aO => exact (zr HO_10.out)); (case aS => exact (below_size zb)); (case aL => have := LMc16.out; omega); intro v115 w18 ho hb hg hat; rw [← Ny114.out] at ho; replace HO_9 := zM (Kd.S_after (ok := (fun k_ => (w.heap.size ≤ k_) ∧ some k_ ≠ (.slice Ao19 t109.length co19 : Value).ownBlock)) (by (with_reducible repeat (first | apply Kd.S_alloc | apply Kd.S_drewN | apply Kd.S_drew)); exact Kd.S_mono HO_9.out (fun _ hk => ⟨⟨hk.1.1, hk.2⟩, hk.1.2⟩)) hg hat); replace HL108_0 := zM (Kd.R_after (ok := (fun k_ => (w.heap.size ≤ k_) ∧ some k_ ≠ (.slice (some ad108) t101.length co10 : Value).ownBlock ∧ some k_ ≠ (.slice Ao19 t109.length co19 : Value).ownBlock)) (by (with_reducible repeat (first | apply Kd.R_alloc | apply Kd.R_drewN | apply Kd.R_drew)); exact Kd.R_mono HL108_0.out (fun _ hk => ⟨⟨hk.1.1.1, ⟨hk.1.2, hk.2⟩⟩, hk.1.1.2⟩)) hg hat); replace HO111 := zM (Kd.R_after (ok := (fun k_ => (w.heap.size ≤ k_) ∧ some k_ ≠ (.slice A108_0 (rd_L3 t101 x26_2).length c108_0 : Value).ownBlock)) (by (with_reducible repeat (first | apply Kd.R_alloc | apply Kd.R_drewN | apply Kd.R_drew)); exact Kd.R_mono HO111.out (fun _ hk => ⟨⟨hk.1.1.1, hk.2⟩, hk.1.2⟩)) hg hat); replace HB := zM (hb); have HO116 := zM (ho); clear HO_10; clear ho hb hg hat))
           go_roundg k2
           case measure => have := HK1.out; have := HK2.out; omega
           case rel => exact ⟨(t112), (y114), (wrap64 (x26_2 + 1)), zy, zy, H', ⟨by have := HK1.out; have := HK2.out; omega⟩, ⟨by (with_reducible repeat (first | apply Kd.S_alloc | apply Kd.S_drewN | apply Kd.S_drew)); exact Kd.S_mono HO_9.out (fun _ hk => ⟨hk.1.1, hk.2⟩)⟩, ⟨by (with_reducible repeat (first | apply Kd.R_alloc | apply Kd.R_drewN | apply Kd.R_drew)); exact Kd.R_mono HO116.out (fun _ hk => hk.1)⟩, ⟨zb⟩⟩
          ·
           rw [if_neg c16] at H
           exact absurd H (by simp)
         ·
          rw [if_neg c15] at H
          have c15b0 : (t113 == 0) = false := zE c15
          have c15b1 : (t113 != 0) = true := zF c15
          simp only [Option.some.injEq, Prod.mk.injEq] at H
          obtain ⟨rfl, rfl, rfl⟩ := H
          have p108 : 0 ≤ (x26_2 : Int) := zT zv
          have q108 : x26_2 < (t101.length : Int) := zT zv
          obtain ⟨ad108, A108_0, c108_0, e108, hx108_0, hl108_0, hi108_0⟩ := at_L3 (Kd.S_reads' HO_9.out).2.2 x26_2 p108 q108
          cases e108
          obtain ⟨ce108, hce108, hMe108, hcc108⟩ := Kd.S_get HO_9.out [] x26_2 p108 (by first | exact q108 | exact zT zv | (have e_ := (Kd.S_reads' HO_9.out).1; omega))
          obtain ⟨ve108_0, rfl, ge108_0⟩ := hMe108
          have hv108_0 := hcc108 0 _ rfl
          rw [Nat.add_zero, show ((Kd.slice 54 k54)).sz = 1 from rfl, Nat.mul_one] at hv108_0
          replace hv108_0 := zS (hv108_0.symm.trans hx108_0)
          rw [hv108_0] at ge108_0
          have HL108_0 := zM (show Kd.R k54 54 _ _ _ _ (rd_L3 t101 x26_2) from ge108_0)
          clear hv108_0 ge108_0
          clear hcc108 hce108
          have HR108_0 := zM hi108_0
          have HC108_0 := zM hl108_0
          clear hi108_0 hl108_0
          replace p108 := eq_true p108
          replace q108 := eq_true q108
          go_wp2_with (first | ((with_reducible refine gate_callee (f := 26) rfl ?_); refine goesL_ (some 36) rfl rfl Try.func26 (by kernel_rfl) rfl #[.slice A0 l0.length c0, .slice A108_0 (rd_L3 t101 x26_2).length c108_0, .int .i64 x2_2] rfl zl ?_; (with_reducible refine (ih k2 (by have := HK1.out; have := HK2.out; omega) _ _ l0 (fun k_ => some k_ = (.slice A108_0 (rd_L3 t101 x26_2).length c108_0 : Value).ownBlock) _ _ (rd_L3 t101 x26_2) x2_2 t109 t112 t113 _ ?side1 ?side2 ?side3 A14.out).mono ?_); (case side1 => exact Kd.C_below HR0.out zb); (case side2 => exact HC0.out); (case side3 => exact Kd.R_V (Kd.R_tight rfl (HL108_0.out))); rintro e w20 ⟨v110, rfl, ho0, hb⟩; refine ⟨_, rfl, ?_⟩; replace HO_9 := zM (Kd.S_elder' (Kd.S_below HO_9.out zg) (Kd.R_base ho0) hb); have HO111 := zM (Kd.R_lower (Kd.R_new' (Kd.R_new' (Kd.R_newM (M := fun k_ => (w.heap.size ≤ k_)) (Kd.R_mono (ok' := fun k_ => True) ho0 (fun _ hk_ => trivial)) (below_size zb) (fun k_ h_ => h_)) (Kd.R_lt (zr HO_10.out))) (Kd.R_lt (zr HL108_0.out))) (below_size zb)); replace HO_10 := zM (Kd.R_elder' (zr HO_10.out) (Kd.R_base ho0) hb); replace HL108_0 := zM (Kd.R_elder' (zr HL108_0.out) (Kd.R_base ho0) hb); replace HR108_0 := zM (Kd.C_below (by repeat (first | (with_reducible exact HR108_0.out) | (with_reducible first | refine Kd.C_alloc ?_ _ | refine Kd.C_drewN ?_ _ | refine Kd.C_drew ?_) | exact HR108_0.out)) hb); replace HB := zM (below_step zb hb); (try clear hb); (try clear ho0)))
          go_ret3
          exact ⟨_, zw, by first | exact Kd.R_nil _ _ _ _ _ | exact Kd.N_nil _ _ _ _ _ | exact Kd.V_nil _ _ _ _ _ | exact Kd.Q_nil _ _ _ _ _ | exact Kd.S_nil _ _ _ _ _, zb⟩
        ·
         rw [if_neg c13] at H
         exact absurd H (by simp)
       ·
        rw [if_neg c12] at H
        exact absurd H (by simp)
      ·
       rw [if_neg c11] at H
       have c11b0 : decide (x26_2 < (t101.length : Int)) = false := zR c11
       clear c11
       by_cases c21 : (x10_2.length : Int) > 64
       ·
        rw [if_pos c21] at H
        have c21b0 : decide (64 < (x10_2.length : Int)) = true := zQ c21
        have c21b1 : decide (64 < x10_2.length) = true := zQ (by omega)
        clear c21
        simp only [Option.some.injEq, Prod.mk.injEq] at H
        obtain ⟨rfl, rfl, rfl⟩ := H
        obtain ⟨Ao22, co22, eo22⟩ := Kd.R_slice HO_10.out
        subst eo22
        go_wp2
        go_ret3
        exact ⟨_, zw, by first | exact Kd.R_nil _ _ _ _ _ | exact Kd.N_nil _ _ _ _ _ | exact Kd.V_nil _ _ _ _ _ | exact Kd.Q_nil _ _ _ _ _ | exact Kd.S_nil _ _ _ _ _, zb⟩
       ·
        rw [if_neg c21] at H
        have c21b0 : decide (64 < (x10_2.length : Int)) = false := zR c21
        have c21b1 : decide (64 < x10_2.length) = false := zR (by omega)
        clear c21
        replace H := zB H
        obtain ⟨⟨t117, t118⟩, A230, H⟩ := H
        try dsimp only at H
        have A23 := zM A230
        clear A230
        by_cases c24 : t117 < 0
        ·
         rw [if_pos c24] at H
         have c24b0 : decide (t117 < 0) = true := zQ c24
         clear c24
         simp only [Option.some.injEq, Prod.mk.injEq] at H
         obtain ⟨rfl, rfl, rfl⟩ := H
         obtain ⟨Ao25, co25, eo25⟩ := Kd.R_slice HO_10.out
         subst eo25
         go_wp2_with (first | ((with_reducible refine gate_callee (f := 55) rfl ?_); refine goesL_ (some 54) rfl rfl Try.func55 (by kernel_rfl) rfl #[.slice A0 l0.length c0, .slice Ao25 x10_2.length co25] rfl zl ?_; (with_reducible refine (aumbryref07_First.calls k2 _ _ l0 _ _ x10_2 t117 t118 _ ?side1 ?side2 ?side3 ?side4 A23.out).mono ?_); (case side1 => exact Kd.C_below HR0.out zb); (case side2 => exact HC0.out); (case side3 => exact Kd.C_below (Kd.R_reads' HO_10.out).2.2 zg); (case side4 => exact (Kd.R_reads' HO_10.out).2.1); rintro e w26 ⟨v119, rfl, ho0, hb⟩; refine ⟨_, rfl, ?_⟩; replace HO_9 := zM (Kd.S_below (Kd.S_below HO_9.out zg) hb); have HO120 := zM (Kd.S_lower (Kd.S_new' (Kd.S_newM (M := fun k_ => (w.heap.size ≤ k_)) ho0 (below_size zb) (fun k_ h_ => h_)) (Kd.R_lt (zr HO_10.out))) (below_size zb)); replace HO_10 := zM (Kd.R_below (zr HO_10.out) hb); replace HB := zM (below_step zb hb); (try clear hb); (try clear ho0)))
         go_ret3
         exact ⟨_, zw, zr HO_10.out, zb⟩
        ·
         rw [if_neg c24] at H
         have c24b0 : decide (t117 < 0) = false := zR c24
         clear c24
         by_cases c27 : x2_2 ≤ 0
         ·
          rw [if_pos c27] at H
          have c27b0 : decide (x2_2 ≤ 0) = true := zQ c27
          clear c27
          simp only [Option.some.injEq, Prod.mk.injEq] at H
          obtain ⟨rfl, rfl, rfl⟩ := H
          obtain ⟨Ao28, co28, eo28⟩ := Kd.R_slice HO_10.out
          subst eo28
          go_wp2_with (first | ((with_reducible refine gate_callee (f := 55) rfl ?_); refine goesL_ (some 54) rfl rfl Try.func55 (by kernel_rfl) rfl #[.slice A0 l0.length c0, .slice Ao28 x10_2.length co28] rfl zl ?_; (with_reducible refine (aumbryref07_First.calls k2 _ _ l0 _ _ x10_2 t117 t118 _ ?side1 ?side2 ?side3 ?side4 A23.out).mono ?_); (case side1 => exact Kd.C_below HR0.out zb); (case side2 => exact HC0.out); (case side3 => exact Kd.C_below (Kd.R_reads' HO_10.out).2.2 zg); (case side4 => exact (Kd.R_reads' HO_10.out).2.1); rintro e w29 ⟨v119, rfl, ho0, hb⟩; refine ⟨_, rfl, ?_⟩; replace HO_9 := zM (Kd.S_below (Kd.S_below HO_9.out zg) hb); have HO120 := zM (Kd.S_lower (Kd.S_new' (Kd.S_newM (M := fun k_ => (w.heap.size ≤ k_)) ho0 (below_size zb) (fun k_ h_ => h_)) (Kd.R_lt (zr HO_10.out))) (below_size zb)); replace HO_10 := zM (Kd.R_below (zr HO_10.out) hb); replace HB := zM (below_step zb hb); (try clear hb); (try clear ho0)))
          go_ret3
          exact ⟨_, zw, by first | exact Kd.R_nil _ _ _ _ _ | exact Kd.N_nil _ _ _ _ _ | exact Kd.V_nil _ _ _ _ _ | exact Kd.Q_nil _ _ _ _ _ | exact Kd.S_nil _ _ _ _ _, zb⟩
         ·
          rw [if_neg c27] at H
          have c27b0 : decide (x2_2 ≤ 0) = false := zR c27
          clear c27
          by_cases c30 : 0 ≤ t117
          ·
           rw [if_pos c30] at H
           have c30b0 : decide (0 ≤ t117) = true := zQ c30
           clear c30
           by_cases c31 : t117 < (l0.length : Int)
           ·
            rw [if_pos c31] at H
            have c31b0 : decide (t117 < (l0.length : Int)) = true := zQ c31
            clear c31
            replace H := zB H
            obtain ⟨t122, A320, H⟩ := H
            try dsimp only at H
            have A32 := zM A320
            clear A320
            by_cases c33 : t122 = true
            ·
             subst c33
             rw [if_pos rfl] at H
             by_cases c34 : 0 < (((rd_T73 l0 t117).f2).length : Int)
             ·
              rw [if_pos c34] at H
              have c34b0 : decide (0 < (((rd_T73 l0 t117).f2).length : Int)) = true := zQ c34
              have c34b1 : decide (0 < ((rd_T73 l0 t117).f2).length) = true := zQ (by omega)
              clear c34
              replace H := zB H
              obtain ⟨t124, A350, H⟩ := H
              try dsimp only at H
              have A35 := zM A350
              clear A350
              by_cases c36 : 0 ≤ t124
              ·
               rw [if_pos c36] at H
               have c36b0 : decide (0 ≤ t124) = true := zQ c36
               clear c36
               by_cases c37 : t124 < (t118.length : Int)
               ·
                rw [if_pos c37] at H
                have c37b0 : decide (t124 < (t118.length : Int)) = true := zQ c37
                clear c37
                replace H := zB H
                obtain ⟨t126, A380, H⟩ := H
                try dsimp only at H
                have A38 := zM A380
                clear A380
                simp only [Option.some.injEq, Prod.mk.injEq] at H
                obtain ⟨rfl, rfl, rfl⟩ := H
                obtain ⟨Ao39, co39, eo39⟩ := Kd.R_slice HO_10.out
                subst eo39
                go_wp2_with (first | ((with_reducible refine gate_callee (f := 55) rfl ?_); refine goesL_ (some 54) rfl rfl Try.func55 (by kernel_rfl) rfl #[.slice A0 l0.length c0, .slice Ao39 x10_2.length co39] rfl zl ?_; (with_reducible refine (aumbryref07_First.calls k2 _ _ l0 _ _ x10_2 t117 t118 _ ?side1 ?side2 ?side3 ?side4 A23.out).mono ?_); (case side1 => exact Kd.C_below HR0.out zb); (case side2 => exact HC0.out); (case side3 => exact Kd.C_below (Kd.R_reads' HO_10.out).2.2 zg); (case side4 => exact (Kd.R_reads' HO_10.out).2.1); rintro e w40 ⟨v119, rfl, ho0, hb⟩; refine ⟨_, rfl, ?_⟩; replace HO_9 := zM (Kd.S_below (Kd.S_below HO_9.out zg) hb); have HO120 := zM (Kd.S_lower (Kd.S_new' (Kd.S_newM (M := fun k_ => (w.heap.size ≤ k_)) ho0 (below_size zb) (fun k_ h_ => h_)) (Kd.R_lt (zr HO_10.out))) (below_size zb)); replace HO_10 := zM (Kd.R_below (zr HO_10.out) hb); replace HB := zM (below_step zb hb); (try clear hb); (try clear ho0); have p121 : 0 ≤ (t117 : Int) := zT zv; have q121 : t117 < (l0.length : Int) := zT zv; obtain ⟨ad121, A121_1, c121_1, A121_2, c121_2, e121, hx121_0, hx121_1, hx121_2, hl121_1, hi121_1, hl121_2, hi121_2⟩ := at_T73 HR0.out t117 p121 q121; cases e121; replace hx121_0 := (HB.out.cell (World.block_lt_of_cell? w _ hx121_0)).trans hx121_0; replace hx121_1 := (HB.out.cell (World.block_lt_of_cell? w _ hx121_1)).trans hx121_1; replace hx121_2 := (HB.out.cell (World.block_lt_of_cell? w _ hx121_2)).trans hx121_2; have HR121_1 := zM hi121_1; have HC121_1 := zM hl121_1; clear hi121_1 hl121_1; have HR121_2 := zM hi121_2; have HC121_2 := zM hl121_2; clear hi121_2 hl121_2; replace p121 := eq_true p121; replace q121 := eq_true q121) | ((with_reducible refine gate_callee (f := 56) rfl ?_); refine goesL_ (some 71) rfl rfl Try.func56 (by kernel_rfl) rfl #[.slice A121_2 ((rd_T73 l0 t117).f2).length c121_2] rfl zl ?_; (with_reducible refine (aumbryref05_Var.calls k2 _ _ ((rd_T73 l0 t117).f2) true _ ?side1 ?side2 A32.out).mono ?_); (case side1 => exact Kd.C_below HR121_2.out zb); (case side2 => exact HC121_2.out); rintro e w' ⟨rfl, ⟨nd, rfl⟩⟩; refine ⟨_, rfl, ?_⟩; have p123 : 0 ≤ (0 : Int) := (by omega); have q123 : 0 < (((rd_T73 l0 t117).f2).length : Int) := zT zv; obtain ⟨ad123, e123, hx123_0, hx123_1⟩ := at_T54 HR121_2.out 0 p123 q123; cases e123; have qi123 : (0 < ((rd_T73 l0 t117).f2).length) = True := eq_true (by omega); (try rw [show ((0 : Int)).toNat = 0 from rfl] at hx123_0); (try rw [show 0 * 2 = 0 from rfl] at hx123_0); (try rw [Addr.add_zero'] at hx123_0); (try rw [show ((0 : Int)).toNat = 0 from rfl] at hx123_1); (try rw [show 0 * 2 = 0 from rfl] at hx123_1); (try rw [Addr.add_zero'] at hx123_1); replace hx123_0 := (HB.out.cell (World.block_lt_of_cell? w _ hx123_0)).trans hx123_0; replace hx123_1 := (HB.out.cell (World.block_lt_of_cell? w _ hx123_1)).trans hx123_1; replace p123 := eq_true p123; replace q123 := eq_true q123; obtain ⟨Ao41, co41, eo41⟩ := Kd.S_slice HO120.out; subst eo41) | ((with_reducible refine gate_callee (f := 57) rfl ?_); refine goesL_ (some 78) rfl rfl Try.func57 (by kernel_rfl) rfl #[.slice Ao41 t118.length co41, .string ((rd_T54 ((rd_T73 l0 t117).f2) 0).f0)] rfl zl ?_; (with_reducible refine (aumbryref05_At.calls k2 _ _ t118 ((rd_T54 ((rd_T73 l0 t117).f2) 0).f0) t124 _ ?side1 ?side2 A35.out).mono ?_); (case side1 => exact Kd.C_below (Kd.S_reads' HO120.out).2.2 zg); (case side2 => exact (Kd.S_reads' HO120.out).2.1); rintro e w' ⟨rfl, ⟨nd, rfl⟩⟩; refine ⟨_, rfl, ?_⟩; have p125 : 0 ≤ (t124 : Int) := zT zv; have q125 : t124 < (t118.length : Int) := zT zv; obtain ⟨ad125, A125_1, c125_1, e125, hx125_0, hx125_1, hl125_1, hi125_1⟩ := at_T104 (Kd.S_reads' HO120.out).2.2 t124 p125 q125; cases e125; obtain ⟨ce125, hce125, hMe125, hcc125⟩ := Kd.S_get HO120.out z104 t124 p125 (by first | exact q125 | exact zT zv | (have e_ := (Kd.S_reads' HO120.out).1; omega)); obtain ⟨ve125_1, rfl, ge125_1⟩ := k104_openM hMe125; have hv125_1 := hcc125 1 _ rfl; rw [add_field _ _ 1 (by omega)] at hv125_1; replace hv125_1 := zS (hv125_1.symm.trans hx125_1); rw [hv125_1] at ge125_1; have HL125_1 := zM (show Kd.R k54 54 _ _ _ _ ((rd_T104 t118 t124).f1) from ge125_1); clear hv125_1 ge125_1; clear hcc125 hce125; have HR125_1 := zM hi125_1; have HC125_1 := zM hl125_1; clear hi125_1 hl125_1; replace p125 := eq_true p125; replace q125 := eq_true q125) | ((with_reducible refine gate_callee (f := 13) rfl ?_); refine goesL_ (some 82) rfl rfl Try.func13 (by kernel_rfl) rfl #[.slice A125_1 ((rd_T104 t118 t124).f1).length c125_1] rfl zl ?_; (with_reducible refine (aumbryref04_Copy.calls _ _ ((rd_T104 t118 t124).f1) t126 _ ?side1 ?side2 A38.out).mono ?_); (case side1 => repeat (first | exact (by repeat (first | (with_reducible exact HR125_1.out) | (with_reducible first | refine Kd.C_alloc ?_ _ | refine Kd.C_drewN ?_ _ | refine Kd.C_drew ?_) | exact HR125_1.out)) | (with_reducible first | refine Kd.C_alloc ?_ _ | refine Kd.C_drewN ?_ _ | refine Kd.C_drew ?_))); (case side2 => exact HC125_1.out); rintro e w42 ⟨v127, rfl, ho0, hb⟩; refine ⟨_, rfl, ?_⟩; replace HO_9 := zM (Kd.S_elder' (Kd.S_below HO_9.out zg) (Kd.R_base ho0) hb); replace HO120 := zM (Kd.S_elder' (Kd.S_below HO120.out zg) (Kd.R_base ho0) hb); have HO128 := zM (Kd.R_lower (Kd.R_new' (Kd.R_new' (Kd.R_newM (M := fun k_ => (w.heap.size ≤ k_)) ho0 (below_size zb) (fun k_ h_ => h_)) (Kd.R_lt (zr HO_10.out))) (Kd.R_lt (zr HL125_1.out))) (below_size zb)); replace HO_10 := zM (Kd.R_elder' (zr HO_10.out) (Kd.R_base ho0) hb); replace HL125_1 := zM (Kd.R_elder' (zr HL125_1.out) (Kd.R_base ho0) hb); replace HR125_1 := zM (Kd.C_below (by repeat (first | (with_reducible exact HR125_1.out) | (with_reducible first | refine Kd.C_alloc ?_ _ | refine Kd.C_drewN ?_ _ | refine Kd.C_drew ?_) | exact HR125_1.out)) hb); replace HB := zM (below_step zb hb); (try clear hb); (try clear ho0)))
                go_ret3
                exact ⟨_, zw, by (with_reducible repeat (first | apply Kd.R_alloc | apply Kd.R_drewN | apply Kd.R_drew)); exact Kd.R_mono HO128.out (fun _ hk => hk.1.1.1), zb⟩
               ·
                rw [if_neg c37] at H
                exact absurd H (by simp)
              ·
               rw [if_neg c36] at H
               exact absurd H (by simp)
             ·
              rw [if_neg c34] at H
              exact absurd H (by simp)
            ·
             replace c33 := zI c33
             subst c33
             rw [if_neg (show ¬ (false = true) by decide)] at H
             replace H := zB H
             obtain ⟨t129, A430, H⟩ := H
             try dsimp only at H
             have A43 := zM A430
             clear A430
             by_cases c44 : (t129.length : Int) > 4000
             ·
              rw [if_pos c44] at H
              have c44b0 : decide (4000 < (t129.length : Int)) = true := zQ c44
              have c44b1 : decide (4000 < t129.length) = true := zQ (by omega)
              clear c44
              simp only [Option.some.injEq, Prod.mk.injEq] at H
              obtain ⟨rfl, rfl, rfl⟩ := H
              obtain ⟨Ao45, co45, eo45⟩ := Kd.R_slice HO_10.out
              subst eo45
              go_wp2_with (first | ((with_reducible refine gate_callee (f := 55) rfl ?_); refine goesL_ (some 54) rfl rfl Try.func55 (by kernel_rfl) rfl #[.slice A0 l0.length c0, .slice Ao45 x10_2.length co45] rfl zl ?_; (with_reducible refine (aumbryref07_First.calls k2 _ _ l0 _ _ x10_2 t117 t118 _ ?side1 ?side2 ?side3 ?side4 A23.out).mono ?_); (case side1 => exact Kd.C_below HR0.out zb); (case side2 => exact HC0.out); (case side3 => exact Kd.C_below (Kd.R_reads' HO_10.out).2.2 zg); (case side4 => exact (Kd.R_reads' HO_10.out).2.1); rintro e w46 ⟨v119, rfl, ho0, hb⟩; refine ⟨_, rfl, ?_⟩; replace HO_9 := zM (Kd.S_below (Kd.S_below HO_9.out zg) hb); have HO120 := zM (Kd.S_lower (Kd.S_new' (Kd.S_newM (M := fun k_ => (w.heap.size ≤ k_)) ho0 (below_size zb) (fun k_ h_ => h_)) (Kd.R_lt (zr HO_10.out))) (below_size zb)); replace HO_10 := zM (Kd.R_below (zr HO_10.out) hb); replace HB := zM (below_step zb hb); (try clear hb); (try clear ho0); have p121 : 0 ≤ (t117 : Int) := zT zv; have q121 : t117 < (l0.length : Int) := zT zv; obtain ⟨ad121, A121_1, c121_1, A121_2, c121_2, e121, hx121_0, hx121_1, hx121_2, hl121_1, hi121_1, hl121_2, hi121_2⟩ := at_T73 HR0.out t117 p121 q121; cases e121; replace hx121_0 := (HB.out.cell (World.block_lt_of_cell? w _ hx121_0)).trans hx121_0; replace hx121_1 := (HB.out.cell (World.block_lt_of_cell? w _ hx121_1)).trans hx121_1; replace hx121_2 := (HB.out.cell (World.block_lt_of_cell? w _ hx121_2)).trans hx121_2; have HR121_1 := zM hi121_1; have HC121_1 := zM hl121_1; clear hi121_1 hl121_1; have HR121_2 := zM hi121_2; have HC121_2 := zM hl121_2; clear hi121_2 hl121_2; replace p121 := eq_true p121; replace q121 := eq_true q121) | ((with_reducible refine gate_callee (f := 56) rfl ?_); refine goesL_ (some 71) rfl rfl Try.func56 (by kernel_rfl) rfl #[.slice A121_2 ((rd_T73 l0 t117).f2).length c121_2] rfl zl ?_; (with_reducible refine (aumbryref05_Var.calls k2 _ _ ((rd_T73 l0 t117).f2) false _ ?side1 ?side2 A32.out).mono ?_); (case side1 => exact Kd.C_below HR121_2.out zb); (case side2 => exact HC121_2.out); rintro e w' ⟨rfl, ⟨nd, rfl⟩⟩; refine ⟨_, rfl, ?_⟩; obtain ⟨Ao47, co47, eo47⟩ := Kd.S_slice HO120.out; subst eo47) | ((with_reducible refine gate_callee (f := 58) rfl ?_); refine goesL_ (some 86) rfl rfl Try.func58 (by kernel_rfl) rfl #[.slice A121_2 ((rd_T73 l0 t117).f2).length c121_2, .slice Ao47 t118.length co47] rfl zl ?_; (with_reducible refine (aumbryref05_Put.calls k2 _ _ ((rd_T73 l0 t117).f2) _ _ t118 t129 _ ?side1 ?side2 ?side3 ?side4 A43.out).mono ?_); (case side1 => exact Kd.C_below (Kd.C_below HR121_2.out zb) zg); (case side2 => exact HC121_2.out); (case side3 => exact Kd.C_below (Kd.S_reads' HO120.out).2.2 zg); (case side4 => exact (Kd.S_reads' HO120.out).2.1); rintro e w48 ⟨v130, rfl, ho0, hb⟩; refine ⟨_, rfl, ?_⟩; replace HO_9 := zM (Kd.S_elder' (Kd.S_below HO_9.out zg) (Kd.R_base ho0) hb); replace HO120 := zM (Kd.S_elder' (Kd.S_below HO120.out zg) (Kd.R_base ho0) hb); have HO131 := zM (Kd.R_lower (Kd.R_new' (Kd.R_newM (M := fun k_ => (w.heap.size ≤ k_)) ho0 (below_size zb) (fun k_ h_ => h_)) (Kd.R_lt (zr HO_10.out))) (below_size zb)); replace HO_10 := zM (Kd.R_elder' (zr HO_10.out) (Kd.R_base ho0) hb); replace HB := zM (below_step zb hb); (try clear hb); (try clear ho0); obtain ⟨Ao49, co49, eo49⟩ := Kd.R_slice HO131.out; subst eo49))
              go_ret3
              exact ⟨_, zw, by first | exact Kd.R_nil _ _ _ _ _ | exact Kd.N_nil _ _ _ _ _ | exact Kd.V_nil _ _ _ _ _ | exact Kd.Q_nil _ _ _ _ _ | exact Kd.S_nil _ _ _ _ _, zb⟩
             ·
              rw [if_neg c44] at H
              have c44b0 : decide (4000 < (t129.length : Int)) = false := zR c44
              have c44b1 : decide (4000 < t129.length) = false := zR (by omega)
              clear c44
              have H' := zM H
              clear H
              obtain ⟨Ao50, co50, eo50⟩ := Kd.R_slice HO_10.out
              subst eo50
              go_wp2_with (first | ((with_reducible refine gate_callee (f := 55) rfl ?_); refine goesL_ (some 54) rfl rfl Try.func55 (by kernel_rfl) rfl #[.slice A0 l0.length c0, .slice Ao50 x10_2.length co50] rfl zl ?_; (with_reducible refine (aumbryref07_First.calls k2 _ _ l0 _ _ x10_2 t117 t118 _ ?side1 ?side2 ?side3 ?side4 A23.out).mono ?_); (case side1 => exact Kd.C_below HR0.out zb); (case side2 => exact HC0.out); (case side3 => exact Kd.C_below (Kd.R_reads' HO_10.out).2.2 zg); (case side4 => exact (Kd.R_reads' HO_10.out).2.1); rintro e w51 ⟨v119, rfl, ho0, hb⟩; refine ⟨_, rfl, ?_⟩; replace HO_9 := zM (Kd.S_below (Kd.S_below HO_9.out zg) hb); have HO120 := zM (Kd.S_lower (Kd.S_new' (Kd.S_newM (M := fun k_ => (w.heap.size ≤ k_)) ho0 (below_size zb) (fun k_ h_ => h_)) (Kd.R_lt (zr HO_10.out))) (below_size zb)); replace HO_10 := zM (Kd.R_below (zr HO_10.out) hb); replace HB := zM (below_step zb hb); (try clear hb); (try clear ho0); have p121 : 0 ≤ (t117 : Int) := zT zv; have q121 : t117 < (l0.length : Int) := zT zv; obtain ⟨ad121, A121_1, c121_1, A121_2, c121_2, e121, hx121_0, hx121_1, hx121_2, hl121_1, hi121_1, hl121_2, hi121_2⟩ := at_T73 HR0.out t117 p121 q121; cases e121; replace hx121_0 := (HB.out.cell (World.block_lt_of_cell? w _ hx121_0)).trans hx121_0; replace hx121_1 := (HB.out.cell (World.block_lt_of_cell? w _ hx121_1)).trans hx121_1; replace hx121_2 := (HB.out.cell (World.block_lt_of_cell? w _ hx121_2)).trans hx121_2; have HR121_1 := zM hi121_1; have HC121_1 := zM hl121_1; clear hi121_1 hl121_1; have HR121_2 := zM hi121_2; have HC121_2 := zM hl121_2; clear hi121_2 hl121_2; replace p121 := eq_true p121; replace q121 := eq_true q121) | ((with_reducible refine gate_callee (f := 56) rfl ?_); refine goesL_ (some 71) rfl rfl Try.func56 (by kernel_rfl) rfl #[.slice A121_2 ((rd_T73 l0 t117).f2).length c121_2] rfl zl ?_; (with_reducible refine (aumbryref05_Var.calls k2 _ _ ((rd_T73 l0 t117).f2) false _ ?side1 ?side2 A32.out).mono ?_); (case side1 => exact Kd.C_below HR121_2.out zb); (case side2 => exact HC121_2.out); rintro e w' ⟨rfl, ⟨nd, rfl⟩⟩; refine ⟨_, rfl, ?_⟩; obtain ⟨Ao52, co52, eo52⟩ := Kd.S_slice HO120.out; subst eo52) | ((with_reducible refine gate_callee (f := 58) rfl ?_); refine goesL_ (some 86) rfl rfl Try.func58 (by kernel_rfl) rfl #[.slice A121_2 ((rd_T73 l0 t117).f2).length c121_2, .slice Ao52 t118.length co52] rfl zl ?_; (with_reducible refine (aumbryref05_Put.calls k2 _ _ ((rd_T73 l0 t117).f2) _ _ t118 t129 _ ?side1 ?side2 ?side3 ?side4 A43.out).mono ?_); (case side1 => exact Kd.C_below (Kd.C_below HR121_2.out zb) zg); (case side2 => exact HC121_2.out); (case side3 => exact Kd.C_below (Kd.S_reads' HO120.out).2.2 zg); (case side4 => exact (Kd.S_reads' HO120.out).2.1); rintro e w53 ⟨v130, rfl, ho0, hb⟩; refine ⟨_, rfl, ?_⟩; replace HO_9 := zM (Kd.S_elder' (Kd.S_below HO_9.out zg) (Kd.R_base ho0) hb); replace HO120 := zM (Kd.S_elder' (Kd.S_below HO120.out zg) (Kd.R_base ho0) hb); have HO131 := zM (Kd.R_lower (Kd.R_new' (Kd.R_newM (M := fun k_ => (w.heap.size ≤ k_)) ho0 (below_size zb) (fun k_ h_ => h_)) (Kd.R_lt (zr HO_10.out))) (below_size zb)); replace HO_10 := zM (Kd.R_elder' (zr HO_10.out) (Kd.R_base ho0) hb); replace HB := zM (below_step zb hb); (try clear hb); (try clear ho0); obtain ⟨Ao54, co54, eo54⟩ := Kd.R_slice HO131.out; subst eo54))
              go_roundg k2
              case measure => have := HK1.out; have := HK2.out; omega
              case rel => exact ⟨(t129), (wrap64 (x2_2 - 1)), zy, H', ⟨by have := HK1.out; have := HK2.out; omega⟩, ⟨Kd.V_mono (Kd.R_V (by (with_reducible repeat (first | apply Kd.R_alloc | apply Kd.R_drewN | apply Kd.R_drew)); exact Kd.R_mono HO131.out (fun _ hk => hk.1.1))) (fun k_ hk => by first | exact ⟨(.inr (hk.1)), hk.2⟩ | exact (.inr (hk)))⟩, ⟨zb⟩⟩
           ·
            rw [if_neg c31] at H
            exact absurd H (by simp)
          ·
           rw [if_neg c30] at H
           exact absurd H (by simp)
   ·
    rw [if_neg c5] at H
    exact absurd H (by simp)

end Go.Proofs.Ytdlkhpfgkghhmaa.P
